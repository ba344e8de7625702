/- Merge of a sum with itself. -/
import Derived.Test.YtneedadoafcfcaaAccG2
namespace Go.Proofs.Ytneedadoafcfcaa
open Go Go.RowKit TF

attribute [local go_sem] cmp_eq cmp_ne cmp_lt cmp_gt cmp_le cmp_ge

set_option maxHeartbeats 4000000 in
theorem merge_self (b : Nat) (g : AccG) (w : World) (h : AccIs w b g) (ok : GOk g) (hc : g.cnt + g.cnt ≤ 1048576) :
    Calls Try.prog 22 #[.pointer (some ⟨b, 0, none⟩), .pointer (some ⟨b, 0, none⟩)] w (AddP w b (mergeG g g) 0) := by
  obtain ⟨d, hX, h⟩ := h
  obtain ⟨cc, cf⟩ := h.cnt
  have hbl := h.lt
  have c0 := ok.c0
  have c9 := ok.c9
  have z0 := ok.z0
  have z9 := ok.z9
  have KR := Lib.hid fun w' (hw : AccAt w' b ⟨d, g.cnt, g.nz, g.up, g.dn, g.nn⟩) => (room_any b _ w' hw g.cnt 0 ok.c0 ok.c9 (by omega) (by omega) (by rw [if_neg (by dsimp only; omega)]))
  have HX := Lib.hid (⟨hX, hX⟩ : _ ∧ _)
  have HW := Lib.hid (⟨hX.ok, hX.ok⟩ : _ ∧ _)
  have H := Lib.hid h
  have START : Hid (AccAt w b { ({ d := d, cnt := g.cnt, nz := g.nz, up := g.up, dn := g.dn, nn := g.nn } : AccS) with d := partW d (ad d d) 0 }) := Lib.hid (h.ext (fun i _ => by show d i = partW d (ad d d) 0 i; unfold partW; rw [if_neg (by omega)]) rfl rfl rfl rfl rfl)
  clear hX h ok
  go_enter Try.func22, Try.ntmps22
  go_wp2_with (go_at_call 27; ((with_reducible refine (KR.out _ H.out).mono ?_)); rintro e w' ⟨rfl, rfl⟩)
  go_loopw [6, 21] (fun x i wr => MergeRel w b ⟨d, g.cnt, g.nz, g.up, g.dn, g.nn⟩ d x i wr) (fun _ i _ => 70 - (intOf i).toNat)
  case atStart => exact ⟨0, by omega, rfl, rfl, START.out, Chg.refl b w⟩
  case round =>
    obtain ⟨n, hn, rfl, rfl, hacc, hchg⟩ := hrel
    by_cases hlt : n < 70
    · have hl : (n : Int) < 70 := by omega
      obtain ⟨cw, fw⟩ := hacc.word n hlt
      have hpart : partW d (ad d d) n n = d n := by unfold partW; rw [if_neg (by omega)]
      have cw2 : wr.cell? ⟨b, n, none⟩ = some (.int .u64 (d n)) := by rw [← hpart]; exact cw
      clear cw hpart
      have hdk := HW.out.1 n
      have hok := HW.out.2 n
      have hnext := hacc.next hlt
      have hcb := ca_bit HW.out.1 HW.out.2 n
      have hcn : ca d d (n + 1) = (d n + d n + ca d d n) / 18446744073709551616 := rfl
      have hadk : ad d d n = (d n + d n + ca d d n) % 18446744073709551616 := rfl
      obtain ⟨D, hD⟩ : ∃ D, D = ad d d n := ⟨_, rfl⟩
      obtain ⟨C', hC'⟩ : ∃ D, D = ca d d (n + 1) := ⟨_, rfl⟩
      obtain ⟨U, hU⟩ : ∃ U, U = d n := ⟨_, rfl⟩
      dsimp only at hnext
      rw [← hD] at hnext hadk
      rw [← hU] at cw2 hcn hadk hdk hok
      rw [← hC'] at hcn
      dsimp only
      generalize hC : ca d d n = C at *
      have kr := fun w => run_add64 U U C hdk.1 hok.1 hcb w
      rw [← hadk, ← hcn] at kr
      have KEEP := Lib.hid (⟨hnext, hchg, hC'⟩ : _ ∧ _ ∧ _)
      clear hnext hchg hC' hD hU hC hcn hadk hok hdk hacc hcb
      go_wp2_with fail
      go_region
      go_wp2_with fail
      go_roundw
      case rel =>
        obtain ⟨q1, q2, q3⟩ := KEEP.out
        exact ⟨n + 1, by omega, by rw [q3], by go_num, q1.drew, (q2.set n _).drew⟩
      case measure => simp [intOf]; omega
    · have hn70 : n = 70 := by omega
      subst hn70
      have hacc2 : AccAt wr b ⟨ad d d, g.cnt, g.nz, g.up, g.dn, g.nn⟩ := hacc.ext (fun i hi => by show partW d (ad d d) 70 i = _; unfold partW; rw [if_pos hi]) rfl rfl rfl rfl rfl
      obtain ⟨x1, y1⟩ := hacc2.cnt
      obtain ⟨x2, y2⟩ := hacc2.nz
      obtain ⟨x3, y3⟩ := hacc2.up
      obtain ⟨x4, y4⟩ := hacc2.dn
      obtain ⟨x5, y5⟩ := hacc2.nn
      have KEEP := Lib.hid (⟨hacc2, hchg⟩ : _ ∧ _)
      have hbl2 := hacc2.lt
      dsimp only at x1 x2 x3 x4 x5
      clear hacc hacc2 hchg hn hlt
      cases hu : g.up <;> cases hd : g.dn <;> cases hnn : g.nn
      all_goals
        rw [hu] at x3
        rw [hd] at x4
        rw [hnn] at x5
        have HB := Lib.hid (⟨hu, hd, hnn⟩ : _ ∧ _ ∧ _)
        clear hu hd hnn
        go_wp2_with fail
        go_region
        go_wp2_with fail
        go_region
        go_wp2_with fail
        go_ret
        obtain ⟨q1, q2⟩ := KEEP.out
        obtain ⟨u1, u2, u3⟩ := HB.out
        exact ⟨rfl, ⟨_, HX.out.1.plus HX.out.2, ((((((q1.setCnt _).setNz _).setUp _).setDn _).setNn _).drew.drew).ext (fun _ _ => rfl) rfl rfl (by show _ = (g.up || g.up); rw [u1]; first | rfl | simp) (by show _ = (g.dn || g.dn); rw [u2]; first | rfl | simp) (by show _ = (g.nn || g.nn); rw [u3]; first | rfl | simp)⟩,
          (((((q2.set 70 _).set 71 _).set 72 _).set 73 _).set 74 _).drew.drew⟩
end Go.Proofs.Ytneedadoafcfcaa
