/- The reference's Merge: of two sums, of one with itself. -/
import Derived.Test.YtneedadoafcfcaaRfD
import Derived.Deep.DeepCutAuto
namespace Go.Proofs.Ytneedadoafcfcaa
open Go Go.RowKit TF

attribute [local go_sem] cmp_eq cmp_ne cmp_lt cmp_gt cmp_le cmp_ge

theorem rmerge_nil (p : Option Addr) (w : World) :
    Calls Try.prog 23 #[.pointer none, .pointer p] w fun e w' => e = .returned (.int .i64 2) ∧ w = w' := by
  go_enter Try.func23, Try.ntmps23
  go_wp2_with fail
  go_ret
  exact ⟨rfl, rfl⟩
theorem rmerge_nil2 (c : Nat) (w : World) :
    Calls Try.prog 23 #[.pointer (some ⟨c, 0, none⟩), .pointer none] w fun e w' => e = .returned (.int .i64 2) ∧ w = w' := by
  go_enter Try.func23, Try.ntmps23
  go_wp2_with fail
  go_ret
  exact ⟨rfl, rfl⟩
theorem rmerge_full (b c : Nat) (g k : AccG) (w : World) (h : RefIs w b g) (ok : GOk g) (h' : RefIs w c k) (ok' : GOk k) (hc : 1048576 < g.cnt + k.cnt) :
    Calls Try.prog 23 #[.pointer (some ⟨b, 0, none⟩), .pointer (some ⟨c, 0, none⟩)] w fun e w' => e = .returned (.int .i64 3) ∧ ∃ n, w' = w.drewN n := by
  obtain ⟨l, hX, hL, h⟩ := h
  obtain ⟨l', hX', hL', h'⟩ := h'
  obtain ⟨c1, f1⟩ := h.cnt
  obtain ⟨c2, f2⟩ := h'.cnt
  have a0 := ok.c0
  have a9 := ok.c9
  have b0 := ok'.c0
  have b9 := ok'.c9
  obtain ⟨C, hC⟩ : ∃ C, C = g.cnt := ⟨_, rfl⟩
  obtain ⟨D, hD⟩ : ∃ C, C = k.cnt := ⟨_, rfl⟩
  dsimp only at c1 c2
  rw [← hC] at c1 a0 a9 hc
  rw [← hD] at c2 b0 b9 hc
  clear hX hX' hL hL' h h' ok ok' hC hD
  go_enter Try.func23, Try.ntmps23
  go_wp2_with fail
  go_region
  go_wp2_with fail
  go_ret
  exact ⟨rfl, 1, rfl⟩
/-- what is left to be read of the second sum. -/
structure Rest (w : World) (c : Nat) (t : RefS) : Prop where
  word : ∀ i, i < 136 → CellIs w c i (.int .i64 (t.l i))
  pl : CellIs w c 137 (.bool t.pl)
  mi : CellIs w c 138 (.bool t.mi)
  no : CellIs w c 139 (.bool t.no)
  ot : CellIs w c 140 (.bool t.ot)
structure Rest2 (w : World) (c : Nat) (t : RefS) : Prop where
  word : ∀ i, i < 136 → CellIs w c i (.int .i64 (t.l i))
  mi : CellIs w c 138 (.bool t.mi)
  no : CellIs w c 139 (.bool t.no)
  ot : CellIs w c 140 (.bool t.ot)
structure Rest3 (w : World) (c : Nat) (t : RefS) : Prop where
  word : ∀ i, i < 136 → CellIs w c i (.int .i64 (t.l i))
  no : CellIs w c 139 (.bool t.no)
  ot : CellIs w c 140 (.bool t.ot)
structure Rest4 (w : World) (c : Nat) (t : RefS) : Prop where
  word : ∀ i, i < 136 → CellIs w c i (.int .i64 (t.l i))
  ot : CellIs w c 140 (.bool t.ot)
def RMrgRel (w : World) (b c : Nat) (T : RefS) (l l' : Nat → Int) (i : Value) (wr : World) : Prop :=
  ∃ n : Nat, n ≤ 136 ∧ i = .int .i64 n ∧ RefAt wr b { T with l := partW l (fun i => l i + l' i) n } ∧ (∀ i, n ≤ i → i < 136 → CellIs wr c i (.int .i64 (l' i))) ∧ Chg b w wr
theorem cell_drew {w : World} {b i : Nat} {v : Value} (h : CellIs w b i v) : CellIs w.drew b i v := h
theorem ref_next {w : World} {b : Nat} {T : RefS} {l l' : Nat → Int} {n : Nat} (h : RefAt w b { T with l := partW l (fun i => l i + l' i) n }) (hn : n < 136) : RefAt (w.setCell ⟨b, n, none⟩ (.int .i64 (l n + l' n))) b { T with l := partW l (fun i => l i + l' i) (n + 1) } :=
  (h.setLimb n hn (l n + l' n)).ext (fun i _ => by
    show upw (partW l (fun i => l i + l' i) n) n (l n + l' n) i = partW l (fun i => l i + l' i) (n + 1) i
    by_cases e : i = n
    · subst e; rw [upw_at]; unfold partW; rw [if_pos (by omega)]
    · rw [upw_off _ _ e]; unfold partW
      by_cases h1 : i < n
      · rw [if_pos h1, if_pos (by omega)]
      · rw [if_neg h1, if_neg (by omega)]) rfl rfl rfl rfl rfl
theorem ot_or {n m c d : Int} (h1 : n ≤ c) (h2 : m ≤ d) : decide (n + m ≠ c + d) = (decide (n ≠ c) || decide (m ≠ d)) := by
  by_cases e1 : n = c
  · by_cases e2 : m = d
    · rw [e1, e2]; simp
    · rw [decide_eq_true (show n + m ≠ c + d by omega), decide_eq_true e2]; simp
  · rw [decide_eq_true (show n + m ≠ c + d by omega), decide_eq_true e1]; simp

set_option maxHeartbeats 4000000 in
set_option maxRecDepth 100000 in
theorem rmerge_some (b c : Nat) (g k : AccG) (w : World) (h : RefIs w b g) (ok : GOk g) (h' : RefIs w c k) (ok' : GOk k) (hcc : g.cnt + k.cnt ≤ 1048576) :
    Calls Try.prog 23 #[.pointer (some ⟨b, 0, none⟩), .pointer (some ⟨c, 0, none⟩)] w (RAddP w b (mergeG g k) 0) := by
  obtain ⟨l, hX, hL, h⟩ := h
  obtain ⟨l', hX', hL', h'⟩ := h'
  obtain ⟨c1, f1⟩ := h.cnt
  obtain ⟨c2, -⟩ := h'.cnt
  have a0 := ok.c0
  have b0 := ok'.c0
  have hbl := h.lt
  have hcl := h'.lt
  obtain ⟨S, hS⟩ : ∃ S : RefS, S = ⟨l, g.cnt, g.up, g.dn, g.nn, decide (g.nz ≠ g.cnt)⟩ := ⟨_, rfl⟩
  obtain ⟨T, hT⟩ : ∃ S : RefS, S = ⟨l', k.cnt, k.up, k.dn, k.nn, decide (k.nz ≠ k.cnt)⟩ := ⟨_, rfl⟩
  have FIN : Hid (∀ w', RefAt w' b ⟨fun i => S.l i + T.l i, S.cnt + T.cnt, S.pl || T.pl, S.mi || T.mi, S.no || T.no, S.ot || T.ot⟩ → RefIs w' b (mergeG g k)) := Lib.hid fun w' hw => by
    rw [hS, hT] at hw
    refine ⟨fun i => l i + l' i, ?_, ?_, ?_⟩
    · rw [SR_add, hX, hX']; rfl
    · intro i hi
      have n1 := hL i hi
      have n2 := hL' i hi
      show -((g.cnt + k.cnt) * 34359738368) ≤ l i + l' i ∧ l i + l' i ≤ (g.cnt + k.cnt) * 34359738368
      omega
    · have e := ot_or ok.z9 ok'.z9
      refine hw.ext (fun _ _ => rfl) rfl rfl rfl rfl ?_
      exact e.symm
  have LIM : Hid (∀ i, i < 136 → (-36028797018963968 ≤ S.l i ∧ S.l i ≤ 36028797018963968) ∧ (-36028797018963968 ≤ T.l i ∧ T.l i ≤ 36028797018963968)) := Lib.hid fun i hi => by rw [hS, hT]; exact ⟨hL.small ok.c9 hi, hL'.small ok'.c9 hi⟩
  rw [← hS] at h
  rw [← hT] at h'
  obtain ⟨C, hC⟩ : ∃ C, C = S.cnt := ⟨_, rfl⟩
  obtain ⟨D, hD⟩ : ∃ C, C = T.cnt := ⟨_, rfl⟩
  have C1 : S.cnt = g.cnt := by rw [hS]
  have D1 : T.cnt = k.cnt := by rw [hT]
  dsimp only at c1 c2
  rw [← C1, ← hC] at c1 a0 hcc
  rw [← D1, ← hD] at c2 b0 hcc
  obtain ⟨w5, hw5⟩ : ∃ w5, w5 = (w.setCell ⟨b, 136, none⟩ (.int .i64 (C + D))).drew.drew := ⟨_, rfl⟩
  have E5 : Hid (RefAt w5 b { S with cnt := S.cnt + T.cnt } ∧ Rest w5 c T ∧ Chg b w w5) := Lib.hid (by
    rw [hw5, hC, hD]
    refine ⟨(h.setCnt (S.cnt + T.cnt)).drew.drew, ⟨fun i hi => ?_, ?_, ?_, ?_, ?_⟩, ((Chg.refl b w).set 136 _).drew.drew⟩
    · exact cell_drew (cell_drew (CellIs.other (h'.word i hi) (fun _ => by omega)))
    · exact cell_drew (cell_drew (CellIs.other h'.pl (fun _ => by omega)))
    · exact cell_drew (cell_drew (CellIs.other h'.mi (fun _ => by omega)))
    · exact cell_drew (cell_drew (CellIs.other h'.no (fun _ => by omega)))
    · exact cell_drew (cell_drew (CellIs.other h'.ot (fun _ => by omega))))
  clear hX hX' hL hL' ok ok' C1 D1 hC hD hS hT h h'
  go_enter Try.func23, Try.ntmps23
  go_wp2_with fail
  go_region
  go_wp2_with fail
  go_region
  rw [← hw5]
  clear hw5 c1 c2 f1 hcc
  obtain ⟨x1, x2⟩ := E5.out.1.pl
  obtain ⟨y1, y2⟩ := E5.out.2.1.pl
  have HS : Hid (∀ v : Bool, v = (S.pl || T.pl) → (fun wc => RefAt wc b { S with cnt := S.cnt + T.cnt, pl := S.pl || T.pl } ∧ Rest2 wc c T ∧ Chg b w wc) (w5.setCell ⟨b, 137, none⟩ (.bool v))) := Lib.hid fun v hv => by
    subst hv
    have E := E5.out.2.1
    exact ⟨E5.out.1.setPl _, ⟨fun i hi => CellIs.other (E.word i hi) (fun _ => by omega), CellIs.other E.mi (fun _ => by omega), CellIs.other E.no (fun _ => by omega), CellIs.other E.ot (fun _ => by omega)⟩, E5.out.2.2.set 137 _⟩
  obtain ⟨p, hp⟩ : ∃ p, p = S.pl := ⟨_, rfl⟩
  obtain ⟨q, hq⟩ : ∃ p, p = T.pl := ⟨_, rfl⟩
  dsimp only at x1 y1
  rw [← hp] at x1
  rw [← hq] at y1
  have HPQ := Lib.hid (⟨hp, hq⟩ : _ ∧ _)
  have bl := E5.out.1.lt
  clear hp hq
  go_upto_region 6 with fail
  go_cut [44] (fun _ wc => RefAt wc b { S with cnt := S.cnt + T.cnt, pl := S.pl || T.pl } ∧ Rest2 wc c T ∧ Chg b w wc)
  case first =>
    cases p
    all_goals
      go_wp2_with fail
      go_meet
      exact HS.out _ (by rw [← HPQ.out.1, ← HPQ.out.2]; rfl)
  case rest =>
    have E6 : Hid (RefAt wc b { S with cnt := S.cnt + T.cnt, pl := S.pl || T.pl } ∧ Rest2 wc c T ∧ Chg b w wc) := Lib.hid hcut
    clear hcut x1 x2 y1 y2 HPQ HS bl
    obtain ⟨x1, x2⟩ := E6.out.1.mi
    obtain ⟨y1, y2⟩ := E6.out.2.1.mi
    have HS : Hid (∀ v : Bool, v = (S.mi || T.mi) → (fun wc => RefAt wc b { S with cnt := S.cnt + T.cnt, pl := S.pl || T.pl, mi := S.mi || T.mi } ∧ Rest3 wc c T ∧ Chg b w wc) (wc.setCell ⟨b, 138, none⟩ (.bool v))) := Lib.hid fun v hv => by
      subst hv
      have E := E6.out.2.1
      exact ⟨E6.out.1.setMi _, ⟨fun i hi => CellIs.other (E.word i hi) (fun _ => by omega), CellIs.other E.no (fun _ => by omega), CellIs.other E.ot (fun _ => by omega)⟩, E6.out.2.2.set 138 _⟩
    obtain ⟨p, hp⟩ : ∃ p, p = S.mi := ⟨_, rfl⟩
    obtain ⟨q, hq⟩ : ∃ p, p = T.mi := ⟨_, rfl⟩
    dsimp only at x1 y1
    rw [← hp] at x1
    rw [← hq] at y1
    have HPQ := Lib.hid (⟨hp, hq⟩ : _ ∧ _)
    have bl := E6.out.1.lt
    clear hp hq
    go_upto_region 7 with fail
    go_cut [57] (fun _ wc => RefAt wc b { S with cnt := S.cnt + T.cnt, pl := S.pl || T.pl, mi := S.mi || T.mi } ∧ Rest3 wc c T ∧ Chg b w wc)
    case first =>
      cases p
      all_goals
        go_wp2_with fail
        go_meet
        exact HS.out _ (by rw [← HPQ.out.1, ← HPQ.out.2]; rfl)
    case rest =>
      have E7 : Hid (RefAt wc b { S with cnt := S.cnt + T.cnt, pl := S.pl || T.pl, mi := S.mi || T.mi } ∧ Rest3 wc c T ∧ Chg b w wc) := Lib.hid hcut
      clear hcut x1 x2 y1 y2 HPQ HS bl
      obtain ⟨x1, x2⟩ := E7.out.1.no
      obtain ⟨y1, y2⟩ := E7.out.2.1.no
      have HS : Hid (∀ v : Bool, v = (S.no || T.no) → (fun wc => RefAt wc b { S with cnt := S.cnt + T.cnt, pl := S.pl || T.pl, mi := S.mi || T.mi, no := S.no || T.no } ∧ Rest4 wc c T ∧ Chg b w wc) (wc.setCell ⟨b, 139, none⟩ (.bool v))) := Lib.hid fun v hv => by
        subst hv
        have E := E7.out.2.1
        exact ⟨E7.out.1.setNo _, ⟨fun i hi => CellIs.other (E.word i hi) (fun _ => by omega), CellIs.other E.ot (fun _ => by omega)⟩, E7.out.2.2.set 139 _⟩
      obtain ⟨p, hp⟩ : ∃ p, p = S.no := ⟨_, rfl⟩
      obtain ⟨q, hq⟩ : ∃ p, p = T.no := ⟨_, rfl⟩
      dsimp only at x1 y1
      rw [← hp] at x1
      rw [← hq] at y1
      have HPQ := Lib.hid (⟨hp, hq⟩ : _ ∧ _)
      have bl := E7.out.1.lt
      clear hp hq
      go_upto_region 8 with fail
      go_cut [70] (fun _ wc => RefAt wc b { S with cnt := S.cnt + T.cnt, pl := S.pl || T.pl, mi := S.mi || T.mi, no := S.no || T.no } ∧ Rest4 wc c T ∧ Chg b w wc)
      case first =>
        cases p
        all_goals
          go_wp2_with fail
          go_meet
          exact HS.out _ (by rw [← HPQ.out.1, ← HPQ.out.2]; rfl)
      case rest =>
        have E8 : Hid (RefAt wc b { S with cnt := S.cnt + T.cnt, pl := S.pl || T.pl, mi := S.mi || T.mi, no := S.no || T.no } ∧ Rest4 wc c T ∧ Chg b w wc) := Lib.hid hcut
        clear hcut x1 x2 y1 y2 HPQ HS bl
        obtain ⟨x1, x2⟩ := E8.out.1.ot
        obtain ⟨y1, y2⟩ := E8.out.2.1.ot
        have HS : Hid (∀ v : Bool, v = (S.ot || T.ot) → (fun wc => RefAt wc b { S with cnt := S.cnt + T.cnt, pl := S.pl || T.pl, mi := S.mi || T.mi, no := S.no || T.no, ot := S.ot || T.ot } ∧ (∀ i, i < 136 → CellIs wc c i (.int .i64 (T.l i))) ∧ Chg b w wc) (wc.setCell ⟨b, 140, none⟩ (.bool v))) := Lib.hid fun v hv => by
          subst hv
          have E := E8.out.2.1
          exact ⟨E8.out.1.setOt _, fun i hi => CellIs.other (E.word i hi) (fun _ => by omega), E8.out.2.2.set 140 _⟩
        obtain ⟨p, hp⟩ : ∃ p, p = S.ot := ⟨_, rfl⟩
        obtain ⟨q, hq⟩ : ∃ p, p = T.ot := ⟨_, rfl⟩
        dsimp only at x1 y1
        rw [← hp] at x1
        rw [← hq] at y1
        have HPQ := Lib.hid (⟨hp, hq⟩ : _ ∧ _)
        have bl := E8.out.1.lt
        clear hp hq
        go_upto_region 9 with fail
        go_cut [83] (fun _ wc => RefAt wc b { S with cnt := S.cnt + T.cnt, pl := S.pl || T.pl, mi := S.mi || T.mi, no := S.no || T.no, ot := S.ot || T.ot } ∧ (∀ i, i < 136 → CellIs wc c i (.int .i64 (T.l i))) ∧ Chg b w wc)
        case first =>
          cases p
          all_goals
            go_wp2_with fail
            go_meet
            exact HS.out _ (by rw [← HPQ.out.1, ← HPQ.out.2]; rfl)
        case rest =>
          have E9 : Hid (RefAt wc b { S with cnt := S.cnt + T.cnt, pl := S.pl || T.pl, mi := S.mi || T.mi, no := S.no || T.no, ot := S.ot || T.ot } ∧ (∀ i, i < 136 → CellIs wc c i (.int .i64 (T.l i))) ∧ Chg b w wc) := Lib.hid hcut
          clear hcut x1 x2 y1 y2 HPQ HS bl
          obtain ⟨w9, hw9⟩ : ∃ w9, w9 = wc := ⟨_, rfl⟩
          rw [← hw9] at E9 ⊢
          clear hw9
          go_wp2_with fail
          go_loopw [5] (fun i wr => RMrgRel w b c { S with cnt := S.cnt + T.cnt, pl := S.pl || T.pl, mi := S.mi || T.mi, no := S.no || T.no, ot := S.ot || T.ot } S.l T.l i wr) (fun i _ => 136 - (intOf i).toNat)
          case atStart => exact ⟨0, by omega, rfl, E9.out.1.ext (fun i _ => by show S.l i = partW S.l (fun i => S.l i + T.l i) 0 i; unfold partW; rw [if_neg (by omega)]) rfl rfl rfl rfl rfl, fun i _ hi => E9.out.2.1 i hi, E9.out.2.2⟩
          case round =>
            obtain ⟨n, hn, rfl, hacc, hrest, hchg⟩ := hrel
            by_cases hlt : n < 136
            · have hl2 : (n : Int) < 136 := by omega
              obtain ⟨x1, x2⟩ := hacc.word n hlt
              obtain ⟨y1, -⟩ := hrest n (Nat.le_refl _) hlt
              have hpart : partW S.l (fun i => S.l i + T.l i) n n = S.l n := by unfold partW; rw [if_neg (by omega)]
              dsimp only at x1
              rw [hpart] at x1
              obtain ⟨⟨q1, q2⟩, q3, q4⟩ := LIM.out n hlt
              have hnext := ref_next hacc hlt
              have bl := hacc.lt
              have bl2 : c < wr.heap.size := (hrest n (Nat.le_refl _) hlt).lt
              obtain ⟨U, hU⟩ : ∃ U, U = S.l n := ⟨_, rfl⟩
              obtain ⟨V, hV⟩ : ∃ U, U = T.l n := ⟨_, rfl⟩
              have KEEP := Lib.hid (⟨hnext, hrest, hchg, hU, hV⟩ : _ ∧ _ ∧ _ ∧ _ ∧ _)
              rw [← hU] at x1 q1 q2
              rw [← hV] at y1 q3 q4
              clear hacc hrest hchg hnext hU hV hpart
              go_wp2_with fail
              go_region
              go_wp2_with fail
              go_roundw
              case rel =>
                obtain ⟨r1, r2, r3, r4, r5⟩ := KEEP.out
                rw [← r4, ← r5] at r1
                exact ⟨n + 1, by omega, by go_num, r1.drew, fun i h1 h2 => cell_drew (CellIs.other (r2 i (by omega) h2) (fun _ => by omega)), (r3.set n _).drew⟩
              case measure => simp [intOf]; omega
            · have hn70 : n = 136 := by omega
              subst hn70
              have KEEP := Lib.hid (⟨FIN.out _ (hacc.ext (fun i hi => by show partW S.l (fun i => S.l i + T.l i) 136 i = S.l i + T.l i; unfold partW; rw [if_pos hi]) rfl rfl rfl rfl rfl), hchg⟩ : _ ∧ _)
              clear hacc hrest hchg hn hlt
              go_wp2_with fail
              go_ret
              exact ⟨rfl, KEEP.out.1, KEEP.out.2⟩
end Go.Proofs.Ytneedadoafcfcaa
