/- The statement RainRows: a row of rains in two parts. -/
import Derived.Test.YtbjkofjkpfgimaaRainK
import Derived.Deep.RegionHeld3
namespace Go.Proofs.Ytbjkofjkpfgimaa
open Go Go.RowKit TF

set_option maxRecDepth 100000 in
set_option maxHeartbeats 4000000 in
theorem rainRows_walk (A : Option Addr) (n cap : Nat) (Z : Nat → Int) (s : Int) (R : Option Addr) (m cap2 : Nat) (C Am F T : Nat → Int) (st : Int) (cut : Int) (w : World) (hW : WeatherAt w A n cap Z s R m cap2 C Am F T st) :
    Calls Try.prog 6 #[.agg #[.slice A n cap, .int .i64 s, .slice R m cap2, .int .i64 st], .int .i64 cut] w fun e w' => e = .returned (.bool true) ∧ Below w.heap.size w w' := by
  have KB := Lib.hid (box_cells A n cap s R m cap2 st 25 w)
  have hn9 := hW.n8
  have hm9 := hW.m9
  have hmc := hW.mcap
  have hc29 := hW.c29
  have H8 := Lib.hid (fun (x : World) (h : Below (w.alloc (.cells #[.slice A n cap, .int .i64 s, .slice R m cap2, .int .i64 st] 25)).heap.size (w.alloc (.cells #[.slice A n cap, .int .i64 s, .slice R m cap2, .int .i64 st] 25)) x) => hW.hz.below (past1 h))
  have H9 := Lib.hid (fun (x : World) (h : Below (w.alloc (.cells #[.slice A n cap, .int .i64 s, .slice R m cap2, .int .i64 st] 25)).heap.size (w.alloc (.cells #[.slice A n cap, .int .i64 s, .slice R m cap2, .int .i64 st] 25)) x) => hW.hr.below (past1 h))
  cases hq : refuseB n Z s m C Am F T st with
  | true =>
    have FBAD := Lib.hid (fun (x : World) h => fall_bad A n cap Z s R m cap2 C Am F T st x hW.n8 hW.m9 (H8.out x h) (H9.out x h) hq)
    clear hq hW
    go_enter Try.func6, Try.ntmps6
    go_wp2_with (first | (go_at_call 9; ((with_reducible refine (awake_any _).mono ?_)); rintro e wa ⟨rfl, hBa⟩; obtain ⟨a0, a1, a2, a3⟩ := KB.out _ hBa) | (go_at_call 12; ((with_reducible refine (FBAD.out wa hBa).mono ?_)); rintro e wb ⟨rfl, hBb⟩; have hBab := join hBa hBb; obtain ⟨b0, b1, b2, b3⟩ := KB.out _ hBab))
    go_ret
    exact ⟨rfl, past1 hBab⟩
  | false =>
    have FOK := Lib.hid (fun (x : World) h => fall_ok A n cap Z s R m cap2 C Am F T st x hW.n8 (fun h => (hW.hnil h).1) (H8.out x h) (H9.out x h) hq)
    obtain ⟨t1, ⟨t2, t3⟩, t4, t5, t6⟩ := taken hq
    rcases (show cut < 0 ∨ (0 ≤ cut ∧ (m : Int) < cut) ∨ (0 ≤ cut ∧ cut ≤ (m : Int)) by omega) with h1 | ⟨h1, h2⟩ | ⟨h1, h2⟩
    · clear hq hW t5 t6
      go_enter Try.func6, Try.ntmps6
      go_wp2_with (first | (go_at_call 9; ((with_reducible refine (awake_any _).mono ?_)); rintro e wa ⟨rfl, hBa⟩; obtain ⟨a0, a1, a2, a3⟩ := KB.out _ hBa) | (go_at_call 12; ((with_reducible refine (FOK.out wa hBa).mono ?_)); rintro e wb ⟨L, capL, rfl, hcL, hO, hBb⟩; have hBab := join hBa hBb; obtain ⟨b0, b1, b2, b3⟩ := KB.out _ hBab))
      go_ret
      exact ⟨rfl, past1 hBab⟩
    · clear hq hW t5 t6
      go_enter Try.func6, Try.ntmps6
      go_wp2_with (first | (go_at_call 9; ((with_reducible refine (awake_any _).mono ?_)); rintro e wa ⟨rfl, hBa⟩; obtain ⟨a0, a1, a2, a3⟩ := KB.out _ hBa) | (go_at_call 12; ((with_reducible refine (FOK.out wa hBa).mono ?_)); rintro e wb ⟨L, capL, rfl, hcL, hO, hBb⟩; have hBab := join hBa hBb; obtain ⟨b0, b1, b2, b3⟩ := KB.out _ hBab))
      go_ret
      exact ⟨rfl, past1 hBab⟩
    · obtain ⟨k, rfl⟩ : ∃ k : Nat, cut = k := ⟨cut.toNat, by omega⟩
      have hk : k ≤ m := by omega
      have hq1 : refuseB n Z s k C Am F T st = false := taken_mk t1 ⟨t2, t3⟩ (by omega) t5 (fun i hi => t6 i (by omega))
      have hbk := rs_bnd (st := st) t6 t5 t2 t3 k hk
      have hkc1 : (0 : Int) ≤ (k : Int) := by omega
      have hkc2 : (k : Int) ≤ (cap2 : Int) := by omega
      have FP1 := Lib.hid (fun (R' : Option Addr) (c' : Nat) (x : World) (hR : R' = R) (w1 : World) (h1 : Below w1.heap.size w1 x) h => (fall_ok A n cap Z s R' k c' C Am F T st x hW.n8 (fun h => (hW.hnil h).1) (H8.out x h) (fun i hi => by rw [hR]; exact H9.out x h i (by omega)) hq1).mono (fun _ _ q => q.q h1))
      have hrest := rs_rest st C Am F T Z s hk
      have FP2 := Lib.hid (fun (A' : Option Addr) (c' : Nat) (R' : Option Addr) (c2' : Nat) (x : World) (hA : IntsAt x A' n (rsZ st C Am F T Z s k)) (hnil : A' = none → n = 0) (hR : RainsAt x R' (m - k) (fun i => C (k + i)) (fun i => Am (k + i)) (fun i => F (k + i)) (fun i => T (k + i))) (w1 : World) (h1 : Below w1.heap.size w1 x) (hle : (∀ i, i < n → rsZ st C Am F T Z s k i ≤ 4503599627370496) ∧ rsS st C Am F T Z s k ≤ 4503599627370496)
          (h : Below (w.alloc (.cells #[.slice A n cap, .int .i64 s, .slice R m cap2, .int .i64 st] 25)).heap.size (w.alloc (.cells #[.slice A n cap, .int .i64 s, .slice R m cap2, .int .i64 st] 25)) x) =>
        (fall_ok A' n c' (rsZ st C Am F T Z s k) (rsS st C Am F T Z s k) R' (m - k) c2' _ _ _ _ st x hW.n8 hnil hA hR (taken_mk t1 ⟨(hbk.2.1), hle.2⟩ (by omega) (fun i hi => ⟨(hbk.1 i hi).1, hle.1 i hi⟩) (fun i hi => t6 (k + i) (by omega)))).mono (fun _ _ q => by rw [hrest.1, hrest.2] at q; exact q.q h1))
      clear hW hq hq1 t5 t6 hrest
      go_enter Try.func6, Try.ntmps6
      go_wp2_with (first | (go_at_call 9; ((with_reducible refine (awake_any _).mono ?_)); rintro e wa ⟨rfl, hBa⟩; obtain ⟨a0, a1, a2, a3⟩ := KB.out _ hBa) | (go_at_call 12; ((with_reducible refine (FOK.out wa hBa).mono ?_)); rintro e wb ⟨L, capL, rfl, hcL, hO, hBb⟩; have hBab := join hBa hBb; obtain ⟨b0, b1, b2, b3⟩ := KB.out _ hBab))
      have KS : Hid (∀ x : World, Below wb.heap.size wb x → x.cell? ⟨w.heap.size, 0, none⟩ = some (.slice A n cap) ∧ x.cell? ⟨w.heap.size, 1, none⟩ = some (.int .i64 s) ∧ x.cell? ⟨w.heap.size, 2, none⟩ = some (.slice R m cap2) ∧ x.cell? ⟨w.heap.size, 3, none⟩ = some (.int .i64 st) ∧ Below wb.heap.size wb x) := Lib.hid (fun x h => ⟨(KB.out x (join hBab h)).1, (KB.out x (join hBab h)).2.1, (KB.out x (join hBab h)).2.2.1, (KB.out x (join hBab h)).2.2.2, h⟩)
      have hBbb : Below wb.heap.size wb wb := Below.refl _ _
      go_region_held3 (fun x => x.cell? ⟨w.heap.size, 0, none⟩ = some (.slice A n cap) ∧ x.cell? ⟨w.heap.size, 1, none⟩ = some (.int .i64 s) ∧ x.cell? ⟨w.heap.size, 2, none⟩ = some (.slice R m cap2) ∧ x.cell? ⟨w.heap.size, 3, none⟩ = some (.int .i64 st) ∧ Below wb.heap.size wb x)
        (first | exact KS.out _ (by assumption) | exact KS.out _ (Below.drew (by assumption)))
        (first | (go_at_call 12; ((with_reducible refine (FP1.out R cap2 _ rfl wb (by first | with_reducible assumption | with_reducible exact Below.drew (by with_reducible assumption)) (join hBab (by first | with_reducible assumption | with_reducible exact Below.drew (by with_reducible assumption)))).mono ?_)); rintro e wc ⟨L1, capL1, rfl, hcL1, hO1, hBc⟩))
      have hBac := join hBab hBc
      go_wp2
      obtain ⟨S, hS⟩ : ∃ S, S = rsS st C Am F T Z s k := ⟨_, rfl⟩
      obtain ⟨Y, hY⟩ : ∃ Y, Y = rsZ st C Am F T Z s k := ⟨_, rfl⟩
      rw [← hS, ← hY] at FP2 hbk
      rw [← hY] at hO1
      rw [← hS]
      obtain ⟨hb1, hb2, hb3⟩ := hbk
      have hnil1 : L1 = none → n = 0 := fun h => by
        rcases Nat.eq_zero_or_pos n with h0 | h0
        · exact h0
        · obtain ⟨b, off, e, -⟩ := hO1 0 h0
          rw [h] at e; cases e
      have HB1 := Lib.hid hb1
      clear hb1 hS hY KS
      go_loopw [10] (fun i wr => ∃ j : Nat, j ≤ n ∧ i = .int .i64 j ∧ Below wc.heap.size wc wr ∧ Hid (∀ i, i < j → Y i ≤ 4503599627370496)) (fun i _ => n - (intOf i).toNat)
      case atStart => exact ⟨0, Nat.zero_le _, rfl, Below.refl _ _, fun i hi => absurd hi (Nat.not_lt_zero _)⟩
      case round =>
        obtain ⟨j, hj, rfl, hB, HJ⟩ := hrel
        by_cases hlt : j < n
        · have hl : (j : Int) < (n : Int) := by omega
          obtain ⟨bl, ol, rfl, hbl, hcl⟩ := (hO1.ints.below hB) j hlt
          have hj1 := HB1.out j hlt
          by_cases hgr : 4503599627370496 < Y j
          · go_wp2
            go_ret
            exact ⟨rfl, past1 (join hBac hB)⟩
          · go_wp2
            go_roundw
            case rel => exact ⟨j + 1, by omega, by go_num, hB, fun i hi => by
              by_cases e : i = j
              · subst e; omega
              · exact HJ.out i (by omega)⟩
            case measure => simp [intOf]; omega
        · have hjn : j = n := by omega
          subst hjn
          by_cases hgr : 4503599627370496 < S
          · go_wp2
            go_ret
            exact ⟨rfl, past1 (join hBac hB)⟩
          · have hle : (∀ i, i < j → Y i ≤ 4503599627370496) ∧ S ≤ 4503599627370496 := ⟨HJ.out, by omega⟩
            have KS2 : Hid (∀ x : World, Below wc.heap.size wc x → x.cell? ⟨w.heap.size, 0, none⟩ = some (.slice A j cap) ∧ x.cell? ⟨w.heap.size, 1, none⟩ = some (.int .i64 s) ∧ x.cell? ⟨w.heap.size, 2, none⟩ = some (.slice R m cap2) ∧ x.cell? ⟨w.heap.size, 3, none⟩ = some (.int .i64 st) ∧ Below wc.heap.size wc x) := Lib.hid (fun x h => ⟨(KB.out x (join hBac h)).1, (KB.out x (join hBac h)).2.1, (KB.out x (join hBac h)).2.2.1, (KB.out x (join hBac h)).2.2.2, h⟩)
            obtain ⟨g0, g1, g2, g3, -⟩ := KS2.out _ hB
            go_wp2
            by_cases hck : cap2 = k
            all_goals
              go_region_held3 (fun x => x.cell? ⟨w.heap.size, 0, none⟩ = some (.slice A j cap) ∧ x.cell? ⟨w.heap.size, 1, none⟩ = some (.int .i64 s) ∧ x.cell? ⟨w.heap.size, 2, none⟩ = some (.slice R m cap2) ∧ x.cell? ⟨w.heap.size, 3, none⟩ = some (.int .i64 st) ∧ Below wc.heap.size wc x)
                (first | exact KS2.out _ (by assumption) | exact KS2.out _ (Below.drew (by assumption)))
                (first | (go_at_call 12; ((with_reducible refine (FP2.out L1 capL1 _ _ _ (hO1.ints.below (by first | with_reducible assumption | with_reducible exact Below.drew (by with_reducible assumption))) hnil1 (rains_rest (H9.out _ (join hBac (by first | with_reducible assumption | with_reducible exact Below.drew (by with_reducible assumption)))) k _ (by intro b off e hkm; first | (exact absurd hkm (by omega)) | (rw [e, Option.map_some]; exact congrArg some (add_flat b off (k * 4))))) wc (by first | with_reducible assumption | with_reducible exact Below.drew (by with_reducible assumption)) hle (join hBac (by first | with_reducible assumption | with_reducible exact Below.drew (by with_reducible assumption)))).mono ?_)); rintro e wd ⟨L2, capL2, rfl, hcL2, hO2, hBd⟩))
              go_wp2_with (first | (go_at_call 14; ((with_reducible refine (same_yes L2 L _ capL2 capL _ _ _ (by omega) hO2.ints (hO.ints.below (join hBc hBd)) (fun _ _ => rfl)).mono ?_)); rintro e we ⟨rfl, hBe⟩))
              go_ret
              exact ⟨rfl, past1 (join hBac (join hBd hBe))⟩
end Go.Proofs.Ytbjkofjkpfgimaa
