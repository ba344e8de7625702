/- The statement RainTimes: a rain falls just in its steps. -/
import Derived.Test.YtbjkofjkpfgimaaRainK
namespace Go.Proofs.Ytbjkofjkpfgimaa
open Go Go.RowKit TF

theorem info_rain : (Try.prog.info? 29).map (fun i => (i.zero, i.size, i.bytes)) = some (some (.agg #[.int .i64 0, .int .i64 0, .int .i64 0, .int .i64 0]), 4, 32) := by kernel_rfl

theorem four_at (w : World) (t : TypeId) (a b c d : Int) : ∀ (j : Nat) (u : Value), [Value.int .i64 a, .int .i64 b, .int .i64 c, .int .i64 d][j]? = some u → (w.alloc (.cells #[.int .i64 a, .int .i64 b, .int .i64 c, .int .i64 d] t)).cell? ((⟨w.heap.size, 0, none⟩ : Addr).add j) = some u := by
  intro j u hj
  rw [add_flat, Nat.zero_add, World.cell?_alloc_new]
  match j, hj with
  | 0, hj => exact hj
  | 1, hj => exact hj
  | 2, hj => exact hj
  | 3, hj => exact hj
  | j + 4, hj => simp at hj
theorem four_one (a b c d : Int) : ∀ u ∈ [Value.int .i64 a, .int .i64 b, .int .i64 c, .int .i64 d], u.oneCell' = true := by
  intro u hu
  simp at hu
  rcases hu with rfl | rfl | rfl | rfl <;> rfl

set_option maxRecDepth 100000 in
set_option maxHeartbeats 4000000 in
theorem rainTimes_walk (A : Option Addr) (n cap : Nat) (Z : Nat → Int) (s : Int) (R : Option Addr) (m cap2 : Nat) (C Am F T : Nat → Int) (st : Int) (other : Int) (w : World) (hW : WeatherAt w A n cap Z s R m cap2 C Am F T st) :
    Calls Try.prog 7 #[.agg #[.slice A n cap, .int .i64 s, .slice R m cap2, .int .i64 st], .int .i64 other] w fun e w' => e = .returned (.bool true) ∧ Below w.heap.size w w' := by
  have KB := Lib.hid (box_cells A n cap s R m cap2 st 25 w)
  have hn9 := hW.n8
  have hm9 := hW.m9
  have H8 := Lib.hid (fun (x : World) (h : Below (w.alloc (.cells #[.slice A n cap, .int .i64 s, .slice R m cap2, .int .i64 st] 25)).heap.size (w.alloc (.cells #[.slice A n cap, .int .i64 s, .slice R m cap2, .int .i64 st] 25)) x) => hW.hz.below (past1 h))
  have H9 := Lib.hid (fun (x : World) (h : Below (w.alloc (.cells #[.slice A n cap, .int .i64 s, .slice R m cap2, .int .i64 st] 25)).heap.size (w.alloc (.cells #[.slice A n cap, .int .i64 s, .slice R m cap2, .int .i64 st] 25)) x) => hW.hr.below (past1 h))
  cases hq : refuseB n Z s m C Am F T st with
  | true =>
    have FB1 := Lib.hid (fun (x : World) h => fall_bad A n cap Z s R m cap2 C Am F T st x hW.n8 hW.m9 (H8.out x h) (H9.out x h) hq)
    by_cases hst : 0 ≤ st
    · have hq2 : refuseB n Z s m C Am F T other = true := by
        by_cases ho : 0 ≤ other
        · rw [← refuse_step hst ho]; exact hq
        · exact refuse_neg (by omega)
      have FB2 := Lib.hid (fun (x : World) h => fall_bad A n cap Z s R m cap2 C Am F T other x hW.n8 hW.m9 (H8.out x h) (H9.out x h) hq2)
      clear hq hq2 hW
      go_enter Try.func7, Try.ntmps7
      go_wp2_with (first | (go_at_call 9; ((with_reducible refine (awake_any _).mono ?_)); rintro e wa ⟨rfl, hBa⟩; obtain ⟨a0, a1, a2, a3⟩ := KB.out _ hBa) | (go_at_call 12; ((with_reducible refine (FB1.out wa hBa).mono ?_)); rintro e wb ⟨rfl, hBb⟩; have hBab := join hBa hBb; obtain ⟨b0, b1, b2, b3⟩ := KB.out _ hBab) | (go_at_call 12; ((with_reducible refine (FB2.out wb hBab).mono ?_)); rintro e wc ⟨rfl, hBc⟩; have hBac := join hBab hBc; obtain ⟨c0, c1, c2, c3⟩ := KB.out _ hBac))
      all_goals go_ret
      all_goals exact ⟨by simp <;> omega, past1 hBac⟩
    · cases hq2 : refuseB n Z s m C Am F T other with
      | true =>
        have FB2 := Lib.hid (fun (x : World) h => fall_bad A n cap Z s R m cap2 C Am F T other x hW.n8 hW.m9 (H8.out x h) (H9.out x h) hq2)
        clear hq hq2 hW
        go_enter Try.func7, Try.ntmps7
        go_wp2_with (first | (go_at_call 9; ((with_reducible refine (awake_any _).mono ?_)); rintro e wa ⟨rfl, hBa⟩; obtain ⟨a0, a1, a2, a3⟩ := KB.out _ hBa) | (go_at_call 12; ((with_reducible refine (FB1.out wa hBa).mono ?_)); rintro e wb ⟨rfl, hBb⟩; have hBab := join hBa hBb; obtain ⟨b0, b1, b2, b3⟩ := KB.out _ hBab) | (go_at_call 12; ((with_reducible refine (FB2.out wb hBab).mono ?_)); rintro e wc ⟨rfl, hBc⟩; have hBac := join hBab hBc; obtain ⟨c0, c1, c2, c3⟩ := KB.out _ hBac))
        all_goals go_ret
        all_goals exact ⟨by simp <;> omega, past1 hBac⟩
      | false =>
        have FO2 := Lib.hid (fun (x : World) h => fall_ok A n cap Z s R m cap2 C Am F T other x hW.n8 (fun h => (hW.hnil h).1) (H8.out x h) (H9.out x h) hq2)
        clear hq hq2 hW
        go_enter Try.func7, Try.ntmps7
        go_wp2_with (first | (go_at_call 9; ((with_reducible refine (awake_any _).mono ?_)); rintro e wa ⟨rfl, hBa⟩; obtain ⟨a0, a1, a2, a3⟩ := KB.out _ hBa) | (go_at_call 12; ((with_reducible refine (FB1.out wa hBa).mono ?_)); rintro e wb ⟨rfl, hBb⟩; have hBab := join hBa hBb; obtain ⟨b0, b1, b2, b3⟩ := KB.out _ hBab) | (go_at_call 12; ((with_reducible refine (FO2.out wb hBab).mono ?_)); rintro e wc ⟨L2, capL2, rfl, hcL2, hO2, hBc⟩; have hBac := join hBab hBc; obtain ⟨c0, c1, c2, c3⟩ := KB.out _ hBac))
        all_goals go_ret
        all_goals exact ⟨by simp <;> omega, past1 hBac⟩
  | false =>
    have FO1 := Lib.hid (fun (x : World) h => fall_ok A n cap Z s R m cap2 C Am F T st x hW.n8 (fun h => (hW.hnil h).1) (H8.out x h) (H9.out x h) hq)
    obtain ⟨t1, ⟨t2, t3⟩, t4, t5, t6⟩ := taken hq
    have hfl := fl_lt (st := st) (F := F) (T := T) m
    have hin : ∀ j, j < (fl st F T m).length → (fl st F T m).getD j 0 < m := fun j hj => hfl.2 _ (by rw [List.getD_eq_getElem?_getD, List.getElem?_eq_getElem hj]; exact List.getElem_mem hj)
    have hq3 : refuseB n Z s (fl st F T m).length (at' C (fl st F T m)) (at' Am (fl st F T m)) (at' F (fl st F T m)) (at' T (fl st F T m)) st = false :=
      taken_mk t1 ⟨t2, t3⟩ (by omega) t5 (fun j hj => t6 _ (hin j hj))
    have hrs := rs_fl (st := st) (C := C) (A := Am) (F := F) (T := T) (Z := Z) (s := s) m
    have hrZ : rsZ st (at' C (fl st F T m)) (at' Am (fl st F T m)) (at' F (fl st F T m)) (at' T (fl st F T m)) Z s (fl st F T m).length = rsZ st C Am F T Z s m := by unfold rsZ; rw [hrs]
    have hrS : rsS st (at' C (fl st F T m)) (at' Am (fl st F T m)) (at' F (fl st F T m)) (at' T (fl st F T m)) Z s (fl st F T m).length = rsS st C Am F T Z s m := by unfold rsS; rw [hrs]
    have FO3 := Lib.hid (fun (R' : Option Addr) (c' : Nat) (x : World) h (hRA : RainsAt x R' (fl st F T m).length (at' C (fl st F T m)) (at' Am (fl st F T m)) (at' F (fl st F T m)) (at' T (fl st F T m))) =>
      (fall_ok A n cap Z s R' (fl st F T m).length c' _ _ _ _ st x hW.n8 (fun h => (hW.hnil h).1) (H8.out x h) hRA hq3).mono (fun _ _ q => by rw [hrZ, hrS] at q; exact q))
    have hq2c : (0 ≤ other ∧ refuseB n Z s m C Am F T other = false) ∨ (other < 0 ∧ refuseB n Z s m C Am F T other = true) := by
      by_cases ho : 0 ≤ other
      · exact .inl ⟨ho, by rw [← refuse_step t1 ho]; exact hq⟩
      · exact .inr ⟨by omega, refuse_neg (by omega)⟩
    have HFL := Lib.hid (fl_lt (st := st) (F := F) (T := T))
    obtain ⟨i0, hi, hz0, hz1, hz2⟩ := info_parts info_rain
    have FF : Hid (0 ≤ other → ∀ (x : World), Below (w.alloc (.cells #[.slice A n cap, .int .i64 s, .slice R m cap2, .int .i64 st] 25)).heap.size (w.alloc (.cells #[.slice A n cap, .int .i64 s, .slice R m cap2, .int .i64 st] 25)) x → Calls Try.prog 12 #[.slice A n cap, .int .i64 s, .slice R m cap2, .int .i64 other] x fun e w' => FallP x n (rsZ other C Am F T Z s m) (rsS other C Am F T Z s m) e w') :=
      Lib.hid (fun ho x h => fall_ok A n cap Z s R m cap2 C Am F T other x hW.n8 (fun h => (hW.hnil h).1) (H8.out x h) (H9.out x h) (by rcases hq2c with h | h; exact h.2; omega))
    have FG : Hid (other < 0 → ∀ (x : World), Below (w.alloc (.cells #[.slice A n cap, .int .i64 s, .slice R m cap2, .int .i64 st] 25)).heap.size (w.alloc (.cells #[.slice A n cap, .int .i64 s, .slice R m cap2, .int .i64 st] 25)) x → Calls Try.prog 12 #[.slice A n cap, .int .i64 s, .slice R m cap2, .int .i64 other] x fun e w' => e = .returned (.tuple #[.slice none 0 0, .int .i64 0, .int .i64 1]) ∧ Below x.heap.size x w') :=
      Lib.hid (fun ho x h => fall_bad A n cap Z s R m cap2 C Am F T other x hW.n8 hW.m9 (H8.out x h) (H9.out x h) (by rcases hq2c with h | h; omega; exact h.2))
    clear hq hq3 hq2c hin hrs hrZ hrS t5 t6 hW hfl
    rcases (show 0 ≤ other ∨ other < 0 by omega) with ho | ho
    · have FO2 := Lib.hid (FF.out ho)
      clear FF FG
      go_enter Try.func7, Try.ntmps7
      go_wp2_with (first | (go_at_call 9; ((with_reducible refine (awake_any _).mono ?_)); rintro e wa ⟨rfl, hBa⟩; obtain ⟨a0, a1, a2, a3⟩ := KB.out _ hBa) | (go_at_call 12; ((with_reducible refine (FO1.out wa hBa).mono ?_)); rintro e wb ⟨L, capL, rfl, hcL, hO, hBb⟩; have hBab := join hBa hBb; obtain ⟨b0, b1, b2, b3⟩ := KB.out _ hBab) | (go_at_call 12; ((with_reducible refine (FO2.out wb hBab).mono ?_)); rintro e wc ⟨L2, capL2, rfl, hcL2, hO2, hBc⟩; have hBac := join hBab hBc; obtain ⟨c0, c1, c2, c3⟩ := KB.out _ hBac))
      go_loopw [11, 12] (fun v i wr => ∃ k : Nat, k ≤ m ∧ i = .int .i64 k ∧ wr.ownsRow wc.heap.size 29 4 v (fl st F T k).length (rainCells C Am F T (fl st F T k)) ∧ Below wc.heap.size wc wr) (fun _ i _ => m - (intOf i).toNat)
      case atStart => exact ⟨0, Nat.zero_le _, rfl, World.ownsRow_nil _ _ _ _, Below.refl _ _⟩
      case round =>
        obtain ⟨k, hk, rfl, hown, hB⟩ := hrel
        have hBe := join hBac hB
        obtain ⟨d0, d1, d2, d3⟩ := KB.out _ hBe
        by_cases hlt : k < m
        · have hl : (k : Int) < (m : Int) := by omega
          obtain ⟨b, off, rfl, hbl, g0, g1, g2, g3⟩ := (H9.out _ hBe) k hlt
          rcases (show (st < F k) ∨ (F k ≤ st ∧ T k ≤ st) ∨ (F k ≤ st ∧ st < T k) by omega) with q1 | ⟨q1, q2⟩ | ⟨q1, q2⟩
          · have r1 : decide (F k ≤ st) = false := by simp; omega
            have E : fl st F T (k + 1) = fl st F T k := by rw [fl, if_neg (by omega)]
            have HE := Lib.hid E
            clear E
            go_wp2
            go_region
            all_goals go_wp2
            all_goals go_roundw
            case rel => exact ⟨k + 1, by omega, by go_num, by rw [HE.out]; exact hown, by first | exact hB | exact hB.drew⟩
            case measure => simp [intOf]; omega
          · have r1 : decide (F k ≤ st) = true := by simp; omega
            have r2 : decide (st < T k) = false := by simp; omega
            have E : fl st F T (k + 1) = fl st F T k := by rw [fl, if_neg (by omega)]
            have HE := Lib.hid E
            clear E
            go_wp2
            go_region
            all_goals go_wp2
            all_goals go_roundw
            case rel => exact ⟨k + 1, by omega, by go_num, by rw [HE.out]; exact hown, by first | exact hB | exact hB.drew⟩
            case measure => simp [intOf]; omega
          · have r1 : decide (F k ≤ st) = true := by simp; omega
            have r2 : decide (st < T k) = true := by simp; omega
            have E : fl st F T (k + 1) = fl st F T k ++ [k] := by rw [fl, if_pos (by omega)]
            have HE := Lib.hid E
            have hlen := (HFL.out k).1
            clear E
            go_wp2
            go_region
            go_wp2_with (at_builtin; refine wpList_append_own _ rfl _ _ 23 rfl wc.heap.size 29 i0 (.agg #[.int .i64 0, .int .i64 0, .int .i64 0, .int .i64 0]) 4 32 Try.underlying23 hi hz0 hz1 hz2 rfl (by decide) _ _ _ rfl (World.ownsRow.alloc (World.ownsRow.drew hown) _) ⟨wr.heap.size, 0, none⟩ 1 1 [.int .i64 (C k), .int .i64 (Am k), .int .i64 (F k), .int .i64 (T k)] rfl rfl (four_at _ _ _ _ _ _) (four_one _ _ _ _) (by unfold maxLen; omega) (by omega) (by have := hB.size; simp; omega) ?_; intro v' w1 hown' hgrow _)
            have hB1 : Below wc.heap.size wc w1 := (((hB.drew).alloc hB.size _).grown hgrow (by have := hB.size; simp; omega) (by intro q hq; have := hown.lt q (by simpa [Act.eval] using hq); omega))
            have hown2 : w1.ownsRow wc.heap.size 29 4 v' (fl st F T (k + 1)).length (rainCells C Am F T (fl st F T (k + 1))) := by
              rw [HE.out, List.length_append, rainCells_app]; exact hown'
            have HO2 := Lib.hid hown2
            clear hown' hgrow hown hown2
            go_wp2
            go_roundw
            case rel => exact ⟨k + 1, by omega, by go_num, HO2.out, hB1⟩
            case measure => simp [intOf]; omega
        · have hkm : k = m := by omega
          subst hkm
          obtain ⟨R', cR, rfl, hRA⟩ := rains_of_row hown
          clear hown
          go_wp2_with (first | (go_at_call 12; ((with_reducible refine (FO3.out _ _ _ hBe hRA).mono ?_)); rintro e wd ⟨L3, capL3, rfl, hcL3, hO3, hBd⟩) | (go_at_call 14; ((with_reducible refine (same_yes L3 L _ capL3 capL _ _ _ (by omega) hO3.ints (hO.ints.below (join hBc (join hB hBd))) (fun _ _ => rfl)).mono ?_)); rintro e we ⟨rfl, hBe2⟩))
          go_ret
          exact ⟨rfl, past1 (join hBe (join hBd hBe2))⟩
    · have FB2 := Lib.hid (FG.out ho)
      clear FF FG
      go_enter Try.func7, Try.ntmps7
      go_wp2_with (first | (go_at_call 9; ((with_reducible refine (awake_any _).mono ?_)); rintro e wa ⟨rfl, hBa⟩; obtain ⟨a0, a1, a2, a3⟩ := KB.out _ hBa) | (go_at_call 12; ((with_reducible refine (FO1.out wa hBa).mono ?_)); rintro e wb ⟨L, capL, rfl, hcL, hO, hBb⟩; have hBab := join hBa hBb; obtain ⟨b0, b1, b2, b3⟩ := KB.out _ hBab) | (go_at_call 12; ((with_reducible refine (FB2.out wb hBab).mono ?_)); rintro e wc ⟨rfl, hBc⟩; have hBac := join hBab hBc; obtain ⟨c0, c1, c2, c3⟩ := KB.out _ hBac))
      go_loopw [11, 12] (fun v i wr => ∃ k : Nat, k ≤ m ∧ i = .int .i64 k ∧ wr.ownsRow wc.heap.size 29 4 v (fl st F T k).length (rainCells C Am F T (fl st F T k)) ∧ Below wc.heap.size wc wr) (fun _ i _ => m - (intOf i).toNat)
      case atStart => exact ⟨0, Nat.zero_le _, rfl, World.ownsRow_nil _ _ _ _, Below.refl _ _⟩
      case round =>
        obtain ⟨k, hk, rfl, hown, hB⟩ := hrel
        have hBe := join hBac hB
        obtain ⟨d0, d1, d2, d3⟩ := KB.out _ hBe
        by_cases hlt : k < m
        · have hl : (k : Int) < (m : Int) := by omega
          obtain ⟨b, off, rfl, hbl, g0, g1, g2, g3⟩ := (H9.out _ hBe) k hlt
          rcases (show (st < F k) ∨ (F k ≤ st ∧ T k ≤ st) ∨ (F k ≤ st ∧ st < T k) by omega) with q1 | ⟨q1, q2⟩ | ⟨q1, q2⟩
          · have r1 : decide (F k ≤ st) = false := by simp; omega
            have E : fl st F T (k + 1) = fl st F T k := by rw [fl, if_neg (by omega)]
            have HE := Lib.hid E
            clear E
            go_wp2
            go_region
            all_goals go_wp2
            all_goals go_roundw
            case rel => exact ⟨k + 1, by omega, by go_num, by rw [HE.out]; exact hown, by first | exact hB | exact hB.drew⟩
            case measure => simp [intOf]; omega
          · have r1 : decide (F k ≤ st) = true := by simp; omega
            have r2 : decide (st < T k) = false := by simp; omega
            have E : fl st F T (k + 1) = fl st F T k := by rw [fl, if_neg (by omega)]
            have HE := Lib.hid E
            clear E
            go_wp2
            go_region
            all_goals go_wp2
            all_goals go_roundw
            case rel => exact ⟨k + 1, by omega, by go_num, by rw [HE.out]; exact hown, by first | exact hB | exact hB.drew⟩
            case measure => simp [intOf]; omega
          · have r1 : decide (F k ≤ st) = true := by simp; omega
            have r2 : decide (st < T k) = true := by simp; omega
            have E : fl st F T (k + 1) = fl st F T k ++ [k] := by rw [fl, if_pos (by omega)]
            have HE := Lib.hid E
            have hlen := (HFL.out k).1
            clear E
            go_wp2
            go_region
            go_wp2_with (at_builtin; refine wpList_append_own _ rfl _ _ 23 rfl wc.heap.size 29 i0 (.agg #[.int .i64 0, .int .i64 0, .int .i64 0, .int .i64 0]) 4 32 Try.underlying23 hi hz0 hz1 hz2 rfl (by decide) _ _ _ rfl (World.ownsRow.alloc (World.ownsRow.drew hown) _) ⟨wr.heap.size, 0, none⟩ 1 1 [.int .i64 (C k), .int .i64 (Am k), .int .i64 (F k), .int .i64 (T k)] rfl rfl (four_at _ _ _ _ _ _) (four_one _ _ _ _) (by unfold maxLen; omega) (by omega) (by have := hB.size; simp; omega) ?_; intro v' w1 hown' hgrow _)
            have hB1 : Below wc.heap.size wc w1 := (((hB.drew).alloc hB.size _).grown hgrow (by have := hB.size; simp; omega) (by intro q hq; have := hown.lt q (by simpa [Act.eval] using hq); omega))
            have hown2 : w1.ownsRow wc.heap.size 29 4 v' (fl st F T (k + 1)).length (rainCells C Am F T (fl st F T (k + 1))) := by
              rw [HE.out, List.length_append, rainCells_app]; exact hown'
            have HO2 := Lib.hid hown2
            clear hown' hgrow hown hown2
            go_wp2
            go_roundw
            case rel => exact ⟨k + 1, by omega, by go_num, HO2.out, hB1⟩
            case measure => simp [intOf]; omega
        · have hkm : k = m := by omega
          subst hkm
          obtain ⟨R', cR, rfl, hRA⟩ := rains_of_row hown
          clear hown
          go_wp2_with (first | (go_at_call 12; ((with_reducible refine (FO3.out _ _ _ hBe hRA).mono ?_)); rintro e wd ⟨L3, capL3, rfl, hcL3, hO3, hBd⟩) | (go_at_call 14; ((with_reducible refine (same_yes L3 L _ capL3 capL _ _ _ (by omega) hO3.ints (hO.ints.below (join hBc (join hB hBd))) (fun _ _ => rfl)).mono ?_)); rintro e we ⟨rfl, hBe2⟩))
          go_ret
          exact ⟨rfl, past1 (join hBe (join hBd hBe2))⟩
end Go.Proofs.Ytbjkofjkpfgimaa
