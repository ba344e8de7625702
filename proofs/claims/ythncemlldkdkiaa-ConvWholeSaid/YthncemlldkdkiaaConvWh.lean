/- The statement ConvWhole: how near the whole numbers are. -/
import Derived.Test.YthncemlldkdkiaaConvK
import Derived.Test.YthncemlldkdkiaaConH
import Derived.Test.YthncemlldkdkiaaOpenF
namespace Go.Proofs.Ythncemlldkdkiaa
open Go Go.RowKit TF

attribute [local go_sem] cmp_eq cmp_ne cmp_lt cmp_gt cmp_le cmp_ge

theorem below_drawn4 (w : World) (n : Nat) : Below w.heap.size w (w.drewN n) :=
  have h := Below.refl w.heap.size w
  ⟨h.os, h.tape, h.output, h.size, h.block⟩
theorem fits_words (x : Nat) : fits x = ((ltW 14114281232179134464 x || eqW x 14114281232179134464) && ltW x 4890909195324358656) := by
  unfold fits ltW eqW
  rw [show isN 14114281232179134464 = false from by decide, show isN 4890909195324358656 = false from by decide, rk_two63, rk_two63']
  cases isN x
  · rw [Bool.eq_iff_iff]
    simp only [Bool.not_false, Bool.true_and, Bool.and_eq_true, Bool.or_eq_true, decide_eq_true_eq]; omega
  · simp
theorem not_fits {x : Nat} (most : Int) (hm : 0 ≤ most) (hm2 : most ≤ 9223372036854775807) (h : fits x = false) :
    (ltW 0 x = false ∧ ltW x 0 = false ∧ clampI x most = 0) ∨ (ltW 0 x = true ∧ ltW x 0 = false ∧ clampI x most = most) ∨ (ltW 0 x = false ∧ ltW x 0 = true ∧ clampI x most = -most) := by
  by_cases hN : isN x = true
  · refine .inl ⟨?_, ?_, ?_⟩
    · unfold ltW; rw [hN]; simp
    · unfold ltW; rw [hN]; simp
    · unfold clampI; rw [hN]; rfl
  · rw [Bool.not_eq_true] at hN
    have hr : ¬ (-4890909195324358656 ≤ rk x ∧ rk x < 4890909195324358656) := by
      intro hc
      unfold fits at h
      rw [hN, decide_eq_true hc.1, decide_eq_true hc.2] at h
      cases h
    have hbig : 4890909195324358656 ≤ mg x := by unfold rk at hr; split at hr <;> omega
    have hc := clamp_far hbig hm2
    have hs := clampI_sign most hN
    rw [hc, Int.max_eq_left hm] at hs
    have hrk : rk x = if ng x then -(mg x : Int) else mg x := rfl
    have r0 : rk 0 = 0 := by decide
    unfold ltW
    rw [hN, isN_zero, r0, hrk]
    cases hg : ng x <;> rw [hg] at hs
    · refine .inr (.inl ⟨?_, ?_, hs⟩) <;> simp <;> omega
    · refine .inr (.inr ⟨?_, ?_, hs⟩) <;> simp <;> omega
theorem clamp_min {x : Nat} (most : Int) (hm : 0 ≤ most) (h : fits x = true) : clampI x most = min (max (rdI x) (-most)) most := by
  have hN : isN x = false := by unfold fits at h; cases hx : isN x <;> rw [hx] at h <;> simp_all
  rw [clampI_sign most hN, Int.max_eq_left hm]
  unfold rdI sg
  dsimp only
  split <;> omega

set_option maxHeartbeats 4000000 in
theorem convWhole_in (x : Nat) (most M : Int) (w : World) (hx : W64 x) (hm : M = max most 0) (hm2 : most ≤ 9223372036854775807) :
    Calls Try.prog 6 #[.float .f64 x, .int .i64 most] w fun e w' => e = .returned (.bool true) ∧ Below w.heap.size w w' := by
  have M0 : 0 ≤ M := by omega
  have M1 : M ≤ 9223372036854775807 := by omega
  obtain ⟨N, B, hN⟩ : ∃ N B, roundI x = (N, B) := ⟨_, _, rfl⟩
  obtain ⟨F, D, hF⟩ : ∃ N B, floorI x = (N, B) := ⟨_, _, rfl⟩
  have R1 := Lib.hid fun w => (by have := round_any x hx w; rw [hN] at this; exact this : Calls Try.prog 10 #[.float .f64 x] w fun e w' => e = .returned (.tuple #[.int .i64 N, .bool B]) ∧ w = w')
  have L1 := Lib.hid fun w => (by have := floor_conv x w; rw [hF] at this; exact this : Calls Try.prog 12 #[.float .f64 x] w fun e w' => e = .returned (.tuple #[.int .i64 F, .bool D]) ∧ ∃ n, w' = w.drewN n)
  obtain ⟨c1, hc1⟩ : ∃ c, c = clampI x M := ⟨_, rfl⟩
  have C1 := Lib.hid fun w => (by rw [hc1]; exact clamp_any x M hx M1 w : Calls Try.prog 14 #[.float .f64 x, .int .i64 M] w fun e w' => e = .returned (.int .i64 c1) ∧ w = w')
  rw [round_is] at hN
  rw [floor_is] at hF
  have hw := fits_words x
  cases hfit : fits x
  · rw [hfit] at hN hF hw
    have hcl := not_fits M M0 M1 hfit
    rw [← hc1] at hcl
    obtain ⟨rfl, rfl⟩ : 0 = N ∧ false = B := Prod.mk.inj hN
    obtain ⟨rfl, rfl⟩ : 0 = F ∧ false = D := Prod.mk.inj hF
    have hw2 : (ltW 14114281232179134464 x || eqW x 14114281232179134464) = false ∨ ((ltW 14114281232179134464 x || eqW x 14114281232179134464) = true ∧ ltW x 4890909195324358656 = false) := by
      cases h1 : (ltW 14114281232179134464 x || eqW x 14114281232179134464)
      · exact .inl rfl
      · rw [h1] at hw; exact .inr ⟨rfl, by simpa using hw.symm⟩
    clear hN hF hw hc1 hfit
    rcases (show (most < 0 ∧ M = 0) ∨ (0 ≤ most ∧ M = most) by omega) with ⟨hneg, rfl⟩ | ⟨hneg, rfl⟩
    all_goals
      clear hm
      rcases hcl with ⟨g1, g2, rfl⟩ | ⟨g1, g2, rfl⟩ | ⟨g1, g2, rfl⟩ <;> rcases hw2 with hw2 | ⟨hw2, hw3⟩
      all_goals
        go_enter Try.func6, Try.ntmps6
        go_wp2_with (first | (go_at_call 9; ((with_reducible refine (awake_any _).mono ?_)); rintro e w' ⟨rfl, n, rfl⟩) | (go_at_call 10; ((with_reducible refine (R1.out _).mono ?_)); rintro e w' ⟨rfl, rfl⟩) | (go_at_call 12; ((with_reducible refine (L1.out _).mono ?_)); rintro e w' ⟨rfl, n, rfl⟩) | (go_at_call 14; ((with_reducible refine (C1.out _).mono ?_)); rintro e w' ⟨rfl, rfl⟩))
        go_ret
        exact ⟨rfl, below_drawn4 _ _⟩
  · rw [hfit] at hN hF hw
    have hcl := clamp_min M M0 hfit
    obtain ⟨rfl, rfl⟩ : rdI x = N ∧ true = B := Prod.mk.inj hN
    obtain ⟨rfl, rfl⟩ : dnI x = F ∧ true = D := Prod.mk.inj hF
    obtain ⟨w1, w2⟩ : (ltW 14114281232179134464 x || eqW x 14114281232179134464) = true ∧ ltW x 4890909195324358656 = true := by simpa using hw.symm
    have hmx : mg x < 4890909195324358656 + 1 := by
      unfold fits at hfit
      simp only [Bool.and_eq_true, Bool.not_eq_true', decide_eq_true_eq] at hfit
      obtain ⟨⟨_, a⟩, b⟩ := hfit
      unfold rk at a b; split at a <;> simp_all <;> omega
    obtain ⟨f, d, f1, f2, f6⟩ := diff_near hmx
    obtain ⟨g, e, g1, g2, g4⟩ := diff_down hfit
    have k1 := run_valid (P := Try.prog) 24 f2
    have k2 := run_valid (P := Try.prog) 24 g2
    have e1 : c1 = min (max (rdI x) (-M)) M := by rw [hc1, hcl]
    rw [← f1] at k1
    rw [← g1] at k2
    clear hN hF hw hc1 hfit hcl hmx f1 f2 g1 g2
    generalize rdI x = N at *
    generalize dnI x = F at *
    rcases (show (most < 0 ∧ M = 0) ∨ (0 ≤ most ∧ M = most) by omega) with ⟨hneg, rfl⟩ | ⟨hneg, rfl⟩
    · clear hm
      rcases (show (N < 0 ∧ c1 = 0) ∨ (0 < N ∧ c1 = 0) ∨ (N = 0 ∧ c1 = 0) by omega) with ⟨u1, rfl⟩ | ⟨u1, rfl⟩ | ⟨rfl, rfl⟩
      all_goals
        clear e1
        rcases f6 with ⟨f6, f7, f8, f9⟩ | ⟨f6, f7, f8, f9, f10⟩ | ⟨f6, f7, f8, f9, f10⟩ <;> rcases g4 with ⟨g3, g4⟩ | ⟨g3, g4, g5⟩ | ⟨g3, g4, g5, g6, g7⟩
        all_goals
          go_enter Try.func6, Try.ntmps6
          go_wp2_with (first | (go_at_call 9; ((with_reducible refine (awake_any _).mono ?_)); rintro e w' ⟨rfl, n, rfl⟩) | (go_at_call 10; ((with_reducible refine (R1.out _).mono ?_)); rintro e w' ⟨rfl, rfl⟩) | (go_at_call 12; ((with_reducible refine (L1.out _).mono ?_)); rintro e w' ⟨rfl, n, rfl⟩) | (go_at_call 14; ((with_reducible refine (C1.out _).mono ?_)); rintro e w' ⟨rfl, rfl⟩))
          all_goals
            go_ret
            exact ⟨rfl, below_drawn4 _ _⟩
    · clear hm
      rcases (show (N < -M ∧ c1 = -M) ∨ (-M ≤ N ∧ M < N ∧ c1 = M) ∨ (-M ≤ N ∧ N ≤ M ∧ c1 = N) by omega) with ⟨u1, rfl⟩ | ⟨u1, u2, rfl⟩ | ⟨u1, u2, rfl⟩
      all_goals
        clear e1
        rcases f6 with ⟨f6, f7, f8, f9⟩ | ⟨f6, f7, f8, f9, f10⟩ | ⟨f6, f7, f8, f9, f10⟩ <;> rcases g4 with ⟨g3, g4⟩ | ⟨g3, g4, g5⟩ | ⟨g3, g4, g5, g6, g7⟩
        all_goals
          go_enter Try.func6, Try.ntmps6
          go_wp2_with (first | (go_at_call 9; ((with_reducible refine (awake_any _).mono ?_)); rintro e w' ⟨rfl, n, rfl⟩) | (go_at_call 10; ((with_reducible refine (R1.out _).mono ?_)); rintro e w' ⟨rfl, rfl⟩) | (go_at_call 12; ((with_reducible refine (L1.out _).mono ?_)); rintro e w' ⟨rfl, n, rfl⟩) | (go_at_call 14; ((with_reducible refine (C1.out _).mono ?_)); rintro e w' ⟨rfl, rfl⟩))
          all_goals
            go_ret
            exact ⟨rfl, below_drawn4 _ _⟩

theorem convWhole_walk (x : Nat) (most : Int) (w : World) (hx : W64 x) (hm : (Lit.int .i64 most).wf = true) :
    Calls Try.prog 6 #[.float .f64 x, .int .i64 most] w fun e w' => e = .returned (.bool true) ∧ Below w.heap.size w w' :=
  convWhole_in x most _ w hx rfl (int_hi hm)
end Go.Proofs.Ythncemlldkdkiaa
