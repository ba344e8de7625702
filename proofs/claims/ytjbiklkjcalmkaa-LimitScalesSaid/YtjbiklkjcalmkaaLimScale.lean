/- The statement LimitScales: doubled and equal differences. -/
import Derived.Test.YtjbiklkjcalmkaaLimTurn
import Derived.Test.YtjbiklkjcalmkaaLimV
namespace Go.Proofs.Ytjbiklkjcalmkaa
open Go.RowKit TF

attribute [local go_sem] cmp_eq cmp_ne cmp_lt cmp_gt cmp_le cmp_ge

theorem magf_any (x : Nat) (hx : W64 x) (w : World) :
    Calls Try.prog 15 #[.float .f64 x] w fun e w' => e = .returned (.float .f64 (magW x)) ∧ w = w' := by
  have c := run_neg Try.prog hx
  unfold magW
  cases h : ltW x 0
  all_goals
    go_enter Try.func15, Try.ntmps15
    go_wp2
    go_ret
    exact ⟨rfl, rfl⟩

set_option maxHeartbeats 4000000 in
theorem scale_tail (k : Int) (a b : Nat) (w : World) (ha : W64 a) (hb : W64 b) (na : eqW a a = true) (nb : eqW b b = true) (la : ltW 6103021453049119613 (magW a) = false) (lb : ltW 6103021453049119613 (magW b) = false)
    (sa : (eqW a 0 = true) ∨ (eqW a 0 = false ∧ ltW (magW a) 3110860544497550640 = false)) (sb : (eqW b 0 = true) ∨ (eqW b 0 = false ∧ ltW (magW b) 3110860544497550640 = false)) (da : Dom a) (db : Dom b) :
    Calls Try.prog 6 #[.int .i64 k, .float .f64 a, .float .f64 b] w fun e w' => e = .returned (.bool true) ∧ Below w.heap.size w w' := by
  have hw0 : Below w.heap.size w w := Below.refl _ _
  obtain ⟨t, u, v, S⟩ := scales k ha hb da db
  have t64 := S.t64
  have u64 := S.u64
  have k1 := run_valid (P := Try.prog) 25 S.ta
  have k2 := run_valid (P := Try.prog) 25 S.tb
  have k3 := run_valid (P := Try.prog) 25 S.ts
  have q1 := S.eq
  clear S
  have hn : isN a = false := by rw [eqW_self] at na; simpa using na
  have hz := eqW_zero a
  rw [hn] at hz
  have hcase : (eqW a 0 = true ∧ sameB (slopeW k a a) 0 = true) ∨ (eqW a 0 = false ∧ k ≤ 0 ∧ sameB (slopeW k a a) 0 = true) ∨ (eqW a 0 = false ∧ 3 < k ∧ sameB (slopeW k a a) 0 = true) ∨ (eqW a 0 = false ∧ k = 3) ∨ (eqW a 0 = false ∧ 0 < k ∧ k < 3 ∧ sameB (slopeW k a a) a = true) := by
    by_cases h0 : mg a = 0
    · left; exact ⟨by rw [hz]; simp [h0], by rw [slope_same_no (.inl h0) hn]; rfl⟩
    · right
      have e0 : eqW a 0 = false := by rw [hz]; simp [h0]
      by_cases g1 : k ≤ 0
      · left; exact ⟨e0, g1, by rw [slope_same_no (.inr (.inl g1)) hn]; rfl⟩
      by_cases g2 : 3 < k
      · right; left; exact ⟨e0, g2, by rw [slope_same_no (.inr (.inr g2)) hn]; rfl⟩
      by_cases g3 : k = 3
      · right; right; left; exact ⟨e0, g3⟩
      · right; right; right; exact ⟨e0, by omega, by omega, by rw [slope_same ha hn h0 (by omega)]; exact sameB_self _⟩
  clear hz hn da db
  rcases hcase with ⟨z, c⟩ | ⟨z, g, c⟩ | ⟨z, g, c⟩ | ⟨z, rfl⟩ | ⟨z, g, g', c⟩
  · rcases sb with sb | ⟨sb, sb'⟩
    all_goals
      clear sa
      go_enter Try.func6, Try.ntmps6
      go_wp2_with (first | (go_at_call 7; refine (lives_any _ _ (by assumption)).mono ?_; rintro e w' ⟨rfl, hB⟩) | (go_at_call 9; refine (slope_in _ (by assumption) (by assumption) _ _ (by assumption)).mono ?_; rintro e w' ⟨rfl, hB⟩) | (go_at_call 8; refine (same_any _ _ _).mono ?_; rintro e w' ⟨rfl, rfl⟩) | (go_at_call 15; refine (magf_any _ (by assumption) _).mono ?_; rintro e w' ⟨rfl, rfl⟩))
      go_ret
      exact ⟨rfl, by assumption⟩
  all_goals
    have sa' : ltW (magW a) 3110860544497550640 = false := by
      rcases sa with h | h
      · rw [z] at h; cases h
      · exact h.2
    clear sa
    rcases sb with sb | ⟨sb, sb'⟩
    all_goals
      go_enter Try.func6, Try.ntmps6
      go_wp2_with (first | (go_at_call 7; refine (lives_any _ _ (by assumption)).mono ?_; rintro e w' ⟨rfl, hB⟩) | (go_at_call 9; refine (slope_in _ (by assumption) (by assumption) _ _ (by assumption)).mono ?_; rintro e w' ⟨rfl, hB⟩) | (go_at_call 8; refine (same_any _ _ _).mono ?_; rintro e w' ⟨rfl, rfl⟩) | (go_at_call 15; refine (magf_any _ (by assumption) _).mono ?_; rintro e w' ⟨rfl, rfl⟩))
      go_ret
      exact ⟨rfl, by assumption⟩

set_option maxHeartbeats 4000000 in
theorem limitScales_walk (k : Int) (a b : Nat) (w : World) (ha : W64 a) (hb : W64 b) :
    Calls Try.prog 6 #[.int .i64 k, .float .f64 a, .float .f64 b] w fun e w' => e = .returned (.bool true) ∧ Below w.heap.size w w' := by
  have hw0 : Below w.heap.size w w := Below.refl _ _
  rcases dom_guard ha with na | ⟨na, la⟩ | ⟨na, la, za, da⟩ | ⟨na, la, za, sa | ⟨sa, da⟩⟩
  · go_enter Try.func6, Try.ntmps6
    go_wp2_with (first | (go_at_call 7; refine (lives_any _ _ (by assumption)).mono ?_; rintro e w' ⟨rfl, hB⟩) | (go_at_call 9; refine (slope_in _ (by assumption) (by assumption) _ _ (by assumption)).mono ?_; rintro e w' ⟨rfl, hB⟩) | (go_at_call 8; refine (same_any _ _ _).mono ?_; rintro e w' ⟨rfl, rfl⟩) | (go_at_call 15; refine (magf_any _ (by assumption) _).mono ?_; rintro e w' ⟨rfl, rfl⟩))
    go_ret
    exact ⟨rfl, by assumption⟩
  all_goals
    rcases dom_guard hb with nb | ⟨nb, lb⟩ | ⟨nb, lb, zb, db⟩ | ⟨nb, lb, zb, sb | ⟨sb, db⟩⟩
    all_goals first
      | exact scale_tail k a b w ha hb na nb la lb (by first | exact .inl za | exact .inr ⟨za, sa⟩) (by first | exact .inl zb | exact .inr ⟨zb, sb⟩) da db
      | (go_enter Try.func6, Try.ntmps6; go_wp2_with (first | (go_at_call 7; refine (lives_any _ _ (by assumption)).mono ?_; rintro e w' ⟨rfl, hB⟩) | (go_at_call 15; refine (magf_any _ (by assumption) _).mono ?_; rintro e w' ⟨rfl, rfl⟩)); go_ret; exact ⟨rfl, by assumption⟩)
end Go.Proofs.Ytjbiklkjcalmkaa
