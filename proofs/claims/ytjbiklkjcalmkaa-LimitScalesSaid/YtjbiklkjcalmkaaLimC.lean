/- What the statements of limit call besides. -/
import Derived.Test.YtjbiklkjcalmkaaLimB
import Derived.Test.YtjbiklkjcalmkaaLimT
namespace Go.Proofs.Ytjbiklkjcalmkaa
open Go.RowKit TF

attribute [local go_sem] cmp_eq cmp_ne cmp_lt cmp_gt cmp_le cmp_ge

/-- An operation that is not valid, in whatever world: the NaN that is drawn, as a function of the world. -/
theorem run_nan {o : BinOp} (t : TypeId) {x y : Nat} (ho : o = .add ∨ o = .sub ∨ o = .mul ∨ o = .quo) (h : floatBits o .f64 x y = none) :
    ∃ f : World → Nat, (∀ w, W64 (f w)) ∧ (∀ w, finB (f w) = false) ∧ ∀ w, (binOp o t (.float .f64 x) (.float .f64 y)).run Try.prog w = .ok (.float .f64 (f w)) w.drew := by
  have k := fun w => run_invalid (P := Try.prog) t ho h w
  exact ⟨fun w => Classical.choose (k w), fun w => (Classical.choose_spec (k w)).1, fun w => finB_false.2 (Nat.le_of_lt (Classical.choose_spec (k w)).2.1), fun w => (Classical.choose_spec (k w)).2.2⟩

theorem slope_in (k : Int) {a b : Nat} (ha : W64 a) (hb : W64 b) (w0 w : World) (hw : Below w0.heap.size w0 w) :
    Calls Try.prog 9 #[.int .i64 k, .float .f64 a, .float .f64 b] w fun e w' => e = .returned (.float .f64 (slopeW k a b)) ∧ Below w0.heap.size w0 w' :=
  (slope_any k ha hb w).mono fun _ _ ⟨h1, h2⟩ => ⟨h1, hw.trans (h2.mono hw.size)⟩
theorem same_any (a b : Nat) (w : World) :
    Calls Try.prog 8 #[.float .f64 a, .float .f64 b] w fun e w' => e = .returned (.bool (sameB a b)) ∧ w = w' := by
  go_enter Try.func8, Try.ntmps8
  go_wp2_with (go_at_call 17; refine (rsame_any _ _ _).mono ?_; rintro e w' ⟨rfl, rfl⟩)
  go_ret
  exact ⟨rfl, rfl⟩
theorem finite_any (b : Nat) (hb : W64 b) (w : World) :
    Calls Try.prog 14 #[.float .f64 b] w fun e w' => e = .returned (.bool (finB b)) ∧ ∃ n, w' = w.drewN n := by
  rcases fin_ways hb with ⟨e, h⟩ | ⟨e, h⟩
  · rw [e]
    have k := run_valid (P := Try.prog) 25 h
    have k2 : eqW 0 0 = true := by decide
    clear h e
    go_enter Try.func14, Try.ntmps14
    go_wp2_with fail
    go_ret
    exact ⟨rfl, 0, rfl⟩
  · rw [e]
    obtain ⟨n, _, h2, h3⟩ := run_invalid (P := Try.prog) 25 (.inr (.inl rfl)) h w
    have k := eqW_nan h2 0
    clear h e h2
    go_enter Try.func14, Try.ntmps14
    go_wp2_with fail
    go_ret
    exact ⟨rfl, 1, rfl⟩

set_option maxRecDepth 100000 in
theorem lives_any (w0 w : World) (hw : Below w0.heap.size w0 w) : Calls Try.prog 7 #[] w fun e w' => e = .returned (.bool true) ∧ Below w0.heap.size w0 w' := by
  have k1 : sameB (slopeW 1 13830554455654793216 13837309855095848960) 13830554455654793216 = true := by kernel_rfl
  have k2 : sameB (slopeW 2 4607182418800017408 4613937818241073152) 4611686018427387904 = true := by kernel_rfl
  have k3 : sameB (slopeW 3 4607182418800017408 4613937818241073152) 4609434218613702656 = true := by kernel_rfl
  have k4 : sameB (slopeW 0 4607182418800017408 4613937818241073152) 0 = true := by kernel_rfl
  have k5 : validK 3 = true := by kernel_rfl
  have k6 : validK 4 = false := by kernel_rfl
  have c1 : W64 13830554455654793216 := show _ < 2 ^ 64 by decide
  have c2 : W64 13837309855095848960 := show _ < 2 ^ 64 by decide
  have c3 : W64 4607182418800017408 := show _ < 2 ^ 64 by decide
  have c4 : W64 4613937818241073152 := show _ < 2 ^ 64 by decide
  go_enter Try.func7, Try.ntmps7
  go_wp2_with (first | (go_at_call 9; refine (slope_in _ (by first | assumption | exact slopeW_lt _ (by assumption) (by assumption)) (by assumption) _ _ (by assumption)).mono ?_; rintro e w' ⟨rfl, hB⟩) | (go_at_call 8; refine (same_any _ _ _).mono ?_; rintro e w' ⟨rfl, rfl⟩) | (go_at_call 11; refine (valid_any _ _).mono ?_; rintro e w' ⟨rfl, rfl⟩))
  go_ret
  exact ⟨rfl, by assumption⟩
end Go.Proofs.Ytjbiklkjcalmkaa
