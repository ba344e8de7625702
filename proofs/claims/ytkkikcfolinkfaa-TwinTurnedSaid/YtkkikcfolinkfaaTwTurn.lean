/- The statement TwinTurned: the other order, the other signs. -/
import Derived.Test.YtkkikcfolinkfaaTwE
import Derived.Test.YtkkikcfolinkfaaTwinU
namespace Go.Proofs.Ytkkikcfolinkfaa
open Go.RowKit TF

attribute [local go_sem] cmp_eq cmp_ne cmp_lt cmp_gt cmp_le cmp_ge

theorem same_self (p : Nat × Nat) : (sameB p.1 p.1 && sameB p.2 p.2) = true := by simp [sameB_self]

set_option maxRecDepth 100000 in
set_option maxHeartbeats 2000000 in
theorem twinTurned_walk (a b : Nat) (ha : W64 a) (hb : W64 b) (w : World) :
    Calls Try.prog 8 #[.float .f64 a, .float .f64 b] w fun e w' => e = .returned (.bool true) ∧ Grown w w' := by
  have c1 := run_neg Try.prog ha
  have c2 := run_neg Try.prog hb
  have c3 := run_neg Try.prog (sumW_lt a b).1
  have c4 := run_neg Try.prog (sumW_lt a b).2
  have c5 := run_neg Try.prog (prodW_lt a b).1
  have c6 := run_neg Try.prog (prodW_lt a b).2
  have ha' : W64 (op a) := ha.op
  have hb' : W64 (op b) := hb.op
  have e1 := sumW_comm a b
  have e2 := sumW_op ha hb
  have e3 := prodW_comm a b
  have e4 := prodW_op ha hb
  have s1 := same_self (sumW a b)
  have s2 := same_self (prodW a b)
  have s3 := same_self (canonW (op (sumW a b).1), canonW (op (sumW a b).2))
  have s4 := same_self (canonW (op (prodW a b).1), canonW (op (prodW a b).2))
  simp only at s3 s4
  go_enter Try.func8, Try.ntmps8
  go_wp2_with (first | (go_at_call 11; refine (awake_any _).mono ?_; rintro e w' ⟨rfl, rfl⟩) | (go_at_call 12; refine (sum_any _ _ (by assumption) (by assumption) _).mono ?_; rintro e w' ⟨rfl, n, rfl⟩) | (go_at_call 15; refine (product_any _ _ (by assumption) (by assumption) _).mono ?_; rintro e w' ⟨rfl, n, rfl⟩) | (go_at_call 14; refine (same_any _ _ _ _ _).mono ?_; rintro e w' ⟨rfl, rfl⟩) | (go_at_call 21; refine (canon_any _ _).mono ?_; rintro e w' ⟨rfl, rfl⟩))
  go_ret
  exact ⟨rfl, grown_drewN _ _⟩
end Go.Proofs.Ytkkikcfolinkfaa
