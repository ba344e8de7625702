/- The statement BitsOrder: Order goes one way, on from one to the next, and says the same of the same bits alone; where no NaN and no two noughts are, it is what the comparisons say. -/
import Derived.Test.YtcjnnhmijpnicaaBitsC
namespace Go.Proofs.Ytcjnnhmijpnicaa
open Go.RowKit TF

attribute [local go_sem] cmp_eq cmp_ne cmp_lt cmp_gt cmp_le cmp_ge

set_option maxHeartbeats 2000000 in
theorem bitsOrder_walk (a b c : Nat) (ha : W64 a) (hb : W64 b) (hc : W64 c) (w : World) :
    Calls Try.prog 3 #[.float .f64 a, .float .f64 b, .float .f64 c] w fun e w' => e = .returned (.bool true) ∧ Grown w w' := by
  have k0 := order_self a
  rcases order_tri ha hb with ⟨n1, n2, n3, n4, n5⟩ | ⟨rfl, n1, n2, n3⟩ | ⟨n1, n2, n3, n4, n5⟩
  · have t := order_trans a b c (by omega)
    have f := order_end ha hb
    rw [decide_eq_true n5, decide_eq_false (by omega)] at f
    clear n4 n5
    rcases t with t1 | ⟨t1, t2⟩
    all_goals
      rcases f with f1 | ⟨f1, f2⟩ | ⟨f1, f2, f3, f4⟩ | ⟨f1, f2, ⟨f3, f4, f5⟩ | ⟨f3, f4, f5, f6⟩⟩
      all_goals
        go_enter Try.func3, Try.ntmps3
        go_wp2_with (first | (go_at_call 10; refine (lives_any _).mono ?_; rintro e w' ⟨rfl, rfl⟩) | (go_at_call 11; refine (order_any _ _ (by first | assumption | (show _ < 2 ^ 64; decide) | ((repeat (first | assumption | apply W64.op | apply W64.up | apply W64.down | apply W64.canon | apply W64.mg | apply W64.ulp | apply W64.max | apply W64.min)); done)) (by first | assumption | (show _ < 2 ^ 64; decide) | ((repeat (first | assumption | apply W64.op | apply W64.up | apply W64.down | apply W64.canon | apply W64.mg | apply W64.ulp | apply W64.max | apply W64.min)); done)) _).mono ?_; rintro e w' ⟨rfl, rfl⟩) | (go_at_call 12; refine (same_any _ _ _).mono ?_; rintro e w' ⟨rfl, rfl⟩))
        go_ret
        exact ⟨rfl, Grown.refl _⟩
  · have t := order_trans a a c (by omega)
    have f := order_end_self a
    clear n2
    rcases t with t1 | ⟨t1, t2⟩
    all_goals
      rcases f with f1 | ⟨f1, f2⟩ | ⟨f1, f2, f3⟩
      all_goals
        go_enter Try.func3, Try.ntmps3
        go_wp2_with (first | (go_at_call 10; refine (lives_any _).mono ?_; rintro e w' ⟨rfl, rfl⟩) | (go_at_call 11; refine (order_any _ _ (by first | assumption | (show _ < 2 ^ 64; decide) | ((repeat (first | assumption | apply W64.op | apply W64.up | apply W64.down | apply W64.canon | apply W64.mg | apply W64.ulp | apply W64.max | apply W64.min)); done)) (by first | assumption | (show _ < 2 ^ 64; decide) | ((repeat (first | assumption | apply W64.op | apply W64.up | apply W64.down | apply W64.canon | apply W64.mg | apply W64.ulp | apply W64.max | apply W64.min)); done)) _).mono ?_; rintro e w' ⟨rfl, rfl⟩) | (go_at_call 12; refine (same_any _ _ _).mono ?_; rintro e w' ⟨rfl, rfl⟩))
        go_ret
        exact ⟨rfl, Grown.refl _⟩
  · have f := order_end ha hb
    rw [decide_eq_true n5, decide_eq_false (by omega)] at f
    clear n4 n5
    rcases f with f1 | ⟨f1, f2⟩ | ⟨f1, f2, f3, f4⟩ | ⟨f1, f2, ⟨f3, f4, f5⟩ | ⟨f3, f4, f5, f6⟩⟩
    all_goals
      go_enter Try.func3, Try.ntmps3
      go_wp2_with (first | (go_at_call 10; refine (lives_any _).mono ?_; rintro e w' ⟨rfl, rfl⟩) | (go_at_call 11; refine (order_any _ _ (by first | assumption | (show _ < 2 ^ 64; decide) | ((repeat (first | assumption | apply W64.op | apply W64.up | apply W64.down | apply W64.canon | apply W64.mg | apply W64.ulp | apply W64.max | apply W64.min)); done)) (by first | assumption | (show _ < 2 ^ 64; decide) | ((repeat (first | assumption | apply W64.op | apply W64.up | apply W64.down | apply W64.canon | apply W64.mg | apply W64.ulp | apply W64.max | apply W64.min)); done)) _).mono ?_; rintro e w' ⟨rfl, rfl⟩) | (go_at_call 12; refine (same_any _ _ _).mono ?_; rintro e w' ⟨rfl, rfl⟩))
      go_ret
      exact ⟨rfl, Grown.refl _⟩
end Go.Proofs.Ytcjnnhmijpnicaa
