/- The statement BitsMaxMin: the greater and the lesser of two are the two again, they change about, a NaN makes both that one NaN. -/
import Derived.Test.YtcjnnhmijpnicaaBitsC
namespace Go.Proofs.Ytcjnnhmijpnicaa
open Go.RowKit TF

attribute [local go_sem] cmp_eq cmp_ne cmp_lt cmp_gt cmp_le cmp_ge

set_option maxHeartbeats 2000000 in
theorem bitsMaxMin_walk (a b : Nat) (ha : W64 a) (hb : W64 b) (w : World) :
    Calls Try.prog 6 #[.float .f64 a, .float .f64 b] w fun e w' => e = .returned (.bool true) ∧ Grown w w' := by
  have s1 := sameB_self a
  have s2 := sameB_self b
  have s3 := sameB_self 9221120237041090561
  rcases maxmin_ways ha hb with ⟨f1, m1, m2, m3, m4⟩ | ⟨f1, f2, m1, m2, m3, m4⟩ | ⟨f1, f2, ⟨f3, m1, m2, m3, m4, f4, f5⟩ | ⟨m1, m2, m3, m4, f4, f5⟩⟩
  all_goals
    go_enter Try.func6, Try.ntmps6
    go_wp2_with (first | (go_at_call 10; refine (lives_any _).mono ?_; rintro e w' ⟨rfl, rfl⟩) | (go_at_call 21; refine (max_any _ _ (by first | assumption | (show _ < 2 ^ 64; decide) | ((repeat (first | assumption | apply W64.op | apply W64.up | apply W64.down | apply W64.canon | apply W64.mg | apply W64.ulp | apply W64.max | apply W64.min)); done)) (by first | assumption | (show _ < 2 ^ 64; decide) | ((repeat (first | assumption | apply W64.op | apply W64.up | apply W64.down | apply W64.canon | apply W64.mg | apply W64.ulp | apply W64.max | apply W64.min)); done)) _).mono ?_; rintro e w' ⟨rfl, rfl⟩) | (go_at_call 22; refine (min_any _ _ (by first | assumption | (show _ < 2 ^ 64; decide) | ((repeat (first | assumption | apply W64.op | apply W64.up | apply W64.down | apply W64.canon | apply W64.mg | apply W64.ulp | apply W64.max | apply W64.min)); done)) (by first | assumption | (show _ < 2 ^ 64; decide) | ((repeat (first | assumption | apply W64.op | apply W64.up | apply W64.down | apply W64.canon | apply W64.mg | apply W64.ulp | apply W64.max | apply W64.min)); done)) _).mono ?_; rintro e w' ⟨rfl, rfl⟩) | (go_at_call 11; refine (order_any _ _ (by first | assumption | (show _ < 2 ^ 64; decide) | ((repeat (first | assumption | apply W64.op | apply W64.up | apply W64.down | apply W64.canon | apply W64.mg | apply W64.ulp | apply W64.max | apply W64.min)); done)) (by first | assumption | (show _ < 2 ^ 64; decide) | ((repeat (first | assumption | apply W64.op | apply W64.up | apply W64.down | apply W64.canon | apply W64.mg | apply W64.ulp | apply W64.max | apply W64.min)); done)) _).mono ?_; rintro e w' ⟨rfl, rfl⟩) | (go_at_call 12; refine (same_any _ _ _).mono ?_; rintro e w' ⟨rfl, rfl⟩) | (go_at_call 19; refine (by_any _ _).mono ?_; rintro e w' ⟨rfl, rfl⟩))
    go_ret
    exact ⟨rfl, Grown.refl _⟩
end Go.Proofs.Ytcjnnhmijpnicaa
