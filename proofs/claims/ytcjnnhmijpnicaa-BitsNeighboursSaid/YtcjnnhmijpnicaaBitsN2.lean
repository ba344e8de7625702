/- The statement BitsNeighbours: of a finite float the neighbours are less and greater, no float lies between, the step to the greater one is Ulp. -/
import Derived.Test.YtcjnnhmijpnicaaBitsC
import Derived.Test.YtcjnnhmijpnicaaBitsN
namespace Go.Proofs.Ytcjnnhmijpnicaa
open Go.RowKit TF

attribute [local go_sem] cmp_eq cmp_ne cmp_lt cmp_gt cmp_le cmp_ge

theorem ret_grown' {w : World} {n : Nat} : Ending.returned (.bool true) = .returned (.bool true) ∧ Grown w (w.drewN n) := ⟨rfl, grown_drewN _ _⟩

set_option maxRecDepth 100000 in
set_option maxHeartbeats 4000000 in
theorem bitsNeighbours_walk (x : Nat) (hx : W64 x) (w : World) :
    Calls Try.prog 7 #[.float .f64 x] w fun e w' => e = .returned (.bool true) ∧ Grown w w' := by
  rcases neigh_ways hx with ⟨h1, h2, h3, h4⟩ | ⟨h1, h2, ⟨h3, h4, h5, h6⟩ | ⟨h3, h4, h5, h6, h7⟩⟩ | ⟨h1, h2, h3, h4, h5, h6⟩
  · go_enter Try.func7, Try.ntmps7
    go_wp2_with (first | (go_at_call 10; refine (lives_any _).mono ?_; rintro e w' ⟨rfl, rfl⟩) | (go_at_call 16; refine (up_any _ (by first | assumption | (show _ < 2 ^ 64; decide) | ((repeat (first | assumption | apply W64.op | apply W64.up | apply W64.down | apply W64.canon | apply W64.mg | apply W64.ulp | apply W64.max | apply W64.min)); done)) _).mono ?_; rintro e w' ⟨rfl, rfl⟩) | (go_at_call 23; refine (down_any _ (by first | assumption | (show _ < 2 ^ 64; decide) | ((repeat (first | assumption | apply W64.op | apply W64.up | apply W64.down | apply W64.canon | apply W64.mg | apply W64.ulp | apply W64.max | apply W64.min)); done)) _).mono ?_; rintro e w' ⟨rfl, rfl⟩) | (go_at_call 15; refine (finite_any _ (by first | assumption | (show _ < 2 ^ 64; decide) | ((repeat (first | assumption | apply W64.op | apply W64.up | apply W64.down | apply W64.canon | apply W64.mg | apply W64.ulp | apply W64.max | apply W64.min)); done)) _).mono ?_; rintro e w' ⟨rfl, n, rfl⟩))
    go_ret
    exact ret_grown'
  · go_enter Try.func7, Try.ntmps7
    go_wp2_with (first | (go_at_call 10; refine (lives_any _).mono ?_; rintro e w' ⟨rfl, rfl⟩) | (go_at_call 16; refine (up_any _ (by first | assumption | (show _ < 2 ^ 64; decide) | ((repeat (first | assumption | apply W64.op | apply W64.up | apply W64.down | apply W64.canon | apply W64.mg | apply W64.ulp | apply W64.max | apply W64.min)); done)) _).mono ?_; rintro e w' ⟨rfl, rfl⟩) | (go_at_call 23; refine (down_any _ (by first | assumption | (show _ < 2 ^ 64; decide) | ((repeat (first | assumption | apply W64.op | apply W64.up | apply W64.down | apply W64.canon | apply W64.mg | apply W64.ulp | apply W64.max | apply W64.min)); done)) _).mono ?_; rintro e w' ⟨rfl, rfl⟩) | (go_at_call 15; refine (finite_any _ (by first | assumption | (show _ < 2 ^ 64; decide) | ((repeat (first | assumption | apply W64.op | apply W64.up | apply W64.down | apply W64.canon | apply W64.mg | apply W64.ulp | apply W64.max | apply W64.min)); done)) _).mono ?_; rintro e w' ⟨rfl, n, rfl⟩) | (go_at_call 12; refine (same_any _ _ _).mono ?_; rintro e w' ⟨rfl, rfl⟩) | (go_at_call 18; refine (class_any _ (by first | assumption | (show _ < 2 ^ 64; decide) | ((repeat (first | assumption | apply W64.op | apply W64.up | apply W64.down | apply W64.canon | apply W64.mg | apply W64.ulp | apply W64.max | apply W64.min)); done)) _).mono ?_; rintro e w' ⟨rfl, rfl⟩))
    go_ret
    exact ret_grown'
  · go_enter Try.func7, Try.ntmps7
    go_wp2_with (first | (go_at_call 10; refine (lives_any _).mono ?_; rintro e w' ⟨rfl, rfl⟩) | (go_at_call 16; refine (up_any _ (by first | assumption | (show _ < 2 ^ 64; decide) | ((repeat (first | assumption | apply W64.op | apply W64.up | apply W64.down | apply W64.canon | apply W64.mg | apply W64.ulp | apply W64.max | apply W64.min)); done)) _).mono ?_; rintro e w' ⟨rfl, rfl⟩) | (go_at_call 23; refine (down_any _ (by first | assumption | (show _ < 2 ^ 64; decide) | ((repeat (first | assumption | apply W64.op | apply W64.up | apply W64.down | apply W64.canon | apply W64.mg | apply W64.ulp | apply W64.max | apply W64.min)); done)) _).mono ?_; rintro e w' ⟨rfl, rfl⟩) | (go_at_call 15; refine (finite_any _ (by first | assumption | (show _ < 2 ^ 64; decide) | ((repeat (first | assumption | apply W64.op | apply W64.up | apply W64.down | apply W64.canon | apply W64.mg | apply W64.ulp | apply W64.max | apply W64.min)); done)) _).mono ?_; rintro e w' ⟨rfl, n, rfl⟩) | (go_at_call 12; refine (same_any _ _ _).mono ?_; rintro e w' ⟨rfl, rfl⟩) | (go_at_call 18; refine (class_any _ (by first | assumption | (show _ < 2 ^ 64; decide) | ((repeat (first | assumption | apply W64.op | apply W64.up | apply W64.down | apply W64.canon | apply W64.mg | apply W64.ulp | apply W64.max | apply W64.min)); done)) _).mono ?_; rintro e w' ⟨rfl, rfl⟩))
    go_ret
    exact ret_grown'
  · have hf : mg x < Ieee.double.infRung := by rw [show Ieee.double.infRung = INF from by decide]; exact finB_true.1 h1
    have hf' : mg x < INF := finB_true.1 h1
    obtain ⟨d, e, m, m1, m2, m3, m4⟩ := mid_ways hx hf'
    have k1 := run_valid (P := Try.prog) 22 m1
    have k2 := run_valid (P := Try.prog) 22 m2
    have k3 := run_valid (P := Try.prog) 22 m3
    have st := step_ways hx hf'
    clear hf hf' m1 m2 m3
    rcases st with ⟨s1, s, s2, s3⟩ | ⟨s1, s, s2, s3⟩
    all_goals
      have k4 := run_valid (P := Try.prog) 22 s2
      clear s2
      rcases h6 with h6 | ⟨h6, h7⟩
      all_goals simp only [h6, Bool.or_true, Bool.or_false, Bool.true_eq_false] at s1
      all_goals
        try rcases h7 with h7 | ⟨h7, h8⟩
        all_goals
          rcases m4 with m4 | ⟨m4, m5 | ⟨m5, m6⟩⟩
          all_goals
            go_enter Try.func7, Try.ntmps7
            go_wp2_with (first | (go_at_call 10; refine (lives_any _).mono ?_; rintro e w' ⟨rfl, rfl⟩) | (go_at_call 16; refine (up_any _ (by first | assumption | (show _ < 2 ^ 64; decide) | ((repeat (first | assumption | apply W64.op | apply W64.up | apply W64.down | apply W64.canon | apply W64.mg | apply W64.ulp | apply W64.max | apply W64.min)); done)) _).mono ?_; rintro e w' ⟨rfl, rfl⟩) | (go_at_call 23; refine (down_any _ (by first | assumption | (show _ < 2 ^ 64; decide) | ((repeat (first | assumption | apply W64.op | apply W64.up | apply W64.down | apply W64.canon | apply W64.mg | apply W64.ulp | apply W64.max | apply W64.min)); done)) _).mono ?_; rintro e w' ⟨rfl, rfl⟩) | (go_at_call 15; refine (finite_any _ (by first | assumption | (show _ < 2 ^ 64; decide) | ((repeat (first | assumption | apply W64.op | apply W64.up | apply W64.down | apply W64.canon | apply W64.mg | apply W64.ulp | apply W64.max | apply W64.min)); done)) _).mono ?_; rintro e w' ⟨rfl, n, rfl⟩) | (go_at_call 12; refine (same_any _ _ _).mono ?_; rintro e w' ⟨rfl, rfl⟩) | (go_at_call 18; refine (class_any _ (by first | assumption | (show _ < 2 ^ 64; decide) | ((repeat (first | assumption | apply W64.op | apply W64.up | apply W64.down | apply W64.canon | apply W64.mg | apply W64.ulp | apply W64.max | apply W64.min)); done)) _).mono ?_; rintro e w' ⟨rfl, rfl⟩) | (go_at_call 13; refine (between_any _ _ (by first | assumption | (show _ < 2 ^ 64; decide) | ((repeat (first | assumption | apply W64.op | apply W64.up | apply W64.down | apply W64.canon | apply W64.mg | apply W64.ulp | apply W64.max | apply W64.min)); done)) (by first | assumption | (show _ < 2 ^ 64; decide) | ((repeat (first | assumption | apply W64.op | apply W64.up | apply W64.down | apply W64.canon | apply W64.mg | apply W64.ulp | apply W64.max | apply W64.min)); done)) _).mono ?_; rintro e w' ⟨rfl, rfl⟩) | (go_at_call 24; refine (ulp_any _ (by first | assumption | (show _ < 2 ^ 64; decide) | ((repeat (first | assumption | apply W64.op | apply W64.up | apply W64.down | apply W64.canon | apply W64.mg | apply W64.ulp | apply W64.max | apply W64.min)); done)) _).mono ?_; rintro e w' ⟨rfl, n, rfl⟩))
            go_ret
            exact ret_grown'
end Go.Proofs.Ytcjnnhmijpnicaa
