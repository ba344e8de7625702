/- The statement BitsCanon: what has gone through Canon goes through it unchanged, Class says what the comparisons say. -/
import Derived.Test.YtcjnnhmijpnicaaBitsB
import Derived.Test.YtcjnnhmijpnicaaBitsL
import Derived.ProofKit
import Derived.OpenShut
namespace Go.Proofs.Ytcjnnhmijpnicaa
open Go.ChangeShapes Go.WideShapes Go.ChangeAt Go.RowKit TF

attribute [local go_sem] cmp_eq cmp_ne cmp_lt cmp_gt cmp_le cmp_ge

theorem finite_any (b : Nat) (hb : W64 b) (w : World) :
    Calls Try.prog 15 #[.float .f64 b] w fun e w' => e = .returned (.bool (finB b)) ∧ ∃ n, w' = w.drewN n := by
  rcases fin_ways hb with ⟨e, h⟩ | ⟨e, h⟩
  · rw [e]
    have k := run_valid (P := Try.prog) 22 h
    have k2 : eqW 0 0 = true := by decide
    clear h e
    go_enter Try.func15, Try.ntmps15
    go_wp2_with fail
    go_ret
    exact ⟨rfl, 0, rfl⟩
  · rw [e]
    obtain ⟨n, _, h2, h3⟩ := run_invalid (P := Try.prog) 22 (.inr (.inl rfl)) h w
    have k := eqW_nan h2 0
    clear h e h2
    go_enter Try.func15, Try.ntmps15
    go_wp2_with fail
    go_ret
    exact ⟨rfl, 1, rfl⟩

theorem bitsCanon_walk (x : Nat) (hx : W64 x) (w : World) :
    Calls Try.prog 5 #[.float .f64 x] w fun e w' => e = .returned (.bool true) ∧ Grown w w' := by
  have c1 : sameB (canonW (canonW x)) (canonW x) = true := by rw [canonW_canonW]; exact sameB_self _
  have c2 := class_canon x
  have c3 := class_op hx
  have c4 := run_neg Try.prog hx
  have c5 := run_neg Try.prog (b := 4503599627370496) (by decide)
  have hy : W64 (canonW x) := hx.canon
  have hz : W64 (op x) := hx.op
  rcases canon_ways x with ⟨h1, h2, h3⟩ | ⟨h1, ⟨h2, h3, h4⟩ | ⟨h2, h3, ⟨h4, h5⟩ | ⟨h4, ⟨h5, h6, h7⟩ | ⟨h5, h6, h7⟩ | ⟨h5, h6⟩⟩⟩⟩
  all_goals
    go_enter Try.func5, Try.ntmps5
    go_wp2_with (first | (go_at_call 10; refine (lives_any _).mono ?_; rintro e w' ⟨rfl, rfl⟩) | (go_at_call 17; refine (canon_any _ _).mono ?_; rintro e w' ⟨rfl, rfl⟩) | (go_at_call 18; refine (class_any _ (by first | assumption | (show _ < 2 ^ 64; decide) | ((repeat (first | assumption | apply W64.op | apply W64.up | apply W64.down | apply W64.canon | apply W64.mg | apply W64.ulp | apply W64.max | apply W64.min)); done)) _).mono ?_; rintro e w' ⟨rfl, rfl⟩) | (go_at_call 12; refine (same_any _ _ _).mono ?_; rintro e w' ⟨rfl, rfl⟩) | (go_at_call 19; refine (by_any _ _).mono ?_; rintro e w' ⟨rfl, rfl⟩) | (go_at_call 20; refine (from_any _ _).mono ?_; rintro e w' ⟨rfl, rfl⟩) | (go_at_call 15; refine (finite_any _ (by assumption) _).mono ?_; rintro e w' ⟨rfl, n, rfl⟩))
    go_ret
    first | exact ⟨rfl, grown_drewN _ _⟩ | exact ⟨rfl, Grown.refl _⟩
end Go.Proofs.Ytcjnnhmijpnicaa
