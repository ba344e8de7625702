/- What is fixed: awake. -/
import Derived.Test.YthncemlldkdkiaaConvC
namespace Go.Proofs.Ythncemlldkdkiaa
open Go.RowKit TF

attribute [local go_sem] cmp_eq cmp_ne cmp_lt cmp_gt cmp_le cmp_ge

theorem awake_any (w : World) :
    Calls Try.prog 9 #[] w fun e w' => e = .returned (.bool true) ∧ ∃ n, w' = w.drewN n := by
  have k1 : (roundI 4615063718147915776).1 = 4 := by kernel_rfl
  have k2 : (roundI 4615063718147915776).2 = true := by kernel_rfl
  have k3 : (floorI 13826050856027422720).1 = -1 := by kernel_rfl
  have k4 : (floorI 13826050856027422720).2 = true := by kernel_rfl
  have k5 : clampI 9094988921128908188 100 = 100 := by kernel_rfl
  have k6 : eqW (floatOfInt .f64 (-3)) 13837309855095848960 = true := by kernel_rfl
  have k7 : ((to32 4591870180066957722 : Nat) : Int) = 1036831949 := by kernel_rfl
  have k8 : eqW (from32 1065353216) 4607182418800017408 = true := by kernel_rfl
  have k9 : ((to16 4591870180066957722 : Nat) : Int) = 11878 := by kernel_rfl
  have k10 : eqW (from16 15360) 4607182418800017408 = true := by kernel_rfl
  have z1 : W64 4615063718147915776 := by show _ < 2 ^ 64; decide
  have z2 : W64 9094988921128908188 := by show _ < 2 ^ 64; decide
  have z3 : W64 4591870180066957722 := by show _ < 2 ^ 64; decide
  go_enter Try.func9, Try.ntmps9
  go_wp2_with (first | (go_at_call 10; ((with_reducible refine (round_any _ (by assumption) _).mono ?_)); rintro e w' ⟨rfl, rfl⟩) | (go_at_call 12; ((with_reducible refine (floor_conv _ _).mono ?_)); rintro e w' ⟨rfl, n, rfl⟩) | (go_at_call 14; ((with_reducible refine (clamp_any _ _ (by assumption) (by first | assumption | omega) _).mono ?_)); rintro e w' ⟨rfl, rfl⟩) | (go_at_call 17; ((with_reducible refine (fromint_any _ _).mono ?_)); rintro e w' ⟨rfl, rfl⟩) | (go_at_call 19; ((with_reducible refine (to32_any _ (by assumption) _).mono ?_)); rintro e w' ⟨rfl, rfl⟩) | (go_at_call 23; ((with_reducible refine (to16_any _ (by assumption) _).mono ?_)); rintro e w' ⟨rfl, rfl⟩) | (go_at_call 21; ((with_reducible refine (from32_any _ (by first | assumption | omega) (by first | assumption | omega) _).mono ?_)); rintro e w' ⟨rfl, rfl⟩) | (go_at_call 25; ((with_reducible refine (from16_any _ (by first | assumption | omega) (by first | assumption | omega) _).mono ?_)); rintro e w' ⟨rfl, rfl⟩))
  go_ret
  exact ⟨rfl, _, rfl⟩
end Go.Proofs.Ythncemlldkdkiaa
