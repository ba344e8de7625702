/- The reference's Depth, Level, Fill. -/
import Derived.Test.YtjobpkomlgkakaaRefQ
import Derived.Test.YtjobpkomlgkakaaLevA
namespace Go.Proofs.Ytjobpkomlgkakaa
open Go.RowKit TF

attribute [local go_sem] cmp_eq cmp_ne cmp_lt cmp_gt cmp_le cmp_ge

theorem rdepth_any (water area : Int) (h1 : water ≤ 9223372036854775807) (h2 : area ≤ 9223372036854775807) (w : World) :
    Calls Try.prog 10 #[.int .i64 water, .int .i64 area] w fun e w' => e = .returned (.float .f64 (depthW water area)) ∧ w = w' := by
  by_cases h : water < 1 ∨ area < 1
  · rw [depth_zero h]
    rcases h with h | h
    · go_enter Try.func10, Try.ntmps10
      go_wp2_with fail
      go_ret
      exact ⟨rfl, rfl⟩
    · by_cases h3 : water < 1
      all_goals
        go_enter Try.func10, Try.ntmps10
        go_wp2_with fail
        go_ret
        exact ⟨rfl, rfl⟩
  · have D := dep_is (water := water) (area := area) (by omega) h1 (by omega) h2
    have k1 := run_valid (P := Try.prog) 24 D.run
    obtain ⟨h3, h4⟩ : ¬ water < 1 ∧ ¬ area < 1 := by omega
    clear D h
    go_enter Try.func10, Try.ntmps10
    go_wp2_with (first | (go_at_call 18; ((with_reducible refine (rfromint_any _ (by omega) (by omega) _).mono ?_)); rintro e w' ⟨rfl, rfl⟩))
    go_ret
    exact ⟨rfl, rfl⟩
theorem rlevel_any (bed : Nat) (water area : Int) (h1 : water ≤ 9223372036854775807) (h2 : area ≤ 9223372036854775807) (w : World) :
    Calls Try.prog 12 #[.float .f64 bed, .int .i64 water, .int .i64 area] w fun e w' => e = .returned (.float .f64 (levelW bed water area)) ∧ ∃ n, w' = w.drewN n := by
  rcases level_ways bed water area h1 h2 with ⟨g1, g2, e⟩ | ⟨g1, s, g2, e⟩
  · rw [e]; clear e
    obtain ⟨q, q1, q2, k1⟩ := run_invalid (P := Try.prog) 24 (.inl rfl) g2 w
    have HQ := Lib.hid (canon_of_nan q2)
    clear q1 q2 g2
    go_enter Try.func12, Try.ntmps12
    go_wp2_with (first | (go_at_call 10; ((with_reducible refine (rdepth_any _ _ (by first | assumption | omega) (by first | assumption | omega) _).mono ?_)); rintro e w' ⟨rfl, rfl⟩) | (go_at_call 20; ((with_reducible refine (rcanon_any _ _).mono ?_)); rintro e w' ⟨rfl, rfl⟩))
    go_ret
    exact ⟨ret_f64 HQ.out, 1, rfl⟩
  · rw [e]; clear e
    have k1 := run_valid (P := Try.prog) 24 g2
    clear g2
    go_enter Try.func12, Try.ntmps12
    go_wp2_with (first | (go_at_call 10; ((with_reducible refine (rdepth_any _ _ (by first | assumption | omega) (by first | assumption | omega) _).mono ?_)); rintro e w' ⟨rfl, rfl⟩) | (go_at_call 20; ((with_reducible refine (rcanon_any _ _).mono ?_)); rintro e w' ⟨rfl, rfl⟩))
    go_ret
    exact ⟨rfl, 0, rfl⟩
theorem rfill_any (bed : Nat) (area : Int) (level : Nat) (h64 : W64 bed) (h2 : area ≤ 9223372036854775807) (w : World) :
    Calls Try.prog 14 #[.float .f64 bed, .int .i64 area, .float .f64 level] w fun e w' => e = .returned (.int .i64 (fillW bed area level)) ∧ w = w' := by
  by_cases h : ltW bed level = false
  · rw [fill_none (.inl h)]
    go_enter Try.func14, Try.ntmps14
    go_wp2_with fail
    go_ret
    exact ⟨rfl, rfl⟩
  · rw [Bool.not_eq_false] at h
    by_cases h1 : area < 1
    · rw [fill_none (.inr h1)]
      go_enter Try.func14, Try.ntmps14
      go_wp2_with fail
      go_ret
      exact ⟨rfl, rfl⟩
    · obtain ⟨r, p, g1, g2, e⟩ := fill_ways h64 h (by omega : 1 ≤ area) h2
      have p64 := W64.of_wf (floatBits_wf g2)
      have k1 := run_valid (P := Try.prog) 24 g1
      have k2 := run_valid (P := Try.prog) 24 g2
      rw [← e]
      clear g1 g2 e
      go_enter Try.func14, Try.ntmps14
      go_wp2_with (first | (go_at_call 22; ((with_reducible refine (rclamp_any _ _ (by assumption) (by omega) _).mono ?_)); rintro e w' ⟨rfl, rfl⟩) | (first | (go_at_call 18; ((with_reducible refine (rfromint_any _ (by omega) (by omega) _).mono ?_)); rintro e w' ⟨rfl, rfl⟩)))
      go_ret
      exact ⟨rfl, rfl⟩
end Go.Proofs.Ytjobpkomlgkakaa
