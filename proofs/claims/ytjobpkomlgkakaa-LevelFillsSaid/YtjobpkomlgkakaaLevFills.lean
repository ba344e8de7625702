/- The statement LevelFills: bounds and order of what is filled in. -/
import Derived.Test.YtjobpkomlgkakaaLevA
import Derived.Test.YtjobpkomlgkakaaOpenF
namespace Go.Proofs.Ytjobpkomlgkakaa
open Go Go.RowKit TF

attribute [local go_sem] cmp_eq cmp_ne cmp_lt cmp_gt cmp_le cmp_ge

set_option maxHeartbeats 4000000 in
theorem levelFills_walk (bed : Nat) (water area : Int) (level other : Nat) (w : World) (hb : W64 bed) (_ : (Lit.int .i64 water).wf = true) (hwa : (Lit.int .i64 area).wf = true) (_ : W64 level) (ho : W64 other) :
    Calls Try.prog 5 #[.agg #[.float .f64 bed, .int .i64 water, .int .i64 area, .float .f64 level], .float .f64 other] w fun e w' => e = .returned (.bool true) ∧ Below w.heap.size w w' := by
  have ha := int_hi hwa
  clear hwa
  obtain ⟨F, hF⟩ : ∃ F, F = fillW bed area level := ⟨_, rfl⟩
  obtain ⟨U, hU⟩ : ∃ F, F = fillW bed area other := ⟨_, rfl⟩
  obtain ⟨G, hG⟩ : ∃ F, F = fillW other area level := ⟨_, rfl⟩
  have K1 := Lib.hid fun w => (by rw [hF]; exact fill_any bed area level hb ha w : Calls Try.prog 13 #[.float .f64 bed, .int .i64 area, .float .f64 level] w fun e w' => e = .returned (.int .i64 F) ∧ w = w')
  have K2 := Lib.hid fun w => (by rw [hU]; exact fill_any bed area other hb ha w : Calls Try.prog 13 #[.float .f64 bed, .int .i64 area, .float .f64 other] w fun e w' => e = .returned (.int .i64 U) ∧ w = w')
  have K3 := Lib.hid fun w => (by rw [hG]; exact fill_any other area level ho ha w : Calls Try.prog 13 #[.float .f64 other, .int .i64 area, .float .f64 level] w fun e w' => e = .returned (.int .i64 G) ∧ w = w')
  have f0 := fill_bound bed area level
  have f1 : 0 < F → ltW bed level = true ∧ ¬ area < 1 := fun h => by
    rw [hF] at h; unfold fillW at h
    by_cases hc : ltW bed level = true ∧ 1 ≤ area
    · exact ⟨hc.1, by omega⟩
    · rw [if_neg hc] at h; omega
  have f2 : (ltW level other || eqW other level) = true → F ≤ U := fun h => by
    rw [hF, hU]; refine fill_up ?_; rw [le_or, eq_comm' level other]; exact h
  have f3 : (ltW bed other || eqW other bed) = true → G ≤ F := fun h => by
    rw [hF, hG]; refine fill_high ?_; rw [le_or, eq_comm' bed other]; exact h
  rw [← hF] at f0
  obtain ⟨f4, f5⟩ := f0
  clear hF hU hG ha hb ho
  by_cases h0 : 0 < F
  · obtain ⟨g1, g2⟩ := f1 h0
    clear f1
    cases c1 : (ltW level other || eqW other level) <;> cases c2 : (ltW bed other || eqW other bed)
    all_goals
      try (have f2' := f2 c1)
      try (have f3' := f3 c2)
      clear f2 f3
      go_enter Try.func5, Try.ntmps5
      go_wp2_with (first | (go_at_call 7; ((with_reducible refine (awake_any _).mono ?_)); rintro e w' ⟨rfl, n, rfl⟩) | (go_at_call 13; (first | ((with_reducible refine (K1.out _).mono ?_)) | ((with_reducible refine (K2.out _).mono ?_)) | ((with_reducible refine (K3.out _).mono ?_))); rintro e w' ⟨rfl, rfl⟩))
      go_ret
      exact ⟨rfl, below_box _ _ _⟩
  · clear f1
    cases c1 : (ltW level other || eqW other level) <;> cases c2 : (ltW bed other || eqW other bed)
    all_goals
      try (have f2' := f2 c1)
      try (have f3' := f3 c2)
      clear f2 f3
      go_enter Try.func5, Try.ntmps5
      go_wp2_with (first | (go_at_call 7; ((with_reducible refine (awake_any _).mono ?_)); rintro e w' ⟨rfl, n, rfl⟩) | (go_at_call 13; (first | ((with_reducible refine (K1.out _).mono ?_)) | ((with_reducible refine (K2.out _).mono ?_)) | ((with_reducible refine (K3.out _).mono ?_))); rintro e w' ⟨rfl, rfl⟩))
      go_ret
      exact ⟨rfl, below_box _ _ _⟩
end Go.Proofs.Ytjobpkomlgkakaa
