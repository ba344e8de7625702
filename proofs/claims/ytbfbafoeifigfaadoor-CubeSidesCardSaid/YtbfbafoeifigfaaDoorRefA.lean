/- The reference's numbers. -/
import Derived.Test.YtbfbafoeifigfaaDoorCubeA
namespace Go.Proofs.YtbfbafoeifigfaaDoor
open Go.RowKit TF

theorem rcells_any (n : Int) (w : World) :
    Calls Tryd.prog 15 #[.int .i64 n] w fun e w' => e = .returned (.int .i64 (cellsI n)) ∧ w = w' := by
  rcases good_cases n with ⟨e, h⟩ | ⟨e, h1, h2⟩ | ⟨e, h1, h2⟩
  · have hc : cellsI n = 0 := by simp [cellsI, e]
    rw [hc]; clear e hc
    go_enter Tryd.func15, Tryd.ntmps15
    go_wp2_with fail
    go_ret
    exact ⟨rfl, rfl⟩
  · have hc : cellsI n = 0 := by simp [cellsI, e]
    rw [hc]; clear e hc
    go_enter Tryd.func15, Tryd.ntmps15
    go_wp2_with fail
    go_ret
    exact ⟨rfl, rfl⟩
  · have hc : cellsI n = 6 * n * n := by simp [cellsI, e]
    have hb := sq_le h1 h2
    have hq := six_sq n
    rw [hc]; clear e hc
    have h3 : 0 ≤ 6 * n * n := by omega
    have h4 : 6 * n * n ≤ 6144 := by omega
    clear hq hb
    go_enter Tryd.func15, Tryd.ntmps15
    go_wp2_with fail
    go_ret
    exact ⟨rfl, rfl⟩
theorem rcell_any (n f i j : Int) (w : World) :
    Calls Tryd.prog 17 #[.int .i64 n, .int .i64 f, .int .i64 i, .int .i64 j] w fun e w' => e = .returned (.int .i64 (cellI n f i j)) ∧ w = w' := by
  have hz : (goodB n = false ∧ cellsI n = 0) ∨ (goodB n = true ∧ ¬ cellsI n = 0) := by
    rcases good_cases n with ⟨e, h⟩ | ⟨e, h1, h2⟩ | ⟨e, h1, h2⟩
    · left; exact ⟨e, by simp [cellsI, e]⟩
    · left; exact ⟨e, by simp [cellsI, e]⟩
    · right
      have hb := sq_le h1 h2
      have hq := six_sq n
      exact ⟨e, by simp [cellsI, e]; omega⟩
  rcases cell_cases n f i j with ⟨e, C⟩ | ⟨e, g, h1, h2, h3, h4, h5, h6, C⟩
  · rw [e]; clear e
    rcases hz with ⟨hg, hz⟩ | ⟨hg, hz⟩
    · clear C
      go_enter Tryd.func17, Tryd.ntmps17
      go_wp2_with (go_at_call 15; refine (rcells_any _ _).mono ?_; rintro e w' ⟨rfl, rfl⟩; (try rw [hz]))
      go_ret
      exact ⟨rfl, rfl⟩
    · have hzb : (cellsI n == 0) = false := by simpa using hz
      rcases C with g | ⟨g, h⟩ | ⟨g, h1, h⟩ | ⟨g, h1, h2, h⟩ | ⟨g, h1, h2, h3, h⟩ | ⟨g, h1, h2, h3, h4, h⟩ | ⟨g, h1, h2, h3, h4, h5, h⟩
      · rw [hg] at g; exact absurd g (by decide)
      all_goals
        go_enter Tryd.func17, Tryd.ntmps17
        go_wp2_with (go_at_call 15; refine (rcells_any _ _).mono ?_; rintro e w' ⟨rfl, rfl⟩)
        go_ret
        exact ⟨rfl, rfl⟩
  · rw [e]; clear e
    obtain ⟨c1, c2, c3, c4, c5, c6⟩ := C
    rcases hz with ⟨hg, hz⟩ | ⟨hg, hz⟩
    · rw [hg] at g; exact absurd g (by decide)
    · have hzb : (cellsI n == 0) = false := by simpa using hz
      go_enter Tryd.func17, Tryd.ntmps17
      go_wp2_with (go_at_call 15; refine (rcells_any _ _).mono ?_; rintro e w' ⟨rfl, rfl⟩)
      go_ret
      exact ⟨rfl, rfl⟩
theorem rplace_any (n c : Int) (w : World) :
    Calls Tryd.prog 13 #[.int .i64 n, .int .i64 c] w fun e w' => e = .returned (.tuple #[.int .i64 (placeI n c).1, .int .i64 (placeI n c).2.1, .int .i64 (placeI n c).2.2.1, .bool (placeI n c).2.2.2]) ∧ ∃ k, w' = w.drewN k := by
  rcases place_cases n c with ⟨e, C⟩ | ⟨e, h1, h2, h3, h4, h5, h6, h7⟩
  · rw [e]; clear e
    rcases C with h | ⟨h1, h2⟩
    all_goals
      go_enter Tryd.func13, Tryd.ntmps13
      go_wp2_with (go_at_call 15; refine (rcells_any _ _).mono ?_; rintro e w' ⟨rfl, rfl⟩)
      exact bodyPost_ret (v := .tuple #[.int .i64 0, .int .i64 0, .int .i64 0, .bool false]) (by simp [results, Tryd.results13, go_sem]) rfl ⟨rfl, 0, rfl⟩
  · rw [e]; clear e
    go_enter Tryd.func13, Tryd.ntmps13
    go_wp2_with (go_at_call 15; refine (rcells_any _ _).mono ?_; rintro e w' ⟨rfl, rfl⟩)
    go_quiet (fail)
    go_wp2
    exact bodyPost_ret (v := .tuple #[.int .i64 (c / (n * n)), .int .i64 (c % n), .int .i64 (c / n % n), .bool true]) (by simp [results, Tryd.results13, go_sem, place_mod h1 h7 h3]) rfl ⟨rfl, _, rfl⟩
end Go.Proofs.YtbfbafoeifigfaaDoor
