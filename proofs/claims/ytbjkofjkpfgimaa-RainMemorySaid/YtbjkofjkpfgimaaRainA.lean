/- The leaves of rain: what each call gives, the world unchanged but for new blocks. -/
import Derived.Test.YtbjkofjkpfgimaaRows
import Derived.Test.YtbjkofjkpfgimaaRainO
import Derived.WalkKit
import Derived.WalkSpells
import Derived.WalkLawsBesides
namespace Go.Proofs.Ytbjkofjkpfgimaa
open Go.RowKit TF

set_option maxHeartbeats 400000 in
theorem outside_any (x : Int) (w : World) :
    Calls Try.prog 16 #[.int .i64 x] w fun e w' => e = .returned (.bool (outB x)) ∧ w = w' := by
  by_cases h1 : x < 0
  · have e : outB x = true := by simp [outB, h1]
    rw [e]
    go_enter Try.func16, Try.ntmps16
    go_wp2
    go_ret
    exact ⟨rfl, rfl⟩
  · by_cases h2 : 4503599627370496 < x
    · have e : outB x = true := by simp [outB, h2]
      rw [e]
      go_enter Try.func16, Try.ntmps16
      go_wp2
      go_ret
      exact ⟨rfl, rfl⟩
    · have e : outB x = false := by simp [outB, h1, h2]
      rw [e]
      go_enter Try.func16, Try.ntmps16
      go_wp2
      go_ret
      exact ⟨rfl, rfl⟩

set_option maxHeartbeats 1000000 in
theorem valid_any (n c a f t : Int) (w : World) :
    Calls Try.prog 10 #[.int .i64 n, .agg #[.int .i64 c, .int .i64 a, .int .i64 f, .int .i64 t]] w fun e w' => e = .returned (.bool (validB n c a f t)) ∧ Below w.heap.size w w' := by
  rcases valid_cases n c a f t with ⟨e, h⟩ | ⟨e, h⟩
  · rw [e]; clear e
    obtain ⟨h1, h2, h3, h4, h5, h6⟩ := h
    go_enter Try.func10, Try.ntmps10
    go_wp2
    go_ret
    exact ⟨rfl, (Below.refl _ _).alloc (Nat.le_refl _) _⟩
  · rw [e]; clear e
    rcases h with h1 | ⟨h1, h2⟩ | ⟨h1, h2, h3⟩ | ⟨h1, h2, h3, h4⟩ | ⟨h1, h2, h3, h4, h5⟩ | ⟨h1, h2, h3, h4, h5, h6⟩
    all_goals
      try have hd : decide (f ≤ t) = false := by simp; omega
      go_enter Try.func10, Try.ntmps10
      go_wp2
      go_ret
      exact ⟨rfl, (Below.refl _ _).alloc (Nat.le_refl _) _⟩

set_option maxHeartbeats 1000000 in
theorem rvalid_any (n c a f t : Int) (w : World) :
    Calls Try.prog 11 #[.int .i64 n, .agg #[.int .i64 c, .int .i64 a, .int .i64 f, .int .i64 t]] w fun e w' => e = .returned (.bool (validB n c a f t)) ∧ Below w.heap.size w w' := by
  rcases valid_cases n c a f t with ⟨e, h⟩ | ⟨e, h⟩
  · rw [e]; clear e
    obtain ⟨h1, h2, h3, h4, h5, h6⟩ := h
    go_enter Try.func11, Try.ntmps11
    go_wp2
    go_ret
    exact ⟨rfl, (Below.refl _ _).alloc (Nat.le_refl _) _⟩
  · rw [e]; clear e
    rcases h with h1 | ⟨h1, h2⟩ | ⟨h1, h2, h3⟩ | ⟨h1, h2, h3, h4⟩ | ⟨h1, h2, h3, h4, h5⟩ | ⟨h1, h2, h3, h4, h5, h6⟩
    all_goals
      try have hd : decide (f ≤ t) = false := by simp; omega
      go_enter Try.func11, Try.ntmps11
      go_wp2
      go_ret
      exact ⟨rfl, (Below.refl _ _).alloc (Nat.le_refl _) _⟩

theorem less_any (a b : Int) (w : World) :
    Calls Try.prog 22 #[.int .i64 a, .int .i64 b] w fun e w' => e = .returned (.int .i64 (min a b)) ∧ w = w' := by
  by_cases h : b < a
  · have e : min a b = b := by omega
    rw [e]; clear e
    go_enter Try.func22, Try.ntmps22
    go_wp2
    go_ret
    exact ⟨rfl, rfl⟩
  · have e : min a b = a := by omega
    rw [e]; clear e
    go_enter Try.func22, Try.ntmps22
    go_wp2
    go_ret
    exact ⟨rfl, rfl⟩

end Go.Proofs.Ytbjkofjkpfgimaa
