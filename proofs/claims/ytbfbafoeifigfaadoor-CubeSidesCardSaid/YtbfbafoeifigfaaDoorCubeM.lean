/- The cube's statements, without the program. -/
import Derived.Test.YtbfbafoeifigfaaDoorCubeK
namespace TF
open Go Go.RowKit
theorem six_bd {r : Int} (h0 : 0 ≤ r) (h1 : r < 32) : 1 ≤ 6 * (1 + r) * (1 + r) ∧ 6 * (1 + r) * (1 + r) ≤ 6144 := by
  have := sq_le (n := 1 + r) (by omega) (by omega)
  rw [six_sq]; omega
/-- East and north within the face. -/
theorem b_east {n : Int} {f : Nat} {i j : Int} (h : On n f i j) (hi : i + 1 < n) : bF n f 0 i j = f ∧ bX n f 0 i j = i + 1 ∧ bY n f 0 i j = j ∧ bS n f 0 i j = 2 ∧ cellN n f (i + 1) j = cellN n f i j + 1 ∧ On n f (i + 1) j := by
  have ho : offI n 0 i j ≠ n - 1 := by show i ≠ n - 1; omega
  refine ⟨by unfold bF; rw [if_neg ho], by unfold bX; rw [if_neg ho]; rfl, by unfold bY; rw [if_neg ho]; show j + 0 = j; omega, by unfold bS; rw [if_neg ho], by unfold cellN; omega, ?_⟩
  exact ⟨h.n1, h.n32, h.f6, by have := h.i0; omega, hi, h.j0, h.j1⟩
theorem b_north {n : Int} {f : Nat} {i j : Int} (h : On n f i j) (hj : j + 1 < n) : bF n f 1 i j = f ∧ bX n f 1 i j = i ∧ bY n f 1 i j = j + 1 ∧ bS n f 1 i j = 3 ∧ cellN n f i (j + 1) = cellN n f i j + n ∧ On n f i (j + 1) := by
  have ho : offI n 1 i j ≠ n - 1 := by show j ≠ n - 1; omega
  refine ⟨by unfold bF; rw [if_neg ho], by unfold bX; rw [if_neg ho]; show i + 0 = i; omega, by unfold bY; rw [if_neg ho]; rfl, by unfold bS; rw [if_neg ho], ?_, ?_⟩
  · unfold cellN
    rw [show (f : Int) * n + (j + 1) = (f * n + j) + 1 from by omega, Int.add_mul, Int.one_mul]; omega
  · exact ⟨h.n1, h.n32, h.f6, h.i0, h.i1, by have := h.j0; omega, hj⟩
theorem nb_other : ∀ f < 6, ∀ s < 4, nbF f s ≠ f := by decide
theorem b_east_out {n : Int} {f : Nat} {i j : Int} (h : On n f i j) (hi : ¬ i + 1 < n) : bF n f 0 i j ≠ f := by
  have ho : offI n 0 i j = n - 1 := by show i = n - 1; have := h.i1; omega
  unfold bF; rw [if_pos ho]; exact nb_other f h.f6 0 (by omega)
end TF
