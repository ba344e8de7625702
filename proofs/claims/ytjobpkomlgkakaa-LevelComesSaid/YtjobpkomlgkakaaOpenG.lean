/- Boxes of four cells and what comes after them. -/
import Derived.Test.YtjobpkomlgkakaaOpenF
namespace TF
open Go Go.RowKit
theorem past_box {w w' : World} {o : Obj} (h : Below (w.alloc o).heap.size (w.alloc o) w') : Below w.heap.size w w' := ((Below.refl _ _).alloc (Nat.le_refl _) o).trans (h.mono (by simp))
theorem dn_below {B : Nat} {a w : World} (h : Below B a w) (n : Nat) : Below B a (w.drewN n) := ⟨h.os, h.tape, h.output, h.size, h.block⟩
/-- the four cells of a box. -/
theorem box4 (v0 v1 v2 v3 : Value) (t : TypeId) (w : World) :
    ∀ x : World, Below (w.alloc (.cells #[v0, v1, v2, v3] t)).heap.size (w.alloc (.cells #[v0, v1, v2, v3] t)) x →
      x.cell? ⟨w.heap.size, 0, none⟩ = some v0 ∧ x.cell? ⟨w.heap.size, 1, none⟩ = some v1 ∧ x.cell? ⟨w.heap.size, 2, none⟩ = some v2 ∧ x.cell? ⟨w.heap.size, 3, none⟩ = some v3 := by
  intro x h
  have hl : w.heap.size < (w.alloc (.cells #[v0, v1, v2, v3] t)).heap.size := by simp
  refine ⟨?_, ?_, ?_, ?_⟩ <;> rw [h.cell (p := ⟨w.heap.size, _, none⟩) hl, World.cell?_alloc_new] <;> rfl
end TF
