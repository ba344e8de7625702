/- A slice of structs of a number and two floats, opened. -/
import Derived.Test.YtjbiklkjcalmkaaOpenS
namespace TF
open Go Go.RowKit Go.ChangeShapes Go.WideShapes Go.Deep

/-- The slice value A, len reads as (number, float, float). -/
def IFF (w : World) (k : IntKind) (A : Option Addr) (len : Nat) (ns : Nat → Int) (xs ys : Nat → Nat) : Prop := ∀ i, i < len → ∃ b off, A = some ⟨b, off, none⟩ ∧ b < w.heap.size ∧ w.cell? ⟨b, off + i * 3, none⟩ = some (.int k (ns i)) ∧ w.cell? ⟨b, off + i * 3 + 1, none⟩ = some (.float .f64 (xs i)) ∧ w.cell? ⟨b, off + i * 3 + 2, none⟩ = some (.float .f64 (ys i)) ∧ (Lit.int k (ns i)).wf = true ∧ W64 (xs i) ∧ W64 (ys i)
section
variable {H : Type} {enc : TypeId × Value → H} {P : Program} {w : World} {base : Nat} {spare : Nat → Bool} {held : Bool}
theorem open_iff {t e : TypeId} {k : IntKind} {f0 f1 f2 : Field} {v : Value} {d : DataW H} {ps : List MemPlace} (ht : P.underlying t = some (.slice e)) (he : P.underlying e = some (.struct #[f0, f1, f2])) (hone : oneCellFields P #[f0, f1, f2] = true) (hC : P.cellsOf e = 3)
    (h0 : P.underlying f0.type = some (.int k)) (h1 : P.underlying f1.type = some (.float .f64)) (h2 : P.underlying f2.type = some (.float .f64)) (hv : v.cells.toList = [v]) (h : DataW.Trod enc P w base spare held t v d ps) :
    ∃ A len cap ns xs ys, v = .slice A len cap ∧ len ≤ cap ∧ cap ≤ maxLen ∧ IFF w k A len ns xs ys := by
  obtain ⟨fuel, hf⟩ := h
  rw [hv] at hf
  obtain ⟨A, len, cap, rfl, hl, hm, hi⟩ := fields_of_slice ht he hone hC (by simp) hf
  obtain ⟨xs, hxs⟩ := choose_lt (α := Int × Nat × Nat) (p := fun i q => ∃ b off, A = some ⟨b, off, none⟩ ∧ b < w.heap.size ∧ w.cell? ⟨b, off + i * 3, none⟩ = some (.int k q.1) ∧ w.cell? ⟨b, off + i * 3 + 1, none⟩ = some (.float .f64 q.2.1) ∧ w.cell? ⟨b, off + i * 3 + 2, none⟩ = some (.float .f64 q.2.2) ∧ (Lit.int k q.1).wf = true ∧ W64 q.2.1 ∧ W64 q.2.2) (n := len) (fun i hil => by
    obtain ⟨b, off, hA, hfs⟩ := hi i hil
    obtain ⟨u0, n0, y0, hc0, hy0⟩ := hfs 0 f0 rfl
    obtain ⟨u1, n1, y1, hc1, hy1⟩ := hfs 1 f1 rfl
    obtain ⟨u2, n2, y2, hc2, hy2⟩ := hfs 2 f2 rfl
    obtain ⟨x0, rfl, hw0⟩ := int_cell h0 hy0
    obtain ⟨x1, rfl, hw1⟩ := float_cell h1 hy1
    obtain ⟨x2, rfl, hw2⟩ := float_cell h2 hy2
    exact ⟨(x0, x1, x2), b, off, hA, lt_of_cell hc0, hc0, hc1, hc2, hw0, W64.of_wf hw1, W64.of_wf hw2⟩)
  exact ⟨A, len, cap, fun i => (xs i).1, fun i => (xs i).2.1, fun i => (xs i).2.2, rfl, hl, hm, hxs⟩
end
end TF
