/- Slices of structs of a float, two numbers and a float, opened. -/
import Derived.Test.YtjobpkomlgkakaaOpenF
namespace TF
open Go Go.RowKit Go.ChangeShapes Go.WideShapes Go.Deep

structure LevOp where
  bed : Nat
  water : Int
  area : Int
  level : Nat
instance : Inhabited LevOp := ⟨⟨0, 0, 0, 0⟩⟩
/-- The slice value A, len reads as (float, number, number, float). -/
def LevOps (w : World) (A : Option Addr) (len : Nat) (os : Nat → LevOp) : Prop := ∀ i, i < len → ∃ b off, A = some ⟨b, off, none⟩ ∧ b < w.heap.size ∧ w.cell? ⟨b, off + i * 4, none⟩ = some (.float .f64 (os i).bed) ∧ w.cell? ⟨b, off + i * 4 + 1, none⟩ = some (.int .i64 (os i).water) ∧ w.cell? ⟨b, off + i * 4 + 2, none⟩ = some (.int .i64 (os i).area) ∧ w.cell? ⟨b, off + i * 4 + 3, none⟩ = some (.float .f64 (os i).level) ∧ W64 (os i).bed ∧ (Lit.int .i64 (os i).water).wf = true ∧ (Lit.int .i64 (os i).area).wf = true ∧ W64 (os i).level
section
variable {H : Type} {enc : TypeId × Value → H} {P : Program} {w : World} {base : Nat} {spare : Nat → Bool} {held : Bool}
theorem open_levops {t e : TypeId} {f0 f1 f2 f3 : Field} {v : Value} {d : DataW H} {ps : List MemPlace} (ht : P.underlying t = some (.slice e)) (he : P.underlying e = some (.struct #[f0, f1, f2, f3])) (hone : oneCellFields P #[f0, f1, f2, f3] = true) (hC : P.cellsOf e = 4)
    (h0 : P.underlying f0.type = some (.float .f64)) (h1 : P.underlying f1.type = some (.int .i64)) (h2 : P.underlying f2.type = some (.int .i64)) (h3 : P.underlying f3.type = some (.float .f64)) (hv : v.cells.toList = [v]) (h : DataW.Trod enc P w base spare held t v d ps) :
    ∃ A len cap os, v = .slice A len cap ∧ len ≤ cap ∧ cap ≤ maxLen ∧ LevOps w A len os := by
  obtain ⟨fuel, hf⟩ := h
  rw [hv] at hf
  obtain ⟨A, len, cap, rfl, hl, hm, hi⟩ := fields_of_slice ht he hone hC (by simp) hf
  obtain ⟨xs, hxs⟩ := choose_lt (α := LevOp) (p := fun i q => ∃ b off, A = some ⟨b, off, none⟩ ∧ b < w.heap.size ∧ w.cell? ⟨b, off + i * 4, none⟩ = some (.float .f64 q.bed) ∧ w.cell? ⟨b, off + i * 4 + 1, none⟩ = some (.int .i64 q.water) ∧ w.cell? ⟨b, off + i * 4 + 2, none⟩ = some (.int .i64 q.area) ∧ w.cell? ⟨b, off + i * 4 + 3, none⟩ = some (.float .f64 q.level) ∧ W64 q.bed ∧ (Lit.int .i64 q.water).wf = true ∧ (Lit.int .i64 q.area).wf = true ∧ W64 q.level) (n := len) (fun i hil => by
    obtain ⟨b, off, hA, hfs⟩ := hi i hil
    obtain ⟨u0, n0, y0, hc0, hy0⟩ := hfs 0 f0 rfl
    obtain ⟨u1, n1, y1, hc1, hy1⟩ := hfs 1 f1 rfl
    obtain ⟨u2, n2, y2, hc2, hy2⟩ := hfs 2 f2 rfl
    obtain ⟨u3, n3, y3, hc3, hy3⟩ := hfs 3 f3 rfl
    obtain ⟨x0, rfl, hw0⟩ := float_cell h0 hy0
    obtain ⟨x1, rfl, hw1⟩ := int_cell h1 hy1
    obtain ⟨x2, rfl, hw2⟩ := int_cell h2 hy2
    obtain ⟨x3, rfl, hw3⟩ := float_cell h3 hy3
    exact ⟨⟨x0, x1, x2, x3⟩, b, off, hA, lt_of_cell hc0, hc0, hc1, hc2, hc3, W64.of_wf hw0, hw1, hw2, W64.of_wf hw3⟩)
  exact ⟨A, len, cap, xs, rfl, hl, hm, hxs⟩
end
end TF
