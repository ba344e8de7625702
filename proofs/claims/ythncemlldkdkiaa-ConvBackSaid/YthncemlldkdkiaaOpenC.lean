/- Slices of structs of a float and four numbers, opened. -/
import Derived.Test.YthncemlldkdkiaaOpenF
namespace TF
open Go Go.RowKit Go.ChangeShapes Go.WideShapes Go.Deep

structure ConvOp where
  x : Nat
  most : Int
  i : Int
  b : Int
  h : Int
instance : Inhabited ConvOp := ⟨⟨0, 0, 0, 0, 0⟩⟩
theorem u32_wf {n : Int} (h : (Lit.int .u32 n).wf = true) : 0 ≤ n ∧ n < 4294967296 := by
  simp [Lit.wf, IntKind.max, IntKind.min, IntKind.bits, IntKind.signed] at h; omega
theorem u16_wf {n : Int} (h : (Lit.int .u16 n).wf = true) : 0 ≤ n ∧ n < 65536 := by
  simp [Lit.wf, IntKind.max, IntKind.min, IntKind.bits, IntKind.signed] at h; omega
/-- what the fields are. -/
structure ConvOk (q : ConvOp) : Prop where
  x : W64 q.x
  m1 : -9223372036854775808 ≤ q.most
  m2 : q.most ≤ 9223372036854775807
  i1 : -9223372036854775808 ≤ q.i
  i2 : q.i ≤ 9223372036854775807
  b1 : 0 ≤ q.b
  b2 : q.b < 4294967296
  h1 : 0 ≤ q.h
  h2 : q.h < 65536
/-- The slice value A, len reads as (float, number, number, number of 32 bits, number of 16). -/
def ConvOps (w : World) (A : Option Addr) (len : Nat) (os : Nat → ConvOp) : Prop := ∀ i, i < len → ∃ b off, A = some ⟨b, off, none⟩ ∧ b < w.heap.size ∧ w.cell? ⟨b, off + i * 5, none⟩ = some (.float .f64 (os i).x) ∧ w.cell? ⟨b, off + i * 5 + 1, none⟩ = some (.int .i64 (os i).most) ∧ w.cell? ⟨b, off + i * 5 + 2, none⟩ = some (.int .i64 (os i).i) ∧ w.cell? ⟨b, off + i * 5 + 3, none⟩ = some (.int .u32 (os i).b) ∧ w.cell? ⟨b, off + i * 5 + 4, none⟩ = some (.int .u16 (os i).h) ∧ ConvOk (os i)
section
variable {H : Type} {enc : TypeId × Value → H} {P : Program} {w : World} {base : Nat} {spare : Nat → Bool} {held : Bool}
theorem open_convops {t e : TypeId} {f0 f1 f2 f3 f4 : Field} {v : Value} {d : DataW H} {ps : List MemPlace} (ht : P.underlying t = some (.slice e)) (he : P.underlying e = some (.struct #[f0, f1, f2, f3, f4])) (hone : oneCellFields P #[f0, f1, f2, f3, f4] = true) (hC : P.cellsOf e = 5)
    (h0 : P.underlying f0.type = some (.float .f64)) (h1 : P.underlying f1.type = some (.int .i64)) (h2 : P.underlying f2.type = some (.int .i64)) (h3 : P.underlying f3.type = some (.int .u32)) (h4 : P.underlying f4.type = some (.int .u16)) (hv : v.cells.toList = [v]) (h : DataW.Trod enc P w base spare held t v d ps) :
    ∃ A len cap os, v = .slice A len cap ∧ len ≤ cap ∧ cap ≤ maxLen ∧ ConvOps w A len os := by
  obtain ⟨fuel, hf⟩ := h
  rw [hv] at hf
  obtain ⟨A, len, cap, rfl, hl, hm, hi⟩ := fields_of_slice ht he hone hC (by simp) hf
  obtain ⟨xs, hxs⟩ := choose_lt (α := ConvOp) (p := fun i q => ∃ b off, A = some ⟨b, off, none⟩ ∧ b < w.heap.size ∧ w.cell? ⟨b, off + i * 5, none⟩ = some (.float .f64 q.x) ∧ w.cell? ⟨b, off + i * 5 + 1, none⟩ = some (.int .i64 q.most) ∧ w.cell? ⟨b, off + i * 5 + 2, none⟩ = some (.int .i64 q.i) ∧ w.cell? ⟨b, off + i * 5 + 3, none⟩ = some (.int .u32 q.b) ∧ w.cell? ⟨b, off + i * 5 + 4, none⟩ = some (.int .u16 q.h) ∧ ConvOk q) (n := len) (fun i hil => by
    obtain ⟨b, off, hA, hfs⟩ := hi i hil
    obtain ⟨u0, n0, y0, hc0, hy0⟩ := hfs 0 f0 rfl
    obtain ⟨u1, n1, y1, hc1, hy1⟩ := hfs 1 f1 rfl
    obtain ⟨u2, n2, y2, hc2, hy2⟩ := hfs 2 f2 rfl
    obtain ⟨u3, n3, y3, hc3, hy3⟩ := hfs 3 f3 rfl
    obtain ⟨u4, n4, y4, hc4, hy4⟩ := hfs 4 f4 rfl
    obtain ⟨x0, rfl, hw0⟩ := float_cell h0 hy0
    obtain ⟨x1, rfl, hw1⟩ := int_cell h1 hy1
    obtain ⟨x2, rfl, hw2⟩ := int_cell h2 hy2
    obtain ⟨x3, rfl, hw3⟩ := int_cell h3 hy3
    obtain ⟨x4, rfl, hw4⟩ := int_cell h4 hy4
    exact ⟨⟨x0, x1, x2, x3, x4⟩, b, off, hA, lt_of_cell hc0, hc0, hc1, hc2, hc3, hc4, ⟨W64.of_wf hw0, int_lo hw1, int_hi hw1, int_lo hw2, int_hi hw2, (u32_wf hw3).1, (u32_wf hw3).2, (u16_wf hw4).1, (u16_wf hw4).2⟩⟩)
  exact ⟨A, len, cap, xs, rfl, hl, hm, hxs⟩
end
end TF
