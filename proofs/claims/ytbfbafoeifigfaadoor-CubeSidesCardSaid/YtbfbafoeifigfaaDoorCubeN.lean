/- Lists of numbers of all sorts; After of all numbers, ours and the reference's. -/
import Derived.Test.YtbfbafoeifigfaaDoorCubeZ
import Derived.Test.YtbfbafoeifigfaaDoorRefX
import Derived.Test.YtbfbafoeifigfaaDoorOpenI
namespace Go.Proofs.YtbfbafoeifigfaaDoor
open Go.RowKit Go.ChangeShapes Go.WideShapes Go.Deep Go.Joins TF

/-- A slice of Asks: the fields' numbers. -/
def AsksAt (w : World) (A : Option Addr) (len : Nat) (os : Nat → Nat → Int) : Prop := ∀ i, i < len → ∃ b off, A = some ⟨b, off, none⟩ ∧ b < w.heap.size ∧ w.cell? ⟨b, off + i * 8, none⟩ = some (.int .i64 (os i 0)) ∧ w.cell? ⟨b, off + i * 8 + 1, none⟩ = some (.int .i64 (os i 1)) ∧ w.cell? ⟨b, off + i * 8 + 2, none⟩ = some (.int .i64 (os i 2)) ∧ w.cell? ⟨b, off + i * 8 + 3, none⟩ = some (.int .i64 (os i 3)) ∧ w.cell? ⟨b, off + i * 8 + 4, none⟩ = some (.int .i64 (os i 4)) ∧ w.cell? ⟨b, off + i * 8 + 5, none⟩ = some (.int .i64 (os i 5)) ∧ w.cell? ⟨b, off + i * 8 + 6, none⟩ = some (.int .i64 (os i 6)) ∧ w.cell? ⟨b, off + i * 8 + 7, none⟩ = some (.int .i64 (os i 7))
/-- Eight numbers as a function. -/
def eight (x0 x1 x2 x3 x4 x5 x6 x7 : Int) : Nat → Int
  | 0 => x0 | 1 => x1 | 2 => x2 | 3 => x3 | 4 => x4 | 5 => x5 | 6 => x6 | _ => x7
section
variable {H : Type} {enc : TypeId × Value → H} {P : Program} {w : World} {base : Nat} {spare : Nat → Bool} {held : Bool}
theorem open_asks {t e : TypeId} {f0 f1 f2 f3 f4 f5 f6 f7 : Field} {v : Value} {d : DataW H} {ps : List MemPlace} (ht : P.underlying t = some (.slice e)) (he : P.underlying e = some (.struct #[f0, f1, f2, f3, f4, f5, f6, f7])) (hone : oneCellFields P #[f0, f1, f2, f3, f4, f5, f6, f7] = true) (hC : P.cellsOf e = 8)
    (h0 : P.underlying f0.type = some (.int .i64)) (h1 : P.underlying f1.type = some (.int .i64)) (h2 : P.underlying f2.type = some (.int .i64)) (h3 : P.underlying f3.type = some (.int .i64)) (h4 : P.underlying f4.type = some (.int .i64)) (h5 : P.underlying f5.type = some (.int .i64)) (h6 : P.underlying f6.type = some (.int .i64)) (h7 : P.underlying f7.type = some (.int .i64)) (hv : v.cells.toList = [v]) (h : DataW.Trod enc P w base spare held t v d ps) :
    ∃ A len cap os, v = .slice A len cap ∧ len ≤ cap ∧ cap ≤ maxLen ∧ AsksAt w A len os := by
  obtain ⟨fuel, hf⟩ := h
  rw [hv] at hf
  obtain ⟨A, len, cap, rfl, hl, hm, hi⟩ := fields_of_slice ht he hone hC (by simp) hf
  have key : ∀ i, i < len → ∃ q : Nat → Int, ∃ b off, A = some ⟨b, off, none⟩ ∧ b < w.heap.size ∧ w.cell? ⟨b, off + i * 8, none⟩ = some (.int .i64 (q 0)) ∧ w.cell? ⟨b, off + i * 8 + 1, none⟩ = some (.int .i64 (q 1)) ∧ w.cell? ⟨b, off + i * 8 + 2, none⟩ = some (.int .i64 (q 2)) ∧ w.cell? ⟨b, off + i * 8 + 3, none⟩ = some (.int .i64 (q 3)) ∧ w.cell? ⟨b, off + i * 8 + 4, none⟩ = some (.int .i64 (q 4)) ∧ w.cell? ⟨b, off + i * 8 + 5, none⟩ = some (.int .i64 (q 5)) ∧ w.cell? ⟨b, off + i * 8 + 6, none⟩ = some (.int .i64 (q 6)) ∧ w.cell? ⟨b, off + i * 8 + 7, none⟩ = some (.int .i64 (q 7)) := by
    intro i hil
    obtain ⟨b, off, hA, hfs⟩ := hi i hil
    obtain ⟨u0, n0, y0, hc0, hy0⟩ := hfs 0 f0 rfl
    obtain ⟨u1, n1, y1, hc1, hy1⟩ := hfs 1 f1 rfl
    obtain ⟨u2, n2, y2, hc2, hy2⟩ := hfs 2 f2 rfl
    obtain ⟨u3, n3, y3, hc3, hy3⟩ := hfs 3 f3 rfl
    obtain ⟨u4, n4, y4, hc4, hy4⟩ := hfs 4 f4 rfl
    obtain ⟨u5, n5, y5, hc5, hy5⟩ := hfs 5 f5 rfl
    obtain ⟨u6, n6, y6, hc6, hy6⟩ := hfs 6 f6 rfl
    obtain ⟨u7, n7, y7, hc7, hy7⟩ := hfs 7 f7 rfl
    obtain ⟨x0, rfl, -⟩ := int_cell h0 hy0
    obtain ⟨x1, rfl, -⟩ := int_cell h1 hy1
    obtain ⟨x2, rfl, -⟩ := int_cell h2 hy2
    obtain ⟨x3, rfl, -⟩ := int_cell h3 hy3
    obtain ⟨x4, rfl, -⟩ := int_cell h4 hy4
    obtain ⟨x5, rfl, -⟩ := int_cell h5 hy5
    obtain ⟨x6, rfl, -⟩ := int_cell h6 hy6
    obtain ⟨x7, rfl, -⟩ := int_cell h7 hy7
    exact ⟨eight x0 x1 x2 x3 x4 x5 x6 x7, b, off, hA, lt_of_cell hc0, hc0, hc1, hc2, hc3, hc4, hc5, hc6, hc7⟩
  classical
  refine ⟨A, len, cap, fun i => if h : i < len then Classical.choose (key i h) else fun _ => 0, rfl, hl, hm, fun i hil => ?_⟩
  have := Classical.choose_spec (key i hil)
  simp only [hil, dif_pos]
  exact this
end
theorem open_rows {H : Type} {enc : TypeId × Value → H} {w : World} {r : Reach} {b0 base : Nat} {spare : Nat → Bool} {held : Bool} {v : Value} {d : DataW H} {p : List MemPlace}
    (hv : Value.okWide Tryd.prog w r b0 22 v) (h : DataW.Trod enc Tryd.prog w base spare held 22 v d p) :
    ∃ A l c xs, v = .slice A l c ∧ l ≤ 9223372036854775807 ∧ AsksAt w A l xs := by
  obtain ⟨A, l, c, rfl⟩ := Go.WideShapes.okWide_slice Tryd.underlying22 hv
  obtain ⟨A', l', c', os, e, hl, hm, hp⟩ := open_asks Tryd.underlying22 Tryd.underlying25 (by kernel_rfl) (by kernel_rfl) Tryd.underlying3 Tryd.underlying3 Tryd.underlying3 Tryd.underlying3 Tryd.underlying3 Tryd.underlying3 Tryd.underlying3 Tryd.underlying3 rfl h
  obtain ⟨rfl, rfl, rfl⟩ : A = A' ∧ l = l' ∧ c = c' := by simpa using e
  exact ⟨A, l, c, os, rfl, by unfold maxLen at hm; omega, hp⟩

/-- After of all numbers. -/
def afI (u t : Int) : Int := if 0 ≤ t ∧ t < 24 ∧ 0 ≤ u ∧ u < 24 then (afF u.toNat t.toNat : Nat) else -1
theorem rafter_none (u t : Int) (h : t < 0 ∨ (0 ≤ t ∧ 24 ≤ t) ∨ (0 ≤ t ∧ t < 24 ∧ u < 0) ∨ (0 ≤ t ∧ t < 24 ∧ 0 ≤ u ∧ 24 ≤ u)) (w : World) :
    Calls Tryd.prog 19 #[.int .i64 u, .int .i64 t] w fun e w' => e = .returned (.int .i64 (-1)) ∧ w = w' := by
  rcases h with h | ⟨h, h1⟩ | ⟨h, h1, h2⟩ | ⟨h, h1, h2, h3⟩
  all_goals
    go_enter Tryd.func19, Tryd.ntmps19
    go_wp2_with fail
    go_ret
    exact ⟨rfl, rfl⟩
theorem not_four {u t : Int} (h : ¬ (0 ≤ t ∧ t < 24 ∧ 0 ≤ u ∧ u < 24)) : t < 0 ∨ (0 ≤ t ∧ 24 ≤ t) ∨ (0 ≤ t ∧ t < 24 ∧ u < 0) ∨ (0 ≤ t ∧ t < 24 ∧ 0 ≤ u ∧ 24 ≤ u) := by omega
theorem after_all (u t : Int) (w : World) (hF : Fr w) :
    Calls Tryd.prog 18 #[.int .i64 u, .int .i64 t] w fun e w' => e = .returned (.int .i64 (afI u t)) ∧ Below w.heap.size w w' := by
  by_cases h : 0 ≤ t ∧ t < 24 ∧ 0 ≤ u ∧ u < 24
  · unfold afI
    rw [if_pos h]
    obtain ⟨t', rfl⟩ : ∃ n : Nat, t = n := ⟨t.toNat, by omega⟩
    obtain ⟨u', rfl⟩ : ∃ n : Nat, u = n := ⟨u.toNat, by omega⟩
    exact after_at u' t' (by omega) (by omega) w hF
  · unfold afI
    rw [if_neg h]
    exact (after_none u t (not_four h) w).mono fun _ _ ⟨h1, h2⟩ => ⟨h1, h2 ▸ Below.refl _ _⟩
theorem rafter_all (u t : Int) (w : World) :
    Calls Tryd.prog 19 #[.int .i64 u, .int .i64 t] w fun e w' => e = .returned (.int .i64 (afI u t)) ∧ Below w.heap.size w w' := by
  by_cases h : 0 ≤ t ∧ t < 24 ∧ 0 ≤ u ∧ u < 24
  · unfold afI
    rw [if_pos h]
    obtain ⟨t', rfl⟩ : ∃ n : Nat, t = n := ⟨t.toNat, by omega⟩
    obtain ⟨u', rfl⟩ : ∃ n : Nat, u = n := ⟨u.toNat, by omega⟩
    exact rafter_at u' t' (by omega) (by omega) w
  · unfold afI
    rw [if_neg h]
    exact (rafter_none u t (not_four h) w).mono fun _ _ ⟨h1, h2⟩ => ⟨h1, h2 ▸ Below.refl _ _⟩

/-- A contract that answers 'v' and makes new memory alone, in every world behind W. -/
theorem behind {F : FuncId} {args : Array Value} {r : Ending} {W : World} (h : ∀ x, Below W.heap.size W x → Calls Tryd.prog F args x fun e w' => e = r ∧ Below x.heap.size x w') :
    Hid (∀ x, Below W.heap.size W x → Calls Tryd.prog F args x fun e w' => e = r ∧ Below W.heap.size W w') :=
  Lib.hid fun x hx => (h x hx).mono fun _ _ ⟨h1, h2⟩ => ⟨h1, hx.trans (h2.mono hx.size)⟩
theorem same_behind {F : FuncId} {args : Array Value} {r : Ending} {x : World} (h : Calls Tryd.prog F args x fun e w' => e = r ∧ x = w') : Calls Tryd.prog F args x fun e w' => e = r ∧ Below x.heap.size x w' :=
  h.mono fun _ _ ⟨h1, h2⟩ => ⟨h1, h2 ▸ Below.refl _ _⟩
theorem drewN_behind {F : FuncId} {args : Array Value} {r : Ending} {x : World} (h : Calls Tryd.prog F args x fun e w' => e = r ∧ ∃ k, w' = x.drewN k) : Calls Tryd.prog F args x fun e w' => e = r ∧ Below x.heap.size x w' :=
  h.mono fun _ _ ⟨h1, k, h2⟩ => ⟨h1, by rw [h2]; exact below_drewN (Below.refl _ _) _⟩
end Go.Proofs.YtbfbafoeifigfaaDoor
