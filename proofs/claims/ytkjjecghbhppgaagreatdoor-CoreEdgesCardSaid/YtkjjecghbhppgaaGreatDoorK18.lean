/- Laid together: TopRb, TopRn, TopE, TopYa. -/
import Derived.Test.YtkjjecghbhppgaaGreatDoorK17
import Derived.Test.YtkjjecghbhppgaaGreatDoorK08
/- The net while it is made: a round over an edge. -/
namespace Go.Proofs.YtkjjecghbhppgaaGreatDoor
open Go Go.RowKit Go.Maps TF

structure GR (w0 w2 : World) (g n kB kL kG : Nat) (vB vL vG : Value) (eb : Nat) (x o y p : Nat) (w : World) : Prop where
  z : GZ w2 g n kB kL kG vB vL vG w
  bel : Below w0.heap.size w0 w
  gl : w0.heap.size ≤ g
  lo : w0.heap.size ≤ w2.heap.size
  eb0 : w2.heap.size ≤ eb
  ebl : eb < w.heap.size
  e0 : w.cell? ⟨eb, 0, none⟩ = some (.int .i64 x)
  e1 : w.cell? ⟨eb, 1, none⟩ = some (.int .i64 o)
  e2 : w.cell? ⟨eb, 2, none⟩ = some (.int .i64 y)
  e3 : w.cell? ⟨eb, 3, none⟩ = some (.int .i64 p)
  nB : vB.ownBlock ≠ some eb
  nL : vL.ownBlock ≠ some eb
  nG : vG.ownBlock ≠ some eb
theorem GR.below {w0 w2 w w' : World} {g n kB kL kG eb x o y p : Nat} {vB vL vG : Value} (h : GR w0 w2 g n kB kL kG vB vL vG eb x o y p w) (hB : Below w.heap.size w w') : GR w0 w2 g n kB kL kG vB vL vG eb x o y p w' := by
  obtain ⟨hc, -⟩ := grown_cell (below_gr hB) h.ebl (by simp)
  exact ⟨h.z.below hB, h.bel.trans (hB.mono h.bel.size), h.gl, h.lo, h.eb0, Nat.lt_of_lt_of_le h.ebl hB.size, (hc 0).trans h.e0, (hc 1).trans h.e1, (hc 2).trans h.e2, (hc 3).trans h.e3, h.nB, h.nL, h.nG⟩
theorem GR.core {w0 w2 w w5 : World} {g n kB kL kG eb x o y p : Nat} {vB vL vG : Value} (h : GR w0 w2 g n kB kL kG vB vL vG eb x o y p w) {v : Value} {e size m : Nat} {xs : List Value} (hr : w.ownsRow w2.heap.size e size v m xs) (hv : v.ownBlock ≠ some eb)
    (hg : w.grownBy w5 v.ownBlock) (j : Nat) (u : Value) : Below w0.heap.size w0 (w5.setCell ⟨g, j, none⟩ u) ∧ eb < (w5.setCell ⟨g, j, none⟩ u).heap.size ∧ (∀ i, (w5.setCell ⟨g, j, none⟩ u).cell? ⟨eb, i, none⟩ = w.cell? ⟨eb, i, none⟩) := by
  obtain ⟨hc, -⟩ := grown_cell hg h.ebl (fun e => hv e.symm)
  have h1 : g < w2.heap.size := h.z.gl
  have h2 := h.eb0
  refine ⟨(h.bel.grown hg h.bel.size (fun b e => by have := (hr.lt _ e).1; have := h.lo; omega)).setCell h.gl _, Nat.lt_of_lt_of_le h.ebl (Nat.le_trans hg.size (grown_set _ _ _).size), fun i => ?_⟩
  rw [World.cell?_setCell_other w5 _ _ _ (by intro e; have := congrArg Addr.block e; simp at this; omega)]
  exact hc i
theorem own_fresh {v v' : Value} {q eb : Nat} {w : World} (hv : v.ownBlock ≠ some eb) (hl : eb < w.heap.size) (hv' : v'.ownBlock = some q) (hq : v.ownBlock = some q ∨ q = w.heap.size) : v'.ownBlock ≠ some eb := by
  rw [hv']
  intro e
  have e2 := Option.some.inj e
  subst e2
  rcases hq with hq | rfl
  · exact hv hq
  · omega
theorem GR.stepB {w0 w2 w w5 : World} {g n kB kL kG eb x o y p q : Nat} {vB vL vG v' : Value} (h : GR w0 w2 g n kB kL kG vB vL vG eb x o y p w) (hg : w.grownBy w5 vB.ownBlock) (hr : w5.ownsRow w2.heap.size 64 2 v' (kB + 1) (bCells n (kB + 1)))
    (hv : v'.ownBlock = some q) (hq : vB.ownBlock = some q ∨ q = w.heap.size) : GR w0 w2 g n (kB + 1) kL kG v' vL vG eb x o y p (w5.setCell ⟨g, 3, none⟩ v') := by
  obtain ⟨a, b, c⟩ := h.core h.z.rB h.nB hg 3 v'
  exact ⟨h.z.stepB hg hr hv hq, a, h.gl, h.lo, h.eb0, b, (c 0).trans h.e0, (c 1).trans h.e1, (c 2).trans h.e2, (c 3).trans h.e3, own_fresh h.nB h.ebl hv hq, h.nL, h.nG⟩
theorem GR.stepL {w0 w2 w w5 : World} {g n kB kL kG eb x o y p q : Nat} {vB vL vG v' : Value} (h : GR w0 w2 g n kB kL kG vB vL vG eb x o y p w) (hg : w.grownBy w5 vL.ownBlock) (hr : w5.ownsRow w2.heap.size 35 1 v' (kL + 1) (lCells n (kL + 1)))
    (hv : v'.ownBlock = some q) (hq : vL.ownBlock = some q ∨ q = w.heap.size) : GR w0 w2 g n kB (kL + 1) kG vB v' vG eb x o y p (w5.setCell ⟨g, 5, none⟩ v') := by
  obtain ⟨a, b, c⟩ := h.core h.z.rL h.nL hg 5 v'
  exact ⟨h.z.stepL hg hr hv hq, a, h.gl, h.lo, h.eb0, b, (c 0).trans h.e0, (c 1).trans h.e1, (c 2).trans h.e2, (c 3).trans h.e3, h.nB, own_fresh h.nL h.ebl hv hq, h.nG⟩
theorem GR.stepG {w0 w2 w w5 : World} {g n kB kL kG eb x o y p q : Nat} {vB vL vG v' : Value} (h : GR w0 w2 g n kB kL kG vB vL vG eb x o y p w) (hg : w.grownBy w5 vG.ownBlock) (hr : w5.ownsRow w2.heap.size 35 1 v' (kG + 1) (gCells n (kG + 1)))
    (hv : v'.ownBlock = some q) (hq : vG.ownBlock = some q ∨ q = w.heap.size) : GR w0 w2 g n kB kL (kG + 1) vB vL v' eb x o y p (w5.setCell ⟨g, 6, none⟩ v') := by
  obtain ⟨a, b, c⟩ := h.core h.z.rG h.nG hg 6 v'
  exact ⟨h.z.stepG hg hr hv hq, a, h.gl, h.lo, h.eb0, b, (c 0).trans h.e0, (c 1).trans h.e1, (c 2).trans h.e2, (c 3).trans h.e3, h.nB, h.nL, own_fresh h.nG h.ebl hv hq⟩
/-- an edge in the net's list -/
theorem eCells_at (n : Nat) : ∀ (l : List Nat) (k t : Nat), l[k]? = some t → ∀ j < 4, (eCells n l)[4 * k + j]? = (eCell n t)[j]?
  | [], k, t, h, j, hj => by simp at h
  | a :: l, 0, t, h, j, hj => by
    simp at h
    subst h
    show (eCell n a ++ eCells n l)[4 * 0 + j]? = _
    rw [List.getElem?_append_left (by show 4 * 0 + j < 4; omega)]
    simp
  | a :: l, k + 1, t, h, j, hj => by
    have h2 : l[k]? = some t := by simpa using h
    show (eCell n a ++ eCells n l)[4 * (k + 1) + j]? = _
    rw [List.getElem?_append_right (by show 4 ≤ 4 * (k + 1) + j; omega)]
    rw [show 4 * (k + 1) + j - (eCell n a).length = 4 * k + j from by show 4 * (k + 1) + j - 4 = _; omega]
    exact eCells_at n l k t h2 j hj
theorem cell_two_new (w : World) (x y : Value) (t : TypeId) : ∀ j v, [x, y][j]? = some v → (w.alloc (.cells #[x, y] t)).cell? ((⟨w.heap.size, 0, none⟩ : Addr).add j) = some v := by
  intro j v hj
  match j, hj with
  | 0, hj => simp at hj; subst hj; simp [Addr.add]
  | 1, hj => simp at hj; subst hj; simp [Addr.add]
/-- the net's own cells behind an append alone -/
theorem GR.seen {w0 w2 w w5 : World} {g n kB kL kG eb x o y p : Nat} {vB vL vG : Value} (h : GR w0 w2 g n kB kL kG vB vL vG eb x o y p w) {v : Value} {e size m : Nat} {xs : List Value} (hr : w.ownsRow w2.heap.size e size v m xs) (ob : Obj)
    (hg : (w.alloc ob).grownBy w5 v.ownBlock) : w5.cell? ⟨g, 3, none⟩ = some vB ∧ w5.cell? ⟨g, 5, none⟩ = some vL ∧ w5.cell? ⟨g, 6, none⟩ = some vG ∧ w5.frozen? ⟨g, 3, none⟩ = false ∧ w5.frozen? ⟨g, 5, none⟩ = false ∧ w5.frozen? ⟨g, 6, none⟩ = false := by
  have h1 := h.z.below ((Below.refl w.heap.size w).alloc (Nat.le_refl _) ob)
  obtain ⟨hc, hf⟩ := grown_cell hg (Nat.lt_of_lt_of_le h1.gl h1.gr.size) (fun e => own_low hr h1.gl e.symm)
  exact ⟨(hc 3).trans h1.c3, (hc 5).trans h1.c5, (hc 6).trans h1.c6, (hf 3).trans (h1.fz 3 (by decide)), (hf 5).trans (h1.fz 5 (by decide)), (hf 6).trans (h1.fz 6 (by decide))⟩
theorem GR.alloc {w0 w2 w : World} {g n kB kL kG eb x o y p : Nat} {vB vL vG : Value} (h : GR w0 w2 g n kB kL kG vB vL vG eb x o y p w) (ob : Obj) : GR w0 w2 g n kB kL kG vB vL vG eb x o y p (w.alloc ob) :=
  h.below ((Below.refl w.heap.size w).alloc (Nat.le_refl _) ob)
theorem GR.draw {w0 w2 w : World} {g n kB kL kG eb x o y p : Nat} {vB vL vG : Value} (h : GR w0 w2 g n kB kL kG vB vL vG eb x o y p w) : GR w0 w2 g n kB kL kG vB vL vG eb x o y p w.drew :=
  h.below (Below.drew (Below.refl _ _))
end Go.Proofs.YtkjjecghbhppgaaGreatDoor
/- A net as it lies in memory. -/
namespace Go.Proofs.YtkjjecghbhppgaaGreatDoor
open Go Go.RowKit Go.Maps TF

structure NetT where
  g : Nat
  m : Nat
  gE : Nat
  cE : Nat
  gB : Nat
  cB : Nat
  gA : Nat
  cA : Nat
  gL : Nat
  cL : Nat
  gG : Nat
  cG : Nat
  D : DataW Unit
structure Net (n : Nat) (T : NetT) (w : World) : Prop where
  c0 : w.cell? ⟨T.g, 0, none⟩ = some (.int .i64 n)
  c1 : w.cell? ⟨T.g, 1, none⟩ = some (.slice (some ⟨T.gE, 0, none⟩) (EL n).length T.cE)
  c2 : w.cell? ⟨T.g, 2, none⟩ = some (.map (some T.m))
  c3 : w.cell? ⟨T.g, 3, none⟩ = some (.slice (some ⟨T.gB, 0, none⟩) (EL n).length T.cB)
  c4 : w.cell? ⟨T.g, 4, none⟩ = some (.slice (some ⟨T.gA, 0, none⟩) (6 * n * n) T.cA)
  c5 : w.cell? ⟨T.g, 5, none⟩ = some (.slice (some ⟨T.gL, 0, none⟩) (EL n).length T.cL)
  c6 : w.cell? ⟨T.g, 6, none⟩ = some (.slice (some ⟨T.gG, 0, none⟩) (EL n).length T.cG)
  gl : T.g < w.heap.size
  rE : ∃ b, w.ownsRow b 30 4 (.slice (some ⟨T.gE, 0, none⟩) (EL n).length T.cE) (EL n).length (eCells n (EL n))
  rB : ∃ b, w.ownsRow b 64 2 (.slice (some ⟨T.gB, 0, none⟩) (EL n).length T.cB) (EL n).length (bCells n (EL n).length)
  rA : ∃ b, w.ownsRow b 2 1 (.slice (some ⟨T.gA, 0, none⟩) (6 * n * n) T.cA) (6 * n * n) (aCells n (6 * n * n))
  rL : ∃ b, w.ownsRow b 35 1 (.slice (some ⟨T.gL, 0, none⟩) (EL n).length T.cL) (EL n).length (lCells n (EL n).length)
  rG : ∃ b, w.ownsRow b 35 1 (.slice (some ⟨T.gG, 0, none⟩) (EL n).length T.cG) (EL n).length (gCells n (EL n).length)
  map : ∃ k, PMap w T.m k T.D
  look : Look n (N4 n) T.D
theorem Net.below {n : Nat} {T : NetT} {w w' : World} (h : Net n T w) (hB : Below w.heap.size w w') : Net n T w' := by
  have hg := below_gr hB
  obtain ⟨hc, -⟩ := grown_cell hg h.gl (by simp)
  obtain ⟨b1, r1⟩ := h.rE
  obtain ⟨b2, r2⟩ := h.rB
  obtain ⟨b3, r3⟩ := h.rA
  obtain ⟨b4, r4⟩ := h.rL
  obtain ⟨b5, r5⟩ := h.rG
  obtain ⟨k, hm⟩ := h.map
  exact ⟨(hc 0).trans h.c0, (hc 1).trans h.c1, (hc 2).trans h.c2, (hc 3).trans h.c3, (hc 4).trans h.c4, (hc 5).trans h.c5, (hc 6).trans h.c6, Nat.lt_of_lt_of_le h.gl hB.size,
    ⟨b1, r1.kept hg (none_ok _)⟩, ⟨b2, r2.kept hg (none_ok _)⟩, ⟨b3, r3.kept hg (none_ok _)⟩, ⟨b4, r4.kept hg (none_ok _)⟩, ⟨b5, r5.kept hg (none_ok _)⟩, ⟨k, hm.kept hg (by simp)⟩, h.look⟩
theorem net_of {n g m s : Nat} {w0 w1 w2 w : World} {vE vA vB vL vG : Value} {D : DataW Unit} (hS : Side n) (hGE : GE w0 n g m s (N4 n) vE D w1) (hGY : GY w1 n g m vE (.slice none 0 0) vA (.slice none 0 0) (.slice none 0 0) w2)
    (hA : ARow w2 w1.heap.size n (6 * n * n) vA) (hZ : GZ w2 g n (EL n).length (EL n).length (EL n).length vB vL vG w) : ∃ T, T.g = g ∧ Net n T w := by
  have hc : 1 ≤ 6 * n * n := by have := Nat.mul_le_mul hS.n1 hS.n1; rw [Nat.mul_assoc]; omega
  have hl : 0 < (EL n).length := by rw [EL_length hS]; omega
  obtain ⟨gE, cE, rfl, -, -⟩ := hGE.x.row.form hl
  obtain ⟨gA, cA, rfl, -, -⟩ := World.ownsRow.form hA (by omega)
  obtain ⟨gB, cB, rfl, -, -⟩ := hZ.rB.form hl
  obtain ⟨gL, cL, rfl, -, -⟩ := hZ.rL.form hl
  obtain ⟨gG, cG, rfl, -, -⟩ := hZ.rG.form hl
  refine ⟨⟨g, m, gE, cE, gB, cB, gA, cA, gL, cL, gG, cG, D⟩, rfl, ?_⟩
  have k := hZ.keep
  have gs := hGE.x.gs
  refine ⟨(k 0 (by decide) (by decide) (by decide)).trans hGY.c0, (k 1 (by decide) (by decide) (by decide)).trans hGY.c1, (k 2 (by decide) (by decide) (by decide)).trans hGY.c2, hZ.c3, (k 4 (by decide) (by decide) (by decide)).trans hGY.c4, hZ.c5, hZ.c6,
    Nat.lt_of_lt_of_le hZ.gl hZ.gr.size, ⟨_, (hGE.x.row.kept hGY.gr (.inr (own_low hGE.x.row gs))).kept hZ.gr (.inr (own_low hGE.x.row gs))⟩, ⟨_, hZ.rB⟩, ⟨_, World.ownsRow.kept hA hZ.gr (.inr (own_low hA hGY.gl))⟩, ⟨_, hZ.rL⟩, ⟨_, hZ.rG⟩,
    ⟨_, (hGE.x.map.kept hGY.gr ?_).kept hZ.gr ?_⟩, hGE.look⟩
  · simpa using fun e => hGE.x.gm e.symm
  · simpa using fun e => hGE.x.gm e.symm
end Go.Proofs.YtkjjecghbhppgaaGreatDoor
/- A net is read. -/
namespace Go.Proofs.YtkjjecghbhppgaaGreatDoor
open Go Go.RowKit Go.Maps TF

variable {n : Nat} {T : NetT}
theorem Net.eAt {w : World} (h : Net n T w) {k t : Nat} (ht : (EL n)[k]? = some t) : w.cell? ⟨T.gE, k * 4, none⟩ = some (.int .i64 (t / 4 : Nat)) ∧ w.cell? ⟨T.gE, k * 4 + 1, none⟩ = some (.int .i64 (t % 4 : Nat)) ∧ w.cell? ⟨T.gE, k * 4 + 2, none⟩ = some (.int .i64 (sg n t / 4 : Nat)) ∧ w.cell? ⟨T.gE, k * 4 + 3, none⟩ = some (.int .i64 (sg n t % 4 : Nat)) := by
  obtain ⟨b, r⟩ := h.rE
  obtain ⟨hk, -⟩ := List.getElem?_eq_some_iff.1 ht
  have hcs := fun j (hj : j < 4) => (r.cellAt (4 * k + j) (by omega)).trans (eCells_at n _ k t ht j hj)
  rw [Nat.mul_comm k 4]
  exact ⟨hcs 0 (by omega), hcs 1 (by omega), hcs 2 (by omega), hcs 3 (by omega)⟩
theorem lCells_at {k t : Nat} (ht : (EL n)[k]? = some t) : (lCells n (EL n).length)[k]? = some (.float .f64 (gL n t)) := by
  unfold lCells
  rw [List.take_length, List.getElem?_map, ht]; rfl
theorem gCells_at {k t : Nat} (ht : (EL n)[k]? = some t) : (gCells n (EL n).length)[k]? = some (.float .f64 (gG n t)) := by
  unfold gCells
  rw [List.take_length, List.getElem?_map, ht]; rfl
theorem aCells_at {x N : Nat} (hx : x < N) : (aCells n N)[x]? = some (.int .i64 (gA n x)) := by
  unfold aCells
  rw [List.getElem?_map, List.getElem?_range hx]; rfl
theorem Net.lAt {w : World} (h : Net n T w) {k t : Nat} (ht : (EL n)[k]? = some t) : w.cell? ⟨T.gL, k, none⟩ = some (.float .f64 (gL n t)) := by
  obtain ⟨b, r⟩ := h.rL
  obtain ⟨hk, -⟩ := List.getElem?_eq_some_iff.1 ht
  exact (r.cellAt k (by omega)).trans (lCells_at ht)
theorem Net.gAt {w : World} (h : Net n T w) {k t : Nat} (ht : (EL n)[k]? = some t) : w.cell? ⟨T.gG, k, none⟩ = some (.float .f64 (gG n t)) := by
  obtain ⟨b, r⟩ := h.rG
  obtain ⟨hk, -⟩ := List.getElem?_eq_some_iff.1 ht
  exact (r.cellAt k (by omega)).trans (gCells_at ht)
theorem Net.aAt {w : World} (h : Net n T w) {x : Nat} (hx : x < 6 * n * n) : w.cell? ⟨T.gA, x, none⟩ = some (.int .i64 (gA n x)) := by
  obtain ⟨b, r⟩ := h.rA
  exact (r.cellAt x (by omega)).trans (aCells_at hx)
theorem bCells_atL (n : Nat) : ∀ (l : List Nat) (k t : Nat), l[k]? = some t → ∀ j < 2, (l.flatMap (bCell n))[2 * k + j]? = (bCell n t)[j]?
  | [], k, t, h, j, hj => by simp at h
  | a :: l, 0, t, h, j, hj => by
    simp at h
    subst h
    show (bCell n a ++ l.flatMap (bCell n))[2 * 0 + j]? = _
    rw [List.getElem?_append_left (by show 2 * 0 + j < 2; omega)]
    simp
  | a :: l, k + 1, t, h, j, hj => by
    have h2 : l[k]? = some t := by simpa using h
    show (bCell n a ++ l.flatMap (bCell n))[2 * (k + 1) + j]? = _
    rw [List.getElem?_append_right (by show 2 ≤ 2 * (k + 1) + j; omega)]
    rw [show 2 * (k + 1) + j - (bCell n a).length = 2 * k + j from by show 2 * (k + 1) + j - 2 = _; omega]
    exact bCells_atL n l k t h2 j hj
theorem Net.bAt {w : World} (h : Net n T w) {k t : Nat} (ht : (EL n)[k]? = some t) : w.cell? ⟨T.gB, k * 2, none⟩ = some (.int .i64 (bC n (t / 4) ((t % 4 + 2) % 4) : Nat)) ∧ w.cell? ⟨T.gB, k * 2 + 1, none⟩ = some (.int .i64 (bC n (sg n t / 4) ((sg n t % 4 + 2) % 4) : Nat)) := by
  obtain ⟨b, r⟩ := h.rB
  obtain ⟨hk, -⟩ := List.getElem?_eq_some_iff.1 ht
  have e : bCells n (EL n).length = (EL n).flatMap (bCell n) := by unfold bCells; rw [List.take_length]
  rw [e] at r
  have hcs := fun j (hj : j < 2) => (r.cellAt (2 * k + j) (by omega)).trans (bCells_atL n _ k t ht j hj)
  rw [Nat.mul_comm k 2]
  exact ⟨hcs 0 (by omega), hcs 1 (by omega)⟩
theorem EL_le (hS : Side n) : (EL n).length ≤ 12288 := by
  have := N4_le hS
  rw [EL_length hS]
  unfold N4 at this
  omega

theorem zeroInt (w : World) : (zeroValue 3).run Tryz.prog w = .ok (.int .i64 0) w := by kernel_rfl
set_option maxRecDepth 100000
set_option maxHeartbeats 4000000
theorem cells_net (hS : Side n) (w : World) (h : Net n T w) :
    Calls Tryz.prog 6 #[.pointer (some ⟨T.g, 0, none⟩)] w fun e w' => e = .returned (.int .i64 (6 * n * n : Nat)) ∧ w = w' := by
  have c4 := h.c4
  have hN := N4_le hS
  unfold N4 at hN
  generalize 6 * n * n = C at c4 hN ⊢
  generalize T.g = g at c4 ⊢
  clear h
  go_enter Tryz.func6, Tryz.ntmps6
  go_wp2
  go_ret
  exact ⟨rfl, rfl⟩
theorem edges_net (hS : Side n) (w : World) (h : Net n T w) :
    Calls Tryz.prog 7 #[.pointer (some ⟨T.g, 0, none⟩)] w fun e w' => e = .returned (.int .i64 ((EL n).length : Nat)) ∧ w = w' := by
  have c4 := h.c1
  have hN := EL_le hS
  generalize (EL n).length = C at c4 hN ⊢
  generalize T.g = g at c4 ⊢
  clear h
  go_enter Tryz.func7, Tryz.ntmps7
  go_wp2
  go_ret
  exact ⟨rfl, rfl⟩
theorem side_net (w : World) (h : Net n T w) :
    Calls Tryz.prog 8 #[.pointer (some ⟨T.g, 0, none⟩)] w fun e w' => e = .returned (.int .i64 (n : Nat)) ∧ w = w' := by
  have c4 := h.c0
  generalize T.g = g at c4 ⊢
  clear h
  go_enter Tryz.func8, Tryz.ntmps8
  go_wp2
  go_ret
  exact ⟨rfl, rfl⟩
theorem is_net (hS : Side n) {k : Nat} (hk : k < (EL n).length) (w : World) (h : Net n T w) :
    Calls Tryz.prog 25 #[.pointer (some ⟨T.g, 0, none⟩), .int .i64 k] w fun e w' => e = .returned (.bool true) ∧ w = w' := by
  have c4 := h.c1
  have hN := EL_le hS
  generalize (EL n).length = C at c4 hN hk
  generalize T.g = g at c4 ⊢
  clear h
  have h1 : decide ((k : Int) < (C : Int)) = true := decide_eq_true (by omega)
  have h2 : decide ((0 : Int) ≤ (k : Int)) = true := decide_eq_true (by omega)
  go_enter Tryz.func25, Tryz.ntmps25
  go_wp2
  go_ret
  exact ⟨rfl, rfl⟩
theorem area_net (hS : Side n) {x : Nat} (hx : x < 6 * n * n) (w : World) (h : Net n T w) :
    Calls Tryz.prog 16 #[.pointer (some ⟨T.g, 0, none⟩), .int .i64 x] w fun e w' => e = .returned (.int .i64 (gA n x)) ∧ w = w' := by
  have c4 := h.c4
  have ca := h.aAt hx
  have hN := N4_le hS
  unfold N4 at hN
  generalize 6 * n * n = C at c4 hN hx
  generalize T.g = g at c4 ⊢
  generalize gA n x = a at ca ⊢
  clear h
  have h1 : decide ((C : Int) ≤ (x : Int)) = false := decide_eq_false (by omega)
  have h2 : decide ((x : Int) < 0) = false := decide_eq_false (by omega)
  go_enter Tryz.func16, Tryz.ntmps16
  go_wp2
  go_ret
  exact ⟨rfl, rfl⟩
theorem length_net (hS : Side n) {k t : Nat} (ht : (EL n)[k]? = some t) (w : World) (h : Net n T w) :
    Calls Tryz.prog 14 #[.pointer (some ⟨T.g, 0, none⟩), .int .i64 k] w fun e w' => e = .returned (.float .f64 (gL n t)) ∧ w = w' := by
  obtain ⟨hk, -⟩ := List.getElem?_eq_some_iff.1 ht
  have c4 := h.c5
  have ca := h.lAt ht
  have hN := EL_le hS
  have KI := Lib.hid (fun w (h : Net n T w) => is_net hS hk w h)
  have HN := Lib.hid h
  generalize (EL n).length = C at c4 hN hk
  generalize gL n t = a at ca ⊢
  clear h ht
  go_enter Tryz.func14, Tryz.ntmps14
  go_wp2_with (first | (go_at_call 25; ((with_reducible refine (KI.out _ HN.out).mono ?_)); rintro e w' ⟨rfl, rfl⟩))
  go_ret
  exact ⟨rfl, rfl⟩
theorem gap_net (hS : Side n) {k t : Nat} (ht : (EL n)[k]? = some t) (w : World) (h : Net n T w) :
    Calls Tryz.prog 15 #[.pointer (some ⟨T.g, 0, none⟩), .int .i64 k] w fun e w' => e = .returned (.float .f64 (gG n t)) ∧ w = w' := by
  obtain ⟨hk, -⟩ := List.getElem?_eq_some_iff.1 ht
  have c4 := h.c6
  have ca := h.gAt ht
  have hN := EL_le hS
  have KI := Lib.hid (fun w (h : Net n T w) => is_net hS hk w h)
  have HN := Lib.hid h
  generalize (EL n).length = C at c4 hN hk
  generalize gG n t = a at ca ⊢
  clear h ht
  go_enter Tryz.func15, Tryz.ntmps15
  go_wp2_with (first | (go_at_call 25; ((with_reducible refine (KI.out _ HN.out).mono ?_)); rintro e w' ⟨rfl, rfl⟩))
  go_ret
  exact ⟨rfl, rfl⟩
theorem edge_net (hS : Side n) {k t : Nat} (ht : (EL n)[k]? = some t) (w : World) (h : Net n T w) :
    Calls Tryz.prog 9 #[.pointer (some ⟨T.g, 0, none⟩), .int .i64 k] w fun e w' => e = .returned (.tuple #[.agg #[.int .i64 (t / 4 : Nat), .int .i64 (t % 4 : Nat), .int .i64 (sg n t / 4 : Nat), .int .i64 (sg n t % 4 : Nat)], .bool true]) ∧ Below w.heap.size w w' := by
  obtain ⟨hk, -⟩ := List.getElem?_eq_some_iff.1 ht
  have c4 := h.c1
  obtain ⟨ca, cb, cc, cd⟩ := h.eAt ht
  have hN := EL_le hS
  have KI := Lib.hid (fun w (h : Net n T w) => is_net hS hk w h)
  have HN := Lib.hid h
  have hg := h.gl
  have he : T.gE < w.heap.size := by
    obtain ⟨b, r⟩ := h.rE
    exact (r.lt _ rfl).2
  generalize (EL n).length = C at c4 hN hk
  generalize t / 4 = x at ca ⊢
  generalize t % 4 = o at cb ⊢
  generalize sg n t / 4 = y at cc ⊢
  generalize sg n t % 4 = p at cd ⊢
  clear h ht
  go_enter Tryz.func9, Tryz.ntmps9
  go_wp2_with (first | (go_at_call 25; ((with_reducible refine (KI.out _ (HN.out.below ((Below.refl w.heap.size w).alloc (Nat.le_refl _) _))).mono ?_)); rintro e w' ⟨rfl, rfl⟩))
  exact bodyPost_ret (v := .tuple #[.agg #[.int .i64 x, .int .i64 o, .int .i64 y, .int .i64 p], .bool true]) (by simp [results, Tryz.results9, go_sem]) rfl ⟨rfl, (Below.refl w.heap.size w).alloc (Nat.le_refl _) _⟩
theorem behind_net (hS : Side n) {k t : Nat} (ht : (EL n)[k]? = some t) (w : World) (h : Net n T w) :
    Calls Tryz.prog 129 #[.pointer (some ⟨T.g, 0, none⟩), .int .i64 k] w fun e w' => e = .returned (.tuple #[.int .i64 (bC n (t / 4) ((t % 4 + 2) % 4) : Nat), .int .i64 (bC n (sg n t / 4) ((sg n t % 4 + 2) % 4) : Nat), .bool true]) ∧ Below w.heap.size w w' := by
  obtain ⟨hk, -⟩ := List.getElem?_eq_some_iff.1 ht
  have c4 := h.c3
  obtain ⟨ca, cb⟩ := h.bAt ht
  have hN := EL_le hS
  have KI := Lib.hid (fun w (h : Net n T w) => is_net hS hk w h)
  have HN := Lib.hid h
  generalize (EL n).length = C at c4 hN hk
  generalize bC n (t / 4) ((t % 4 + 2) % 4) = x at ca ⊢
  generalize bC n (sg n t / 4) ((sg n t % 4 + 2) % 4) = y at cb ⊢
  clear h ht
  go_enter Tryz.func129, Tryz.ntmps129
  go_wp2_with (first | (go_at_call 25; ((with_reducible refine (KI.out _ HN.out).mono ?_)); rintro e w' ⟨rfl, rfl⟩))
  go_quiet (fail)
  go_wp2
  refine bodyPost_ret (results_tmp3 rfl _ _ _) rfl ?_
  exact ⟨rfl, below_drewN (Below.refl _ _) _⟩
theorem around_net (hS : Side n) {t : Nat} (ht : t < N4 n) (w : World) (h : Net n T w) :
    Calls Tryz.prog 10 #[.pointer (some ⟨T.g, 0, none⟩), .int .i64 (t / 4 : Nat), .int .i64 (t % 4 : Nat)] w fun e w' => e = .returned (.tuple #[.int .i64 (idx n (lo n t) : Nat), .int .i64 (if prim n t then 1 else -1)]) ∧ w = w' := by
  have c1 := h.c1
  have c2 := h.c2
  have hf := lo_facts hS ht
  have ht2 : (EL n)[idx n (lo n t)]? = some (lo n t) := E4_at hf.1 _ hf.2.1
  obtain ⟨hk, -⟩ := List.getElem?_eq_some_iff.1 ht2
  obtain ⟨ca, -, -, -⟩ := h.eAt ht2
  obtain ⟨M, hM⟩ := h.map
  have hl := h.look t ht (by omega)
  have hN := EL_le hS
  have hN4 := N4_le hS
  have hsg := sg_facts hS ht
  have hB := bes hS (show t / 4 < 6 * n * n by unfold N4 at ht; omega) (show t % 4 < 4 by omega)
  have hq : ((lo n t / 4 : Nat) : Int) = ((t / 4 : Nat) : Int) ↔ prim n t = true := by
    unfold lo
    rcases hp : prim n t with _ | _
    · simp only [if_neg (show ¬ (false = true) by decide)]
      constructor
      · intro e
        have e2 : sg n t / 4 = t / 4 := by omega
        rw [hsg.2.1] at e2
        exact absurd e2 hB.ne
      · intro e; exact absurd e (by decide)
    · simp
  obtain ⟨x, hx⟩ : ∃ x, x = t / 4 := ⟨_, rfl⟩
  obtain ⟨o, ho⟩ : ∃ o, o = t % 4 := ⟨_, rfl⟩
  have hkey : keyOf Tryz.prog 67 (.agg #[.int .i64 (x : Int), .int .i64 (o : Int)]) = some (klT t) := by
    have e := klT_pair (x := x) (o := o) (by omega) (by omega)
    rwa [show 4 * x + o = t by omega] at e
  have HL := Lib.hid (⟨hl, hkey, hM⟩ : _ ∧ _ ∧ _)
  have HQ := Lib.hid hq
  rw [← hx] at HQ ⊢
  rw [← ho]
  generalize (EL n).length = C at c1 hN hk
  generalize lo n t / 4 = y at ca HQ
  obtain ⟨i, hi⟩ : ∃ i, i = idx n (lo n t) := ⟨_, rfl⟩
  rw [← hi] at ca hk ⊢
  have HI := Lib.hid hi
  clear h ht2 hf hM hl hsg hB hq hkey hi hx ho hN4
  have wi : ∀ c : Int, iLit c = iLit ((i : Nat) : Int) → c = i := fun c e => by
    injection e with e
    injection e
  have hh := HL.out.1.1
  have hat0 := HL.out.1.2
  rw [← HI.out] at hat0
  rcases hp : prim n t with _ | _
  · have hyx : ((y : Int) == (x : Int)) = false := by
      have h : ¬ ((y : Int) = (x : Int)) := fun e => by have := HQ.out.1 e; rw [hp] at this; cases this
      simpa using h
    go_enter Tryz.func10, Tryz.ntmps10
    go_wp2_with (first | (at_lookup; refine wpList_lookup_own_ok_int _ rfl _ _ 56 rfl 67 3 .i64 lawPair Tryz.underlying56 Tryz.underlying3 (zeroInt _) T.m M T.D rfl HL.out.2.2 _ _ rfl HL.out.2.1 ?_; intro c hat hwc; obtain rfl : c = (i : Int) := wi c (hat.symm.trans hat0)))
    refine bodyPost_ret (results_tmp2 rfl _ _ _) rfl ?_
    exact ⟨rfl, rfl⟩
  · have hyx : ((y : Int) == (x : Int)) = true := by
      have h := HQ.out.2 hp
      simpa using h
    go_enter Tryz.func10, Tryz.ntmps10
    go_wp2_with (first | (at_lookup; refine wpList_lookup_own_ok_int _ rfl _ _ 56 rfl 67 3 .i64 lawPair Tryz.underlying56 Tryz.underlying3 (zeroInt _) T.m M T.D rfl HL.out.2.2 _ _ rfl HL.out.2.1 ?_; intro c hat hwc; obtain rfl : c = (i : Int) := wi c (hat.symm.trans hat0)))
    refine bodyPost_ret (results_tmp2 rfl _ _ _) rfl ?_
    exact ⟨rfl, rfl⟩
end Go.Proofs.YtkjjecghbhppgaaGreatDoor
/- A plan and a sea that can be: between, floats. -/
namespace Go.Proofs.YtkjjecghbhppgaaGreatDoor
open Go Go.RowKit Go.Maps TF

attribute [local go_sem] cmp_eq cmp_ne cmp_lt cmp_gt cmp_le cmp_ge run_store_float
set_option maxRecDepth 100000
set_option maxHeartbeats 4000000
theorem cell_one_new0 (w : World) (v : Value) (t : TypeId) : (w.alloc (.cells #[v] t)).cell? ⟨w.heap.size, 0, none⟩ = some v := by simp [go_sem]
theorem between_ok (x lo hi : Nat) (h1 : (ltW lo x || eqW x lo) = true) (h2 : (ltW x hi || eqW x hi) = true) (h3 : ((x : Int) != 9223372036854775808) = true) (w : World) :
    Calls Tryz.prog 92 #[.float .f64 x, .float .f64 lo, .float .f64 hi] w fun e w' => e = .returned (.bool true) ∧ w = w' := by
  have k1 := run_f64bits
  go_enter Tryz.func92, Tryz.ntmps92
  go_wp2
  go_ret
  exact ⟨rfl, rfl⟩
theorem valid_zero (w : World) : Calls Tryz.prog 93 #[.int .i64 0] w fun e w' => e = .returned (.bool true) ∧ w = w' := by
  go_enter Tryz.func93, Tryz.ntmps93
  go_wp2
  go_ret
  exact ⟨rfl, rfl⟩
theorem floats1_ok (x : Nat) (b most neg : Nat) (hm : most < 2 ^ 64) (hn : op most = neg) (h1 : (ltW neg x || eqW x neg) = true) (h2 : (ltW x most || eqW x most) = true) (h3 : ((x : Int) != 9223372036854775808) = true) (w : World) (hb : w.cell? ⟨b, 0, none⟩ = some (.float .f64 most)) :
    Calls Tryz.prog 124 #[.float .f64 x, .pointer (some ⟨b, 0, none⟩)] w fun e w' => e = .returned (.bool false) ∧ w = w' := by
  have k4 := run_neg Tryz.prog hm
  rw [hn] at k4
  clear hn
  go_enter Tryz.func124, Tryz.ntmps124
  go_wp2_with (first | (go_at_call 92; ((with_reducible refine (between_ok _ _ _ (by first | assumption | decide) (by first | assumption | decide) (by first | assumption | decide) _).mono ?_)); rintro e w' ⟨rfl, rfl⟩))
  go_ret
  exact ⟨rfl, rfl⟩
theorem idxf_ok (N b fb most neg : Nat) (hm : most < 2 ^ 64) (hn : op most = neg) (h1 : (ltW neg 0 || eqW 0 neg) = true) (h2 : (ltW 0 most || eqW 0 most) = true) (hN : N ≤ 12) (w : World) (hb : w.cell? ⟨fb, 0, none⟩ = some (.float .f64 most)) (hx : ∀ i < N, w.cell? ⟨b, i, none⟩ = some (.float .f64 0)) :
    Calls Tryz.prog 123 #[.slice (some ⟨b, 0, none⟩) N N, .func (.func 124) #[] #[.pointer (some ⟨fb, 0, none⟩)]] w fun e w' => e = .returned (.int .i64 (-1)) ∧ w = w' := by
  have KF := Lib.hid (fun w => floats1_ok 0 fb most neg hm hn h1 h2 (by decide) w)
  go_enter Tryz.func123, Tryz.ntmps123
  go_wp2_with fail
  go_loopw [8] (fun i wr => ∃ k : Nat, k ≤ N ∧ i = .int .i64 k ∧ wr = w) (fun i _ => N - (intOf i).toNat)
  case atStart => exact ⟨0, by omega, rfl, rfl⟩
  case round =>
    obtain ⟨k, hk, rfl, hw⟩ := hrel
    subst hw
    by_cases hlt : k < N
    · have c0 := hx k hlt
      go_wp2_with (first | (go_at_call 124; ((with_reducible refine (KF.out _ hb).mono ?_)); rintro e w' ⟨rfl, rfl⟩))
      go_roundw
      case rel => exact ⟨k + 1, by omega, by go_num, by trivial⟩
      case measure => simp [intOf]; omega
    · have hE : k = N := by omega
      subst hE
      go_wp2
      go_ret
      exact ⟨rfl, rfl⟩
theorem floats_ok (N b most neg : Nat) (hm : most < 2 ^ 64) (hn : op most = neg) (h1 : (ltW neg 0 || eqW 0 neg) = true) (h2 : (ltW 0 most || eqW 0 most) = true) (hN : N ≤ 12) (w : World) (hl : b < w.heap.size) (hx : ∀ i < N, w.cell? ⟨b, i, none⟩ = some (.float .f64 0)) :
    Calls Tryz.prog 95 #[.slice (some ⟨b, 0, none⟩) N N, .float .f64 most] w fun e w' => e = .returned (.int .i64 (-1)) ∧ Below w.heap.size w w' := by
  have KX := Lib.hid (fun (w : World) h h2' => idxf_ok N b w.heap.size most neg hm hn h1 h2 hN (w.alloc (.cells #[.float .f64 most] 35)) h h2')
  have hc : ∀ i < N, (w.alloc (.cells #[.float .f64 most] 35)).cell? ⟨b, i, none⟩ = some (.float .f64 0) := fun i hi => by rw [World.cell?_alloc_lt _ _ _ hl]; exact hx i hi
  go_enter Tryz.func95, Tryz.ntmps95
  go_wp2_with (first | (go_at_call 123; ((with_reducible refine (KX.out _ (cell_one_new0 _ _ _) hc).mono ?_)); rintro e w' ⟨rfl, rfl⟩))
  go_ret
  exact ⟨rfl, (Below.refl w.heap.size w).alloc (Nat.le_refl _) _⟩
theorem quanta1_ok (x all : Int) (fb : Nat) (h0 : 0 ≤ x) (h1 : 0 ≤ all) (h2 : x ≤ 4503599627370496 - all) (w : World) (hb : w.cell? ⟨fb, 0, none⟩ = some (.int .i64 all)) (hf : w.frozen? ⟨fb, 0, none⟩ = false) :
    Calls Tryz.prog 125 #[.int .i64 x, .pointer (some ⟨fb, 0, none⟩)] w fun e w' => e = .returned (.bool false) ∧ w' = w.setCell ⟨fb, 0, none⟩ (.int .i64 (all + x)) := by
  have c1 : decide (x < 0) = false := decide_eq_false (by omega)
  have c2 : decide (4503599627370496 - all < x) = false := decide_eq_false (by omega)
  go_enter Tryz.func125, Tryz.ntmps125
  go_wp2
  go_ret
  exact ⟨rfl, rfl⟩
theorem idxq_ok (N b fb : Nat) (xs S : Nat → Int) (hS : ∀ i < N, 0 ≤ xs i ∧ 0 ≤ S i ∧ xs i ≤ 4503599627370496 - S i ∧ S (i + 1) = S i + xs i) (hN : N ≤ 12) (hne : b ≠ fb) (w : World) (hl : b < w.heap.size) (hb : w.cell? ⟨fb, 0, none⟩ = some (.int .i64 (S 0))) (hf : w.frozen? ⟨fb, 0, none⟩ = false) (hx : ∀ i < N, w.cell? ⟨b, i, none⟩ = some (.int .i64 (xs i))) :
    Calls Tryz.prog 107 #[.slice (some ⟨b, 0, none⟩) N N, .func (.func 125) #[] #[.pointer (some ⟨fb, 0, none⟩)]] w fun e w' => e = .returned (.int .i64 (-1)) ∧ w.grownBy w' (some fb) := by
  go_enter Tryz.func107, Tryz.ntmps107
  go_wp2_with fail
  go_loopw [8] (fun i wr => ∃ k : Nat, k ≤ N ∧ i = .int .i64 k ∧ w.grownBy wr (some fb) ∧ wr.cell? ⟨fb, 0, none⟩ = some (.int .i64 (S k)) ∧ wr.frozen? ⟨fb, 0, none⟩ = false) (fun i _ => N - (intOf i).toNat)
  case atStart => exact ⟨0, by omega, rfl, ⟨rfl, rfl, rfl, Nat.le_refl _, fun _ _ _ => rfl⟩, hb, hf⟩
  case round =>
    obtain ⟨k, hk, rfl, hg, hc, hfr⟩ := hrel
    by_cases hlt : k < N
    · have c0 := ((grown_cell hg hl (by simpa using hne)).1 k).trans (hx k hlt)
      obtain ⟨q1, q2, q3, q4⟩ := hS k hlt
      have HG := Lib.hid hg
      generalize xs k = x at c0 q1 q3 q4
      have HS := Lib.hid q4
      generalize S k = s at hc q2 q3 HS
      clear hg q4 hS hx
      go_wp2_with (first | (go_at_call 125; ((with_reducible refine (quanta1_ok _ _ _ (by assumption) (by assumption) (by assumption) _ hc hfr).mono ?_)); rintro e w' ⟨rfl, rfl⟩))
      go_roundw
      case rel =>
        have hs := grown_set wr ⟨fb, 0, none⟩ (.int .i64 (s + x))
        have hgr := HG.out
        exact ⟨k + 1, by omega, by go_num, ⟨hs.os.trans hgr.os, hs.tape.trans hgr.tape, hs.output.trans hgr.output, Nat.le_trans hgr.size hs.size, fun i hi hn => (hs.block i (Nat.lt_of_lt_of_le hi hgr.size) hn).trans (hgr.block i hi hn)⟩, by rw [HS.out]; simp [go_sem, hc], by rw [World.frozen?_setCell]; exact hfr⟩
      case measure => simp [intOf]; omega
    · have hE : k = N := by omega
      subst hE
      go_wp2
      go_ret
      exact ⟨rfl, hg⟩
theorem quanta_ok (N b : Nat) (xs S : Nat → Int) (hS : ∀ i < N, 0 ≤ xs i ∧ 0 ≤ S i ∧ xs i ≤ 4503599627370496 - S i ∧ S (i + 1) = S i + xs i) (hN : N ≤ 12) (w : World) (hl : b < w.heap.size) (h0 : S 0 = 0) (hx : ∀ i < N, w.cell? ⟨b, i, none⟩ = some (.int .i64 (xs i))) :
    Calls Tryz.prog 96 #[.slice (some ⟨b, 0, none⟩) N N, .int .i64 0] w fun e w' => e = .returned (.int .i64 (-1)) ∧ Below w.heap.size w w' := by
  have KX := Lib.hid (fun (w : World) h h2 h3 h4 => idxq_ok N b w.heap.size xs S hS hN h (w.alloc (.cells #[.int .i64 0] 2)) h2 (by rw [h0]; exact cell_one_new0 _ _ _) h3 h4)
  have hc : ∀ i < N, (w.alloc (.cells #[.int .i64 0] 2)).cell? ⟨b, i, none⟩ = some (.int .i64 (xs i)) := fun i hi => by rw [World.cell?_alloc_lt _ _ _ hl]; exact hx i hi
  have hfz : (w.alloc (.cells #[.int .i64 0] 2)).frozen? ⟨w.heap.size, 0, none⟩ = false := by simp [go_sem]
  clear hS hx
  go_enter Tryz.func96, Tryz.ntmps96
  go_wp2_with (first | (go_at_call 107; ((with_reducible refine (KX.out w (by omega) (by simp; omega) hfz hc).mono ?_)); rintro e w' ⟨rfl, hgq⟩))
  go_ret
  exact ⟨rfl, ((Below.refl w.heap.size w).alloc (Nat.le_refl _) _).grown hgq (by simp) (fun b e => by have := Option.some.inj e; omega)⟩
end Go.Proofs.YtkjjecghbhppgaaGreatDoor
