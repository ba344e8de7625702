/- Laid together: GeoY, PondF, HeldF, RainO, RainP. -/
import Derived.Test.YtkjjecghbhppgaaGreatDoorK06
import Derived.Test.YtkjjecghbhppgaaGreatDoorK04
import Derived.Test.YtkjjecghbhppgaaGreatDoorK01
import Derived.Below
import Derived.ProofKit
import Derived.OwnWalk
import Derived.OneCell
/- Lengths and gaps over the edges of a net, by numbers. -/
namespace TF
open Go Go.RowKit

theorem In5.mid {n f : Nat} {i j : Int} (h : On n f i j) : In5 n f (2 * i + 1 - n) (2 * j + 1 - n) := by
  have := h.n1; have := h.n32; have := h.i0; have := h.i1; have := h.j0; have := h.j1
  exact ⟨by omega, by omega, h.f6, by omega, by omega⟩
theorem mg_near {n f s : Nat} {i j : Int} (h : On n f i j) (hs : s < 4) (h2 : On n f (i + DX s) (j + DY s)) : PW (MG n f i j f (i + DX s) (j + DY s)) ∧ 0 < MG n f i j f (i + DX s) (j + DY s) := by
  have p := In5.mid h
  have q := In5.mid h2
  rw [MG_is]
  refine PG_pos p q ?_
  rcases four hs with rfl | rfl | rfl | rfl
  · have e : 2 * (i + DX 0) + 1 - (n : Int) = 2 * i + 1 - n + 2 ∧ 2 * (j + DY 0) + 1 - (n : Int) = 2 * j + 1 - n := by have d : DX 0 = 1 ∧ DY 0 = 0 := ⟨rfl, rfl⟩; rw [d.1, d.2]; omega
    rw [e.1, e.2]; exact apt_k p.n1 p.f6
  · have e : 2 * (i + DX 1) + 1 - (n : Int) = 2 * i + 1 - n ∧ 2 * (j + DY 1) + 1 - (n : Int) = 2 * j + 1 - n + 2 := by have d : DX 1 = 0 ∧ DY 1 = 1 := ⟨rfl, rfl⟩; rw [d.1, d.2]; omega
    rw [e.1, e.2]; exact apt_l p.n1 p.f6
  · have e : 2 * i + 1 - (n : Int) = 2 * (i + DX 2) + 1 - n + 2 ∧ 2 * (j + DY 2) + 1 - (n : Int) = 2 * j + 1 - n := by have d : DX 2 = -1 ∧ DY 2 = 0 := ⟨rfl, rfl⟩; rw [d.1, d.2]; omega
    rw [e.1, e.2]; exact (apt_k p.n1 p.f6).symm
  · have e : 2 * (i + DX 3) + 1 - (n : Int) = 2 * i + 1 - n ∧ 2 * j + 1 - (n : Int) = 2 * (j + DY 3) + 1 - n + 2 := by have d : DX 3 = 0 ∧ DY 3 = -1 := ⟨rfl, rfl⟩; rw [d.1, d.2]; omega
    rw [e.1, e.2]; exact (apt_l p.n1 p.f6).symm
theorem MG_pos {n f s : Nat} {i j : Int} (h : On n f i j) (hs : s < 4) : PW (MG n f i j (bF n f s i j) (bX n f s i j) (bY n f s i j)) ∧ 0 < MG n f i j (bF n f s i j) (bX n f s i j) (bY n f s i j) := by
  obtain ⟨hb, -⟩ := b_on h hs
  by_cases ho : offI n s i j = n - 1
  · unfold bF bX bY
    simp only [ho, if_true]
    exact mg_far h hs ho
  · unfold bF bX bY at hb ⊢
    simp only [ho, if_false] at hb ⊢
    exact mg_near h hs hb
theorem MG_back {n f g : Nat} {i j a b : Int} (h : On n f i j) (h' : On n g a b) : MG n f i j g a b = MG n g a b f i j := by
  rw [MG_is, MG_is]
  exact PG_sym (In5.mid h) (In5.mid h')
theorem CG_eq {n f g : Nat} {i j a b i' j' a' b' : Int} (a0 : PT n f (2 * i - n) (2 * j - n) 0 = PT n g (2 * i' - n) (2 * j' - n) 0) (a1 : PT n f (2 * i - n) (2 * j - n) 1 = PT n g (2 * i' - n) (2 * j' - n) 1) (a2 : PT n f (2 * i - n) (2 * j - n) 2 = PT n g (2 * i' - n) (2 * j' - n) 2)
    (b0 : PT n f (2 * a - n) (2 * b - n) 0 = PT n g (2 * a' - n) (2 * b' - n) 0) (b1 : PT n f (2 * a - n) (2 * b - n) 1 = PT n g (2 * a' - n) (2 * b' - n) 1) (b2 : PT n f (2 * a - n) (2 * b - n) 2 = PT n g (2 * a' - n) (2 * b' - n) 2) : CG n f i j a b = CG n g i' j' a' b' := PG_eq a0 a1 a2 b0 b1 b2
theorem CG_sw {n f g : Nat} {i j a b i' j' a' b' : Int} (h : In5 n g (2 * i' - n) (2 * j' - n)) (h' : In5 n g (2 * a' - n) (2 * b' - n))
    (a0 : PT n f (2 * i - n) (2 * j - n) 0 = PT n g (2 * a' - n) (2 * b' - n) 0) (a1 : PT n f (2 * i - n) (2 * j - n) 1 = PT n g (2 * a' - n) (2 * b' - n) 1) (a2 : PT n f (2 * i - n) (2 * j - n) 2 = PT n g (2 * a' - n) (2 * b' - n) 2)
    (b0 : PT n f (2 * a - n) (2 * b - n) 0 = PT n g (2 * i' - n) (2 * j' - n) 0) (b1 : PT n f (2 * a - n) (2 * b - n) 1 = PT n g (2 * i' - n) (2 * j' - n) 1) (b2 : PT n f (2 * a - n) (2 * b - n) 2 = PT n g (2 * i' - n) (2 * j' - n) 2) : CG n f i j a b = CG n g i' j' a' b' := by
  rw [CG_is, CG_is, PG_sym h h']
  exact PG_eq a0 a1 a2 b0 b1 b2
set_option maxHeartbeats 8000000 in
theorem le_far {n f s : Nat} {i j : Int} (h : On n f i j) (hs : s < 4) (ho : offI n s i j = n - 1) :
    LE n (nbF f s) (posX n (nbS f s) (laneI n s i j) 0) (posY n (nbS f s) (laneI n s i j) 0) (nbB f s) = LE n f i j s := by
  obtain ⟨hf, g1, g2, i0, i1, j0, j1⟩ := (⟨h.f6, h.n1, h.n32, h.i0, h.i1, h.j0, h.j1⟩ : f < 6 ∧ 1 ≤ (n : Int) ∧ (n : Int) ≤ 32 ∧ 0 ≤ i ∧ i < n ∧ 0 ≤ j ∧ j < n)
  clear h
  rcases six hf with rfl | rfl | rfl | rfl | rfl | rfl
  all_goals
    rcases four hs with rfl | rfl | rfl | rfl
    all_goals
      simp [offI] at ho
      simp only [nbF, nbS, nbB, nbT, List.getD_cons_zero, List.getD_cons_succ, posX, posY, laneI, LE, if_true, if_false, Nat.reduceAdd, Nat.reduceMod, (by decide : ¬ (1 : Nat) = 0), (by decide : ¬ (2 : Nat) = 0), (by decide : ¬ (2 : Nat) = 1), (by decide : ¬ (3 : Nat) = 0), (by decide : ¬ (3 : Nat) = 1), (by decide : ¬ (3 : Nat) = 2)]
      clear hf hs
      first
        | (refine CG_eq ?_ ?_ ?_ ?_ ?_ ?_ <;> simp only [PT, FR, frT, List.getD_cons_zero, List.getD_cons_succ, Int.mul_zero, Int.mul_one, Int.add_zero, Int.zero_add, Int.mul_neg] <;> omega)
        | (refine CG_sw ⟨by omega, by omega, by omega, by omega, by omega⟩ ⟨by omega, by omega, by omega, by omega, by omega⟩ ?_ ?_ ?_ ?_ ?_ ?_ <;> simp only [PT, FR, frT, List.getD_cons_zero, List.getD_cons_succ, Int.mul_zero, Int.mul_one, Int.add_zero, Int.zero_add, Int.mul_neg] <;> omega)
theorem LE_back {n f s : Nat} {i j : Int} (h : On n f i j) (hs : s < 4) : LE n (bF n f s i j) (bX n f s i j) (bY n f s i j) (bS n f s i j) = LE n f i j s := by
  by_cases ho : offI n s i j = n - 1
  · unfold bF bX bY bS
    simp only [ho, if_true]
    exact le_far h hs ho
  · unfold bF bX bY bS
    simp only [ho, if_false]
    have ei : i + -1 + 1 = i := by omega
    have ej : j + -1 + 1 = j := by omega
    rcases four hs with rfl | rfl | rfl | rfl
    · simp [LE, DX, DY]
    · simp [LE, DX, DY]
    · simp [LE, DX, DY, ei]
    · simp [LE, DX, DY, ej]

/-! ### By the numbers of cells -/
/-- a cell's area, a side's length and gap -/
def gA (n x : Nat) : Int := AR n (cF n x) (cI n x) (cJ n x)
def gL (n t : Nat) : Nat := LE n (cF n (t / 4)) (cI n (t / 4)) (cJ n (t / 4)) (t % 4)
def gG (n t : Nat) : Nat := MG n (cF n (t / 4)) (cI n (t / 4)) (cJ n (t / 4)) (cF n (bC n (t / 4) (t % 4))) (cI n (bC n (t / 4) (t % 4))) (cJ n (bC n (t / 4) (t % 4)))
theorem gA_pos (n x : Nat) : 1 ≤ gA n x := by unfold gA AR arI; omega
theorem g_facts {n t : Nat} (hS : Side n) (ht : t < N4 n) : PW (gL n t) ∧ 0 < gL n t ∧ PW (gG n t) ∧ 0 < gG n t ∧ gL n (sg n t) = gL n t ∧ gG n (sg n t) = gG n t := by
  have hx : t / 4 < 6 * n * n := by unfold N4 at ht; omega
  have ho : t % 4 < 4 := by omega
  have B := bes hS hx ho
  obtain ⟨hO, -⟩ := dec_on hS hx
  obtain ⟨hO2, -⟩ := dec_on hS B.lt
  have f := sg_facts hS ht
  have l := LE_pos hO ho
  have m := MG_pos hO ho
  rw [B.f, B.i, B.j] at m
  refine ⟨l.1, l.2, m.1, m.2, ?_, ?_⟩
  · unfold gL
    rw [f.2.1, f.2.2.1, ← LE_back hO ho, B.f, B.i, B.j]; rfl
  · unfold gG
    rw [f.2.2.2.2.2.1, f.2.1]
    exact MG_back hO2 hO
end TF
/- The net of side 1 and the pond upon it, in numbers. -/
namespace TF
open Go

def tE (k : Nat) : Nat := [0, 1, 2, 3, 4, 5, 7, 8, 9, 11, 13, 15].getD k 0
def tS (k : Nat) : Nat := [6, 19, 12, 21, 10, 16, 20, 14, 17, 23, 18, 22].getD k 0
def bA (k : Nat) : Nat := [3, 5, 1, 4, 0, 5, 4, 1, 5, 4, 5, 4].getD k 0
def bB (k : Nat) : Nat := [2, 2, 2, 2, 3, 3, 3, 0, 0, 0, 1, 1].getD k 0
/-- the edge over a side of a cell, by 4 * cell + side; is the cell its Left? -/
def aE (t : Nat) : Nat := [0, 1, 2, 3, 4, 5, 0, 6, 7, 8, 4, 9, 2, 10, 7, 11, 5, 8, 10, 1, 6, 3, 11, 9].getD t 0
def aS (t : Nat) : Int := [1, 1, 1, 1, 1, 1, -1, 1, 1, 1, -1, 1, -1, 1, -1, 1, -1, -1, -1, -1, -1, -1, -1, -1].getD t 0
theorem el1 : ∀ k < 12, (EL 1)[k]? = some (tE k) := by decide +kernel
theorem sg1 : ∀ k < 12, sg 1 (tE k) = tS k := by decide +kernel
theorem bh1 : ∀ k < 12, bC 1 (tE k / 4) ((tE k % 4 + 2) % 4) = bA k ∧ bC 1 (tS k / 4) ((tS k % 4 + 2) % 4) = bB k := by decide +kernel
theorem gl1 : ∀ k < 12, gL 1 (tE k) = 4607879128087016221 := by decide +kernel
theorem gg1 : ∀ k < 12, gG 1 (tE k) = 4609047870845172685 := by decide +kernel
theorem ga1 : ∀ x < 6, gA 1 x = 1431655765 := by decide +kernel
theorem ar1 : ∀ t < 24, idx 1 (lo 1 t) = aE t ∧ (if prim 1 t then (1 : Int) else -1) = aS t := by decide +kernel
theorem cells1 : ∀ k < 12, tE k / 4 < 6 ∧ tS k / 4 < 6 ∧ bA k < 6 ∧ bB k < 6 ∧ (tE k / 4 = 0 ↔ k < 4) ∧ tS k / 4 ≠ 0 := by decide
theorem around1 : ∀ t < 24, aE t < 12 := by decide

/-- the water of the pond -/
def wat (i : Nat) : Int := if i = 0 then 1433053866 else 1431655765
/-- its depths, and levels -/
def dep (i : Nat) : Nat := if i = 0 then 4607186816845480960 else 4607182418800017408
theorem pdep_is : ∀ i < 6, depthW (wat i) 1431655765 = dep i := by decide +kernel
theorem plev_is : ∀ i < 6, levelW 0 (wat i) 1431655765 = dep i := by decide +kernel
/-- speeds and flows behind the step -/
def spd (k : Nat) : Nat := if k < 4 then 4555004673799709393 else 0
def flo (k : Nat) : Int := if k < 4 then 214249 else 0
theorem f_gd : floatBits .mul .f64 4607182418800017408 4602678819172646912 = some 4602678819172646912 := by decide +kernel
theorem f_dl1 : floatBits .sub .f64 4607182418800017408 4607186816845480960 = some 13785518457235701760 := by decide +kernel
theorem f_dl0 : floatBits .sub .f64 4607182418800017408 4607182418800017408 = some 0 := by decide +kernel
theorem f_m1 : floatBits .mul .f64 4602678819172646912 13785518457235701760 = some 13781014857608331264 := by decide +kernel
theorem f_m0 : floatBits .mul .f64 4602678819172646912 0 = some 0 := by decide +kernel
theorem f_p1 : floatBits .quo .f64 13781014857608331264 4609047870845172685 = some 13778376710654485201 := by decide +kernel
theorem f_p0 : floatBits .quo .f64 0 4609047870845172685 = some 0 := by decide +kernel
theorem f_u1 : floatBits .sub .f64 0 13778376710654485201 = some 4555004673799709393 := by decide +kernel
theorem f_u0 : floatBits .sub .f64 0 0 = some 0 := by decide +kernel
theorem f_s1 : floatBits .add .f64 4607186816845480960 4607182418800017408 = some 4611688217450119680 := by decide +kernel
theorem f_s0 : floatBits .add .f64 4607182418800017408 4607182418800017408 = some 4611686018427387904 := by decide +kernel
theorem f_h1 : floatBits .mul .f64 4602678819172646912 4611688217450119680 = some 4607184617822749184 := by decide +kernel
theorem f_h0 : floatBits .mul .f64 4602678819172646912 4611686018427387904 = some 4607182418800017408 := by decide +kernel
theorem f_dg : floatBits .mul .f64 0 4602678819172646912 = some 0 := by decide +kernel
theorem f_d1 : floatBits .mul .f64 0 4555004673799709393 = some 0 := by decide +kernel
theorem f_d0 : floatBits .mul .f64 0 0 = some 0 := by decide +kernel
theorem f_r1 : floatBits .quo .f64 0 4607184617822749184 = some 0 := by decide +kernel
theorem f_r0 : floatBits .quo .f64 0 4607182418800017408 = some 0 := by decide +kernel
theorem f_q : floatBits .add .f64 4607182418800017408 0 = some 4607182418800017408 := by decide +kernel
theorem f_v1 : floatBits .quo .f64 4555004673799709393 4607182418800017408 = some 4555004673799709393 := by decide +kernel
theorem f_v0 : floatBits .quo .f64 0 4607182418800017408 = some 0 := by decide +kernel
/-- quanta -/
theorem f_a1 : floatBits .mul .f64 4555004673799709393 4607186816845480960 = some 4555010893573770420 := by decide +kernel
theorem f_a2 : floatBits .mul .f64 4555010893573770420 4607879128087016221 = some 4555997151264187869 := by decide +kernel
theorem f_a3 : floatBits .mul .f64 4555997151264187869 4602678819172646912 = some 4551493551636817373 := by decide +kernel
theorem f_a4 : floatBits .mul .f64 4551493551636817373 4742290407621132288 = some 4686601540457932253 := by decide +kernel
theorem f_b2 : floatBits .mul .f64 0 4607879128087016221 = some 0 := by decide +kernel
theorem f_b4 : floatBits .mul .f64 0 4742290407621132288 = some 0 := by decide +kernel
theorem clamp1 : clampI 4686601540457932253 4503599627370496 = 214249 := by decide +kernel
theorem clamp0 : clampI 0 4503599627370496 = 0 := by decide +kernel
/-- depths over edges -/
theorem f_x1 : floatBits .sub .f64 4607186816845480960 4607182418800017408 = some 4562146420380925952 := by decide +kernel
theorem f_hs : floatBits .mul .f64 4602678819172646912 0 = some 0 := f_m0
theorem f_vs : floatBits .add .f64 4607186816845480960 0 = some 4607186816845480960 := by decide +kernel
theorem f_gs : floatBits .sub .f64 4607186816845480960 0 = some 4607186816845480960 := by decide +kernel
end TF
/- What stays while a region calls, draws and stores: old memory; the blocks that lie there, but for those that it writes. -/
namespace TF
open Go Go.RowKit

/-- what a cell holds, whatever it is -/
def heldV (v : World) (a : Addr) : Value := (v.cell? a).getD undef
theorem heldV_of {v : World} {a : Addr} {u : Value} (h : v.cell? a = some u) : v.cell? a = some (heldV v a) := by unfold heldV; rw [h]; rfl
theorem heldV_set {v : World} {p a : Addr} {u : Value} (h : v.cell? a = some (heldV v a)) : (v.setCell p u).cell? a = some (heldV (v.setCell p u) a) := by
  obtain ⟨x, hx⟩ := cell?_setCell_some (p := p) (x := u) h
  exact heldV_of hx

structure Held (w0 W : World) (wr : Nat → Bool) (v : World) : Prop where
  bel : Below w0.heap.size w0 v
  size : W.heap.size ≤ v.heap.size
  cell : ∀ b o, b < W.heap.size → wr b = false → v.cell? ⟨b, o, none⟩ = W.cell? ⟨b, o, none⟩
  froz : ∀ b o, b < W.heap.size → v.frozen? ⟨b, o, none⟩ = W.frozen? ⟨b, o, none⟩
  own : ∀ b o, b < W.heap.size → W.cell? ⟨b, o, none⟩ = some (heldV W ⟨b, o, none⟩) → v.cell? ⟨b, o, none⟩ = some (heldV v ⟨b, o, none⟩)
theorem Held.start {w0 W : World} (wr : Nat → Bool) (h : Below w0.heap.size w0 W) : Held w0 W wr W := ⟨h, Nat.le_refl _, fun _ _ _ _ => rfl, fun _ _ _ => rfl, fun _ _ _ h => h⟩
theorem Held.call {w0 W v v' : World} {wr : Nat → Bool} (h : Held w0 W wr v) (hB : Below v.heap.size v v') : Held w0 W wr v' :=
  ⟨h.bel.trans (hB.mono h.bel.size), Nat.le_trans h.size hB.size, fun b o hb hw => (hB.cell (p := ⟨b, o, none⟩) (Nat.lt_of_lt_of_le hb h.size)).trans (h.cell b o hb hw),
    fun b o hb => (hB.frozen (p := ⟨b, o, none⟩) (Nat.lt_of_lt_of_le hb h.size)).trans (h.froz b o hb),
    fun b o hb hc => heldV_of ((hB.cell (p := ⟨b, o, none⟩) (Nat.lt_of_lt_of_le hb h.size)).trans (h.own b o hb hc))⟩
theorem Held.draw {w0 W v : World} {wr : Nat → Bool} (h : Held w0 W wr v) : Held w0 W wr v.drew := h.call (Below.refl _ _).drew
theorem Held.alloc {w0 W v : World} {wr : Nat → Bool} (h : Held w0 W wr v) (o : Obj) : Held w0 W wr (v.alloc o) := h.call ((Below.refl _ _).alloc (Nat.le_refl _) o)
theorem Held.store {w0 W v : World} {wr : Nat → Bool} (h : Held w0 W wr v) (b o : Nat) (u : Value) (hb : w0.heap.size ≤ b) (hw : b < W.heap.size → wr b = true) : Held w0 W wr (v.setCell ⟨b, o, none⟩ u) :=
  ⟨h.bel.setCell hb u, by rw [World.size_setCell]; exact h.size, fun b' o' hb' hw' => by
    rw [World.cell?_setCell_other _ _ _ _ (by intro e; injection e with e1; subst e1; rw [hw hb'] at hw'; cases hw')]
    exact h.cell b' o' hb' hw', fun b' o' hb' => by rw [World.frozen?_setCell]; exact h.froz b' o' hb', fun b' o' hb' hc => heldV_set (h.own b' o' hb' hc)⟩
end TF
/- Rain: what the step does, as a plain function; slices of integers and of rains as functions of the index; the call's own row of integers. -/
namespace TF
open Go Go.RowKit

def outB (x : Int) : Bool := decide (x < 0) || decide (4503599627370496 < x)
theorem outB_false {x : Int} (h : outB x = false) : 0 ≤ x ∧ x ≤ 4503599627370496 := by
  simp [outB] at h; omega

def validB (n c a f t : Int) : Bool := decide (0 ≤ c) && decide (c < n) && decide (-4503599627370496 ≤ a) && decide (a ≤ 4503599627370496) && decide (0 ≤ f) && decide (f ≤ t)
theorem valid_cases (n c a f t : Int) : (validB n c a f t = true ∧ 0 ≤ c ∧ c < n ∧ -4503599627370496 ≤ a ∧ a ≤ 4503599627370496 ∧ 0 ≤ f ∧ f ≤ t) ∨ (validB n c a f t = false ∧ (c < 0 ∨ (0 ≤ c ∧ n ≤ c) ∨ (0 ≤ c ∧ c < n ∧ a < -4503599627370496) ∨ (0 ≤ c ∧ c < n ∧ -4503599627370496 ≤ a ∧ 4503599627370496 < a) ∨
      (0 ≤ c ∧ c < n ∧ -4503599627370496 ≤ a ∧ a ≤ 4503599627370496 ∧ f < 0) ∨ (0 ≤ c ∧ c < n ∧ -4503599627370496 ≤ a ∧ a ≤ 4503599627370496 ∧ 0 ≤ f ∧ t < f))) := by
  unfold validB
  simp only [Bool.and_eq_true, decide_eq_true_eq, Bool.and_eq_false_iff, decide_eq_false_iff_not]
  omega
theorem validB_true {n c a f t : Int} (h : validB n c a f t = true) : 0 ≤ c ∧ c < n ∧ -4503599627370496 ≤ a ∧ a ≤ 4503599627370496 ∧ 0 ≤ f ∧ f ≤ t := by
  rcases valid_cases n c a f t with ⟨-, h'⟩ | ⟨h', -⟩
  · exact h'
  · rw [h] at h'; cases h'

/-- whether p holds of one of the first n. -/
def anyB : Nat → (Nat → Bool) → Bool
  | 0, _ => false
  | n + 1, p => anyB n p || p n
theorem anyB_false {n : Nat} {p : Nat → Bool} : anyB n p = false ↔ ∀ i, i < n → p i = false := by
  induction n with
  | zero => simp [anyB]
  | succ n ih =>
    simp only [anyB, Bool.or_eq_false_iff, ih]
    constructor
    · intro h i hi
      by_cases e : i = n
      · subst e; exact h.2
      · exact h.1 i (by omega)
    · intro h; exact ⟨fun i hi => h i (by omega), h n (by omega)⟩
theorem anyB_true {n : Nat} {p : Nat → Bool} {i : Nat} (hi : i < n) (h : p i = true) : anyB n p = true := by
  cases e : anyB n p with
  | true => rfl
  | false => rw [anyB_false.1 e i hi] at h; cases h

def upd (Z : Nat → Int) (c : Nat) (v : Int) : Nat → Int := fun i => if i = c then v else Z i
theorem upd_at (Z : Nat → Int) (c : Nat) (v : Int) : upd Z c v c = v := by simp [upd]
theorem upd_off (Z : Nat → Int) {c i : Nat} (v : Int) (h : i ≠ c) : upd Z c v i = Z i := by simp [upd, h]
theorem upd_self (Z : Nat → Int) (c : Nat) : upd Z c (Z c + 0) = Z := by funext i; by_cases h : i = c <;> simp [upd, h]

/-- what comes down of a rain (below 0: what goes up). -/
def down (st a f t s z : Int) : Int := if st < f ∨ t ≤ st then 0 else if 0 ≤ a then min a s else -(min (-a) z)

/-- cells and sky behind the first k rains. -/
def rs (st : Int) (C A F T : Nat → Int) (Z : Nat → Int) (s : Int) : Nat → (Nat → Int) × Int
  | 0 => (Z, s)
  | k + 1 =>
    let p := rs st C A F T Z s k
    let d := down st (A k) (F k) (T k) p.2 (p.1 (C k).toNat)
    (upd p.1 (C k).toNat (p.1 (C k).toNat + d), p.2 - d)

def rsZ (st : Int) (C A F T : Nat → Int) (Z : Nat → Int) (s : Int) (k : Nat) : Nat → Int := (rs st C A F T Z s k).1
def rsS (st : Int) (C A F T : Nat → Int) (Z : Nat → Int) (s : Int) (k : Nat) : Int := (rs st C A F T Z s k).2
def rsD (st : Int) (C A F T : Nat → Int) (Z : Nat → Int) (s : Int) (k : Nat) : Int := down st (A k) (F k) (T k) (rsS st C A F T Z s k) (rsZ st C A F T Z s k (C k).toNat)
section
variable (st : Int) (C A F T : Nat → Int) (Z : Nat → Int) (s : Int)
theorem rsZ_zero : rsZ st C A F T Z s 0 = Z := rfl
theorem rsS_zero : rsS st C A F T Z s 0 = s := rfl
theorem rsZ_succ (k : Nat) : rsZ st C A F T Z s (k + 1) = upd (rsZ st C A F T Z s k) (C k).toNat (rsZ st C A F T Z s k (C k).toNat + rsD st C A F T Z s k) := rfl
theorem rsS_succ (k : Nat) : rsS st C A F T Z s (k + 1) = rsS st C A F T Z s k - rsD st C A F T Z s k := rfl
end

/-- what of a row of rains is right. -/
def RainsOk (n : Nat) (C A F T : Nat → Int) (m : Nat) : Prop := ∀ k, k < m → 0 ≤ C k ∧ C k < n ∧ -4503599627370496 ≤ A k ∧ A k ≤ 4503599627370496 ∧ 0 ≤ F k ∧ F k ≤ T k

theorem down_bnd {st a f t s z : Int} (ha : -4503599627370496 ≤ a) (ha' : a ≤ 4503599627370496) (hs : 0 ≤ s) (hz : 0 ≤ z) :
    -4503599627370496 ≤ down st a f t s z ∧ down st a f t s z ≤ 4503599627370496 ∧ 0 ≤ s - down st a f t s z ∧ 0 ≤ z + down st a f t s z := by
  unfold down; split
  · omega
  · split <;> omega

theorem rs_bnd {st : Int} {C A F T : Nat → Int} {Z : Nat → Int} {s : Int} {n m : Nat} (hv : RainsOk n C A F T m) (hz : ∀ i, i < n → 0 ≤ Z i ∧ Z i ≤ 4503599627370496) (hs : 0 ≤ s) (hs' : s ≤ 4503599627370496) :
    ∀ k, k ≤ m → (∀ i, i < n → 0 ≤ rsZ st C A F T Z s k i ∧ rsZ st C A F T Z s k i ≤ 4503599627370496 * (k + 1)) ∧ 0 ≤ rsS st C A F T Z s k ∧ rsS st C A F T Z s k ≤ 4503599627370496 * (k + 1) := by
  intro k
  induction k with
  | zero => intro _; exact ⟨fun i hi => by have := hz i hi; rw [rsZ_zero]; omega, by rw [rsS_zero]; omega, by rw [rsS_zero]; omega⟩
  | succ k ih =>
    intro hk
    obtain ⟨h1, h2, h3⟩ := ih (by omega)
    obtain ⟨c0, c1, a0, a1, -, -⟩ := hv k (by omega)
    have hc : (C k).toNat < n := by omega
    have hb := down_bnd (st := st) (f := F k) (t := T k) a0 a1 h2 (h1 _ hc).1
    have hD : rsD st C A F T Z s k = down st (A k) (F k) (T k) (rsS st C A F T Z s k) (rsZ st C A F T Z s k (C k).toNat) := rfl
    rw [← hD] at hb
    have hcb := h1 _ hc
    refine ⟨fun i hi => ?_, ?_, ?_⟩
    · rw [rsZ_succ]
      by_cases e : i = (C k).toNat
      · subst e; rw [upd_at]; omega
      · rw [upd_off _ _ e]; have := h1 i hi; omega
    · rw [rsS_succ]; omega
    · rw [rsS_succ]; omega

/-- The slice value A, n reads as integers Z 0 .. Z (n - 1). -/
def IntsAt (w : World) (A : Option Addr) (n : Nat) (Z : Nat → Int) : Prop := ∀ i, i < n → ∃ b off, A = some ⟨b, off, none⟩ ∧ b < w.heap.size ∧ w.cell? ⟨b, off + i, none⟩ = some (.int .i64 (Z i))
/-- .. as rains. -/
def RainsAt (w : World) (R : Option Addr) (m : Nat) (C A F T : Nat → Int) : Prop := ∀ i, i < m → ∃ b off, R = some ⟨b, off, none⟩ ∧ b < w.heap.size ∧
  w.cell? ⟨b, off + i * 4, none⟩ = some (.int .i64 (C i)) ∧ w.cell? ⟨b, off + i * 4 + 1, none⟩ = some (.int .i64 (A i)) ∧ w.cell? ⟨b, off + i * 4 + 2, none⟩ = some (.int .i64 (F i)) ∧ w.cell? ⟨b, off + i * 4 + 3, none⟩ = some (.int .i64 (T i))
/-- The call's own row: its block from lo on, below hi. -/
def OwnAt (w : World) (lo hi : Nat) (A : Option Addr) (n : Nat) (Z : Nat → Int) : Prop := ∀ i, i < n → ∃ b off, A = some ⟨b, off, none⟩ ∧ lo ≤ b ∧ b < hi ∧ b < w.heap.size ∧ w.cell? ⟨b, off + i, none⟩ = some (.int .i64 (Z i)) ∧ w.frozen? ⟨b, off + i, none⟩ = false

theorem IntsAt.below {w w' : World} {A : Option Addr} {n : Nat} {Z : Nat → Int} (h : IntsAt w A n Z) (hb : Below w.heap.size w w') : IntsAt w' A n Z := by
  intro i hi
  obtain ⟨b, off, h1, h2, h3⟩ := h i hi
  exact ⟨b, off, h1, Nat.lt_of_lt_of_le h2 hb.size, by rw [hb.cell (p := ⟨b, off + i, none⟩) h2]; exact h3⟩
theorem RainsAt.below {w w' : World} {R : Option Addr} {m : Nat} {C A F T : Nat → Int} (h : RainsAt w R m C A F T) (hb : Below w.heap.size w w') : RainsAt w' R m C A F T := by
  intro i hi
  obtain ⟨b, off, h1, h2, h3, h4, h5, h6⟩ := h i hi
  exact ⟨b, off, h1, Nat.lt_of_lt_of_le h2 hb.size, by rw [hb.cell (p := ⟨b, _, none⟩) h2]; exact h3, by rw [hb.cell (p := ⟨b, _, none⟩) h2]; exact h4, by rw [hb.cell (p := ⟨b, _, none⟩) h2]; exact h5, by rw [hb.cell (p := ⟨b, _, none⟩) h2]; exact h6⟩
theorem OwnAt.ints {w : World} {lo hi : Nat} {A : Option Addr} {n : Nat} {Z : Nat → Int} (h : OwnAt w lo hi A n Z) : IntsAt w A n Z := by
  intro i hi
  obtain ⟨b, off, h1, -, -, h2, h3, -⟩ := h i hi
  exact ⟨b, off, h1, h2, h3⟩
/-- what stays where all below hi stays. -/
theorem OwnAt.below {w w' : World} {lo hi : Nat} {A : Option Addr} {n : Nat} {Z : Nat → Int} (h : OwnAt w lo hi A n Z) (hb : Below hi w w') : OwnAt w' lo hi A n Z := by
  intro i hi
  obtain ⟨b, off, h1, h2, h3, h4, h5, h6⟩ := h i hi
  exact ⟨b, off, h1, h2, h3, Nat.lt_of_lt_of_le h4 hb.size, by rw [hb.cell (p := ⟨b, off + i, none⟩) h3]; exact h5, by rw [hb.frozen (p := ⟨b, off + i, none⟩) h3]; exact h6⟩
/-- a store into another block. -/
theorem OwnAt.far {w : World} {lo hi : Nat} {A : Option Addr} {n : Nat} {Z : Nat → Int} (h : OwnAt w lo hi A n Z) (b' o' : Nat) (v : Value) (hb : b' < lo ∨ hi ≤ b') : OwnAt (w.setCell ⟨b', o', none⟩ v) lo hi A n Z := by
  intro i hi
  obtain ⟨b, off, h1, h2, h3, h4, h5, h6⟩ := h i hi
  refine ⟨b, off, h1, h2, h3, by simpa [World.setCell] using h4, ?_, by simpa using h6⟩
  rw [World.cell?_setCell_other _ _ _ _ (by intro e; injection e with e1; omega)]
  exact h5
/-- a store into the row. -/
theorem OwnAt.stored {w : World} {lo hi : Nat} {A : Option Addr} {n : Nat} {Z : Nat → Int} (h : OwnAt w lo hi A n Z) {b off c : Nat} (hA : A = some ⟨b, off, none⟩) (hc : c < n) (v : Int) : OwnAt (w.setCell ⟨b, off + c, none⟩ (.int .i64 v)) lo hi A n (upd Z c v) := by
  intro i hi
  obtain ⟨b2, off2, h1, h2, h3, h4, h5, h6⟩ := h i hi
  have e : b2 = b ∧ off2 = off := by rw [hA] at h1; simpa using h1.symm
  obtain ⟨rfl, rfl⟩ := e
  refine ⟨b2, off2, h1, h2, h3, by simpa [World.setCell] using h4, ?_, by simpa using h6⟩
  by_cases e : i = c
  · subst e
    rw [World.cell?_setCell_same _ _ _ h5, upd_at]
  · rw [World.cell?_setCell_other _ _ _ _ (by intro e1; injection e1 with _ e2; omega), upd_off _ _ e]
    exact h5
theorem OwnAt.congr {w : World} {lo hi : Nat} {A : Option Addr} {n : Nat} {Z Z' : Nat → Int} (h : OwnAt w lo hi A n Z) (he : ∀ i, i < n → Z' i = Z i) : OwnAt w lo hi A n Z' := by
  intro i hi
  obtain ⟨b, off, h1, h2, h3, h4, h5, h6⟩ := h i hi
  exact ⟨b, off, h1, h2, h3, h4, by rw [he i hi]; exact h5, h6⟩

theorem OwnAt.wide {w : World} {lo hi lo' : Nat} {A : Option Addr} {n : Nat} {Z : Nat → Int} (h : OwnAt w lo hi A n Z) (hl : lo' ≤ lo) : OwnAt w lo' w.heap.size A n Z := by
  intro i hi
  obtain ⟨b, off, h1, h2, h3, h4, h5, h6⟩ := h i hi
  exact ⟨b, off, h1, by omega, h4, h4, h5, h6⟩
/-- out of what a law on append leaves. -/
theorem own_of_row {w : World} {base e : Nat} {v : Value} {n : Nat} {Z : Nat → Int} (h : w.ownsRow base e 1 v n ((List.range n).map fun i => Value.int .i64 (Z i))) :
    ∃ A cap, v = .slice A n cap ∧ n ≤ cap ∧ OwnAt w base w.heap.size A n Z := by
  have hx := h.1
  rcases h.2 with ⟨rfl, rfl⟩ | ⟨g, cap, cur, rfl, hg, hh, hc, hm, hs, ht⟩
  · exact ⟨none, 0, rfl, Nat.le_refl _, fun i hi => absurd hi (Nat.not_lt_zero _)⟩
  · refine ⟨_, cap, rfl, hc, fun i hi => ⟨g, 0, rfl, hg, ?_, ?_, ?_, ?_⟩⟩
    · rcases Nat.lt_or_ge g w.heap.size with h1 | h1
      · exact h1
      · rw [Array.getElem?_eq_none h1] at hh; cases hh
    · rcases Nat.lt_or_ge g w.heap.size with h1 | h1
      · exact h1
      · rw [Array.getElem?_eq_none h1] at hh; cases hh
    · rw [Nat.zero_add, h.cellAt i (by omega)]
      simp [hi]
    · rw [Nat.zero_add]; exact h.frozenAt i
/-- what slices.Clone leaves. -/
def CloneP (w : World) (n : Nat) (Z : Nat → Int) (e : Ending) (w' : World) : Prop := ∃ A cap, e = .returned (.slice A n cap) ∧ n ≤ cap ∧ OwnAt w' w.heap.size w'.heap.size A n Z ∧ Below w.heap.size w w'

/-- the state of Fall's loop: sky in block P, the answer's variable in block Q, the row between lo and hi. -/
structure RainS (w0 w : World) (P Q lo hi : Nat) (A : Option Addr) (n cap : Nat) (Z : Nat → Int) (s : Int) : Prop where
  below : Below w0.heap.size w0 w
  sky : w.cell? ⟨P, 0, none⟩ = some (.int .i64 s)
  skyf : w.frozen? ⟨P, 0, none⟩ = false
  box : w.cell? ⟨Q, 0, none⟩ = some (.slice A n cap)
  own : OwnAt w lo hi A n Z
  o1 : w0.heap.size ≤ P
  o2 : P < lo
  o3 : hi ≤ Q
  o4 : Q < w.heap.size
  o5 : lo ≤ hi

theorem RainS.on {w0 w w' : World} {P Q lo hi : Nat} {A : Option Addr} {n cap : Nat} {Z : Nat → Int} {s : Int} (h : RainS w0 w P Q lo hi A n cap Z s) (hb : Below w.heap.size w w') : RainS w0 w' P Q lo hi A n cap Z s := by
  obtain ⟨a, b, c, d, e, o1, o2, o3, o4, o5⟩ := h
  have hs := hb.size
  exact ⟨a.trans (hb.mono a.size), by rw [hb.cell (p := ⟨P, 0, none⟩) (by show P < _; omega)]; exact b, by rw [hb.frozen (p := ⟨P, 0, none⟩) (by show P < _; omega)]; exact c, by rw [hb.cell (p := ⟨Q, 0, none⟩) o4]; exact d, e.below (hb.mono (by omega)), o1, o2, o3, by omega, o5⟩

/-- both stores, the sky's first. -/
theorem RainS.fell {w0 w : World} {P Q lo hi : Nat} {A : Option Addr} {n cap : Nat} {Z : Nat → Int} {s : Int} (h : RainS w0 w P Q lo hi A n cap Z s) {b off c : Nat} (hA : A = some ⟨b, off, none⟩) (hc : c < n) (s' v : Int) :
    RainS w0 ((w.setCell ⟨P, 0, none⟩ (.int .i64 s')).setCell ⟨b, off + c, none⟩ (.int .i64 v)) P Q lo hi A n cap (upd Z c v) s' := by
  obtain ⟨a, sk, sf, d, e, o1, o2, o3, o4, o5⟩ := h
  obtain ⟨b2, off2, h1, h2, h3, h4, h5, h6⟩ := e c hc
  have e2 : b2 = b ∧ off2 = off := by rw [hA] at h1; simpa using h1.symm
  obtain ⟨rfl, rfl⟩ := e2
  refine ⟨(a.setCell o1 _).setCell (by show _ ≤ b2; omega) _, ?_, by simpa using sf, ?_, (e.far P 0 _ (.inl o2)).stored hA hc v, o1, o2, o3, by simpa [World.setCell] using o4, o5⟩
  · rw [World.cell?_setCell_other _ _ _ _ (by intro e1; injection e1; omega)]
    exact World.cell?_setCell_same _ _ _ sk
  · rw [World.cell?_setCell_other _ _ _ _ (by intro e1; injection e1; omega), World.cell?_setCell_other _ _ _ _ (by intro e1; injection e1; omega)]
    exact d
/-- both stores, the row's first. -/
theorem RainS.rose {w0 w : World} {P Q lo hi : Nat} {A : Option Addr} {n cap : Nat} {Z : Nat → Int} {s : Int} (h : RainS w0 w P Q lo hi A n cap Z s) {b off c : Nat} (hA : A = some ⟨b, off, none⟩) (hc : c < n) (s' v : Int) :
    RainS w0 ((w.setCell ⟨b, off + c, none⟩ (.int .i64 v)).setCell ⟨P, 0, none⟩ (.int .i64 s')) P Q lo hi A n cap (upd Z c v) s' := by
  obtain ⟨a, sk, sf, d, e, o1, o2, o3, o4, o5⟩ := h
  obtain ⟨b2, off2, h1, h2, h3, h4, h5, h6⟩ := e c hc
  have e2 : b2 = b ∧ off2 = off := by rw [hA] at h1; simpa using h1.symm
  obtain ⟨rfl, rfl⟩ := e2
  refine ⟨(a.setCell (by show _ ≤ b2; omega) _).setCell o1 _, ?_, by simpa using sf, ?_, (e.stored hA hc v).far P 0 _ (.inl o2), o1, o2, o3, by simpa [World.setCell] using o4, o5⟩
  · apply World.cell?_setCell_same _ _ _ (u := .int .i64 s)
    rw [World.cell?_setCell_other _ _ _ _ (by intro e1; injection e1; omega)]
    exact sk
  · rw [World.cell?_setCell_other _ _ _ _ (by intro e1; injection e1; omega), World.cell?_setCell_other _ _ _ _ (by intro e1; injection e1; omega)]
    exact d
def refuseB (n : Nat) (Z : Nat → Int) (s : Int) (m : Nat) (C A F T : Nat → Int) (st : Int) : Bool :=
  decide (st < 0) || outB s || decide (1024 < m) || anyB n (fun i => outB (Z i)) || anyB m (fun i => !validB n (C i) (A i) (F i) (T i))
theorem refuse_cases {n : Nat} {Z : Nat → Int} {s : Int} {m : Nat} {C A F T : Nat → Int} {st : Int} (h : refuseB n Z s m C A F T st = true) :
    st < 0 ∨ (0 ≤ st ∧ outB s = true) ∨ (0 ≤ st ∧ outB s = false ∧ 1024 < m) ∨ (0 ≤ st ∧ outB s = false ∧ m ≤ 1024 ∧ anyB n (fun i => outB (Z i)) = true) ∨
      (0 ≤ st ∧ outB s = false ∧ m ≤ 1024 ∧ anyB n (fun i => outB (Z i)) = false ∧ anyB m (fun i => !validB n (C i) (A i) (F i) (T i)) = true) := by
  unfold refuseB at h
  simp only [Bool.or_eq_true, decide_eq_true_eq] at h
  by_cases h1 : st < 0
  · exact .inl h1
  · cases h2 : outB s with
    | true => exact .inr (.inl ⟨by omega, rfl⟩)
    | false =>
      by_cases h3 : 1024 < m
      · exact .inr (.inr (.inl ⟨by omega, rfl, h3⟩))
      · cases h4 : anyB n (fun i => outB (Z i)) with
        | true => exact .inr (.inr (.inr (.inl ⟨by omega, rfl, by omega, rfl⟩)))
        | false => 
          rw [h2, h4] at h
          refine .inr (.inr (.inr (.inr ⟨by omega, rfl, by omega, rfl, ?_⟩)))
          rcases h with (((h | h) | h) | h) | h
          · omega
          · cases h
          · omega
          · cases h
          · exact h
theorem taken {n : Nat} {Z : Nat → Int} {s : Int} {m : Nat} {C A F T : Nat → Int} {st : Int} (h : refuseB n Z s m C A F T st = false) :
    0 ≤ st ∧ (0 ≤ s ∧ s ≤ 4503599627370496) ∧ m ≤ 1024 ∧ (∀ i, i < n → 0 ≤ Z i ∧ Z i ≤ 4503599627370496) ∧ RainsOk n C A F T m := by
  unfold refuseB at h
  simp only [Bool.or_eq_false_iff, decide_eq_false_iff_not, anyB_false] at h
  obtain ⟨⟨⟨⟨h1, h2⟩, h3⟩, h4⟩, h5⟩ := h
  exact ⟨by omega, outB_false h2, by omega, fun i hi => outB_false (h4 i hi), fun k hk => validB_true (by simpa using h5 k hk)⟩
theorem taken_mk {n : Nat} {Z : Nat → Int} {s : Int} {m : Nat} {C A F T : Nat → Int} {st : Int} (h1 : 0 ≤ st) (h2 : 0 ≤ s ∧ s ≤ 4503599627370496) (h3 : m ≤ 1024) (h4 : ∀ i, i < n → 0 ≤ Z i ∧ Z i ≤ 4503599627370496) (h5 : RainsOk n C A F T m) :
    refuseB n Z s m C A F T st = false := by
  unfold refuseB
  simp only [Bool.or_eq_false_iff, decide_eq_false_iff_not, anyB_false]
  refine ⟨⟨⟨⟨by omega, ?_⟩, by omega⟩, fun i hi => ?_⟩, fun k hk => ?_⟩
  · simp [outB]; omega
  · have := h4 i hi; simp [outB]; omega
  · have := h5 k hk; simp [validB]; omega

/-- the three ways of a rain. -/
theorem rs_dry {st : Int} {C A F T : Nat → Int} {Z : Nat → Int} {s : Int} {k : Nat} (h : st < F k ∨ T k ≤ st) : rsZ st C A F T Z s (k + 1) = rsZ st C A F T Z s k ∧ rsS st C A F T Z s (k + 1) = rsS st C A F T Z s k := by
  have hd : rsD st C A F T Z s k = 0 := by unfold rsD down; rw [if_pos h]
  rw [rsZ_succ, rsS_succ, hd, upd_self]; exact ⟨rfl, by omega⟩
theorem rs_nil {st : Int} {C A F T : Nat → Int} {Z : Nat → Int} {s : Int} {k : Nat} (h : ¬ (st < F k ∨ T k ≤ st)) (ha : A k = 0) (hs : 0 ≤ rsS st C A F T Z s k) : rsZ st C A F T Z s (k + 1) = rsZ st C A F T Z s k ∧ rsS st C A F T Z s (k + 1) = rsS st C A F T Z s k := by
  have hd : rsD st C A F T Z s k = 0 := by unfold rsD down; rw [if_neg h, if_pos (by omega), ha]; omega
  rw [rsZ_succ, rsS_succ, hd, upd_self]; exact ⟨rfl, by omega⟩
theorem rs_falls {st : Int} {C A F T : Nat → Int} {Z : Nat → Int} {s : Int} {k : Nat} (h : ¬ (st < F k ∨ T k ≤ st)) (ha : 0 ≤ A k) :
    rsZ st C A F T Z s (k + 1) = upd (rsZ st C A F T Z s k) (C k).toNat (rsZ st C A F T Z s k (C k).toNat + min (A k) (rsS st C A F T Z s k)) ∧ rsS st C A F T Z s (k + 1) = rsS st C A F T Z s k - min (A k) (rsS st C A F T Z s k) := by
  have hd : rsD st C A F T Z s k = min (A k) (rsS st C A F T Z s k) := by unfold rsD down; rw [if_neg h, if_pos ha]
  rw [rsZ_succ, rsS_succ, hd]; exact ⟨rfl, rfl⟩
theorem rs_rises {st : Int} {C A F T : Nat → Int} {Z : Nat → Int} {s : Int} {k : Nat} (h : ¬ (st < F k ∨ T k ≤ st)) (ha : A k < 0) :
    rsZ st C A F T Z s (k + 1) = upd (rsZ st C A F T Z s k) (C k).toNat (rsZ st C A F T Z s k (C k).toNat - min (-A k) (rsZ st C A F T Z s k (C k).toNat)) ∧ rsS st C A F T Z s (k + 1) = rsS st C A F T Z s k + min (-A k) (rsZ st C A F T Z s k (C k).toNat) := by
  have hd : rsD st C A F T Z s k = -(min (-A k) (rsZ st C A F T Z s k (C k).toNat)) := by unfold rsD down; rw [if_neg h, if_neg (by omega)]
  rw [rsZ_succ, rsS_succ, hd, Int.sub_eq_add_neg (b := min _ _)]; exact ⟨rfl, by omega⟩
/-- what Fall leaves where it takes. -/
def FallP (w : World) (n : Nat) (Z : Nat → Int) (s : Int) (e : Ending) (w' : World) : Prop := ∃ A cap, e = .returned (.tuple #[.slice A n cap, .int .i64 s, .int .i64 0]) ∧ n ≤ cap ∧ OwnAt w' w.heap.size w'.heap.size A n Z ∧ Below w.heap.size w w'
def two (a b : Int) : Nat → Int := fun i => if i = 0 then a else b
theorem ints_lit (w : World) (t : TypeId) (a b : Int) {g : Nat} (hg : g = w.heap.size) : IntsAt (w.alloc (.cells #[.int .i64 a, .int .i64 b] t)) (some ⟨g, 0, none⟩) 2 (two a b) := by
  subst hg
  intro i hi
  refine ⟨_, 0, rfl, by simp, ?_⟩
  rw [World.cell?_alloc_new]
  rcases (show i = 0 ∨ i = 1 by omega) with rfl | rfl <;> rfl
theorem rains_lit (w : World) (t : TypeId) (a b c d a' b' c' d' : Int) {g : Nat} (hg : g = w.heap.size) :
    RainsAt (w.alloc (.cells #[.int .i64 a, .int .i64 b, .int .i64 c, .int .i64 d, .int .i64 a', .int .i64 b', .int .i64 c', .int .i64 d'] t)) (some ⟨g, 0, none⟩) 2 (two a a') (two b b') (two c c') (two d d') := by
  subst hg
  intro i hi
  refine ⟨_, 0, rfl, by simp, ?_, ?_, ?_, ?_⟩ <;> rw [World.cell?_alloc_new] <;> rcases (show i = 0 ∨ i = 1 by omega) with rfl | rfl <;> rfl
theorem IntsAt.alloc {w : World} {A : Option Addr} {n : Nat} {Z : Nat → Int} (h : IntsAt w A n Z) (o : Obj) : IntsAt (w.alloc o) A n Z := h.below ((Below.refl _ _).alloc (Nat.le_refl _) _)
theorem RainsAt.alloc {w : World} {R : Option Addr} {m : Nat} {C A F T : Nat → Int} (h : RainsAt w R m C A F T) (o : Obj) : RainsAt (w.alloc o) R m C A F T := h.below ((Below.refl _ _).alloc (Nat.le_refl _) _)
theorem past1 {w w' : World} {o : Obj} (h : Below (w.alloc o).heap.size (w.alloc o) w') : Below w.heap.size w w' := ((Below.refl _ _).alloc (Nat.le_refl _) o).trans (h.mono (by simp))
theorem join {w w1 w2 : World} (h1 : Below w.heap.size w w1) (h2 : Below w1.heap.size w1 w2) : Below w.heap.size w w2 := h1.trans (h2.mono h1.size)
/-- the same, looked at from an earlier world. -/
def FallQ (w0 : World) (n : Nat) (Z : Nat → Int) (s : Int) (e : Ending) (w' : World) : Prop := ∃ A cap, e = .returned (.tuple #[.slice A n cap, .int .i64 s, .int .i64 0]) ∧ n ≤ cap ∧ OwnAt w' w0.heap.size w'.heap.size A n Z ∧ Below w0.heap.size w0 w'
theorem FallP.q {w0 x : World} {n : Nat} {Z : Nat → Int} {s : Int} {e : Ending} {w' : World} (hb : Below w0.heap.size w0 x) (h : FallP x n Z s e w') : FallQ w0 n Z s e w' := by
  obtain ⟨A, cap, h1, h2, h3, h4⟩ := h
  exact ⟨A, cap, h1, h2, h3.wide hb.size, join hb h4⟩
end TF
/- Rain: sums; rows in two parts; rains that don't fall. -/
namespace TF
open Go Go.RowKit

def sumI (Z : Nat → Int) : Nat → Int
  | 0 => 0
  | k + 1 => sumI Z k + Z k
theorem sumI_upd (Z : Nat → Int) (c : Nat) (v : Int) : ∀ n, sumI (upd Z c v) n = sumI Z n + (if c < n then v - Z c else 0) := by
  intro n
  induction n with
  | zero => simp [sumI]
  | succ n ih =>
    simp only [sumI, ih]
    by_cases h : n = c
    · subst h; rw [upd_at, if_neg (by omega), if_pos (by omega)]; omega
    · rw [upd_off _ _ h]
      by_cases h2 : c < n
      · rw [if_pos h2, if_pos (by omega)]; omega
      · rw [if_neg h2, if_neg (by omega)]; omega
theorem sumI_bnd {Z : Nat → Int} {n : Nat} {M : Int} (h : ∀ i, i < n → 0 ≤ Z i ∧ Z i ≤ M) : ∀ k, k ≤ n → 0 ≤ sumI Z k ∧ sumI Z k ≤ M * k := by
  intro k
  induction k with
  | zero => intro _; simp [sumI]
  | succ k ih =>
    intro hk
    have h1 := ih (by omega)
    have h2 := h k (by omega)
    have h3 : M * ((k + 1 : Nat) : Int) = M * k + M := by rw [Int.natCast_succ, Int.mul_add, Int.mul_one]
    rw [h3]; simp only [sumI]; omega
theorem sumI_mono {Z : Nat → Int} {n : Nat} (h : ∀ i, i < n → 0 ≤ Z i) : ∀ k j, k + j ≤ n → sumI Z k ≤ sumI Z (k + j) := by
  intro k j
  induction j with
  | zero => intro _; exact Int.le_refl _
  | succ j ih =>
    intro hk
    have := ih (by omega)
    have h2 := h (k + j) (by omega)
    show sumI Z k ≤ sumI Z (k + j) + Z (k + j)
    omega

/-- Nothing comes or goes. -/
theorem rs_kept {st : Int} {C A F T : Nat → Int} {Z : Nat → Int} {s : Int} {n m : Nat} (hv : RainsOk n C A F T m) : ∀ k, k ≤ m → rsS st C A F T Z s k + sumI (rsZ st C A F T Z s k) n = s + sumI Z n := by
  intro k
  induction k with
  | zero => intro _; rfl
  | succ k ih =>
    intro hk
    have h1 := ih (by omega)
    obtain ⟨c0, c1, -⟩ := hv k (by omega)
    rw [rsS_succ, rsZ_succ, sumI_upd, if_pos (by omega)]
    omega

theorem rs_congr {st : Int} {C A F T C' A' F' T' : Nat → Int} {Z : Nat → Int} {s : Int} : ∀ m, (∀ i, i < m → C i = C' i ∧ A i = A' i ∧ F i = F' i ∧ T i = T' i) → rs st C A F T Z s m = rs st C' A' F' T' Z s m := by
  intro m
  induction m with
  | zero => intro _; rfl
  | succ m ih =>
    intro h
    have h1 := ih (fun i hi => h i (by omega))
    obtain ⟨e0, e1, e2, e3⟩ := h m (by omega)
    simp only [rs, h1, e0, e1, e2, e3]

/-- A row in two parts. -/
theorem rs_split (st : Int) (C A F T : Nat → Int) (Z : Nat → Int) (s : Int) (a : Nat) : ∀ b, rs st C A F T Z s (a + b) = rs st (fun i => C (a + i)) (fun i => A (a + i)) (fun i => F (a + i)) (fun i => T (a + i)) (rsZ st C A F T Z s a) (rsS st C A F T Z s a) b := by
  intro b
  induction b with
  | zero => rfl
  | succ b ih => rw [← Nat.add_assoc]; simp only [rs, ih]
def con (a : Int) : Nat → Int := fun _ => a
theorem rains_one (w : World) (t : TypeId) (a b c d : Int) {g : Nat} (hg : g = w.heap.size) :
    RainsAt (w.alloc (.cells #[.int .i64 a, .int .i64 b, .int .i64 c, .int .i64 d] t)) (some ⟨g, 0, none⟩) 1 (con a) (con b) (con c) (con d) := by
  subst hg
  intro i hi
  obtain rfl : i = 0 := by omega
  refine ⟨_, 0, rfl, by simp, ?_, ?_, ?_, ?_⟩ <;> rw [World.cell?_alloc_new] <;> rfl
theorem rains_none (w : World) (R : Option Addr) (C A F T : Nat → Int) : RainsAt w R 0 C A F T := fun _ hi => absurd hi (Nat.not_lt_zero _)
theorem refuse_one {n : Nat} {Z : Nat → Int} {s c a f t st : Int} : refuseB n Z s 1 (con c) (con a) (con f) (con t) st = (refuseB n Z s 0 (con c) (con a) (con f) (con t) st || !validB n c a f t) := by
  simp [refuseB, anyB, con]
theorem rs_one {st c a f t s : Int} {Z : Nat → Int} : rsS st (con c) (con a) (con f) (con t) Z s 1 = s - down st a f t s (Z c.toNat) ∧ rsZ st (con c) (con a) (con f) (con t) Z s 1 = upd Z c.toNat (Z c.toNat + down st a f t s (Z c.toNat)) := ⟨rfl, rfl⟩
theorem rs_rest (st : Int) (C A F T : Nat → Int) (Z : Nat → Int) (s : Int) {a m : Nat} (h : a ≤ m) :
    rsZ st (fun i => C (a + i)) (fun i => A (a + i)) (fun i => F (a + i)) (fun i => T (a + i)) (rsZ st C A F T Z s a) (rsS st C A F T Z s a) (m - a) = rsZ st C A F T Z s m ∧
    rsS st (fun i => C (a + i)) (fun i => A (a + i)) (fun i => F (a + i)) (fun i => T (a + i)) (rsZ st C A F T Z s a) (rsS st C A F T Z s a) (m - a) = rsS st C A F T Z s m := by
  have h1 := rs_split st C A F T Z s a (m - a)
  rw [show a + (m - a) = m by omega] at h1
  unfold rsZ rsS at h1 ⊢
  rw [h1]; exact ⟨rfl, rfl⟩

/-- the rest of a list of rains, where it begins as Go's cut says. -/
theorem rains_rest {w : World} {R : Option Addr} {m : Nat} {C A F T : Nat → Int} (h : RainsAt w R m C A F T) (k : Nat) (R' : Option Addr) (hR : ∀ b off, R = some ⟨b, off, none⟩ → k < m → R' = some ⟨b, off + k * 4, none⟩) :
    RainsAt w R' (m - k) (fun i => C (k + i)) (fun i => A (k + i)) (fun i => F (k + i)) (fun i => T (k + i)) := by
  intro i hi
  obtain ⟨b, off, h1, h2, h3, h4, h5, h6⟩ := h (k + i) (by omega)
  refine ⟨b, off + k * 4, hR b off h1 (by omega), h2, ?_, ?_, ?_, ?_⟩
  · rw [show off + k * 4 + i * 4 = off + (k + i) * 4 by omega]; exact h3
  · rw [show off + k * 4 + i * 4 + 1 = off + (k + i) * 4 + 1 by omega]; exact h4
  · rw [show off + k * 4 + i * 4 + 2 = off + (k + i) * 4 + 2 by omega]; exact h5
  · rw [show off + k * 4 + i * 4 + 3 = off + (k + i) * 4 + 3 by omega]; exact h6
/-- which of the first k rains fall in a step. -/
def fl (st : Int) (F T : Nat → Int) : Nat → List Nat
  | 0 => []
  | k + 1 => if F k ≤ st ∧ st < T k then fl st F T k ++ [k] else fl st F T k
theorem fl_lt {st : Int} {F T : Nat → Int} : ∀ k, (fl st F T k).length ≤ k ∧ ∀ i, i ∈ fl st F T k → i < k := by
  intro k
  induction k with
  | zero => simp [fl]
  | succ k ih =>
    unfold fl; split
    · refine ⟨by simp; omega, fun i hi => ?_⟩
      rcases List.mem_append.1 hi with h | h
      · have := ih.2 i h; omega
      · simp at h; omega
    · exact ⟨by omega, fun i hi => by have := ih.2 i hi; omega⟩
def at' (f : Nat → Int) (l : List Nat) : Nat → Int := fun j => f (l.getD j 0)
theorem at_app (f : Nat → Int) (l : List Nat) (k : Nat) {j : Nat} (h : j < l.length) : at' f (l ++ [k]) j = at' f l j := by
  unfold at'; rw [List.getD_eq_getElem?_getD, List.getD_eq_getElem?_getD, List.getElem?_append_left h]
theorem at_last (f : Nat → Int) (l : List Nat) (k : Nat) : at' f (l ++ [k]) l.length = f k := by
  unfold at'; rw [List.getD_eq_getElem?_getD, List.getElem?_append_right (Nat.le_refl _)]; simp
/-- Rains that don't fall could as well not be there. -/
theorem rs_fl {st : Int} {C A F T : Nat → Int} {Z : Nat → Int} {s : Int} : ∀ k, rs st (at' C (fl st F T k)) (at' A (fl st F T k)) (at' F (fl st F T k)) (at' T (fl st F T k)) Z s (fl st F T k).length = rs st C A F T Z s k := by
  intro k
  induction k with
  | zero => rfl
  | succ k ih =>
    by_cases h : F k ≤ st ∧ st < T k
    · have e : fl st F T (k + 1) = fl st F T k ++ [k] := by rw [fl, if_pos h]
      rw [e, List.length_append]
      have h2 : rs st (at' C (fl st F T k ++ [k])) (at' A (fl st F T k ++ [k])) (at' F (fl st F T k ++ [k])) (at' T (fl st F T k ++ [k])) Z s (fl st F T k).length = rs st C A F T Z s k := by
        rw [← ih]
        exact rs_congr _ fun i hi => ⟨at_app _ _ _ hi, at_app _ _ _ hi, at_app _ _ _ hi, at_app _ _ _ hi⟩
      show rs st _ _ _ _ Z s ((fl st F T k).length + 1) = rs st C A F T Z s (k + 1)
      simp only [rs, h2, at_last]
    · have e : fl st F T (k + 1) = fl st F T k := by rw [fl, if_neg h]
      rw [e, ih]
      have hd : rsD st C A F T Z s k = 0 := by unfold rsD down; rw [if_pos (by omega)]
      have h1 : rsZ st C A F T Z s (k + 1) = rsZ st C A F T Z s k := by rw [rsZ_succ, hd, upd_self]
      have h2 : rsS st C A F T Z s (k + 1) = rsS st C A F T Z s k := by rw [rsS_succ, hd]; omega
      exact Prod.ext h1.symm h2.symm

def rainCells (C A F T : Nat → Int) (l : List Nat) : List Value := l.flatMap fun i => [.int .i64 (C i), .int .i64 (A i), .int .i64 (F i), .int .i64 (T i)]
theorem rainCells_app (C A F T : Nat → Int) (l : List Nat) (k : Nat) : rainCells C A F T (l ++ [k]) = rainCells C A F T l ++ [.int .i64 (C k), .int .i64 (A k), .int .i64 (F k), .int .i64 (T k)] := by
  simp [rainCells]
theorem rainCells_at (C A F T : Nat → Int) : ∀ (l : List Nat) (j : Nat), j < l.length →
    (rainCells C A F T l)[j * 4]? = some (.int .i64 (at' C l j)) ∧ (rainCells C A F T l)[j * 4 + 1]? = some (.int .i64 (at' A l j)) ∧ (rainCells C A F T l)[j * 4 + 2]? = some (.int .i64 (at' F l j)) ∧ (rainCells C A F T l)[j * 4 + 3]? = some (.int .i64 (at' T l j)) := by
  intro l
  induction l with
  | nil => intro j hj; simp at hj
  | cons a l ih =>
    intro j hj
    cases j with
    | zero => simp [rainCells, at']
    | succ j =>
      have h := ih j (by simpa using hj)
      have e : rainCells C A F T (a :: l) = [.int .i64 (C a), .int .i64 (A a), .int .i64 (F a), .int .i64 (T a)] ++ rainCells C A F T l := by simp [rainCells]
      have e2 : ∀ f : Nat → Int, at' f (a :: l) (j + 1) = at' f l j := fun f => by simp [at']
      rw [e, e2, e2, e2, e2]
      refine ⟨?_, ?_, ?_, ?_⟩
      · rw [List.getElem?_append_right (by simp; omega), show (j + 1) * 4 - [Value.int .i64 (C a), .int .i64 (A a), .int .i64 (F a), .int .i64 (T a)].length = j * 4 by simp; omega]; exact h.1
      · rw [List.getElem?_append_right (by simp; omega), show (j + 1) * 4 + 1 - [Value.int .i64 (C a), .int .i64 (A a), .int .i64 (F a), .int .i64 (T a)].length = j * 4 + 1 by simp; omega]; exact h.2.1
      · rw [List.getElem?_append_right (by simp; omega), show (j + 1) * 4 + 2 - [Value.int .i64 (C a), .int .i64 (A a), .int .i64 (F a), .int .i64 (T a)].length = j * 4 + 2 by simp; omega]; exact h.2.2.1
      · rw [List.getElem?_append_right (by simp; omega), show (j + 1) * 4 + 3 - [Value.int .i64 (C a), .int .i64 (A a), .int .i64 (F a), .int .i64 (T a)].length = j * 4 + 3 by simp; omega]; exact h.2.2.2
/-- out of what a law on append leaves, rains. -/
theorem rains_of_row {w : World} {base e : Nat} {v : Value} {C A F T : Nat → Int} {l : List Nat} (h : w.ownsRow base e 4 v l.length (rainCells C A F T l)) :
    ∃ R cap, v = .slice R l.length cap ∧ RainsAt w R l.length (at' C l) (at' A l) (at' F l) (at' T l) := by
  rcases h.2 with ⟨rfl, h0⟩ | ⟨g, cap, cur, rfl, hg, hh, hc, hm, hs, ht⟩
  · rw [h0]; exact ⟨none, 0, rfl, rains_none _ _ _ _ _ _⟩
  · have hgs : g < w.heap.size := by
      rcases Nat.lt_or_ge g w.heap.size with h1 | h1
      · exact h1
      · rw [Array.getElem?_eq_none h1] at hh; cases hh
    refine ⟨_, cap, rfl, fun i hi => ⟨g, 0, rfl, hgs, ?_, ?_, ?_, ?_⟩⟩
    · rw [Nat.zero_add, h.cellAt _ (by omega)]; exact (rainCells_at C A F T l i hi).1
    · rw [Nat.zero_add, h.cellAt _ (by omega)]; exact (rainCells_at C A F T l i hi).2.1
    · rw [Nat.zero_add, h.cellAt _ (by omega)]; exact (rainCells_at C A F T l i hi).2.2.1
    · rw [Nat.zero_add, h.cellAt _ (by omega)]; exact (rainCells_at C A F T l i hi).2.2.2
/-- whether Fall refuses hangs on no step but one below 0. -/
theorem refuse_step {n : Nat} {Z : Nat → Int} {s : Int} {m : Nat} {C A F T : Nat → Int} {st st' : Int} (h : 0 ≤ st) (h' : 0 ≤ st') : refuseB n Z s m C A F T st = refuseB n Z s m C A F T st' := by
  unfold refuseB; rw [decide_eq_false (by omega : ¬ st < 0), decide_eq_false (by omega : ¬ st' < 0)]
theorem refuse_neg {n : Nat} {Z : Nat → Int} {s : Int} {m : Nat} {C A F T : Nat → Int} {st : Int} (h : st < 0) : refuseB n Z s m C A F T st = true := by
  unfold refuseB; rw [decide_eq_true h]; simp
/-- what the reference's Fall leaves, whether it takes or refuses. -/
def FallD (w : World) (n : Nat) (Z : Nat → Int) (s : Int) (q : Bool) (e : Ending) (w' : World) : Prop :=
  (q = true ∧ e = .returned (.tuple #[.slice none 0 0, .int .i64 0, .int .i64 1]) ∧ Below w.heap.size w w') ∨ (q = false ∧ FallP w n Z s e w')
theorem range_app (Z : Nat → Int) (k : Nat) : ((List.range (k + 1)).map fun i => Value.int .i64 (Z i)) = ((List.range k).map fun i => Value.int .i64 (Z i)) ++ [.int .i64 (Z k)] := by
  rw [List.range_succ, List.map_append]; rfl
end TF
