/- Turns and what lies beside, one with the other. -/
import Derived.Test.YtbfbafoeifigfaaDoorCubeM
namespace TF
open Go Go.RowKit
theorem nb_turn : ∀ t < 24, ∀ f < 6, ∀ s < 4, nbF (tF t f) ((s + tQ t f) % 4) = tF t (nbF f s) ∧ nbS (tF t f) ((s + tQ t f) % 4) = (nbS f s + tQ t (nbF f s)) % 4 := by decide
theorem tF_inj : ∀ t < 24, ∀ f < 6, ∀ g < 6, tF t f = tF t g → f = g := by decide
theorem t_zero : ∀ f < 6, tF 0 f = f ∧ tQ 0 f = 0 := by decide
theorem tt_F : ∀ u < 24, ∀ t < 24, ∀ f < 6, tF (afF u t) f = tF u (tF t f) := by decide +kernel
theorem tt_Q : ∀ u < 24, ∀ t < 24, ∀ f < 6, tQ (afF u t) f = (tQ t f + tQ u (tF t f)) % 4 := by decide +kernel
theorem af_assoc : ∀ v < 24, ∀ u < 24, ∀ t < 24, afF v (afF u t) = afF (afF v u) t := by decide +kernel
theorem af_zero : ∀ t < 24, afF 0 t = t ∧ afF t 0 = t := by decide
def cntU (t : Nat) : Nat → Nat
  | 0 => 0
  | k + 1 => cntU t k + if afF k t = 0 then 1 else 0
theorem undo_one : ∀ t < 24, cntU t 24 = 1 := by decide +kernel
theorem undo_both : ∀ t < 24, ∀ k < 24, afF k t = 0 → afF t k = 0 := by decide +kernel
theorem undo_le (t k : Nat) : cntU t k ≤ k := by
  induction k with
  | zero => exact Nat.le_refl _
  | succ k ih => unfold cntU; split <;> omega

/-- Two cells of one way, one lane and one place are one. -/
theorem same_way {n : Int} {s : Nat} {i j k l : Int} (hs : s < 4) (h1 : offI n s i j = offI n s k l) (h2 : laneI n s i j = laneI n s k l) : i = k ∧ j = l := by
  obtain ⟨a, b⟩ := pos_off (n := n) hs i j
  obtain ⟨c, d⟩ := pos_off (n := n) hs k l
  rw [h1, h2] at a b
  exact ⟨a.symm.trans c, b.symm.trans d⟩
/-- Turned: beside one another still. -/
theorem beside_turned {n : Int} {f s t : Nat} {i j : Int} (h : On n f i j) (hs : s < 4) (ht : t < 24) :
    bF n (tF t f) ((s + tQ t f) % 4) (uX n t f i j) (uY n t f i j) = tF t (bF n f s i j) ∧
    bX n (tF t f) ((s + tQ t f) % 4) (uX n t f i j) (uY n t f i j) = uX n t (bF n f s i j) (bX n f s i j) (bY n f s i j) ∧
    bY n (tF t f) ((s + tQ t f) % 4) (uX n t f i j) (uY n t f i j) = uY n t (bF n f s i j) (bX n f s i j) (bY n f s i j) ∧
    bS n (tF t f) ((s + tQ t f) % 4) (uX n t f i j) (uY n t f i j) = (bS n f s i j + tQ t (bF n f s i j)) % 4 := by
  have hU := u_on h ht
  have hq := (turn_face t ht f h.f6).2.1
  have hs2 : (s + tQ t f) % 4 < 4 := by omega
  obtain ⟨o1, l1⟩ := u_way h ht hs
  obtain ⟨hB, hW, hS, lB, oB⟩ := b_on h hs
  obtain ⟨hB2, hW2, hS2, lB2, oB2⟩ := b_on hU hs2
  obtain ⟨o3, l3⟩ := u_way hB ht hW
  obtain ⟨n1, n2⟩ := nb_turn t ht f h.f6 s hs
  rw [o1] at oB2
  rw [l1] at lB2
  -- the face, and the way on
  have eF : bF n (tF t f) ((s + tQ t f) % 4) (uX n t f i j) (uY n t f i j) = tF t (bF n f s i j) := by
    unfold bF; rw [o1]; split
    · exact n1
    · rfl
  have eW : bW n (tF t f) ((s + tQ t f) % 4) (uX n t f i j) (uY n t f i j) = (bW n f s i j + tQ t (bF n f s i j)) % 4 := by
    unfold bW bF; rw [o1]; split
    · exact n2
    · rfl
  rw [eW] at lB2 oB2 hS2
  rw [oB] at o3
  rw [lB] at l3
  have e := same_way (n := n) (show (bW n f s i j + tQ t (bF n f s i j)) % 4 < 4 by omega) (oB2.trans o3.symm) (lB2.trans l3.symm)
  exact ⟨eF, e.1, e.2, by rw [hS2, hS]; omega⟩
/-- A turn takes no two cells to one. -/
theorem turned_inj {n : Int} {f g t : Nat} {i j k l : Int} (h : On n f i j) (h' : On n g k l) (ht : t < 24) (e : cellN n (tF t f) (uX n t f i j) (uY n t f i j) = cellN n (tF t g) (uX n t g k l) (uY n t g k l)) : cellN n f i j = cellN n g k l := by
  obtain ⟨e1, e2, e3⟩ := cellN_inj (u_on h ht) (u_on h' ht) e
  have e4 := tF_inj t ht f h.f6 g h'.f6 e1
  subst e4
  have hq := (turn_face t ht f h.f6).2.1
  obtain ⟨a, b⟩ := u_way h ht (s := 0) (by omega)
  obtain ⟨c, d⟩ := u_way h' ht (s := 0) (by omega)
  rw [e2, e3] at a b
  have := same_way (n := n) (s := 0) (by omega) (a.symm.trans c) (b.symm.trans d)
  rw [this.1, this.2]
theorem turn_none' {n : Int} {f : Nat} {i j : Int} (h : On n f i j) : cellN n (tF 0 f) (uX n 0 f i j) (uY n 0 f i j) = cellN n f i j ∧ tQ 0 f = 0 := by
  obtain ⟨e1, e2⟩ := t_zero f h.f6
  unfold uX uY
  rw [e1, e2]
  exact ⟨rfl, rfl⟩
/-- One turn behind another. -/
theorem turned_twice {n : Int} {f t u : Nat} {i j : Int} (h : On n f i j) (ht : t < 24) (hu : u < 24) : cellN n (tF u (tF t f)) (uX n u (tF t f) (uX n t f i j) (uY n t f i j)) (uY n u (tF t f) (uX n t f i j) (uY n t f i j)) = cellN n (tF (afF u t) f) (uX n (afF u t) f i j) (uY n (afF u t) f i j) ∧
    (tQ t f + tQ u (tF t f)) % 4 = tQ (afF u t) f := by
  have hU := u_on h ht
  have ha := (af_fact u hu t ht).1
  have eF := tt_F u hu t ht f h.f6
  have eQ := tt_Q u hu t ht f h.f6
  have q1 := (turn_face t ht f h.f6).2.1
  obtain ⟨a, b⟩ := u_way h ht (s := 0) (by omega)
  obtain ⟨c, d⟩ := u_way hU hu (s := (0 + tQ t f) % 4) (by omega)
  obtain ⟨p, q⟩ := u_way h ha (s := 0) (by omega)
  rw [a] at c
  rw [b] at d
  rw [eQ] at p q
  have em : ((0 + tQ t f) % 4 + tQ u (tF t f)) % 4 = (0 + (tQ t f + tQ u (tF t f)) % 4) % 4 := by omega
  rw [em] at c d
  have := same_way (n := n) (show (0 + (tQ t f + tQ u (tF t f)) % 4) % 4 < 4 by omega) (c.trans p.symm) (d.trans q.symm)
  rw [eF, this.1, this.2]
  exact ⟨rfl, eQ.symm⟩
end TF
