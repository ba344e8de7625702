/- Around a corner: one step on, then left, and again. -/
import Derived.Test.YtbfbafoeifigfaaDoorCubeP
namespace TF
open Go Go.RowKit
structure Q where
  f : Nat
  w : Nat
  l : Int
  o : Int
def Q.nx (n : Int) (q : Q) : Q := ⟨nF n q.f q.w q.o, (nW n q.f q.w q.o + 1) % 4, n - 1 - nO n q.o, q.l⟩
def Q.cell (n : Int) (q : Q) : Int := cW n q.f q.w q.l q.o
def Q.Is (n : Int) (q : Q) : Prop := OnW n q.f q.w q.l q.o
def Q.run (n : Int) (q : Q) : Nat → Q
  | 0 => q
  | k + 1 => (q.run n k).nx n
theorem Q.is_nx {n : Int} {q : Q} (h : q.Is n) : (q.nx n).Is n := (OnW.next h).left
theorem Q.is_run {n : Int} {q : Q} (h : q.Is n) (k : Nat) : (q.run n k).Is n := by
  induction k with
  | zero => exact h
  | succ k ih => exact Q.is_nx ih
theorem q_near (n : Int) (f w : Nat) (l o : Int) (h : o ≠ n - 1) : (Q.mk f w l o).nx n = ⟨f, (w + 1) % 4, n - 1 - (o + 1), l⟩ := by
  simp [Q.nx, nF, nW, nO, h]
theorem q_far (n : Int) (f w : Nat) (l o : Int) (h : o = n - 1) : (Q.mk f w l o).nx n = ⟨nbF f w, (nbS f w + 1) % 4, n - 1, l⟩ := by
  simp [Q.nx, nF, nW, nO, h]
theorem right_w (n : Int) (f : Nat) {w : Nat} (hw : w < 4) (l o : Int) : cW n f ((w + 3) % 4) o (n - 1 - l) = cW n f w l o := by
  have a : ∀ x : Int, n - 1 - (n - 1 - x) = x := fun x => by omega
  rcases four hw with rfl | rfl | rfl | rfl <;> simp [cW, posX, posY, a]
theorem cW_face {n : Int} {f w g v : Nat} {l o m p : Int} (h : OnW n f w l o) (h' : OnW n g v m p) (hne : g ≠ f) : cW n g v m p ≠ cW n f w l o := fun e => hne (cellN_inj h'.on h.on e).1
theorem cW_inj {n : Int} {f w : Nat} {l o m p : Int} (h : OnW n f w l o) (h' : OnW n f w m p) (e : cW n f w m p = cW n f w l o) : m = l ∧ p = o := by
  obtain ⟨-, e2, e3⟩ := cellN_inj h'.on h.on e
  obtain ⟨a, b⟩ := off_pos (n := n) h.w4 l o
  obtain ⟨c, d⟩ := off_pos (n := n) h.w4 m p
  rw [e2, e3] at c d
  exact ⟨d.symm.trans b, c.symm.trans a⟩
theorem nb_three : ∀ f < 6, ∀ w < 4, nbF f w ≠ f ∧ nbF (nbF f w) ((nbS f w + 1) % 4) ≠ f ∧ nbF (nbF (nbF f w) ((nbS f w + 1) % 4)) ((nbS (nbF f w) ((nbS f w + 1) % 4) + 1) % 4) = f ∧
    (nbS (nbF (nbF f w) ((nbS f w + 1) % 4)) ((nbS (nbF f w) ((nbS f w + 1) % 4) + 1) % 4) + 1) % 4 = w := by decide
/-- At a corner of the cube: three. -/
theorem run_three {n : Int} {f w : Nat} {l o : Int} (h : OnW n f w l o) (hl : l = n - 1) (ho : o = n - 1) :
    (Q.mk f w l o).run n 3 = ⟨f, w, l, o⟩ ∧ ∀ k : Nat, 0 < k → k < 3 → ((Q.mk f w l o).run n k).cell n ≠ cW n f w l o := by
  obtain ⟨g1, g2, g3, g4⟩ := nb_three f h.f6 w h.w4
  have i1 := Q.is_run (q := ⟨f, w, l, o⟩) h 1
  have i2 := Q.is_run (q := ⟨f, w, l, o⟩) h 2
  have e1 : (Q.mk f w l o).run n 1 = ⟨nbF f w, (nbS f w + 1) % 4, n - 1, l⟩ := q_far _ _ _ _ _ ho
  have e2 : (Q.mk f w l o).run n 2 = ⟨nbF (nbF f w) ((nbS f w + 1) % 4), (nbS (nbF f w) ((nbS f w + 1) % 4) + 1) % 4, n - 1, n - 1⟩ := by
    show ((Q.mk f w l o).run n 1).nx n = _
    rw [e1]; exact q_far _ _ _ _ _ hl
  have e3 : (Q.mk f w l o).run n 3 = ⟨f, w, l, o⟩ := by
    show ((Q.mk f w l o).run n 2).nx n = _
    rw [e2, q_far _ _ _ _ _ rfl, g3, g4, hl, ho]
  refine ⟨e3, fun k h0 h3 => ?_⟩
  obtain rfl | rfl : k = 1 ∨ k = 2 := by omega
  · rw [e1] at i1 ⊢; exact cW_face h i1 g1
  · rw [e2] at i2 ⊢; exact cW_face h i2 g2
theorem mod4 {w : Nat} (hw : w < 4) : ((w + 1) % 4 + 1) % 4 = (w + 2) % 4 ∧ ((w + 2) % 4 + 1) % 4 = (w + 3) % 4 ∧ ((w + 3) % 4 + 1) % 4 = w ∧ ((w + 1) % 4 + 2) % 4 = (w + 3) % 4 := by omega
/-- Elsewhere: four. -/
theorem run_four {n : Int} {f w : Nat} {l o : Int} (h : OnW n f w l o) (hno : ¬ (l = n - 1 ∧ o = n - 1)) :
    (Q.mk f w l o).run n 4 = ⟨f, w, l, o⟩ ∧ ∀ k : Nat, 0 < k → k < 4 → ((Q.mk f w l o).run n k).cell n ≠ cW n f w l o := by
  have i1 := Q.is_run (q := ⟨f, w, l, o⟩) h 1
  have i2 := Q.is_run (q := ⟨f, w, l, o⟩) h 2
  have i3 := Q.is_run (q := ⟨f, w, l, o⟩) h 3
  obtain ⟨m1, m2, m3, m4⟩ := mod4 h.w4
  have h1 := h.l0; have h2 := h.l1; have h3 := h.o0; have h4 := h.o1; have hw := h.w4; have h5 := h.n1
  have s1 : (Q.mk f w l o).run n 1 = (Q.mk f w l o).nx n := rfl
  have s2 : (Q.mk f w l o).run n 2 = ((Q.mk f w l o).run n 1).nx n := rfl
  have s3 : (Q.mk f w l o).run n 3 = ((Q.mk f w l o).run n 2).nx n := rfl
  have s4 : (Q.mk f w l o).run n 4 = ((Q.mk f w l o).run n 3).nx n := rfl
  by_cases ho : o = n - 1
  · have hl : l ≠ n - 1 := fun e => hno ⟨e, ho⟩
    obtain ⟨b1, b2⟩ := nb_back f h.f6 w h.w4
    have o1 := nb_other f h.f6 w h.w4
    have gs := (nb_fact f h.f6 w h.w4).2.1
    obtain ⟨k1, k2, k3, k4⟩ := mod4 gs
    rw [q_far _ _ _ _ _ ho] at s1
    rw [s1, q_near _ _ _ _ _ hl, k1] at s2
    rw [s2, q_far _ _ _ _ _ (by rfl), b1, b2, m2] at s3
    rw [s3, q_near _ _ _ _ _ (by omega), m3] at s4
    refine ⟨by rw [s4, ho]; congr 1; omega, fun k h0 hk => ?_⟩
    obtain rfl | rfl | rfl : k = 1 ∨ k = 2 ∨ k = 3 := by omega
    · rw [s1] at i1 ⊢; exact cW_face h i1 o1
    · rw [s2] at i2 ⊢; exact cW_face h i2 o1
    · rw [s3] at i3 ⊢
      intro e
      have e' : cW n f ((w + 3) % 4) (n - 1) (n - 1 - (l + 1)) = cW n f w l o := e
      rw [right_w _ _ hw] at e'
      have := (cW_inj h ⟨h.n1, h.n32, h.f6, hw, by omega, by omega, by omega, by omega⟩ e').1
      omega
  · by_cases hl : l = n - 1
    · obtain ⟨b1, b2⟩ := nb_back f h.f6 ((w + 1) % 4) (by omega)
      have o1 := nb_other f h.f6 ((w + 1) % 4) (by omega)
      have gs := (nb_fact f h.f6 ((w + 1) % 4) (by omega)).2.1
      obtain ⟨k1, k2, k3, k4⟩ := mod4 gs
      rw [q_near _ _ _ _ _ ho] at s1
      rw [s1, q_far _ _ _ _ _ hl] at s2
      rw [s2, q_near _ _ _ _ _ (by omega), k1] at s3
      rw [s3, q_far _ _ _ _ _ (by rfl), b1, b2, m4, m3] at s4
      refine ⟨by rw [s4, hl]; congr 1; omega, fun k h0 hk => ?_⟩
      obtain rfl | rfl | rfl : k = 1 ∨ k = 2 ∨ k = 3 := by omega
      · rw [s1] at i1 ⊢
        intro e
        have e' : cW n f ((w + 1) % 4) (n - 1 - (o + 1)) l = cW n f w l o := e
        rw [left_w _ _ hw] at e'
        have := (cW_inj h ⟨h.n1, h.n32, h.f6, hw, by omega, by omega, by omega, by omega⟩ e').2
        omega
      · rw [s2] at i2 ⊢; exact cW_face h i2 o1
      · rw [s3] at i3 ⊢; exact cW_face h i3 o1
    · rw [q_near _ _ _ _ _ ho] at s1
      rw [s1, q_near _ _ _ _ _ hl, m1] at s2
      rw [s2, q_near _ _ _ _ _ (by omega), m2] at s3
      rw [s3, q_near _ _ _ _ _ (by omega), m3] at s4
      refine ⟨by rw [s4]; congr 1 <;> omega, fun k h0 hk => ?_⟩
      obtain rfl | rfl | rfl : k = 1 ∨ k = 2 ∨ k = 3 := by omega
      · rw [s1] at i1 ⊢
        intro e
        have e' : cW n f ((w + 1) % 4) (n - 1 - (o + 1)) l = cW n f w l o := e
        rw [left_w _ _ hw] at e'
        have := (cW_inj h ⟨h.n1, h.n32, h.f6, hw, by omega, by omega, by omega, by omega⟩ e').2
        omega
      · rw [s2] at i2 ⊢
        intro e
        have e' : cW n f ((w + 2) % 4) (n - 1 - (l + 1)) (n - 1 - (o + 1)) = cW n f w l o := e
        rw [flip_w _ _ hw] at e'
        have := (cW_inj h ⟨h.n1, h.n32, h.f6, hw, by omega, by omega, by omega, by omega⟩ e').1
        omega
      · rw [s3] at i3 ⊢
        intro e
        have e' : cW n f ((w + 3) % 4) (n - 1 - (n - 1 - (o + 1) + 1)) (n - 1 - (l + 1)) = cW n f w l o := e
        rw [right_w _ _ hw] at e'
        have := (cW_inj h ⟨h.n1, h.n32, h.f6, hw, by omega, by omega, by omega, by omega⟩ e').1
        omega
/-- Is it a corner? -/
theorem corner_is {n : Int} {s : Nat} (hs : s < 4) (i j : Int) : (laneI n s i j = n - 1 ∧ offI n s i j = n - 1) ↔ ((((s = 0 ∨ s = 3) ∧ i = n - 1) ∨ (¬ (s = 0 ∨ s = 3) ∧ i = 0)) ∧ (((s = 0 ∨ s = 1) ∧ j = n - 1) ∨ (¬ (s = 0 ∨ s = 1) ∧ j = 0))) := by
  rcases four hs with rfl | rfl | rfl | rfl <;> simp [laneI, offI] <;> omega
end TF
