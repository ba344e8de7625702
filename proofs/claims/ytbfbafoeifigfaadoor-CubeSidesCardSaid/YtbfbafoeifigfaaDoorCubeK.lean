/- A turned cell. -/
import Derived.Test.YtbfbafoeifigfaaDoorCubeH
namespace TF
open Go Go.RowKit
def TV' (t : Nat) (x y z : Int) (k : Nat) : Int := TV t x y z k
/-- The turned middle seen from the face on which it lies. -/
def RJ (n : Int) (t f : Nat) (i j : Int) (g k : Nat) : Int :=
  TV t (MI n f i j 0) (MI n f i j 1) (MI n f i j 2) 0 * FR g k + TV t (MI n f i j 0) (MI n f i j 1) (MI n f i j 2) 1 * FR g (k + 1) + TV t (MI n f i j 0) (MI n f i j 1) (MI n f i j 2) 2 * FR g (k + 2)
def cB (t f g k m : Nat) : Int := TV t (FR f m) (FR f (m + 1)) (FR f (m + 2)) 0 * FR g k + TV t (FR f m) (FR f (m + 1)) (FR f (m + 2)) 1 * FR g (k + 1) + TV t (FR f m) (FR f (m + 1)) (FR f (m + 2)) 2 * FR g (k + 2)
theorem RJ_lin (n : Int) (t f : Nat) (i j : Int) (g k : Nat) : RJ n t f i j g k = n * cB t f g k 0 + (2 * i + 1 - n) * cB t f g k 3 + (2 * j + 1 - n) * cB t f g k 6 := by
  unfold RJ cB TV MI
  generalize 2 * i + 1 - n = a
  generalize 2 * j + 1 - n = b
  simp only [Nat.reduceAdd, Nat.add_zero]
  grind
/-- The cosine and the sine of q quarters. -/
def cosQ (q : Nat) : Int := if q = 0 then 1 else if q = 2 then -1 else 0
def sinQ (q : Nat) : Int := if q = 1 then 1 else if q = 3 then -1 else 0
theorem cB_30 : ∀ t < 24, ∀ f < 6, cB t f (tF t f) 3 0 = 0 ∧ cB t f (tF t f) 6 0 = 0 := by decide
theorem cB_33 : ∀ t < 24, ∀ f < 6, cB t f (tF t f) 3 3 = cosQ (tQ t f) ∧ cB t f (tF t f) 3 6 = -sinQ (tQ t f) := by decide
theorem cB_63 : ∀ t < 24, ∀ f < 6, cB t f (tF t f) 6 3 = sinQ (tQ t f) ∧ cB t f (tF t f) 6 6 = cosQ (tQ t f) := by decide
theorem turn_eval {n : Int} {f t : Nat} {i j : Int} (h : On n f i j) (ht : t < 24) : indexI n (RJ n t f i j (tF t f) 3) = posX n (tQ t f) j i ∧ indexI n (RJ n t f i j (tF t f) 6) = posY n (tQ t f) j i := by
  have h1 := h.n1; have h3 := h.i0; have h4 := h.i1; have h5 := h.j0; have h6 := h.j1
  obtain ⟨z1, z2⟩ := cB_30 t ht f h.f6
  obtain ⟨a, b⟩ := cB_33 t ht f h.f6
  obtain ⟨c, d⟩ := cB_63 t ht f h.f6
  have hq4 : tQ t f < 4 := (turn_face t ht f h.f6).2.1
  rw [index_eq, index_eq, RJ_lin, RJ_lin, z1, z2, a, b, c, d]
  generalize tQ t f = q at hq4
  have w := ways (s := q) hq4
  rcases four hq4 with rfl | rfl | rfl | rfl
  · have e1 : cosQ 0 = 1 := rfl
    have e2 : sinQ 0 = 0 := rfl
    rw [e1, e2]
    rcases w with ⟨e', p, _⟩ | ⟨e', p, _⟩ | ⟨e', p, _⟩ | ⟨e', p, _⟩ <;> (have q := p n j i; omega)
  · have e1 : cosQ 1 = 0 := rfl
    have e2 : sinQ 1 = 1 := rfl
    rw [e1, e2]
    rcases w with ⟨e', p, _⟩ | ⟨e', p, _⟩ | ⟨e', p, _⟩ | ⟨e', p, _⟩ <;> (have q := p n j i; omega)
  · have e1 : cosQ 2 = -1 := rfl
    have e2 : sinQ 2 = 0 := rfl
    rw [e1, e2]
    rcases w with ⟨e', p, _⟩ | ⟨e', p, _⟩ | ⟨e', p, _⟩ | ⟨e', p, _⟩ <;> (have q := p n j i; omega)
  · have e1 : cosQ 3 = 0 := rfl
    have e2 : sinQ 3 = -1 := rfl
    rw [e1, e2]
    rcases w with ⟨e', p, _⟩ | ⟨e', p, _⟩ | ⟨e', p, _⟩ | ⟨e', p, _⟩ <;> (have q := p n j i; omega)
/-- .. in the words of a way: lane and place stay. -/
theorem turn_way {n : Int} {s q : Nat} (hs : s < 4) (hq : q < 4) (i j : Int) : posX n q j i = posX n ((s + q) % 4) (laneI n s i j) (offI n s i j) ∧ posY n q j i = posY n ((s + q) % 4) (laneI n s i j) (offI n s i j) := by
  have hm : (s + q) % 4 < 4 := by omega
  have w := ways hm
  rcases ways hs with ⟨e, _, u, _⟩ | ⟨e, _, u, _⟩ | ⟨e, _, u, _⟩ | ⟨e, _, u, _⟩ <;> rcases ways hq with ⟨e', v, _⟩ | ⟨e', v, _⟩ | ⟨e', v, _⟩ | ⟨e', v, _⟩ <;>
    (have u1 := u n i j; have v1 := v n j i
     rcases w with ⟨e'', x, _⟩ | ⟨e'', x, _⟩ | ⟨e'', x, _⟩ | ⟨e'', x, _⟩ <;> first | omega | (have x1 := x n (laneI n s i j) (offI n s i j); omega))

/-! ### Beside and Turn, in one -/
/-- What lies over side s: the face, i, j, the side that lies there. -/
def bF (n : Int) (f s : Nat) (i j : Int) : Nat := if offI n s i j = n - 1 then nbF f s else f
def bX (n : Int) (f s : Nat) (i j : Int) : Int := if offI n s i j = n - 1 then posX n (nbS f s) (laneI n s i j) 0 else i + DX s
def bY (n : Int) (f s : Nat) (i j : Int) : Int := if offI n s i j = n - 1 then posY n (nbS f s) (laneI n s i j) 0 else j + DY s
def bS (n : Int) (f s : Nat) (i j : Int) : Nat := if offI n s i j = n - 1 then nbB f s else (s + 2) % 4
/-- The way on over there. -/
def bW (n : Int) (f s : Nat) (i j : Int) : Nat := if offI n s i j = n - 1 then nbS f s else s
theorem b_on {n : Int} {f s : Nat} {i j : Int} (h : On n f i j) (hs : s < 4) : On n (bF n f s i j) (bX n f s i j) (bY n f s i j) ∧ bW n f s i j < 4 ∧ bS n f s i j = (bW n f s i j + 2) % 4 ∧
    laneI n (bW n f s i j) (bX n f s i j) (bY n f s i j) = laneI n s i j ∧ offI n (bW n f s i j) (bX n f s i j) (bY n f s i j) = (if offI n s i j = n - 1 then 0 else offI n s i j + 1) := by
  have h1 := h.n1
  obtain ⟨o0, o1, l0, l1⟩ := h.off hs
  obtain ⟨g1, g2, -⟩ := nb_fact f h.f6 s hs
  unfold bF bX bY bS bW
  by_cases ho : offI n s i j = n - 1
  · simp only [ho, if_true]
    refine ⟨on_pos g2 g1 h.n1 h.n32 l0 l1 (by omega) (by omega), g2, ?_, (off_pos g2 _ _).2, (off_pos g2 _ _).1⟩
    first | trivial | rfl
  · simp only [ho, if_false]
    obtain ⟨e1, e2, e3⟩ := step_near h hs (by omega)
    refine ⟨e3, hs, by first | trivial | rfl, ?_, ?_⟩
    · rw [e1, e2]; exact (off_pos hs _ _).2
    · rw [e1, e2]; exact (off_pos hs _ _).1
/-- Where a turn takes it: face, i, j. -/
def uX (n : Int) (t f : Nat) (i j : Int) : Int := posX n (tQ t f) j i
def uY (n : Int) (t f : Nat) (i j : Int) : Int := posY n (tQ t f) j i
theorem u_on {n : Int} {f t : Nat} {i j : Int} (h : On n f i j) (ht : t < 24) : On n (tF t f) (uX n t f i j) (uY n t f i j) := by
  obtain ⟨g1, g2, -⟩ := turn_face t ht f h.f6
  exact on_pos g2 g1 h.n1 h.n32 h.j0 h.j1 h.i0 h.i1
theorem u_way {n : Int} {f t s : Nat} {i j : Int} (h : On n f i j) (ht : t < 24) (hs : s < 4) : offI n ((s + tQ t f) % 4) (uX n t f i j) (uY n t f i j) = offI n s i j ∧ laneI n ((s + tQ t f) % 4) (uX n t f i j) (uY n t f i j) = laneI n s i j := by
  obtain ⟨g1, g2, -⟩ := turn_face t ht f h.f6
  obtain ⟨e1, e2⟩ := turn_way (n := n) hs g2 i j
  unfold uX uY
  rw [e1, e2]
  exact off_pos (by omega) _ _
end TF
