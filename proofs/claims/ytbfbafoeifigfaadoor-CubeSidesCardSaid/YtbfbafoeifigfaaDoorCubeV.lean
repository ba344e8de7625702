/- Seen from any face: where a turned middle and a stretch lie. -/
import Derived.Test.YtbfbafoeifigfaaDoorCubeK
namespace TF
open Go Go.RowKit

/-! ### Turned -/
set_option synthInstance.maxSize 2000 in
set_option synthInstance.maxHeartbeats 400000 in
set_option maxRecDepth 100000 in
theorem cB_row : ∀ t < 24, ∀ f < 6, ∀ g < 6, (g = tF t f ∧ cB t f g 0 0 = 1 ∧ cB t f g 0 3 = 0 ∧ cB t f g 0 6 = 0) ∨ (g ≠ tF t f ∧ ((cB t f g 0 0 = -1 ∧ cB t f g 0 3 = 0 ∧ cB t f g 0 6 = 0) ∨ (cB t f g 0 0 = 0 ∧ cB t f g 0 3 = 0 ∧ (cB t f g 0 6 = 1 ∨ cB t f g 0 6 = -1)) ∨ (cB t f g 0 0 = 0 ∧ cB t f g 0 6 = 0 ∧ (cB t f g 0 3 = 1 ∨ cB t f g 0 3 = -1)))) := by decide
theorem turned_face {n : Int} {f t g : Nat} {i j : Int} (h : On n f i j) (ht : t < 24) (hg : g < 6) : (g = tF t f ∧ RJ n t f i j g 0 = n) ∨ (g ≠ tF t f ∧ RJ n t f i j g 0 ≠ n) := by
  have h1 := h.n1; have h3 := h.i0; have h4 := h.i1; have h5 := h.j0; have h6 := h.j1
  rw [RJ_lin]
  rcases cB_row t ht f h.f6 g hg with ⟨e, a, b, c⟩ | ⟨e, ⟨a, b, c⟩ | ⟨a, b, c | c⟩ | ⟨a, b, c | c⟩⟩
  · left; exact ⟨e, by rw [a, b, c]; omega⟩
  all_goals (right; exact ⟨e, by rw [a, b, c]; omega⟩)
theorem turned_at {n : Int} {f t : Nat} {i j : Int} (h : On n f i j) (ht : t < 24) : RJ n t f i j (tF t f) 3 + n - 1 = 2 * uX n t f i j ∧ RJ n t f i j (tF t f) 6 + n - 1 = 2 * uY n t f i j := by
  obtain ⟨z1, z2⟩ := cB_30 t ht f h.f6
  obtain ⟨a, b⟩ := cB_33 t ht f h.f6
  obtain ⟨c, d⟩ := cB_63 t ht f h.f6
  have hq4 : tQ t f < 4 := (turn_face t ht f h.f6).2.1
  unfold uX uY
  rw [RJ_lin, RJ_lin, z1, z2, a, b, c, d]
  generalize tQ t f = q at hq4
  have w := ways (s := q) hq4
  rcases four hq4 with rfl | rfl | rfl | rfl
  · have e1 : cosQ 0 = 1 := rfl
    have e2 : sinQ 0 = 0 := rfl
    rw [e1, e2]
    rcases w with ⟨e', p, _⟩ | ⟨e', p, _⟩ | ⟨e', p, _⟩ | ⟨e', p, _⟩ <;> (have q := p n j i; omega)
  · have e1 : cosQ 1 = 0 := rfl
    have e2 : sinQ 1 = 1 := rfl
    rw [e1, e2]
    rcases w with ⟨e', p, _⟩ | ⟨e', p, _⟩ | ⟨e', p, _⟩ | ⟨e', p, _⟩ <;> (have q := p n j i; omega)
  · have e1 : cosQ 2 = -1 := rfl
    have e2 : sinQ 2 = 0 := rfl
    rw [e1, e2]
    rcases w with ⟨e', p, _⟩ | ⟨e', p, _⟩ | ⟨e', p, _⟩ | ⟨e', p, _⟩ <;> (have q := p n j i; omega)
  · have e1 : cosQ 3 = 0 := rfl
    have e2 : sinQ 3 = -1 := rfl
    rw [e1, e2]
    rcases w with ⟨e', p, _⟩ | ⟨e', p, _⟩ | ⟨e', p, _⟩ | ⟨e', p, _⟩ <;> (have q := p n j i; omega)

/-! ### A stretch -/
def dD (f g k m : Nat) : Int := FR f m * FR g k + FR f (m + 1) * FR g (k + 1) + FR f (m + 2) * FR g (k + 2)
theorem SI_lin (n : Int) {f s : Nat} (hs : s < 4) (i j : Int) (g k : Nat) : SI n f s i j g k = n * dD f g k 0 + (2 * i + 1 - n) * dD f g k 3 + (2 * j + 1 - n) * dD f g k 6 + (DX s * dD f g k 3 + DY s * dD f g k 6) := by
  unfold SI PI dD MI
  generalize 2 * i + 1 - n = a
  generalize 2 * j + 1 - n = b
  rcases four hs with rfl | rfl | rfl | rfl <;>
  · simp [OU, DX, DY]
    try grind
set_option synthInstance.maxSize 2000 in
set_option synthInstance.maxHeartbeats 400000 in
set_option maxRecDepth 100000 in
theorem dD_row : ∀ f < 6, ∀ g < 6, (g = f ∧ dD f g 0 0 = 1 ∧ dD f g 0 3 = 0 ∧ dD f g 0 6 = 0) ∨ (g ≠ f ∧ dD f g 0 0 = -1 ∧ dD f g 0 3 = 0 ∧ dD f g 0 6 = 0 ∧ ∀ s < 4, nbF f s ≠ g) ∨
    (g ≠ f ∧ dD f g 0 0 = 0 ∧ ∃ s < 4, g = nbF f s ∧ dD f g 0 3 = DX s ∧ dD f g 0 6 = DY s) := by decide
theorem nb_inj : ∀ f < 6, ∀ s < 4, ∀ t < 4, nbF f s = nbF f t → s = t := by decide
theorem nb_ne : ∀ f < 6, ∀ s < 4, nbF f s ≠ f := by decide
theorem side_face {n : Int} {f s g : Nat} {i j : Int} (h : On n f i j) (hs : s < 4) (hg : g < 6) : SI n f s i j g 0 = n ↔ (g = f ∨ (g = nbF f s ∧ offI n s i j = n - 1)) := by
  have h1 := h.n1; have h3 := h.i0; have h4 := h.i1; have h5 := h.j0; have h6 := h.j1
  rw [SI_lin n hs]
  rcases dD_row f h.f6 g hg with ⟨e, a, b, c⟩ | ⟨e, a, b, c, d⟩ | ⟨e, a, t, ht, e2, b, c⟩
  · rw [a, b, c]
    exact ⟨fun _ => .inl e, fun _ => by omega⟩
  · rw [a, b, c]
    exact ⟨fun x => by omega, fun x => by
      rcases x with x | ⟨x, _⟩
      · exact absurd x e
      · exact absurd x.symm (d s hs)⟩
  · rw [a, b, c]
    by_cases hst : s = t
    · subst hst
      have hk : (g = f ∨ (g = nbF f s ∧ offI n s i j = n - 1)) ↔ offI n s i j = n - 1 := ⟨fun x => x.elim (fun y => absurd y e) (·.2), fun x => .inr ⟨e2, x⟩⟩
      rw [hk]
      rcases ways hs with ⟨_, _, q, x, y⟩ | ⟨_, _, q, x, y⟩ | ⟨_, _, q, x, y⟩ | ⟨_, _, q, x, y⟩ <;> (have q1 := (q n i j).1; rw [x, y]; omega)
    · have hk : ¬ (g = f ∨ (g = nbF f s ∧ offI n s i j = n - 1)) := fun x => x.elim (fun y => e y) (fun y => hst (nb_inj f h.f6 s hs t ht (y.1.symm.trans e2)))
      refine ⟨fun x => absurd x ?_, fun x => absurd x hk⟩
      rcases ways hs with ⟨u, _, _, x, y⟩ | ⟨u, _, _, x, y⟩ | ⟨u, _, _, x, y⟩ | ⟨u, _, _, x, y⟩ <;> rcases ways ht with ⟨u', _, _, x', y'⟩ | ⟨u', _, _, x', y'⟩ | ⟨u', _, _, x', y'⟩ | ⟨u', _, _, x', y'⟩ <;>
        first | omega | (rw [x, y, x', y']; omega)
theorem dD_own : ∀ f < 6, dD f f 3 0 = 0 ∧ dD f f 3 3 = 1 ∧ dD f f 3 6 = 0 ∧ dD f f 6 0 = 0 ∧ dD f f 6 3 = 0 ∧ dD f f 6 6 = 1 := by decide
/-- On its own face. -/
theorem side_own {n : Int} {f s : Nat} {i j : Int} (h : On n f i j) (hs : s < 4) : SI n f s i j f 3 + n - 1 = 2 * i + DX s ∧ SI n f s i j f 6 + n - 1 = 2 * j + DY s := by
  obtain ⟨a, b, c, d, e, g⟩ := dD_own f h.f6
  rw [SI_lin n hs, SI_lin n hs, a, b, c, d, e, g]
  omega
/-- On the face over there. -/
theorem side_over {n : Int} {f s : Nat} {i j : Int} (h : On n f i j) (hs : s < 4) (ho : offI n s i j = n - 1) :
    SI n f s i j (nbF f s) 3 + n - 1 = 2 * posX n (nbS f s) (laneI n s i j) 0 + DX (nbB f s) ∧ SI n f s i j (nbF f s) 6 + n - 1 = 2 * posY n (nbS f s) (laneI n s i j) 0 + DY (nbB f s) := by
  have h1 := h.n1; have h3 := h.i0; have h4 := h.i1; have h5 := h.j0; have h6 := h.j1
  rcases six h.f6 with rfl | rfl | rfl | rfl | rfl | rfl <;> rcases four hs with rfl | rfl | rfl | rfl <;>
    (simp [SI, PI, MI, OU, FR, frT, nbF, nbS, nbB, nbT, posX, posY, laneI, offI, DX, DY] at ho ⊢; omega)

/-- What the search finds at a place of half numbers: nothing (odd; none; the cell itself). -/
def Skip (n : Int) (g : Nat) (c a b : Int) : Prop := (a.tmod 2 ≠ 0) ∨ (a.tmod 2 = 0 ∧ b.tmod 2 = 0 ∧ (cellI n g (a.tdiv 2) (b.tdiv 2) = -1 ∨ cellI n g (a.tdiv 2) (b.tdiv 2) = c))
def Hit (n : Int) (g : Nat) (c a b d : Int) : Prop := a.tmod 2 = 0 ∧ b.tmod 2 = 0 ∧ cellI n g (a.tdiv 2) (b.tdiv 2) = d ∧ 0 ≤ d ∧ d ≠ c
theorem even_half {a x : Int} (h : a = 2 * x) : a.tmod 2 = 0 ∧ a.tdiv 2 = x := by
  subst h
  exact ⟨Int.mul_tmod_right 2 x, by rw [Int.mul_tdiv_cancel_left _ (by omega)]⟩
theorem odd_half {a : Int} (h : a % 2 = 1) : a.tmod 2 ≠ 0 := by
  intro e
  have := Int.mul_tdiv_add_tmod a 2
  omega
/-- Which of the four ways: itself, the opposite, across. -/
theorem way_diff : ∀ b < 4, ∀ k < 4, (k = b ∧ DX b - DX k = 0 ∧ DY b - DY k = 0) ∨ (k = (b + 2) % 4 ∧ DX b - DX k = 2 * DX b ∧ DY b - DY k = 2 * DY b) ∨ (k ≠ b ∧ k ≠ (b + 2) % 4 ∧ (DX b - DX k) % 2 = 1) := by decide
/-- A side of a cell of this face, seen as side k of what would have it. -/
theorem look {n : Int} {g b k : Nat} {x y : Int} (h : On n g x y) (hb : b < 4) (hk : k < 4) {a e : Int} (ha : a = 2 * x + DX b - DX k) (hc : e = 2 * y + DY b - DY k) (cN : Int) :
    (k = b ∧ a.tmod 2 = 0 ∧ e.tmod 2 = 0 ∧ cellI n g (a.tdiv 2) (e.tdiv 2) = cellN n g x y) ∨ (k = (b + 2) % 4 ∧ a.tmod 2 = 0 ∧ e.tmod 2 = 0 ∧ cellI n g (a.tdiv 2) (e.tdiv 2) = cellI n g (x + DX b) (y + DY b)) ∨ (k ≠ b ∧ k ≠ (b + 2) % 4 ∧ Skip n g cN a e) := by
  rcases way_diff b hb k hk with ⟨u, v, w⟩ | ⟨u, v, w⟩ | ⟨u, u2, v⟩
  · obtain ⟨a1, a2⟩ := even_half (a := a) (x := x) (by omega)
    obtain ⟨c1, c2⟩ := even_half (a := e) (x := y) (by omega)
    exact .inl ⟨u, a1, c1, by rw [a2, c2, h.cell]⟩
  · obtain ⟨a1, a2⟩ := even_half (a := a) (x := x + DX b) (by omega)
    obtain ⟨c1, c2⟩ := even_half (a := e) (x := y + DY b) (by omega)
    exact .inr (.inl ⟨u, a1, c1, by rw [a2, c2]⟩)
  · exact .inr (.inr ⟨u, u2, .inl (odd_half (by omega))⟩)
end TF
