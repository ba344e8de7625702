/- Cells by way, lane and place on it. -/
import Derived.Test.YtbfbafoeifigfaaDoorCubeO
namespace TF
open Go Go.RowKit
def cW (n : Int) (f w : Nat) (l o : Int) : Int := cellN n f (posX n w l o) (posY n w l o)
structure OnW (n : Int) (f w : Nat) (l o : Int) : Prop where
  n1 : 1 ≤ n
  n32 : n ≤ 32
  f6 : f < 6
  w4 : w < 4
  l0 : 0 ≤ l
  l1 : l < n
  o0 : 0 ≤ o
  o1 : o < n
def nF (n : Int) (f w : Nat) (o : Int) : Nat := if o = n - 1 then nbF f w else f
def nW (n : Int) (f w : Nat) (o : Int) : Nat := if o = n - 1 then nbS f w else w
def nO (n o : Int) : Int := if o = n - 1 then 0 else o + 1
theorem OnW.on {n : Int} {f w : Nat} {l o : Int} (h : OnW n f w l o) : On n f (posX n w l o) (posY n w l o) := on_pos h.w4 h.f6 h.n1 h.n32 h.l0 h.l1 h.o0 h.o1
theorem cell_w {n : Int} {f s : Nat} {i j : Int} (h : On n f i j) (hs : s < 4) : cellN n f i j = cW n f s (laneI n s i j) (offI n s i j) ∧ OnW n f s (laneI n s i j) (offI n s i j) := by
  obtain ⟨e1, e2⟩ := pos_off (n := n) hs i j
  obtain ⟨o0, o1, l0, l1⟩ := h.off hs
  exact ⟨by unfold cW; rw [e1, e2], ⟨h.n1, h.n32, h.f6, hs, l0, l1, o0, o1⟩⟩
theorem OnW.next {n : Int} {f w : Nat} {l o : Int} (h : OnW n f w l o) : OnW n (nF n f w o) (nW n f w o) l (nO n o) := by
  obtain ⟨g1, g2, -⟩ := nb_fact f h.f6 w h.w4
  have h1 := h.n1; have h2 := h.o0; have h3 := h.o1; have h4 := h.w4; have h5 := h.f6
  unfold nF nW nO
  split
  · exact ⟨h1, h.n32, g1, g2, h.l0, h.l1, by omega, by omega⟩
  · exact ⟨h1, h.n32, h5, h4, h.l0, h.l1, by omega, by omega⟩
theorem step_w {n : Int} {f w : Nat} {l o : Int} (h : OnW n f w l o) :
    cellN n (bF n f w (posX n w l o) (posY n w l o)) (bX n f w (posX n w l o) (posY n w l o)) (bY n f w (posX n w l o) (posY n w l o)) = cW n (nF n f w o) (nW n f w o) l (nO n o) ∧
    bS n f w (posX n w l o) (posY n w l o) = (nW n f w o + 2) % 4 := by
  obtain ⟨hB, hW, hS, hL, hO⟩ := b_on h.on h.w4
  obtain ⟨o1, l1⟩ := off_pos (n := n) h.w4 l o
  have eW : bW n f w (posX n w l o) (posY n w l o) = nW n f w o := by unfold bW nW; rw [o1]
  have eF : bF n f w (posX n w l o) (posY n w l o) = nF n f w o := by unfold bF nF; rw [o1]
  rw [l1] at hL
  rw [o1] at hO
  obtain ⟨e1, e2⟩ := pos_off (n := n) hW (bX n f w (posX n w l o) (posY n w l o)) (bY n f w (posX n w l o) (posY n w l o))
  rw [hL, hO, eW] at e1 e2
  refine ⟨?_, by rw [hS, eW]⟩
  rw [← e1, ← e2, eF]
  rfl
theorem flip_w (n : Int) (f : Nat) {w : Nat} (hw : w < 4) (l o : Int) : cW n f ((w + 2) % 4) (n - 1 - l) (n - 1 - o) = cW n f w l o := by
  have a : ∀ x : Int, n - 1 - (n - 1 - x) = x := fun x => by omega
  rcases four hw with rfl | rfl | rfl | rfl <;> simp [cW, posX, posY, a]
theorem left_w (n : Int) (f : Nat) {w : Nat} (hw : w < 4) (l o : Int) : cW n f ((w + 1) % 4) (n - 1 - o) l = cW n f w l o := by
  have a : ∀ x : Int, n - 1 - (n - 1 - x) = x := fun x => by omega
  rcases four hw with rfl | rfl | rfl | rfl <;> simp [cW, posX, posY, a]
theorem OnW.flip {n : Int} {f w : Nat} {l o : Int} (h : OnW n f w l o) : OnW n f ((w + 2) % 4) (n - 1 - l) (n - 1 - o) :=
  ⟨h.n1, h.n32, h.f6, by omega, by have := h.l1; omega, by have := h.l0; omega, by have := h.o1; omega, by have := h.o0; omega⟩
theorem OnW.left {n : Int} {f w : Nat} {l o : Int} (h : OnW n f w l o) : OnW n f ((w + 1) % 4) (n - 1 - o) l :=
  ⟨h.n1, h.n32, h.f6, by omega, by have := h.o1; omega, by have := h.o0; omega, h.l0, h.l1⟩
theorem nb_back : ∀ f < 6, ∀ w < 4, nbF (nbF f w) ((nbS f w + 2) % 4) = f ∧ nbS (nbF f w) ((nbS f w + 2) % 4) = (w + 2) % 4 := by decide
theorem back_w {n : Int} {f w : Nat} {l o : Int} (h : OnW n f w l o) : nF n (nF n f w o) ((nW n f w o + 2) % 4) (n - 1 - nO n o) = f ∧ nW n (nF n f w o) ((nW n f w o + 2) % 4) (n - 1 - nO n o) = (w + 2) % 4 ∧ nO n (n - 1 - nO n o) = n - 1 - o := by
  obtain ⟨g1, g2⟩ := nb_back f h.f6 w h.w4
  have h3 := h.o1; have h4 := h.o0
  unfold nF nW nO
  by_cases ho : o = n - 1
  · simp only [ho, if_true]
    rw [if_pos (by omega), if_pos (by omega), if_pos (by omega)]
    exact ⟨g1, g2, by omega⟩
  · simp only [ho, if_false]
    rw [if_neg (by omega), if_neg (by omega), if_neg (by omega)]
    exact ⟨rfl, rfl, by omega⟩
theorem nb_apart : ∀ f < 6, ∀ s < 4, ∀ u < 4, nbF f s = nbF f u → s = u := by decide
theorem d_apart : ∀ s < 4, ∀ u < 4, DX s = DX u ∧ DY s = DY u → s = u := by decide
theorem d_none : ∀ s < 4, ¬ (DX s = 0 ∧ DY s = 0) := by decide
/-- What lies beside is none of the cell itself, and no two alike. -/
theorem b_apart {n : Int} {f s u : Nat} {i j : Int} (h : On n f i j) (hs : s < 4) (hu : u < 4) (hne : s ≠ u) : cellN n (bF n f s i j) (bX n f s i j) (bY n f s i j) ≠ cellN n (bF n f u i j) (bX n f u i j) (bY n f u i j) := by
  intro e
  obtain ⟨e1, e2, e3⟩ := cellN_inj (b_on h hs).1 (b_on h hu).1 e
  have o1 := nb_other f h.f6 s hs
  have o2 := nb_other f h.f6 u hu
  unfold bF at e1
  unfold bX at e2
  unfold bY at e3
  by_cases ho : offI n s i j = n - 1 <;> by_cases hp : offI n u i j = n - 1
  · rw [if_pos ho, if_pos hp] at e1
    exact hne (nb_apart f h.f6 s hs u hu e1)
  · rw [if_pos ho, if_neg hp] at e1
    exact o1 e1
  · rw [if_neg ho, if_pos hp] at e1
    exact o2 e1.symm
  · rw [if_neg ho, if_neg hp] at e2 e3
    exact hne (d_apart s hs u hu ⟨by omega, by omega⟩)
theorem b_self {n : Int} {f s : Nat} {i j : Int} (h : On n f i j) (hs : s < 4) : cellN n (bF n f s i j) (bX n f s i j) (bY n f s i j) ≠ cellN n f i j := by
  intro e
  obtain ⟨e1, e2, e3⟩ := cellN_inj (b_on h hs).1 h e
  have o1 := nb_other f h.f6 s hs
  unfold bF at e1
  unfold bX at e2
  unfold bY at e3
  by_cases ho : offI n s i j = n - 1
  · rw [if_pos ho] at e1
    exact o1 e1
  · rw [if_neg ho] at e2 e3
    exact d_none s hs ⟨by omega, by omega⟩
end TF
