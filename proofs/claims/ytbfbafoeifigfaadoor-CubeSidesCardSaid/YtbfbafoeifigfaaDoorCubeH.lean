/- The cube's cells by face, way, lane and place on the way: what lies beside, what a turn makes of it. -/
import Derived.Test.YtbfbafoeifigfaaDoorCubeG
namespace TF
open Go Go.RowKit

theorem index_eq (n a : Int) : indexI n a = min (max ((a + n - 1) / 2) 0) (n - 1) := by
  unfold indexI
  by_cases h : a + n - 1 < 0
  · have h1 : (a + n - 1).tdiv 2 ≤ 0 := by
      have := Int.neg_tdiv (-(a + n - 1)) 2
      rw [Int.neg_neg] at this
      have h2 : 0 ≤ (-(a + n - 1)).tdiv 2 := Int.tdiv_nonneg (by omega) (by omega)
      omega
    omega
  · rw [Int.tdiv_eq_ediv_of_nonneg (by omega)]
def cellN (n : Int) (f : Nat) (i j : Int) : Int := (f * n + j) * n + i
/-- A cell on its face. -/
structure On (n : Int) (f : Nat) (i j : Int) : Prop where
  n1 : 1 ≤ n
  n32 : n ≤ 32
  f6 : f < 6
  i0 : 0 ≤ i
  i1 : i < n
  j0 : 0 ≤ j
  j1 : j < n
theorem good_of {n : Int} (h1 : 1 ≤ n) (h2 : n ≤ 32) : goodB n = true := by simp [goodB, h1, h2]
theorem On.cell {n : Int} {f : Nat} {i j : Int} (h : On n f i j) : cellI n f i j = cellN n f i j := by
  unfold cellI cellN
  rw [if_pos ⟨good_of h.n1 h.n32, by omega, by have := h.f6; omega, h.i0, h.i1, h.j0, h.j1⟩]
theorem On.bound {n : Int} {f : Nat} {i j : Int} (h : On n f i j) : 0 ≤ cellN n f i j ∧ cellN n f i j < 6 * n * n := by
  have h1 := h.n1; have h2 := h.f6; have h3 := h.i0; have h4 := h.i1; have h5 := h.j0; have h6 := h.j1
  unfold cellN
  have hf : (0 : Int) ≤ f * n := Int.mul_nonneg (by omega) (by omega)
  have hf5 : (f : Int) * n ≤ 5 * n := Int.mul_le_mul_of_nonneg_right (by omega) (by omega)
  have ha : (0 : Int) ≤ (f * n + j) * n := Int.mul_nonneg (by omega) (by omega)
  have hb : ((f : Int) * n + j) * n ≤ (6 * n - 1) * n := Int.mul_le_mul_of_nonneg_right (by omega) (by omega)
  have e : (6 * n - 1) * n = 6 * n * n - n := by rw [Int.sub_mul, Int.one_mul]
  omega
theorem On.place {n : Int} {f : Nat} {i j : Int} (h : On n f i j) : placeI n (cellN n f i j) = ((f : Int), i, j, true) := by
  have hb := h.bound
  have h1 := h.n1; have h2 := h.f6; have h3 := h.i0; have h4 := h.i1; have h5 := h.j0; have h6 := h.j1
  have hg := good_of h.n1 h.n32
  have ec : cellsI n = 6 * n * n := by unfold cellsI; rw [hg]; rfl
  unfold placeI
  rw [if_pos ⟨hb.1, by rw [ec]; exact hb.2⟩]
  have e1 : cellN n f i j % n = i := by unfold cellN; rw [Int.mul_comm, Int.mul_add_emod_self_left]; exact Int.emod_eq_of_lt h3 h4
  have e2 : cellN n f i j / n = f * n + j := by
    unfold cellN
    rw [Int.mul_comm (_ + j) n, Int.mul_add_ediv_left _ _ (by omega), Int.ediv_eq_zero_of_lt h3 h4, Int.add_zero]
  have e3 : cellN n f i j / n % n = j := by rw [e2, Int.mul_comm, Int.mul_add_emod_self_left]; exact Int.emod_eq_of_lt h5 h6
  have e4 : cellN n f i j / (n * n) = f := by
    rw [← Int.ediv_ediv_of_nonneg (by omega), e2, Int.mul_comm, Int.mul_add_ediv_left _ _ (by omega), Int.ediv_eq_zero_of_lt h5 h6, Int.add_zero]
  rw [e1, e3, e4]
/-- Each number of a cell is one on a face. -/
theorem on_of {n c : Int} (h1 : 1 ≤ n) (h2 : n ≤ 32) (h3 : 0 ≤ c) (h4 : c < 6 * n * n) : ∃ f i j, On n f i j ∧ c = cellN n f i j := by
  have hn : 0 < n := by omega
  have d1 := Int.mul_ediv_add_emod c n
  have d2 := Int.mul_ediv_add_emod (c / n) n
  have m1 := Int.emod_nonneg c (show n ≠ 0 by omega)
  have m2 := Int.emod_lt_of_pos c hn
  have m3 := Int.emod_nonneg (c / n) (show n ≠ 0 by omega)
  have m4 := Int.emod_lt_of_pos (c / n) hn
  have q0 : 0 ≤ c / n / n := Int.ediv_nonneg (Int.ediv_nonneg h3 (by omega)) (by omega)
  have q1 : c / n / n < 6 := by
    have a : c / n < 6 * n := Int.ediv_lt_of_lt_mul hn h4
    exact Int.ediv_lt_of_lt_mul hn a
  refine ⟨(c / n / n).toNat, c % n, c / n % n, ⟨h1, h2, by omega, m1, m2, m3, m4⟩, ?_⟩
  unfold cellN
  rw [Int.toNat_of_nonneg q0]
  have e : c / n / n * n + c / n % n = c / n := by rw [Int.mul_comm]; exact d2
  rw [e, Int.mul_comm]; exact d1.symm
theorem cellN_inj {n : Int} {f g : Nat} {i j k l : Int} (h : On n f i j) (h' : On n g k l) (e : cellN n f i j = cellN n g k l) : f = g ∧ i = k ∧ j = l := by
  have a := h.place
  rw [e, h'.place] at a
  simp only [Prod.mk.injEq] at a
  omega

/-- On the way over side s: how far, in which lane; back from these. -/
def offI (n : Int) (s : Nat) (i j : Int) : Int := if s = 0 then i else if s = 1 then j else if s = 2 then n - 1 - i else n - 1 - j
def laneI (n : Int) (s : Nat) (i j : Int) : Int := if s = 0 then j else if s = 1 then n - 1 - i else if s = 2 then n - 1 - j else i
def posX (n : Int) (s : Nat) (l o : Int) : Int := if s = 0 then o else if s = 1 then n - 1 - l else if s = 2 then n - 1 - o else l
def posY (n : Int) (s : Nat) (l o : Int) : Int := if s = 0 then l else if s = 1 then o else if s = 2 then n - 1 - l else n - 1 - o
theorem four {s : Nat} (hs : s < 4) : s = 0 ∨ s = 1 ∨ s = 2 ∨ s = 3 := by omega
theorem six {f : Nat} (hf : f < 6) : f = 0 ∨ f = 1 ∨ f = 2 ∨ f = 3 ∨ f = 4 ∨ f = 5 := by omega
/-- The four ways, written out. -/
theorem ways {s : Nat} (hs : s < 4) : (s = 0 ∧ (∀ n l o, posX n s l o = o ∧ posY n s l o = l) ∧ (∀ n i j, offI n s i j = i ∧ laneI n s i j = j) ∧ DX s = 1 ∧ DY s = 0) ∨
    (s = 1 ∧ (∀ n l o, posX n s l o = n - 1 - l ∧ posY n s l o = o) ∧ (∀ n i j, offI n s i j = j ∧ laneI n s i j = n - 1 - i) ∧ DX s = 0 ∧ DY s = 1) ∨
    (s = 2 ∧ (∀ n l o, posX n s l o = n - 1 - o ∧ posY n s l o = n - 1 - l) ∧ (∀ n i j, offI n s i j = n - 1 - i ∧ laneI n s i j = n - 1 - j) ∧ DX s = -1 ∧ DY s = 0) ∨
    (s = 3 ∧ (∀ n l o, posX n s l o = l ∧ posY n s l o = n - 1 - o) ∧ (∀ n i j, offI n s i j = n - 1 - j ∧ laneI n s i j = i) ∧ DX s = 0 ∧ DY s = -1) := by
  rcases four hs with rfl | rfl | rfl | rfl
  · left; exact ⟨rfl, fun _ _ _ => ⟨rfl, rfl⟩, fun _ _ _ => ⟨rfl, rfl⟩, rfl, rfl⟩
  · right; left; exact ⟨rfl, fun _ _ _ => ⟨rfl, rfl⟩, fun _ _ _ => ⟨rfl, rfl⟩, rfl, rfl⟩
  · right; right; left; exact ⟨rfl, fun _ _ _ => ⟨rfl, rfl⟩, fun _ _ _ => ⟨rfl, rfl⟩, rfl, rfl⟩
  · right; right; right; exact ⟨rfl, fun _ _ _ => ⟨rfl, rfl⟩, fun _ _ _ => ⟨rfl, rfl⟩, rfl, rfl⟩
theorem pos_off {n : Int} {s : Nat} (hs : s < 4) (i j : Int) : posX n s (laneI n s i j) (offI n s i j) = i ∧ posY n s (laneI n s i j) (offI n s i j) = j := by
  rcases ways hs with ⟨_, p, q, _⟩ | ⟨_, p, q, _⟩ | ⟨_, p, q, _⟩ | ⟨_, p, q, _⟩ <;> (rw [(p _ _ _).1, (p _ _ _).2, (q n i j).1, (q n i j).2]; omega)
theorem off_pos {n : Int} {s : Nat} (hs : s < 4) (l o : Int) : offI n s (posX n s l o) (posY n s l o) = o ∧ laneI n s (posX n s l o) (posY n s l o) = l := by
  rcases ways hs with ⟨_, p, q, _⟩ | ⟨_, p, q, _⟩ | ⟨_, p, q, _⟩ | ⟨_, p, q, _⟩ <;> (rw [(q _ _ _).1, (q _ _ _).2, (p n l o).1, (p n l o).2]; omega)
theorem on_pos {n : Int} {f s : Nat} {l o : Int} (hs : s < 4) (hf : f < 6) (h1 : 1 ≤ n) (h2 : n ≤ 32) (l0 : 0 ≤ l) (l1 : l < n) (o0 : 0 ≤ o) (o1 : o < n) : On n f (posX n s l o) (posY n s l o) := by
  rcases ways hs with ⟨_, p, _⟩ | ⟨_, p, _⟩ | ⟨_, p, _⟩ | ⟨_, p, _⟩ <;> (have e := p n l o; exact ⟨h1, h2, hf, by omega, by omega, by omega, by omega⟩)
theorem On.off {n : Int} {f s : Nat} {i j : Int} (h : On n f i j) (hs : s < 4) : 0 ≤ offI n s i j ∧ offI n s i j < n ∧ 0 ≤ laneI n s i j ∧ laneI n s i j < n := by
  have h1 := h.n1; have h3 := h.i0; have h4 := h.i1; have h5 := h.j0; have h6 := h.j1
  rcases ways hs with ⟨_, _, q, _⟩ | ⟨_, _, q, _⟩ | ⟨_, _, q, _⟩ | ⟨_, _, q, _⟩ <;> (have e := q n i j; omega)
/-- One step within the face. -/
theorem step_near {n : Int} {f s : Nat} {i j : Int} (h : On n f i j) (hs : s < 4) (ho : offI n s i j < n - 1) : i + DX s = posX n s (laneI n s i j) (offI n s i j + 1) ∧ j + DY s = posY n s (laneI n s i j) (offI n s i j + 1) ∧ On n f (i + DX s) (j + DY s) := by
  have h1 := h.n1; have h2 := h.n32; have h3 := h.i0; have h4 := h.i1; have h5 := h.j0; have h6 := h.j1; have h7 := h.f6
  rcases ways hs with ⟨_, p, q, x, y⟩ | ⟨_, p, q, x, y⟩ | ⟨_, p, q, x, y⟩ | ⟨_, p, q, x, y⟩ <;>
    (have e := p n (laneI n s i j) (offI n s i j + 1); have d := q n i j; exact ⟨by omega, by omega, ⟨h1, h2, h7, by omega, by omega, by omega, by omega⟩⟩)
/-- .. out of it. -/
theorem step_out {n : Int} {f s : Nat} {i j : Int} (h : On n f i j) (hs : s < 4) (ho : offI n s i j = n - 1) : cellI n f (i + DX s) (j + DY s) = -1 := by
  have h1 := h.n1; have h3 := h.i0; have h4 := h.i1; have h5 := h.j0; have h6 := h.j1
  unfold cellI
  rw [if_neg]
  rintro ⟨-, -, -, a, b, c, d⟩
  rcases ways hs with ⟨_, _, q, x, y⟩ | ⟨_, _, q, x, y⟩ | ⟨_, _, q, x, y⟩ | ⟨_, _, q, x, y⟩ <;> (have e := q n i j; omega)
/-- .. to where. -/
theorem far_eval {n : Int} {f s : Nat} {i j : Int} (h : On n f i j) (hs : s < 4) (ho : offI n s i j = n - 1) :
    indexI n (SI n f s i j (nbF f s) 3) = posX n (nbS f s) (laneI n s i j) 0 ∧ indexI n (SI n f s i j (nbF f s) 6) = posY n (nbS f s) (laneI n s i j) 0 := by
  have h1 := h.n1; have h3 := h.i0; have h4 := h.i1; have h5 := h.j0; have h6 := h.j1
  rw [index_eq, index_eq]
  rcases six h.f6 with rfl | rfl | rfl | rfl | rfl | rfl <;> rcases four hs with rfl | rfl | rfl | rfl <;>
    (simp [SI, PI, MI, OU, FR, frT, nbF, nbS, nbT, posX, posY, laneI, offI] at ho ⊢; omega)
end TF
