/- The cube's numbers as plain functions: frames, bounds. -/
import Derived.Lib.Hide
import Derived.WalkKit
import Derived.Deep.Quiet
namespace TF
open Go Go.RowKit

def frT : List (List Int) := [[1,0,0, 0,1,0, 0,0,1], [0,1,0, -1,0,0, 0,0,1], [-1,0,0, 0,-1,0, 0,0,1], [0,-1,0, 1,0,0, 0,0,1], [0,0,1, 0,1,0, -1,0,0], [0,0,-1, 0,1,0, 1,0,0]]
/-- Number k of the nine numbers of face f's frame. -/
def FR (f k : Nat) : Int := (frT.getD f []).getD k 0
/-- From -b to b. -/
def In (b : Int) (x : Int) : Prop := -b ≤ x ∧ x ≤ b
structure I3 (b x y z : Int) : Prop where
  x : In b x
  y : In b y
  z : In b z
abbrev U3 (x y z : Int) : Prop := I3 1 x y z
theorem In.mul {b k x : Int} (hk : In b k) (hx : In 1 x) (_hb : 0 ≤ b) : In b (k * x) := by
  obtain ⟨h1, h2⟩ := hk
  obtain ⟨h3, h4⟩ := hx
  have : x = -1 ∨ x = 0 ∨ x = 1 := by omega
  rcases this with rfl | rfl | rfl <;> constructor <;> omega
theorem In.mul' {b k x : Int} (hk : In b k) (hx : In 1 x) (hb : 0 ≤ b) : In b (x * k) := by rw [Int.mul_comm]; exact hk.mul hx hb

def goodB (n : Int) : Bool := decide (1 ≤ n) && decide (n ≤ 32)
theorem good_cases (n : Int) : (goodB n = false ∧ n < 1) ∨ (goodB n = false ∧ 1 ≤ n ∧ 32 < n) ∨ (goodB n = true ∧ 1 ≤ n ∧ n ≤ 32) := by
  unfold goodB
  simp only [Bool.and_eq_true, decide_eq_true_eq, Bool.and_eq_false_iff, decide_eq_false_iff_not]
  omega
def cellsI (n : Int) : Int := if goodB n = true then 6 * n * n else 0
theorem sq_le {n : Int} (h1 : 1 ≤ n) (h2 : n ≤ 32) : 1 ≤ n * n ∧ n * n ≤ 1024 := by
  have a := Int.mul_le_mul h1 h1 (by omega) (by omega)
  have b := Int.mul_le_mul h2 h2 (by omega) (by omega)
  omega
theorem six_sq (n : Int) : 6 * n * n = 6 * (n * n) := Int.mul_assoc _ _ _
theorem cells_cases (n : Int) : (goodB n = false ∧ cellsI n = 0) ∨ (goodB n = true ∧ cellsI n = 6 * n * n ∧ 0 ≤ 6 * n * n ∧ 6 * n * n ≤ 6144 ∧ (1 ≤ n ∧ n ≤ 32)) := by
  unfold cellsI
  rcases good_cases n with ⟨e, h⟩ | ⟨e, h1, h2⟩ | ⟨e, h1, h2⟩
  · left; rw [e]; exact ⟨rfl, rfl⟩
  · left; rw [e]; exact ⟨rfl, rfl⟩
  · right
    have := sq_le h1 h2
    rw [e, six_sq]; exact ⟨rfl, rfl, by omega, by omega, h1, h2⟩

def indexI (n a : Int) : Int := min (max ((a + n - 1).tdiv 2) 0) (n - 1)
def cellI (n f i j : Int) : Int := if goodB n = true ∧ 0 ≤ f ∧ f < 6 ∧ 0 ≤ i ∧ i < n ∧ 0 ≤ j ∧ j < n then (f * n + j) * n + i else -1
theorem mul_bd {a b m n : Int} (h1 : 0 ≤ a) (h2 : a ≤ m) (h3 : 0 ≤ b) (h4 : b ≤ n) : 0 ≤ a * b ∧ a * b ≤ m * n :=
  ⟨Int.mul_nonneg h1 h3, Int.mul_le_mul h2 h4 h3 (by omega)⟩
theorem cell_cases (n f i j : Int) : (cellI n f i j = -1 ∧ (goodB n = false ∨ (goodB n = true ∧ f < 0) ∨ (goodB n = true ∧ 0 ≤ f ∧ 6 ≤ f) ∨ (goodB n = true ∧ 0 ≤ f ∧ f < 6 ∧ i < 0) ∨ (goodB n = true ∧ 0 ≤ f ∧ f < 6 ∧ 0 ≤ i ∧ n ≤ i) ∨
      (goodB n = true ∧ 0 ≤ f ∧ f < 6 ∧ 0 ≤ i ∧ i < n ∧ j < 0) ∨ (goodB n = true ∧ 0 ≤ f ∧ f < 6 ∧ 0 ≤ i ∧ i < n ∧ 0 ≤ j ∧ n ≤ j))) ∨
    (cellI n f i j = (f * n + j) * n + i ∧ goodB n = true ∧ 0 ≤ f ∧ f < 6 ∧ 0 ≤ i ∧ i < n ∧ 0 ≤ j ∧ j < n ∧ (0 ≤ f * n ∧ f * n ≤ 160 ∧ 0 ≤ (f * n + j) * n ∧ (f * n + j) * n ≤ 6112 ∧ 1 ≤ n ∧ n ≤ 32)) := by
  unfold cellI
  by_cases h : goodB n = true ∧ 0 ≤ f ∧ f < 6 ∧ 0 ≤ i ∧ i < n ∧ 0 ≤ j ∧ j < n
  · right
    rw [if_pos h]
    obtain ⟨g, h1, h2, h3, h4, h5, h6⟩ := h
    rcases good_cases n with ⟨e, _⟩ | ⟨e, _⟩ | ⟨_, n1, n2⟩
    · rw [e] at g; cases g
    · rw [e] at g; cases g
    have b1 := mul_bd (a := f) (b := n) (m := 5) (n := 32) h1 (by omega) (by omega) n2
    have b2 := mul_bd (a := f * n + j) (b := n) (m := 191) (n := 32) (by omega) (by omega) (by omega) n2
    exact ⟨rfl, g, h1, h2, h3, h4, h5, h6, by omega, by omega, by omega, by omega, n1, n2⟩
  · left
    rw [if_neg h]
    refine ⟨rfl, ?_⟩
    cases g : goodB n
    · left; rfl
    · right
      rw [g] at h
      simp only [true_and] at h ⊢
      omega
def placeI (n c : Int) : Int × Int × Int × Bool := if 0 ≤ c ∧ c < cellsI n then (c / (n * n), c % n, c / n % n, true) else (0, 0, 0, false)
theorem place_cases (n c : Int) : (placeI n c = (0, 0, 0, false) ∧ (c < 0 ∨ (0 ≤ c ∧ cellsI n ≤ c))) ∨
    (placeI n c = (c / (n * n), c % n, c / n % n, true) ∧ 0 ≤ c ∧ c < cellsI n ∧ 1 ≤ n ∧ n ≤ 32 ∧ 1 ≤ n * n ∧ n * n ≤ 1024 ∧ c < 6144) := by
  unfold placeI
  by_cases h : 0 ≤ c ∧ c < cellsI n
  · right
    rw [if_pos h]
    rcases cells_cases n with ⟨_, e⟩ | ⟨_, e, h1, h2, h3, h4⟩
    · rw [e] at h; omega
    · exact ⟨rfl, h.1, h.2, h3, h4, (sq_le h3 h4).1, (sq_le h3 h4).2, by omega⟩
  · left; rw [if_neg h]; exact ⟨rfl, by omega⟩
theorem quo_in {c m : Int} (h : 0 ≤ c) (hc : c < 6144) (hm : 1 ≤ m) : c.tdiv m = c / m ∧ 0 ≤ c / m ∧ c / m < 6144 := by
  refine ⟨Int.tdiv_eq_ediv_of_nonneg h, Int.ediv_nonneg h (by omega), ?_⟩
  have := Int.ediv_le_self m h
  omega
theorem place_one {c m : Int} (h : 0 ≤ c) (hc : c < 6144) (hm : 1 ≤ m) : wrap64 (c.tdiv m) = c / m := by
  obtain ⟨e, h1, h2⟩ := quo_in h hc hm
  rw [e]; unfold wrap64; omega
theorem place_mod {c m : Int} (h : 0 ≤ c) (hc : c < 6144) (hm : 1 ≤ m) : (c / m).tmod m = c / m % m := Int.tmod_eq_emod_of_nonneg (quo_in h hc hm).2.1

/-- A frame's way over side s. -/
def OU (s : Nat) (r u : Int) : Int := if s = 0 then r else if s = 1 then u else if s = 2 then -r else -u
theorem OU_in {s : Nat} {r u : Int} (hr : In 1 r) (hu : In 1 u) : In 1 (OU s r u) := by
  obtain ⟨h1, h2⟩ := hr
  obtain ⟨h3, h4⟩ := hu
  unfold OU
  (repeat' split) <;> constructor <;> omega
theorem FR_in : ∀ f < 6, ∀ k < 9, -1 ≤ FR f k ∧ FR f k ≤ 1 := by decide
theorem FR_u {f : Nat} (h : f < 6) {k : Nat} (hk : k + 2 < 9) : U3 (FR f k) (FR f (k + 1)) (FR f (k + 2)) := ⟨FR_in f h k (by omega), FR_in f h (k + 1) (by omega), FR_in f h (k + 2) hk⟩
/-- The way over side s of face f: its number k. -/
def WO (f s k : Nat) : Int := OU s (FR f (3 + k)) (FR f (6 + k))
theorem WO_u {f : Nat} (h : f < 6) (s : Nat) : U3 (WO f s 0) (WO f s 1) (WO f s 2) :=
  ⟨OU_in (FR_in f h 3 (by omega)) (FR_in f h 6 (by omega)), OU_in (FR_in f h 4 (by omega)) (FR_in f h 7 (by omega)), OU_in (FR_in f h 5 (by omega)) (FR_in f h 8 (by omega))⟩
theorem FR_inj : ∀ k < 6, ∀ f < 6, FR k 0 = FR f 0 → FR k 1 = FR f 1 → FR k 2 = FR f 2 → k = f := by decide
theorem below_drewN {B : Nat} {a w : World} (h : Below B a w) (n : Nat) : Below B a (w.drewN n) := ⟨h.os, h.tape, h.output, h.size, h.block⟩
/-- The middle of a cell: its number k. -/
def MI (n : Int) (f : Nat) (i j : Int) (k : Nat) : Int := n * FR f k + (2 * i + 1 - n) * FR f (3 + k) + (2 * j + 1 - n) * FR f (6 + k)
theorem In.add {n i a b : Int} (h1 : 1 ≤ n) (h2 : n ≤ 32) (h3 : -33 ≤ i) (h4 : i ≤ 33) (ha : In 1 a) (hb : In 1 b) : In 4000 (n * a + (2 * i + 1 - n) * b) := by
  have x : In 1000 n := ⟨by omega, by omega⟩
  have y : In 1000 (2 * i + 1 - n) := ⟨by omega, by omega⟩
  obtain ⟨p1, p2⟩ := x.mul ha (by omega)
  obtain ⟨p3, p4⟩ := y.mul hb (by omega)
  exact ⟨by omega, by omega⟩
theorem I3.add {n i a b c x y z : Int} (h1 : 1 ≤ n) (h2 : n ≤ 32) (h3 : -33 ≤ i) (h4 : i ≤ 33) (ha : U3 a b c) (hb : U3 x y z) : I3 4000 (n * a + (2 * i + 1 - n) * x) (n * b + (2 * i + 1 - n) * y) (n * c + (2 * i + 1 - n) * z) :=
  ⟨In.add h1 h2 h3 h4 ha.x hb.x, In.add h1 h2 h3 h4 ha.y hb.y, In.add h1 h2 h3 h4 ha.z hb.z⟩
/-- The face over side s of face f, and its side that lies there. -/
def nbT : List (List (Nat × Nat)) := [[(1, 0), (4, 1), (3, 2), (5, 3)], [(2, 0), (4, 2), (0, 2), (5, 2)], [(3, 0), (4, 3), (1, 2), (5, 1)], [(0, 0), (4, 0), (2, 2), (5, 0)], [(1, 3), (2, 3), (3, 3), (0, 3)], [(1, 1), (0, 1), (3, 1), (2, 1)]]
def nbF (f s : Nat) : Nat := ((nbT.getD f []).getD s (0, 0)).1
/-- .. the way on over there. -/
def nbS (f s : Nat) : Nat := ((nbT.getD f []).getD s (0, 0)).2
/-- .. the side that lies there. -/
def nbB (f s : Nat) : Nat := (nbS f s + 2) % 4
theorem nb_fact : ∀ f < 6, ∀ s < 4, nbF f s < 6 ∧ nbS f s < 4 ∧ nbB f s < 4 ∧ OU s (FR f 3) (FR f 6) = FR (nbF f s) 0 ∧ OU s (FR f 4) (FR f 7) = FR (nbF f s) 1 ∧ OU s (FR f 5) (FR f 8) = FR (nbF f s) 2 ∧
    OU (nbB f s) (FR (nbF f s) 3) (FR (nbF f s) 6) = FR f 0 ∧ OU (nbB f s) (FR (nbF f s) 4) (FR (nbF f s) 7) = FR f 1 ∧ OU (nbB f s) (FR (nbF f s) 5) (FR (nbF f s) 8) = FR f 2 := by decide
theorem nb_only : ∀ f < 6, ∀ s < 4, ∀ k < 4, (OU k (FR (nbF f s) 3) (FR (nbF f s) 6) = FR f 0 ∧ OU k (FR (nbF f s) 4) (FR (nbF f s) 7) = FR f 1 ∧ OU k (FR (nbF f s) 5) (FR (nbF f s) 8) = FR f 2) → k = nbB f s := by decide
def DX (s : Nat) : Int := if s = 0 then 1 else if s = 2 then -1 else 0
def DY (s : Nat) : Int := if s = 1 then 1 else if s = 3 then -1 else 0
/-- The middle of the stretch over side s: its number k. -/
def PI (n : Int) (f s : Nat) (i j : Int) (k : Nat) : Int := MI n f i j k + OU s (FR f (3 + k)) (FR f (6 + k))
/-- Seen from face g: along its i (k = 3), its j (k = 6). -/
def SI (n : Int) (f s : Nat) (i j : Int) (g k : Nat) : Int := PI n f s i j 0 * FR g k + PI n f s i j 1 * FR g (k + 1) + PI n f s i j 2 * FR g (k + 2)
theorem MI_in {n i j : Int} {f : Nat} (hf : f < 6) (h1 : 1 ≤ n) (h2 : n ≤ 32) (h3 : -33 ≤ i) (h4 : i ≤ 33) (h5 : -33 ≤ j) (h6 : j ≤ 33) (k : Nat) (hk : k < 3) : In 1000 (MI n f i j k) := by
  have x : In 300 n := ⟨by omega, by omega⟩
  have y : In 300 (2 * i + 1 - n) := ⟨by omega, by omega⟩
  have z : In 300 (2 * j + 1 - n) := ⟨by omega, by omega⟩
  obtain ⟨p1, p2⟩ := x.mul (FR_in f hf k (by omega)) (by omega)
  obtain ⟨p3, p4⟩ := y.mul (FR_in f hf (3 + k) (by omega)) (by omega)
  obtain ⟨p5, p6⟩ := z.mul (FR_in f hf (6 + k) (by omega)) (by omega)
  unfold MI
  exact ⟨by omega, by omega⟩
theorem PI_in {n i j : Int} {f s : Nat} (hf : f < 6) (h1 : 1 ≤ n) (h2 : n ≤ 32) (h3 : -33 ≤ i) (h4 : i ≤ 33) (h5 : -33 ≤ j) (h6 : j ≤ 33) (k : Nat) (hk : k < 3) : In 1001 (PI n f s i j k) := by
  obtain ⟨a, b⟩ := MI_in hf h1 h2 h3 h4 h5 h6 k hk
  obtain ⟨c, d⟩ := OU_in (s := s) (FR_in f hf (3 + k) (by omega)) (FR_in f hf (6 + k) (by omega))
  unfold PI
  exact ⟨by omega, by omega⟩
theorem SI_in {n i j : Int} {f s g k : Nat} (hf : f < 6) (hg : g < 6) (hk : k + 2 < 9) (h1 : 1 ≤ n) (h2 : n ≤ 32) (h3 : -33 ≤ i) (h4 : i ≤ 33) (h5 : -33 ≤ j) (h6 : j ≤ 33) : In 20000 (SI n f s i j g k) := by
  obtain ⟨p1, p2⟩ := (PI_in (s := s) hf h1 h2 h3 h4 h5 h6 0 (by omega)).mul (FR_in g hg k (by omega)) (by omega)
  obtain ⟨p3, p4⟩ := (PI_in (s := s) hf h1 h2 h3 h4 h5 h6 1 (by omega)).mul (FR_in g hg (k + 1) (by omega)) (by omega)
  obtain ⟨p5, p6⟩ := (PI_in (s := s) hf h1 h2 h3 h4 h5 h6 2 (by omega)).mul (FR_in g hg (k + 2) (by omega)) (by omega)
  unfold SI
  exact ⟨by omega, by omega⟩
end TF
