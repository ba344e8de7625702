/- Laid together: CubeF, ArrEq, GeoC, GeoD, GeoE, CubeG, CubeH, CubeK, GeoF. -/
import Derived.Lib.Hide
import Derived.WalkKit
import Derived.Deep.Quiet
import Derived.ChangeKeysEq
import Derived.Laws.StructEq
import Derived.Test.YtkjjecghbhppgaaGreatDoorK04
import Derived.Test.YtkjjecghbhppgaaGreatDoorK03
/- The cube's numbers as plain functions: frames, bounds. -/
namespace TF
open Go Go.RowKit

def frT : List (List Int) := [[1,0,0, 0,1,0, 0,0,1], [0,1,0, -1,0,0, 0,0,1], [-1,0,0, 0,-1,0, 0,0,1], [0,-1,0, 1,0,0, 0,0,1], [0,0,1, 0,1,0, -1,0,0], [0,0,-1, 0,1,0, 1,0,0]]
/-- Number k of the nine numbers of face f's frame. -/
def FR (f k : Nat) : Int := (frT.getD f []).getD k 0
/-- From -b to b. -/
def In (b : Int) (x : Int) : Prop := -b ≤ x ∧ x ≤ b
structure I3 (b x y z : Int) : Prop where
  x : In b x
  y : In b y
  z : In b z
abbrev U3 (x y z : Int) : Prop := I3 1 x y z
theorem In.mul {b k x : Int} (hk : In b k) (hx : In 1 x) (_hb : 0 ≤ b) : In b (k * x) := by
  obtain ⟨h1, h2⟩ := hk
  obtain ⟨h3, h4⟩ := hx
  have : x = -1 ∨ x = 0 ∨ x = 1 := by omega
  rcases this with rfl | rfl | rfl <;> constructor <;> omega
theorem In.mul' {b k x : Int} (hk : In b k) (hx : In 1 x) (hb : 0 ≤ b) : In b (x * k) := by rw [Int.mul_comm]; exact hk.mul hx hb

def goodB (n : Int) : Bool := decide (1 ≤ n) && decide (n ≤ 32)
theorem good_cases (n : Int) : (goodB n = false ∧ n < 1) ∨ (goodB n = false ∧ 1 ≤ n ∧ 32 < n) ∨ (goodB n = true ∧ 1 ≤ n ∧ n ≤ 32) := by
  unfold goodB
  simp only [Bool.and_eq_true, decide_eq_true_eq, Bool.and_eq_false_iff, decide_eq_false_iff_not]
  omega
def cellsI (n : Int) : Int := if goodB n = true then 6 * n * n else 0
theorem sq_le {n : Int} (h1 : 1 ≤ n) (h2 : n ≤ 32) : 1 ≤ n * n ∧ n * n ≤ 1024 := by
  have a := Int.mul_le_mul h1 h1 (by omega) (by omega)
  have b := Int.mul_le_mul h2 h2 (by omega) (by omega)
  omega
theorem six_sq (n : Int) : 6 * n * n = 6 * (n * n) := Int.mul_assoc _ _ _
theorem cells_cases (n : Int) : (goodB n = false ∧ cellsI n = 0) ∨ (goodB n = true ∧ cellsI n = 6 * n * n ∧ 0 ≤ 6 * n * n ∧ 6 * n * n ≤ 6144 ∧ (1 ≤ n ∧ n ≤ 32)) := by
  unfold cellsI
  rcases good_cases n with ⟨e, h⟩ | ⟨e, h1, h2⟩ | ⟨e, h1, h2⟩
  · left; rw [e]; exact ⟨rfl, rfl⟩
  · left; rw [e]; exact ⟨rfl, rfl⟩
  · right
    have := sq_le h1 h2
    rw [e, six_sq]; exact ⟨rfl, rfl, by omega, by omega, h1, h2⟩

def indexI (n a : Int) : Int := min (max ((a + n - 1).tdiv 2) 0) (n - 1)
def cellI (n f i j : Int) : Int := if goodB n = true ∧ 0 ≤ f ∧ f < 6 ∧ 0 ≤ i ∧ i < n ∧ 0 ≤ j ∧ j < n then (f * n + j) * n + i else -1
theorem mul_bd {a b m n : Int} (h1 : 0 ≤ a) (h2 : a ≤ m) (h3 : 0 ≤ b) (h4 : b ≤ n) : 0 ≤ a * b ∧ a * b ≤ m * n :=
  ⟨Int.mul_nonneg h1 h3, Int.mul_le_mul h2 h4 h3 (by omega)⟩
theorem cell_cases (n f i j : Int) : (cellI n f i j = -1 ∧ (goodB n = false ∨ (goodB n = true ∧ f < 0) ∨ (goodB n = true ∧ 0 ≤ f ∧ 6 ≤ f) ∨ (goodB n = true ∧ 0 ≤ f ∧ f < 6 ∧ i < 0) ∨ (goodB n = true ∧ 0 ≤ f ∧ f < 6 ∧ 0 ≤ i ∧ n ≤ i) ∨
      (goodB n = true ∧ 0 ≤ f ∧ f < 6 ∧ 0 ≤ i ∧ i < n ∧ j < 0) ∨ (goodB n = true ∧ 0 ≤ f ∧ f < 6 ∧ 0 ≤ i ∧ i < n ∧ 0 ≤ j ∧ n ≤ j))) ∨
    (cellI n f i j = (f * n + j) * n + i ∧ goodB n = true ∧ 0 ≤ f ∧ f < 6 ∧ 0 ≤ i ∧ i < n ∧ 0 ≤ j ∧ j < n ∧ (0 ≤ f * n ∧ f * n ≤ 160 ∧ 0 ≤ (f * n + j) * n ∧ (f * n + j) * n ≤ 6112 ∧ 1 ≤ n ∧ n ≤ 32)) := by
  unfold cellI
  by_cases h : goodB n = true ∧ 0 ≤ f ∧ f < 6 ∧ 0 ≤ i ∧ i < n ∧ 0 ≤ j ∧ j < n
  · right
    rw [if_pos h]
    obtain ⟨g, h1, h2, h3, h4, h5, h6⟩ := h
    rcases good_cases n with ⟨e, _⟩ | ⟨e, _⟩ | ⟨_, n1, n2⟩
    · rw [e] at g; cases g
    · rw [e] at g; cases g
    have b1 := mul_bd (a := f) (b := n) (m := 5) (n := 32) h1 (by omega) (by omega) n2
    have b2 := mul_bd (a := f * n + j) (b := n) (m := 191) (n := 32) (by omega) (by omega) (by omega) n2
    exact ⟨rfl, g, h1, h2, h3, h4, h5, h6, by omega, by omega, by omega, by omega, n1, n2⟩
  · left
    rw [if_neg h]
    refine ⟨rfl, ?_⟩
    cases g : goodB n
    · left; rfl
    · right
      rw [g] at h
      simp only [true_and] at h ⊢
      omega
def placeI (n c : Int) : Int × Int × Int × Bool := if 0 ≤ c ∧ c < cellsI n then (c / (n * n), c % n, c / n % n, true) else (0, 0, 0, false)
theorem cplace_cases (n c : Int) : (placeI n c = (0, 0, 0, false) ∧ (c < 0 ∨ (0 ≤ c ∧ cellsI n ≤ c))) ∨
    (placeI n c = (c / (n * n), c % n, c / n % n, true) ∧ 0 ≤ c ∧ c < cellsI n ∧ 1 ≤ n ∧ n ≤ 32 ∧ 1 ≤ n * n ∧ n * n ≤ 1024 ∧ c < 6144) := by
  unfold placeI
  by_cases h : 0 ≤ c ∧ c < cellsI n
  · right
    rw [if_pos h]
    rcases cells_cases n with ⟨_, e⟩ | ⟨_, e, h1, h2, h3, h4⟩
    · rw [e] at h; omega
    · exact ⟨rfl, h.1, h.2, h3, h4, (sq_le h3 h4).1, (sq_le h3 h4).2, by omega⟩
  · left; rw [if_neg h]; exact ⟨rfl, by omega⟩
theorem quo_in {c m : Int} (h : 0 ≤ c) (hc : c < 6144) (hm : 1 ≤ m) : c.tdiv m = c / m ∧ 0 ≤ c / m ∧ c / m < 6144 := by
  refine ⟨Int.tdiv_eq_ediv_of_nonneg h, Int.ediv_nonneg h (by omega), ?_⟩
  have := Int.ediv_le_self m h
  omega
theorem place_one {c m : Int} (h : 0 ≤ c) (hc : c < 6144) (hm : 1 ≤ m) : wrap64 (c.tdiv m) = c / m := by
  obtain ⟨e, h1, h2⟩ := quo_in h hc hm
  rw [e]; unfold wrap64; omega
theorem place_mod {c m : Int} (h : 0 ≤ c) (hc : c < 6144) (hm : 1 ≤ m) : (c / m).tmod m = c / m % m := Int.tmod_eq_emod_of_nonneg (quo_in h hc hm).2.1

/-- A frame's way over side s. -/
def OU (s : Nat) (r u : Int) : Int := if s = 0 then r else if s = 1 then u else if s = 2 then -r else -u
theorem OU_in {s : Nat} {r u : Int} (hr : In 1 r) (hu : In 1 u) : In 1 (OU s r u) := by
  obtain ⟨h1, h2⟩ := hr
  obtain ⟨h3, h4⟩ := hu
  unfold OU
  (repeat' split) <;> constructor <;> omega
theorem FR_in : ∀ f < 6, ∀ k < 9, -1 ≤ FR f k ∧ FR f k ≤ 1 := by decide
theorem FR_u {f : Nat} (h : f < 6) {k : Nat} (hk : k + 2 < 9) : U3 (FR f k) (FR f (k + 1)) (FR f (k + 2)) := ⟨FR_in f h k (by omega), FR_in f h (k + 1) (by omega), FR_in f h (k + 2) hk⟩
/-- The way over side s of face f: its number k. -/
def WO (f s k : Nat) : Int := OU s (FR f (3 + k)) (FR f (6 + k))
theorem WO_u {f : Nat} (h : f < 6) (s : Nat) : U3 (WO f s 0) (WO f s 1) (WO f s 2) :=
  ⟨OU_in (FR_in f h 3 (by omega)) (FR_in f h 6 (by omega)), OU_in (FR_in f h 4 (by omega)) (FR_in f h 7 (by omega)), OU_in (FR_in f h 5 (by omega)) (FR_in f h 8 (by omega))⟩
theorem FR_inj : ∀ k < 6, ∀ f < 6, FR k 0 = FR f 0 → FR k 1 = FR f 1 → FR k 2 = FR f 2 → k = f := by decide
theorem below_drewN {B : Nat} {a w : World} (h : Below B a w) (n : Nat) : Below B a (w.drewN n) := ⟨h.os, h.tape, h.output, h.size, h.block⟩
/-- The middle of a cell: its number k. -/
def MI (n : Int) (f : Nat) (i j : Int) (k : Nat) : Int := n * FR f k + (2 * i + 1 - n) * FR f (3 + k) + (2 * j + 1 - n) * FR f (6 + k)
theorem In.add {n i a b : Int} (h1 : 1 ≤ n) (h2 : n ≤ 32) (h3 : -33 ≤ i) (h4 : i ≤ 33) (ha : In 1 a) (hb : In 1 b) : In 4000 (n * a + (2 * i + 1 - n) * b) := by
  have x : In 1000 n := ⟨by omega, by omega⟩
  have y : In 1000 (2 * i + 1 - n) := ⟨by omega, by omega⟩
  obtain ⟨p1, p2⟩ := x.mul ha (by omega)
  obtain ⟨p3, p4⟩ := y.mul hb (by omega)
  exact ⟨by omega, by omega⟩
theorem I3.add {n i a b c x y z : Int} (h1 : 1 ≤ n) (h2 : n ≤ 32) (h3 : -33 ≤ i) (h4 : i ≤ 33) (ha : U3 a b c) (hb : U3 x y z) : I3 4000 (n * a + (2 * i + 1 - n) * x) (n * b + (2 * i + 1 - n) * y) (n * c + (2 * i + 1 - n) * z) :=
  ⟨In.add h1 h2 h3 h4 ha.x hb.x, In.add h1 h2 h3 h4 ha.y hb.y, In.add h1 h2 h3 h4 ha.z hb.z⟩
/-- The face over side s of face f, and its side that lies there. -/
def nbT : List (List (Nat × Nat)) := [[(1, 0), (4, 1), (3, 2), (5, 3)], [(2, 0), (4, 2), (0, 2), (5, 2)], [(3, 0), (4, 3), (1, 2), (5, 1)], [(0, 0), (4, 0), (2, 2), (5, 0)], [(1, 3), (2, 3), (3, 3), (0, 3)], [(1, 1), (0, 1), (3, 1), (2, 1)]]
def nbF (f s : Nat) : Nat := ((nbT.getD f []).getD s (0, 0)).1
/-- .. the way on over there. -/
def nbS (f s : Nat) : Nat := ((nbT.getD f []).getD s (0, 0)).2
/-- .. the side that lies there. -/
def nbB (f s : Nat) : Nat := (nbS f s + 2) % 4
theorem nb_fact : ∀ f < 6, ∀ s < 4, nbF f s < 6 ∧ nbS f s < 4 ∧ nbB f s < 4 ∧ OU s (FR f 3) (FR f 6) = FR (nbF f s) 0 ∧ OU s (FR f 4) (FR f 7) = FR (nbF f s) 1 ∧ OU s (FR f 5) (FR f 8) = FR (nbF f s) 2 ∧
    OU (nbB f s) (FR (nbF f s) 3) (FR (nbF f s) 6) = FR f 0 ∧ OU (nbB f s) (FR (nbF f s) 4) (FR (nbF f s) 7) = FR f 1 ∧ OU (nbB f s) (FR (nbF f s) 5) (FR (nbF f s) 8) = FR f 2 := by decide
theorem nb_only : ∀ f < 6, ∀ s < 4, ∀ k < 4, (OU k (FR (nbF f s) 3) (FR (nbF f s) 6) = FR f 0 ∧ OU k (FR (nbF f s) 4) (FR (nbF f s) 7) = FR f 1 ∧ OU k (FR (nbF f s) 5) (FR (nbF f s) 8) = FR f 2) → k = nbB f s := by decide
def DX (s : Nat) : Int := if s = 0 then 1 else if s = 2 then -1 else 0
def DY (s : Nat) : Int := if s = 1 then 1 else if s = 3 then -1 else 0
/-- The middle of the stretch over side s: its number k. -/
def PI (n : Int) (f s : Nat) (i j : Int) (k : Nat) : Int := MI n f i j k + OU s (FR f (3 + k)) (FR f (6 + k))
/-- Seen from face g: along its i (k = 3), its j (k = 6). -/
def SI (n : Int) (f s : Nat) (i j : Int) (g k : Nat) : Int := PI n f s i j 0 * FR g k + PI n f s i j 1 * FR g (k + 1) + PI n f s i j 2 * FR g (k + 2)
theorem MI_in {n i j : Int} {f : Nat} (hf : f < 6) (h1 : 1 ≤ n) (h2 : n ≤ 32) (h3 : -33 ≤ i) (h4 : i ≤ 33) (h5 : -33 ≤ j) (h6 : j ≤ 33) (k : Nat) (hk : k < 3) : In 1000 (MI n f i j k) := by
  have x : In 300 n := ⟨by omega, by omega⟩
  have y : In 300 (2 * i + 1 - n) := ⟨by omega, by omega⟩
  have z : In 300 (2 * j + 1 - n) := ⟨by omega, by omega⟩
  obtain ⟨p1, p2⟩ := x.mul (FR_in f hf k (by omega)) (by omega)
  obtain ⟨p3, p4⟩ := y.mul (FR_in f hf (3 + k) (by omega)) (by omega)
  obtain ⟨p5, p6⟩ := z.mul (FR_in f hf (6 + k) (by omega)) (by omega)
  unfold MI
  exact ⟨by omega, by omega⟩
theorem PI_in {n i j : Int} {f s : Nat} (hf : f < 6) (h1 : 1 ≤ n) (h2 : n ≤ 32) (h3 : -33 ≤ i) (h4 : i ≤ 33) (h5 : -33 ≤ j) (h6 : j ≤ 33) (k : Nat) (hk : k < 3) : In 1001 (PI n f s i j k) := by
  obtain ⟨a, b⟩ := MI_in hf h1 h2 h3 h4 h5 h6 k hk
  obtain ⟨c, d⟩ := OU_in (s := s) (FR_in f hf (3 + k) (by omega)) (FR_in f hf (6 + k) (by omega))
  unfold PI
  exact ⟨by omega, by omega⟩
theorem SI_in {n i j : Int} {f s g k : Nat} (hf : f < 6) (hg : g < 6) (hk : k + 2 < 9) (h1 : 1 ≤ n) (h2 : n ≤ 32) (h3 : -33 ≤ i) (h4 : i ≤ 33) (h5 : -33 ≤ j) (h6 : j ≤ 33) : In 20000 (SI n f s i j g k) := by
  obtain ⟨p1, p2⟩ := (PI_in (s := s) hf h1 h2 h3 h4 h5 h6 0 (by omega)).mul (FR_in g hg k (by omega)) (by omega)
  obtain ⟨p3, p4⟩ := (PI_in (s := s) hf h1 h2 h3 h4 h5 h6 1 (by omega)).mul (FR_in g hg (k + 1) (by omega)) (by omega)
  obtain ⟨p5, p6⟩ := (PI_in (s := s) hf h1 h2 h3 h4 h5 h6 2 (by omega)).mul (FR_in g hg (k + 2) (by omega)) (by omega)
  unfold SI
  exact ⟨by omega, by omega⟩
end TF
/- Arrays held against one another: '==' of arrays of numbers, and of arrays of such. -/
namespace TF
open Go Go.RowKit
section
variable {P : Program} (w : World)

theorem eqItems_of (d : Nat) {e : TypeId} {c : Nat} (xs ys : Array Value) (r : Nat → Bool) : ∀ is : List Nat,
    (∀ i ∈ is, ∃ a b, (part e xs (i * c)).run P w = .ok a w ∧ (part e ys (i * c)).run P w = .ok b w ∧ (Op.equalIn d e a b).run P w = .ok (r i) w) → (Op.eqItems d e c xs ys is).run P w = .ok (is.all r) w
  | [], _ => by simp [Op.eqItems]
  | i :: is, h => by
    obtain ⟨a, b, p1, p2, p3⟩ := h i (by simp)
    have ih := eqItems_of d xs ys r is (fun j hj => h j (by simp [hj]))
    simp only [Op.eqItems, Sem.run_bind, p1, p2, p3, Result.andThen_ok, List.all_cons]
    cases r i
    · simp
    · simpa using ih
theorem run_equalIn_arr (d : Nat) {t e : TypeId} {n : Nat} (xs ys : Array Value) (r : Nat → Bool) {i : TypeInfo} (hu : P.underlying t = some (.array n e)) (hi : P.info? e = some i)
    (h : ∀ i < n, ∃ a b, (part e xs (i * P.cellsOf e)).run P w = .ok a w ∧ (part e ys (i * P.cellsOf e)).run P w = .ok b w ∧ (Op.equalIn d e a b).run P w = .ok (r i) w) :
    (Op.equalIn (d + 1) t (.agg xs) (.agg ys)).run P w = .ok ((List.range n).all r) w := by
  rw [run_equalIn_array w d xs ys hu hi]
  exact eqItems_of w d xs ys r _ (fun i hi => h i (List.mem_range.1 hi))
theorem run_equalIn_ints (d : Nat) {t e : TypeId} {n : Nat} {k : IntKind} (xs ys : Array Value) (a b : Nat → Int) (hu : P.underlying t = some (.array n e)) (he : P.underlying e = some (.int k)) (hc : P.cellsOf e = 1)
    (hx : ∀ i < n, xs[i]? = some (.int k (a i))) (hy : ∀ i < n, ys[i]? = some (.int k (b i))) :
    (Op.equalIn (d + 2) t (.agg xs) (.agg ys)).run P w = .ok ((List.range n).all fun i => a i == b i) w := by
  obtain ⟨i, hi⟩ := info_of_underlying he
  have hp : P.plainKey e = true := by simp [Program.plainKey, he]
  refine run_equalIn_arr w (d + 1) xs ys _ hu hi fun j hj => ?_
  rw [hc, Nat.mul_one]
  exact ⟨_, _, run_part_plain w hp (hx j hj), run_part_plain w hp (hy j hj), run_equalIn_int w d e k k _ _ he⟩
theorem run_eql_ints {t e : TypeId} {n : Nat} {k : IntKind} (xs ys : Array Value) (a b : Nat → Int) (hu : P.underlying t = some (.array n e)) (he : P.underlying e = some (.int k)) (hc : P.cellsOf e = 1)
    (hx : ∀ i < n, xs[i]? = some (.int k (a i))) (hy : ∀ i < n, ys[i]? = some (.int k (b i))) :
    (binOp .eql t (.agg xs) (.agg ys)).run P w = .ok (.bool ((List.range n).all fun i => a i == b i)) w := by
  rw [run_eql_struct, run_equalIn_ints w 9998 xs ys a b hu he hc hx hy]; rfl

/-- Three numbers held against three. -/
def eq3 (a b c x y z : Int) : Bool := decide (a = x ∧ b = y ∧ c = z)
theorem eq3_true {a b c x y z : Int} (h1 : a = x) (h2 : b = y) (h3 : c = z) : eq3 a b c x y z = true := by simp [eq3, h1, h2, h3]
theorem eq3_false {a b c x y z : Int} (h : ¬ (a = x ∧ b = y ∧ c = z)) : eq3 a b c x y z = false := by simpa [eq3] using h
theorem equalIn_three (d : Nat) {t e : TypeId} (a b c x y z : Int) (hu : P.underlying t = some (.array 3 e)) (he : P.underlying e = some (.int .i64)) (hc : P.cellsOf e = 1) :
    (Op.equalIn (d + 2) t (.agg #[.int .i64 a, .int .i64 b, .int .i64 c]) (.agg #[.int .i64 x, .int .i64 y, .int .i64 z])).run P w = .ok (eq3 a b c x y z) w := by
  rw [run_equalIn_ints w d _ _ (fun i => if i = 0 then a else if i = 1 then b else c) (fun i => if i = 0 then x else if i = 1 then y else z) hu he hc
    (fun i hi => by match i, hi with | 0, _ => rfl | 1, _ => rfl | 2, _ => rfl) (fun i hi => by match i, hi with | 0, _ => rfl | 1, _ => rfl | 2, _ => rfl)]
  congr 1
  rw [Bool.eq_iff_iff]
  simp [eq3, List.range_succ]
theorem run_eql_three {t e : TypeId} (a b c x y z : Int) (hu : P.underlying t = some (.array 3 e)) (he : P.underlying e = some (.int .i64)) (hc : P.cellsOf e = 1) :
    (binOp .eql t (.agg #[.int .i64 a, .int .i64 b, .int .i64 c]) (.agg #[.int .i64 x, .int .i64 y, .int .i64 z])).run P w = .ok (.bool (eq3 a b c x y z)) w := by
  rw [run_eql_struct, equalIn_three w 9998 a b c x y z hu he hc]; rfl
theorem run_eql_nine {t e f : TypeId} (a b c d g h i j k a' b' c' d' g' h' i' j' k' : Int) (hu : P.underlying t = some (.array 3 e)) (he : P.underlying e = some (.array 3 f)) (hf : P.underlying f = some (.int .i64)) (hc : P.cellsOf f = 1) (hc3 : P.cellsOf e = 3) :
    (binOp .eql t (.agg #[.int .i64 a, .int .i64 b, .int .i64 c, .int .i64 d, .int .i64 g, .int .i64 h, .int .i64 i, .int .i64 j, .int .i64 k]) (.agg #[.int .i64 a', .int .i64 b', .int .i64 c', .int .i64 d', .int .i64 g', .int .i64 h', .int .i64 i', .int .i64 j', .int .i64 k'])).run P w
      = .ok (.bool (eq3 a b c a' b' c' && (eq3 d g h d' g' h' && eq3 i j k i' j' k'))) w := by
  obtain ⟨inf, hi⟩ := info_of_underlying he
  have hag : (isAgg e).run P w = .ok true w := by simp [isAgg, run_underlying he]
  have hpart : ∀ (xs : Array Value) (off : Nat), (part e xs off).run P w = .ok (.agg (xs.extract off (off + 3))) w := by
    intro xs off
    simp only [part, Sem.run_bind, hag, Result.andThen_ok, if_true, run_sizeOf w hi, hc3, Sem.run_pure]
  rw [run_eql_struct, run_equalIn_arr w 9999 _ _ (fun m => if m = 0 then eq3 a b c a' b' c' else if m = 1 then eq3 d g h d' g' h' else eq3 i j k i' j' k') hu hi ?_]
  · show Result.ok _ _ = _
    congr 2
    simp [List.range_succ]
  · intro m hm
    rw [hc3]
    match m, hm with
    | 0, _ => exact ⟨_, _, hpart _ _, hpart _ _, equalIn_three w 9997 a b c a' b' c' he hf hc⟩
    | 1, _ => exact ⟨_, _, hpart _ _, hpart _ _, equalIn_three w 9997 d g h d' g' h' he hf hc⟩
    | 2, _ => exact ⟨_, _, hpart _ _, hpart _ _, equalIn_three w 9997 i j k i' j' k' he hf hc⟩
end
end TF
/- A face's point before it is brought to length 1. -/
namespace TF

/-- what one part puts into an axis -/
def stF (e : Int) (part old : Nat) : Nat := if e = 1 then canonW part else if e = -1 then canonW (op part) else old
theorem st_one (part old : Nat) : stF 1 part old = canonW part := rfl
theorem st_neg (part old : Nat) : stF (-1) part old = canonW (op part) := rfl
theorem st_nil (part old : Nat) : stF 0 part old = old := rfl
def u1 (f a : Nat) : Nat := stF (FR f a) 4607182418800017408 0
def u2 (f p a : Nat) : Nat := stF (FR f (3 + a)) p (u1 f a)
def xv (f p q a : Nat) : Nat := stF (FR f (6 + a)) q (u2 f p a)
theorem FR_three {f k : Nat} (hf : f < 6) (hk : k < 9) : FR f k = 1 ∨ FR f k = -1 ∨ FR f k = 0 := by
  have := FR_in f hf k hk
  omega
theorem op_fw {a : Nat} (h : Fw a) : Fw (op a) := ⟨h.lt.op, by rw [mg_op h.lt]; exact h.fin⟩
theorem stF_fw {e : Int} {part old : Nat} (h1 : Fw part) (h2 : Fw old) : Fw (stF e part old) := by
  unfold stF
  split
  · exact canon_fw h1
  · split
    · exact canon_fw (op_fw h1)
    · exact h2
theorem xv_fw {f p q : Nat} (hp : Fw p) (hq : Fw q) (a : Nat) : Fw (xv f p q a) := by
  refine stF_fw hq (stF_fw hp (stF_fw ⟨by show _ < 2 ^ 64; omega, by decide⟩ ⟨by show 0 < 2 ^ 64; omega, by decide⟩))
end TF
/- Ratios of small whole numbers; a face's point is made of them. -/
namespace TF
open Ieee Go

/-- k / n, as it is reckoned. -/
def rt (k n : Int) : Nat := fdiv (floatOfInt .f64 k) (floatOfInt .f64 n)
/-- k / n of numbers that are not below nought. -/
def R (k n : Nat) : Nat := rt k n
/-- k / n in its one form. -/
def RT (n k : Int) : Nat := canonW (rt k n)
def ONE : Nat := 4607182418800017408
theorem ONE_eq : ONE = 4607182418800017408 := rfl
theorem V_ONE : V ONE = Q := V_one

theorem fi_fw {k : Int} (h : k.natAbs ≤ 32) : Fw (floatOfInt .f64 k) ∧ V (mg (floatOfInt .f64 k)) = k.natAbs * Q ∧ ng (floatOfInt .f64 k) = decide (k < 0) := by
  obtain ⟨a, b, c, d, -⟩ := fi_small (n := k) (by omega)
  exact ⟨⟨a, b⟩, c, d⟩
structure RtIs (k : Int) (n r : Nat) : Prop where
  run : floatBits .quo .f64 (floatOfInt .f64 k) (floatOfInt .f64 n) = some (rt k n)
  eq : rt k n = wd (decide (k < 0)) r
  near : Near (k.natAbs * Q) n r
  le : r ≤ ONE
theorem rt_ex {n : Nat} {k : Int} (h1 : 1 ≤ n) (h2 : n ≤ 32) (hk : k.natAbs ≤ n) : ∃ r, RtIs k n r := by
  have hI := INF_num
  have hQ := Q_pos
  obtain ⟨fk, vk, gk⟩ := fi_fw (k := k) (by omega)
  obtain ⟨fn, vn, gn⟩ := fi_fw (k := (n : Int)) (by omega)
  have gn' : ng (floatOfInt .f64 (n : Int)) = false := by rw [gn]; exact decide_eq_false (by omega)
  have hw := word_split fn.lt
  rw [gn'] at hw
  have hm : floatOfInt .f64 (n : Int) = mg (floatOfInt .f64 (n : Int)) := hw
  have pn : PW (floatOfInt .f64 (n : Int)) := PW.of (by rw [hm]; exact Nat.le_of_lt fn.fin)
  have hv : V (floatOfInt .f64 (n : Int)) = n * Q := by rw [hm, vn]; rfl
  have hp : 0 < floatOfInt .f64 (n : Int) := Nat.pos_of_ne_zero fun e => by
    rw [e, V_zero] at hv
    have := Nat.mul_pos (show 0 < n by omega) hQ
    omega
  have h9 : floatOfInt .f64 (n : Int) < 9218868437227405312 := by have := fn.fin; omega
  obtain ⟨r, hr, -, he, hN⟩ := div_some fk pn hp h9
  rw [vk, hv] at hN
  have hN' : Near (k.natAbs * Q) n r := hN.ratio (Nat.mul_pos (by omega) hQ) (by omega) (by
    rw [Nat.mul_assoc (k.natAbs * Q), Nat.mul_comm Q n])
  have hle : r ≤ ONE := hN'.le_of (by omega) (by omega) (near_self (r := ONE) (q := n) (by omega)) (by
    rw [V_ONE]
    exact Nat.mul_le_mul_right _ (Nat.mul_le_mul_right _ hk))
  refine ⟨r, hr, ?_, hN', hle⟩
  have : min r INF = r := Nat.min_eq_left (by unfold ONE at hle; omega)
  rw [gk, this] at he
  exact he
theorem rt_is {n : Nat} {k : Int} (h1 : 1 ≤ n) (h2 : n ≤ 32) (hk : k.natAbs ≤ n) : RtIs k n (R k.natAbs n) := by
  obtain ⟨r, hr⟩ := rt_ex h1 h2 hk
  obtain ⟨s, hs⟩ := rt_ex (n := n) (k := (k.natAbs : Int)) h1 h2 (by omega)
  have e : R k.natAbs n = s := by
    unfold R
    rw [hs.eq, decide_eq_false (by omega)]; rfl
  have hn := hs.near
  rw [Int.natAbs_natCast] at hn
  rw [e, ← hr.near.unique (by omega) hn]
  exact hr
theorem R_le {n k : Nat} (h1 : 1 ≤ n) (h2 : n ≤ 32) (hk : k ≤ n) : R k n ≤ ONE := (rt_is (k := (k : Int)) h1 h2 (by omega)).le
theorem R_near {n k : Nat} (h1 : 1 ≤ n) (h2 : n ≤ 32) (hk : k ≤ n) : Near (k * Q) n (R k n) := (rt_is (k := (k : Int)) h1 h2 (by omega)).near
theorem R_self {n : Nat} (h1 : 1 ≤ n) (h2 : n ≤ 32) : R n n = ONE :=
  (R_near h1 h2 (Nat.le_refl _)).unique (by omega) (by rw [← V_ONE]; exact near_self (by omega))
theorem R_zero {n : Nat} (h1 : 1 ≤ n) (h2 : n ≤ 32) : R 0 n = 0 :=
  (R_near h1 h2 (Nat.zero_le _)).unique (by omega) (by
    have := near_self (r := 0) (q := n) (by omega)
    rw [V_zero, Nat.mul_zero] at this
    rw [Nat.zero_mul]; exact this)
/-- 2^-5: no ratio above nought is below it. -/
theorem R_ge {n k : Nat} (h1 : 1 ≤ n) (h2 : n ≤ 32) (hk : k ≤ n) (h0 : 1 ≤ k) : 4584664420663164928 ≤ R k n := by
  obtain ⟨D, hD⟩ : ∃ D : Nat, D = 1017 := ⟨_, rfl⟩
  have hT : T = 1074 := rfl
  have hv := V_pow_down (c := 4584664420663164928) (D := D) (e := 5) (by omega) (by omega)
  refine (near_self (r := 4584664420663164928) (q := 1) (by omega)).le_of (by omega) (by omega) (R_near h1 h2 hk) ?_
  rw [Nat.one_mul, Nat.mul_one, ← hv]
  have a : V 4584664420663164928 * n ≤ V 4584664420663164928 * 32 := Nat.mul_le_mul_left _ h2
  have b : 1 * (2 ^ 5 * V 4584664420663164928) ≤ k * (2 ^ 5 * V 4584664420663164928) := Nat.mul_le_mul_right _ h0
  omega

theorem op_small {r : Nat} (h : r < 2 ^ 63) : op r = wd true r := by
  unfold op
  rw [show ng r = false from (ng_false_iff (by omega)).2 h]
  show r + 2 ^ 63 = 2 ^ 63 + r
  omega
theorem canon_word {s : Bool} {r : Nat} (h : r ≤ ONE) : canonW (wd s r) = if r = 0 then 0 else wd s r := by
  have hI := INF_lt
  have hN : isN (wd s r) = false := isN_false.2 (by rw [mg_wd (by unfold ONE at h; omega)]; have := INF_num; unfold ONE at h; omega)
  unfold canonW
  rw [hN, mg_wd (by unfold ONE at h; omega)]
  rfl
theorem RT_is {n : Nat} {k : Int} (h1 : 1 ≤ n) (h2 : n ≤ 32) (hk : k.natAbs ≤ n) : RT n k = if R k.natAbs n = 0 then 0 else wd (decide (k < 0)) (R k.natAbs n) := by
  unfold RT
  rw [(rt_is h1 h2 hk).eq]
  exact canon_word (R_le h1 h2 hk)
theorem RT_neg {n : Nat} {k : Int} (h1 : 1 ≤ n) (h2 : n ≤ 32) (hk : k.natAbs ≤ n) : canonW (op (rt k n)) = RT n (-k) := by
  have hR := R_le h1 h2 (k := k.natAbs) hk
  have hI := INF_lt
  rw [RT_is h1 h2 (by omega), Int.natAbs_neg, (rt_is h1 h2 hk).eq]
  have e : op (wd (decide (k < 0)) (R k.natAbs n)) = wd (!decide (k < 0)) (R k.natAbs n) := by
    generalize R k.natAbs n = r at hR
    cases decide (k < 0)
    · show op r = wd true r
      exact op_small (by unfold ONE at hR; omega)
    · show op (wd true r) = r
      rw [← op_small (by unfold ONE at hR; omega), op_op (by unfold ONE at hR; omega)]
  rw [e, canon_word hR]
  by_cases h0 : R k.natAbs n = 0
  · rw [if_pos h0, if_pos h0]
  · rw [if_neg h0, if_neg h0]
    have hk0 : k ≠ 0 := fun e => h0 (by rw [e]; exact R_zero h1 h2)
    congr 1
    by_cases h : k < 0
    · rw [decide_eq_true h, decide_eq_false (by omega)]; rfl
    · rw [decide_eq_false h, decide_eq_true (by omega)]; rfl
theorem RT_one {n : Nat} (h1 : 1 ≤ n) (h2 : n ≤ 32) : RT n n = ONE ∧ RT n (-n) = op ONE := by
  have hs := R_self h1 h2
  constructor
  · rw [RT_is h1 h2 (by omega), Int.natAbs_natCast, hs, decide_eq_false (by omega)]; rfl
  · rw [RT_is h1 h2 (by omega), Int.natAbs_neg, Int.natAbs_natCast, hs, decide_eq_true (by omega)]; rfl
theorem canon_one : canonW ONE = ONE ∧ canonW (op ONE) = op ONE := by decide
theorem rt_fw {n : Nat} {k : Int} (h1 : 1 ≤ n) (h2 : n ≤ 32) (hk : k.natAbs ≤ n) : Fw (rt k n) := by
  have hR := R_le h1 h2 (k := k.natAbs) hk
  rw [(rt_is h1 h2 hk).eq]
  exact wd_fw _ (by have := INF_num; unfold ONE at hR; omega)
theorem RT_fw {n : Nat} {k : Int} (h1 : 1 ≤ n) (h2 : n ≤ 32) (hk : k.natAbs ≤ n) : Fw (RT n k) := canon_fw (rt_fw h1 h2 hk)

/-- A place on a cube's face, in whole numbers: n out, k and l along. -/
def PT (n : Int) (f : Nat) (k l : Int) (a : Nat) : Int := n * FR f a + k * FR f (3 + a) + l * FR f (6 + a)
def hot (x y z : Int) : Bool := (x == 1 && y == 0 && z == 0) || (x == -1 && y == 0 && z == 0) || (x == 0 && y == 1 && z == 0) || (x == 0 && y == -1 && z == 0) || (x == 0 && y == 0 && z == 1) || (x == 0 && y == 0 && z == -1)
theorem FR_hot : ∀ f < 6, ∀ a < 3, hot (FR f a) (FR f (3 + a)) (FR f (6 + a)) = true := by decide
theorem FR_one : ∀ f < 6, ∀ a < 3, (FR f a = 1 ∧ FR f (3 + a) = 0 ∧ FR f (6 + a) = 0) ∨ (FR f a = -1 ∧ FR f (3 + a) = 0 ∧ FR f (6 + a) = 0) ∨ (FR f a = 0 ∧ FR f (3 + a) = 1 ∧ FR f (6 + a) = 0) ∨ (FR f a = 0 ∧ FR f (3 + a) = -1 ∧ FR f (6 + a) = 0) ∨
    (FR f a = 0 ∧ FR f (3 + a) = 0 ∧ FR f (6 + a) = 1) ∨ (FR f a = 0 ∧ FR f (3 + a) = 0 ∧ FR f (6 + a) = -1) := by
  intro f hf a ha
  have h := FR_hot f hf a ha
  unfold hot at h
  simp only [Bool.or_eq_true, Bool.and_eq_true, beq_iff_eq] at h
  rcases h with ((((⟨⟨a, b⟩, c⟩ | ⟨⟨a, b⟩, c⟩) | ⟨⟨a, b⟩, c⟩) | ⟨⟨a, b⟩, c⟩) | ⟨⟨a, b⟩, c⟩) | ⟨⟨a, b⟩, c⟩
  · exact .inl ⟨a, b, c⟩
  · exact .inr (.inl ⟨a, b, c⟩)
  · exact .inr (.inr (.inl ⟨a, b, c⟩))
  · exact .inr (.inr (.inr (.inl ⟨a, b, c⟩)))
  · exact .inr (.inr (.inr (.inr (.inl ⟨a, b, c⟩))))
  · exact .inr (.inr (.inr (.inr (.inr ⟨a, b, c⟩))))
theorem xv_is {n f a : Nat} {k l : Int} (h1 : 1 ≤ n) (h2 : n ≤ 32) (hf : f < 6) (ha : a < 3) (hk : k.natAbs ≤ n) (hl : l.natAbs ≤ n) : xv f (rt k n) (rt l n) a = RT n (PT n f k l a) := by
  obtain ⟨o1, o2⟩ := RT_one h1 h2
  have n1 := RT_neg h1 h2 hk
  have n2 := RT_neg h1 h2 hl
  unfold xv u2 u1 PT
  rcases FR_one f hf a ha with ⟨e1, e2, e3⟩ | ⟨e1, e2, e3⟩ | ⟨e1, e2, e3⟩ | ⟨e1, e2, e3⟩ | ⟨e1, e2, e3⟩ | ⟨e1, e2, e3⟩
  all_goals
    rw [e1, e2, e3]
    simp only [Int.mul_zero, Int.mul_one, Int.add_zero, Int.zero_add, Int.mul_neg]
  · rw [o1, st_nil, st_nil, st_one, ← ONE_eq]; exact canon_one.1
  · rw [o2, st_nil, st_nil, st_neg, ← ONE_eq]; exact canon_one.2
  · rw [st_nil, st_one]; rfl
  · rw [st_nil, st_neg]; exact n1
  · rw [st_one]; rfl
  · rw [st_neg]; exact n2
end TF
/- The points of a net brought to the sphere. -/
namespace TF
open Ieee Go

/-- 2^-60, 2^60, 2^-65 as words. -/
def CLO : Nat := 4336966441157787648
def CHI : Nat := 4877398396442247168
def CB : Nat := 4314448443020935168
theorem CLO_eq : CLO = 4336966441157787648 := rfl
theorem CHI_eq : CHI = 4877398396442247168 := rfl
theorem CB_eq : CB = 4314448443020935168 := rfl
/-- A place on the cube's skin. -/
structure Sf (n : Nat) (x y z : Int) : Prop where
  n1 : 1 ≤ n
  n2 : n ≤ 32
  hx : x.natAbs ≤ n
  hy : y.natAbs ≤ n
  hz : z.natAbs ≤ n
  top : x.natAbs = n ∨ y.natAbs = n ∨ z.natAbs = n
theorem mg_RT {n : Nat} {k : Int} (h1 : 1 ≤ n) (h2 : n ≤ 32) (hk : k.natAbs ≤ n) : mg (RT n k) = R k.natAbs n := by
  have hR := R_le h1 h2 hk
  have hI := INF_lt
  rw [RT_is h1 h2 hk]
  split
  · rename_i h; rw [h]; decide
  · exact mg_wd (by unfold ONE at hR; omega)
theorem sq_small {w : Nat} (h : Fw w) (hm : mg w ≤ ONE) : fmul w w ≤ ONE ∧ (mg w = ONE → fmul w w = ONE) := by
  have hI := INF_num
  have hQ := Q_pos
  have h3 := (mul_some h h).2.2
  rw [Bool.xor_self] at h3
  have hv := V_le hm
  rw [V_ONE] at hv
  have hle : rnd2 (V (mg w) * V (mg w)) ≤ ONE := (near_rnd2 _).le_of hQ hQ (near_self (r := ONE) (q := Q) hQ) (by
    rw [V_ONE]
    exact Nat.mul_le_mul_right _ (Nat.mul_le_mul hv hv))
  have h4 : min (rnd2 (V (mg w) * V (mg w))) INF = rnd2 (V (mg w) * V (mg w)) := Nat.min_eq_left (by unfold ONE at hle; omega)
  rw [h4] at h3
  have h5 : fmul w w = rnd2 (V (mg w) * V (mg w)) := h3
  rw [h5]
  refine ⟨hle, fun e => ?_⟩
  rw [e, V_ONE]
  have h6 := near_self (r := ONE) (q := Q) hQ
  rw [V_ONE] at h6
  exact (near_rnd2 _).unique hQ h6

/-- The length of a place's vector. -/
def LN (n : Nat) (x y z : Int) : Nat := vlen (RT n x) (RT n y) (RT n z)
theorem LN_mid {n : Nat} {x y z : Int} (h : Sf n x y z) : CLO ≤ LN n x y z ∧ LN n x y z ≤ CHI := by
  have fx := RT_fw h.n1 h.n2 h.hx
  have fy := RT_fw h.n1 h.n2 h.hy
  have fz := RT_fw h.n1 h.n2 h.hz
  have mx := mg_RT h.n1 h.n2 h.hx
  have my := mg_RT h.n1 h.n2 h.hy
  have mz := mg_RT h.n1 h.n2 h.hz
  obtain ⟨ax, bx⟩ := sq_small fx (by rw [mx]; exact R_le h.n1 h.n2 h.hx)
  obtain ⟨ay, by_⟩ := sq_small fy (by rw [my]; exact R_le h.n1 h.n2 h.hy)
  obtain ⟨az, bz⟩ := sq_small fz (by rw [mz]; exact R_le h.n1 h.n2 h.hz)
  have hs := R_self h.n1 h.n2
  have hg := s3_ge (sq_some fx.nw).2 (sq_some fy.nw).2 (sq_some fz.nw).2
  refine sqrt_mid ?_ (s3_le ax ay az)
  rw [← ONE_eq]
  rcases h.top with e | e | e
  · have := bx (by rw [mx, e]; exact hs)
    exact Nat.le_trans (Nat.le_of_eq this.symm) hg.1
  · have := by_ (by rw [my, e]; exact hs)
    exact Nat.le_trans (Nat.le_of_eq this.symm) hg.2.1
  · have := bz (by rw [mz, e]; exact hs)
    exact Nat.le_trans (Nat.le_of_eq this.symm) hg.2.2

/-- One part of a point: a ratio over the length. -/
structure QIs (n : Nat) (k : Int) (L r : Nat) : Prop where
  near : Near (V (R k.natAbs n) * Q) (V L) r
  eq : cq (RT n k) L = if r = 0 then 0 else wd (decide (k < 0)) r
  hi : r ≤ CHI
  lo : k ≠ 0 → CB ≤ r
theorem q_is {n : Nat} {k : Int} {L : Nat} (h1 : 1 ≤ n) (h2 : n ≤ 32) (hk : k.natAbs ≤ n) (l1 : CLO ≤ L) (l2 : L ≤ CHI) : ∃ r, QIs n k L r := by
  have hI := INF_num
  have hQ := Q_pos
  have hR := R_le h1 h2 hk
  have e1 := CLO_eq
  have e2 := CHI_eq
  have e3 := CB_eq
  have pL : PW L := ⟨by omega⟩
  obtain ⟨r, -, -, he, hN⟩ := div_some (RT_fw h1 h2 hk) pL (by omega) (by omega)
  rw [mg_RT h1 h2 hk] at hN
  have hVL : 0 < V L := Nat.pos_of_ne_zero fun e => by have := V_eq_zero.1 e; omega
  obtain ⟨D, hD⟩ : ∃ D : Nat, D = 962 := ⟨_, rfl⟩
  obtain ⟨U, hU⟩ : ∃ U : Nat, U = 1082 := ⟨_, rfl⟩
  obtain ⟨B, hB⟩ : ∃ B : Nat, B = 957 := ⟨_, rfl⟩
  obtain ⟨A, hA⟩ : ∃ A : Nat, A = 1017 := ⟨_, rfl⟩
  have hT : T = 1074 := rfl
  have v1 := V_pow (D := D) (c := CLO) (by omega)
  have v2 := V_pow (D := U) (c := CHI) (by omega)
  have v3 := V_pow (D := B) (c := CB) (by omega)
  have v4 := V_pow (D := A) (c := 4584664420663164928) (by omega)
  have hhi : r ≤ CHI := hN.le_of hVL (by omega) (near_self (r := CHI) (q := 1) (by omega)) (by
    rw [v2, Nat.mul_one, Nat.one_mul]
    have a : V (R k.natAbs n) ≤ Q := by have := V_le hR; rwa [V_ONE] at this
    have b := V_le l1
    rw [v1] at b
    calc V (R k.natAbs n) * Q ≤ Q * Q := Nat.mul_le_mul_right _ a
      _ = 2 ^ 52 * 2 ^ U * (2 ^ 52 * 2 ^ D) := by unfold Q; rw [← Nat.pow_add, ← Nat.pow_add, ← Nat.pow_add, ← Nat.pow_add]; exact congrArg (2 ^ ·) (by omega)
      _ ≤ 2 ^ 52 * 2 ^ U * V L := Nat.mul_le_mul_left _ b)
  refine ⟨r, hN, ?_, hhi, fun h0 => ?_⟩
  · have hm : min r INF = r := Nat.min_eq_left (by omega)
    rw [hm] at he
    unfold cq
    rw [he]
    have hc : canonW (wd (ng (RT n k)) r) = if r = 0 then 0 else wd (ng (RT n k)) r := by
      have hNn : isN (wd (ng (RT n k)) r) = false := isN_false.2 (by rw [mg_wd (by omega)]; omega)
      unfold canonW
      rw [hNn, mg_wd (by omega)]
      simp only [Bool.false_eq_true, if_false]
    rw [hc]
    by_cases hr : r = 0
    · rw [if_pos hr, if_pos hr]
    · rw [if_neg hr, if_neg hr]
      refine congrArg (fun s => wd s r) ?_
      rw [RT_is h1 h2 hk]
      have hR0 : R k.natAbs n ≠ 0 := fun e => hr (by
        rw [e, V_zero, Nat.zero_mul] at hN
        have := near_self (r := 0) (q := V L) hVL
        rw [V_zero, Nat.mul_zero] at this
        exact hN.unique hVL this)
      rw [if_neg hR0]
      exact ng_wd (by unfold ONE at hR; omega)
  · refine (near_self (r := CB) (q := 1) (by omega)).le_of (by omega) hVL hN ?_
    rw [v3, Nat.mul_one, Nat.one_mul]
    have a := V_le (R_ge h1 h2 hk (by omega))
    rw [v4] at a
    have b := V_le l2
    rw [v2] at b
    calc 2 ^ 52 * 2 ^ B * V L ≤ 2 ^ 52 * 2 ^ B * (2 ^ 52 * 2 ^ U) := Nat.mul_le_mul_left _ b
      _ = 2 ^ 52 * 2 ^ A * Q := by unfold Q; rw [← Nat.pow_add, ← Nat.pow_add, ← Nat.pow_add, ← Nat.pow_add, ← Nat.pow_add]; exact congrArg (2 ^ ·) (by omega)
      _ ≤ V (R k.natAbs n) * Q := Nat.mul_le_mul_right _ a
theorem QIs.fw {n : Nat} {k : Int} {L r : Nat} (h : QIs n k L r) : Fw (cq (RT n k) L) := by
  have hI := INF_num
  have := h.hi
  have e2 := CHI_eq
  rw [h.eq]
  split
  · exact ⟨by show 0 < 2 ^ 64; omega, by decide⟩
  · exact wd_fw _ (by omega)
/-- A place's point on the sphere, axis by axis. -/
def VX (n : Nat) (x y z : Int) : Nat := cq (RT n x) (LN n x y z)
def VY (n : Nat) (x y z : Int) : Nat := cq (RT n y) (LN n x y z)
def VZ (n : Nat) (x y z : Int) : Nat := cq (RT n z) (LN n x y z)
theorem v_fw {n : Nat} {x y z : Int} (h : Sf n x y z) : Fw (VX n x y z) ∧ Fw (VY n x y z) ∧ Fw (VZ n x y z) := by
  obtain ⟨l1, l2⟩ := LN_mid h
  obtain ⟨_, a⟩ := q_is h.n1 h.n2 h.hx l1 l2
  obtain ⟨_, b⟩ := q_is h.n1 h.n2 h.hy l1 l2
  obtain ⟨_, c⟩ := q_is h.n1 h.n2 h.hz l1 l2
  exact ⟨a.fw, b.fw, c.fw⟩
end TF
/- The cube's turns as plain functions. -/
namespace TF
open Go Go.RowKit

def axT : List (List Int) := [[1, 0, 0, 0, 1, 0, 0, 0, 1], [1, 0, 0, 0, -1, 0, 0, 0, -1], [1, 0, 0, 0, 0, 1, 0, -1, 0], [1, 0, 0, 0, 0, -1, 0, 1, 0], [0, 1, 0, 1, 0, 0, 0, 0, -1], [0, 1, 0, -1, 0, 0, 0, 0, 1], [0, 1, 0, 0, 0, 1, 1, 0, 0], [0, 1, 0, 0, 0, -1, -1, 0, 0], [-1, 0, 0, 0, 1, 0, 0, 0, -1], [-1, 0, 0, 0, -1, 0, 0, 0, 1], [-1, 0, 0, 0, 0, 1, 0, 1, 0], [-1, 0, 0, 0, 0, -1, 0, -1, 0], [0, -1, 0, 1, 0, 0, 0, 0, 1], [0, -1, 0, -1, 0, 0, 0, 0, -1], [0, -1, 0, 0, 0, 1, -1, 0, 0], [0, -1, 0, 0, 0, -1, 1, 0, 0], [0, 0, 1, 1, 0, 0, 0, 1, 0], [0, 0, 1, 0, 1, 0, -1, 0, 0], [0, 0, 1, -1, 0, 0, 0, -1, 0], [0, 0, 1, 0, -1, 0, 1, 0, 0], [0, 0, -1, 1, 0, 0, 0, -1, 0], [0, 0, -1, 0, 1, 0, 1, 0, 0], [0, 0, -1, -1, 0, 0, 0, 1, 0], [0, 0, -1, 0, -1, 0, -1, 0, 0]]
/-- Number k of the nine numbers of turn t's axes. -/
def AX (t k : Nat) : Int := (axT.getD t []).getD k 0
def axFT : List Nat := [1, 3, 4, 5, 0, 2, 4, 5, 1, 3, 4, 5, 0, 2, 4, 5, 0, 1, 2, 3, 0, 1, 2, 3]
/-- The face whose middle is the second axis. -/
def axF (t : Nat) : Nat := axFT.getD t 0
def tFT : List (List Nat) := [[0, 1, 2, 3, 4, 5], [0, 3, 2, 1, 5, 4], [0, 4, 2, 5, 3, 1], [0, 5, 2, 4, 1, 3], [1, 0, 3, 2, 5, 4], [1, 2, 3, 0, 4, 5], [1, 4, 3, 5, 0, 2], [1, 5, 3, 4, 2, 0], [2, 1, 0, 3, 5, 4], [2, 3, 0, 1, 4, 5], [2, 4, 0, 5, 1, 3], [2, 5, 0, 4, 3, 1], [3, 0, 1, 2, 4, 5], [3, 2, 1, 0, 5, 4], [3, 4, 1, 5, 2, 0], [3, 5, 1, 4, 0, 2], [4, 0, 5, 2, 1, 3], [4, 1, 5, 3, 2, 0], [4, 2, 5, 0, 3, 1], [4, 3, 5, 1, 0, 2], [5, 0, 4, 2, 3, 1], [5, 1, 4, 3, 0, 2], [5, 2, 4, 0, 1, 3], [5, 3, 4, 1, 2, 0]]
def tQT : List (List Nat) := [[0, 0, 0, 0, 0, 0], [2, 2, 2, 2, 2, 2], [1, 1, 3, 1, 1, 1], [3, 3, 1, 3, 3, 3], [2, 2, 2, 2, 1, 3], [0, 0, 0, 0, 1, 3], [1, 2, 3, 0, 1, 1], [3, 2, 1, 0, 3, 3], [2, 2, 2, 2, 0, 0], [0, 0, 0, 0, 2, 2], [1, 3, 3, 3, 1, 1], [3, 1, 1, 1, 3, 3], [0, 0, 0, 0, 3, 1], [2, 2, 2, 2, 3, 1], [1, 0, 3, 2, 1, 1], [3, 0, 1, 2, 3, 3], [3, 3, 3, 1, 2, 0], [0, 3, 2, 1, 2, 0], [1, 3, 1, 1, 2, 0], [2, 3, 0, 1, 2, 0], [1, 1, 1, 3, 0, 2], [0, 1, 2, 3, 0, 2], [3, 1, 3, 3, 0, 2], [2, 1, 0, 3, 0, 2]]
/-- Where turn t takes face f, and by how many sides. -/
def tF (t f : Nat) : Nat := (tFT.getD t []).getD f 0
def tQ (t f : Nat) : Nat := (tQT.getD t []).getD f 0
def afT : List (List Nat) := [[0, 1, 2, 3, 4, 5, 6, 7, 8, 9, 10, 11, 12, 13, 14, 15, 16, 17, 18, 19, 20, 21, 22, 23], [1, 0, 3, 2, 12, 13, 15, 14, 9, 8, 11, 10, 4, 5, 7, 6, 20, 23, 22, 21, 16, 19, 18, 17], [2, 3, 1, 0, 16, 18, 19, 17, 10, 11, 9, 8, 20, 22, 23, 21, 12, 14, 13, 15, 4, 6, 5, 7], [3, 2, 0, 1, 20, 22, 21, 23, 11, 10, 8, 9, 16, 18, 17, 19, 4, 7, 5, 6, 12, 15, 13, 14], [4, 5, 7, 6, 0, 1, 3, 2, 12, 13, 15, 14, 8, 9, 11, 10, 21, 20, 23, 22, 17, 16, 19, 18], [5, 4, 6, 7, 8, 9, 10, 11, 13, 12, 14, 15, 0, 1, 2, 3, 17, 18, 19, 16, 21, 22, 23, 20], [6, 7, 4, 5, 17, 19, 16, 18, 14, 15, 12, 13, 21, 23, 20, 22, 0, 2, 1, 3, 8, 10, 9, 11], [7, 6, 5, 4, 21, 23, 22, 20, 15, 14, 13, 12, 17, 19, 18, 16, 8, 11, 9, 10, 0, 3, 1, 2], [8, 9, 11, 10, 5, 4, 7, 6, 0, 1, 3, 2, 13, 12, 15, 14, 22, 21, 20, 23, 18, 17, 16, 19], [9, 8, 10, 11, 13, 12, 14, 15, 1, 0, 2, 3, 5, 4, 6, 7, 18, 19, 16, 17, 22, 23, 20, 21], [10, 11, 8, 9, 18, 16, 17, 19, 2, 3, 0, 1, 22, 20, 21, 23, 5, 6, 4, 7, 13, 14, 12, 15], [11, 10, 9, 8, 22, 20, 23, 21, 3, 2, 1, 0, 18, 16, 19, 17, 13, 15, 12, 14, 5, 7, 4, 6], [12, 13, 14, 15, 1, 0, 2, 3, 4, 5, 6, 7, 9, 8, 10, 11, 19, 16, 17, 18, 23, 20, 21, 22], [13, 12, 15, 14, 9, 8, 11, 10, 5, 4, 7, 6, 1, 0, 3, 2, 23, 22, 21, 20, 19, 18, 17, 16], [14, 15, 13, 12, 19, 17, 18, 16, 6, 7, 5, 4, 23, 21, 22, 20, 9, 10, 8, 11, 1, 2, 0, 3], [15, 14, 12, 13, 23, 21, 20, 22, 7, 6, 4, 5, 19, 17, 16, 18, 1, 3, 0, 2, 9, 11, 8, 10], [16, 18, 17, 19, 2, 3, 0, 1, 20, 22, 21, 23, 10, 11, 8, 9, 6, 4, 7, 5, 14, 12, 15, 13], [17, 19, 18, 16, 6, 7, 5, 4, 21, 23, 22, 20, 14, 15, 13, 12, 10, 8, 11, 9, 2, 0, 3, 1], [18, 16, 19, 17, 10, 11, 9, 8, 22, 20, 23, 21, 2, 3, 1, 0, 14, 13, 15, 12, 6, 5, 7, 4], [19, 17, 16, 18, 14, 15, 12, 13, 23, 21, 20, 22, 6, 7, 4, 5, 2, 1, 3, 0, 10, 9, 11, 8], [20, 22, 23, 21, 3, 2, 1, 0, 16, 18, 19, 17, 11, 10, 9, 8, 15, 12, 14, 13, 7, 4, 6, 5], [21, 23, 20, 22, 7, 6, 4, 5, 17, 19, 16, 18, 15, 14, 12, 13, 3, 0, 2, 1, 11, 8, 10, 9], [22, 20, 21, 23, 11, 10, 8, 9, 18, 16, 17, 19, 3, 2, 0, 1, 7, 5, 6, 4, 15, 13, 14, 12], [23, 21, 22, 20, 15, 14, 13, 12, 19, 17, 18, 16, 7, 6, 5, 4, 11, 9, 10, 8, 3, 1, 2, 0]]
/-- Turn u behind turn t. -/
def afF (u t : Nat) : Nat := (afT.getD u []).getD t 0
theorem AX_in : ∀ t < 24, ∀ k < 9, -1 ≤ AX t k ∧ AX t k ≤ 1 := by decide
theorem AX_u {t : Nat} (h : t < 24) {k : Nat} (hk : k + 2 < 9) : U3 (AX t k) (AX t (k + 1)) (AX t (k + 2)) := ⟨AX_in t h k (by omega), AX_in t h (k + 1) (by omega), AX_in t h (k + 2) hk⟩
/-- Faces' middles, one by the other. -/
def DF (a f : Nat) : Int := FR a 0 * FR f 0 + FR a 1 * FR f 1 + FR a 2 * FR f 2
def cntA (a : Nat) : Nat → Nat
  | 0 => 0
  | k + 1 => cntA a k + if DF a k = 0 then 1 else 0
theorem ax_fact : ∀ t < 24, axF t < 6 ∧ DF (t / 4) (axF t) = 0 ∧ cntA (t / 4) (axF t) = t % 4 := by decide
theorem ax_before : ∀ t < 24, ∀ k < axF t, DF (t / 4) k = 0 → cntA (t / 4) k < t % 4 := by decide
theorem ax_le : ∀ t < 24, ∀ k < 7, k ≤ axF t → cntA (t / 4) k ≤ t % 4 := by decide
theorem ax_x : ∀ t < 24, AX t 0 = FR (t / 4) 0 ∧ AX t 1 = FR (t / 4) 1 ∧ AX t 2 = FR (t / 4) 2 ∧ AX t 3 = FR (axF t) 0 ∧ AX t 4 = FR (axF t) 1 ∧ AX t 5 = FR (axF t) 2 ∧
    AX t 6 = FR (t / 4) 1 * FR (axF t) 2 - FR (t / 4) 2 * FR (axF t) 1 ∧ AX t 7 = FR (t / 4) 2 * FR (axF t) 0 - FR (t / 4) 0 * FR (axF t) 2 ∧ AX t 8 = FR (t / 4) 0 * FR (axF t) 1 - FR (t / 4) 1 * FR (axF t) 0 := by decide
/-- A way turned: its number k. -/
def TV (t : Nat) (x y z : Int) (k : Nat) : Int := x * AX t k + y * AX t (3 + k) + z * AX t (6 + k)
theorem turn_face : ∀ t < 24, ∀ f < 6, tF t f < 6 ∧ tQ t f < 4 ∧ TV t (FR f 0) (FR f 1) (FR f 2) 0 = FR (tF t f) 0 ∧ TV t (FR f 0) (FR f 1) (FR f 2) 1 = FR (tF t f) 1 ∧ TV t (FR f 0) (FR f 1) (FR f 2) 2 = FR (tF t f) 2 := by decide
theorem turn_east : ∀ t < 24, ∀ f < 6, OU (tQ t f) (FR (tF t f) 3) (FR (tF t f) 6) = TV t (FR f 3) (FR f 4) (FR f 5) 0 ∧ OU (tQ t f) (FR (tF t f) 4) (FR (tF t f) 7) = TV t (FR f 3) (FR f 4) (FR f 5) 1 ∧ OU (tQ t f) (FR (tF t f) 5) (FR (tF t f) 8) = TV t (FR f 3) (FR f 4) (FR f 5) 2 := by decide
theorem turn_only : ∀ t < 24, ∀ f < 6, ∀ k < 4, (OU k (FR (tF t f) 3) (FR (tF t f) 6) = TV t (FR f 3) (FR f 4) (FR f 5) 0 ∧ OU k (FR (tF t f) 4) (FR (tF t f) 7) = TV t (FR f 3) (FR f 4) (FR f 5) 1 ∧ OU k (FR (tF t f) 5) (FR (tF t f) 8) = TV t (FR f 3) (FR f 4) (FR f 5) 2) → k = tQ t f := by decide
theorem af_fact : ∀ u < 24, ∀ t < 24, afF u t < 24 ∧ (∀ m < 3, ∀ k < 3, AX (afF u t) (3 * m + k) = TV u (AX t (3 * m)) (AX t (3 * m + 1)) (AX t (3 * m + 2)) k) := by decide
theorem ax_inj : ∀ s < 24, ∀ t < 24, (∀ k < 9, AX s k = AX t k) → s = t := by decide
end TF
/- The cube's cells by face, way, lane and place on the way: what lies beside, what a turn makes of it. -/
namespace TF
open Go Go.RowKit

theorem index_eq (n a : Int) : indexI n a = min (max ((a + n - 1) / 2) 0) (n - 1) := by
  unfold indexI
  by_cases h : a + n - 1 < 0
  · have h1 : (a + n - 1).tdiv 2 ≤ 0 := by
      have := Int.neg_tdiv (-(a + n - 1)) 2
      rw [Int.neg_neg] at this
      have h2 : 0 ≤ (-(a + n - 1)).tdiv 2 := Int.tdiv_nonneg (by omega) (by omega)
      omega
    omega
  · rw [Int.tdiv_eq_ediv_of_nonneg (by omega)]
def cellN (n : Int) (f : Nat) (i j : Int) : Int := (f * n + j) * n + i
/-- A cell on its face. -/
structure On (n : Int) (f : Nat) (i j : Int) : Prop where
  n1 : 1 ≤ n
  n32 : n ≤ 32
  f6 : f < 6
  i0 : 0 ≤ i
  i1 : i < n
  j0 : 0 ≤ j
  j1 : j < n
theorem good_of {n : Int} (h1 : 1 ≤ n) (h2 : n ≤ 32) : goodB n = true := by simp [goodB, h1, h2]
theorem On.cell {n : Int} {f : Nat} {i j : Int} (h : On n f i j) : cellI n f i j = cellN n f i j := by
  unfold cellI cellN
  rw [if_pos ⟨good_of h.n1 h.n32, by omega, by have := h.f6; omega, h.i0, h.i1, h.j0, h.j1⟩]
theorem On.bound {n : Int} {f : Nat} {i j : Int} (h : On n f i j) : 0 ≤ cellN n f i j ∧ cellN n f i j < 6 * n * n := by
  have h1 := h.n1; have h2 := h.f6; have h3 := h.i0; have h4 := h.i1; have h5 := h.j0; have h6 := h.j1
  unfold cellN
  have hf : (0 : Int) ≤ f * n := Int.mul_nonneg (by omega) (by omega)
  have hf5 : (f : Int) * n ≤ 5 * n := Int.mul_le_mul_of_nonneg_right (by omega) (by omega)
  have ha : (0 : Int) ≤ (f * n + j) * n := Int.mul_nonneg (by omega) (by omega)
  have hb : ((f : Int) * n + j) * n ≤ (6 * n - 1) * n := Int.mul_le_mul_of_nonneg_right (by omega) (by omega)
  have e : (6 * n - 1) * n = 6 * n * n - n := by rw [Int.sub_mul, Int.one_mul]
  omega
theorem On.place {n : Int} {f : Nat} {i j : Int} (h : On n f i j) : placeI n (cellN n f i j) = ((f : Int), i, j, true) := by
  have hb := h.bound
  have h1 := h.n1; have h2 := h.f6; have h3 := h.i0; have h4 := h.i1; have h5 := h.j0; have h6 := h.j1
  have hg := good_of h.n1 h.n32
  have ec : cellsI n = 6 * n * n := by unfold cellsI; rw [hg]; rfl
  unfold placeI
  rw [if_pos ⟨hb.1, by rw [ec]; exact hb.2⟩]
  have e1 : cellN n f i j % n = i := by unfold cellN; rw [Int.mul_comm, Int.mul_add_emod_self_left]; exact Int.emod_eq_of_lt h3 h4
  have e2 : cellN n f i j / n = f * n + j := by
    unfold cellN
    rw [Int.mul_comm (_ + j) n, Int.mul_add_ediv_left _ _ (by omega), Int.ediv_eq_zero_of_lt h3 h4, Int.add_zero]
  have e3 : cellN n f i j / n % n = j := by rw [e2, Int.mul_comm, Int.mul_add_emod_self_left]; exact Int.emod_eq_of_lt h5 h6
  have e4 : cellN n f i j / (n * n) = f := by
    rw [← Int.ediv_ediv_of_nonneg (by omega), e2, Int.mul_comm, Int.mul_add_ediv_left _ _ (by omega), Int.ediv_eq_zero_of_lt h5 h6, Int.add_zero]
  rw [e1, e3, e4]
/-- Each number of a cell is one on a face. -/
theorem on_of {n c : Int} (h1 : 1 ≤ n) (h2 : n ≤ 32) (h3 : 0 ≤ c) (h4 : c < 6 * n * n) : ∃ f i j, On n f i j ∧ c = cellN n f i j := by
  have hn : 0 < n := by omega
  have d1 := Int.mul_ediv_add_emod c n
  have d2 := Int.mul_ediv_add_emod (c / n) n
  have m1 := Int.emod_nonneg c (show n ≠ 0 by omega)
  have m2 := Int.emod_lt_of_pos c hn
  have m3 := Int.emod_nonneg (c / n) (show n ≠ 0 by omega)
  have m4 := Int.emod_lt_of_pos (c / n) hn
  have q0 : 0 ≤ c / n / n := Int.ediv_nonneg (Int.ediv_nonneg h3 (by omega)) (by omega)
  have q1 : c / n / n < 6 := by
    have a : c / n < 6 * n := Int.ediv_lt_of_lt_mul hn h4
    exact Int.ediv_lt_of_lt_mul hn a
  refine ⟨(c / n / n).toNat, c % n, c / n % n, ⟨h1, h2, by omega, m1, m2, m3, m4⟩, ?_⟩
  unfold cellN
  rw [Int.toNat_of_nonneg q0]
  have e : c / n / n * n + c / n % n = c / n := by rw [Int.mul_comm]; exact d2
  rw [e, Int.mul_comm]; exact d1.symm
theorem cellN_inj {n : Int} {f g : Nat} {i j k l : Int} (h : On n f i j) (h' : On n g k l) (e : cellN n f i j = cellN n g k l) : f = g ∧ i = k ∧ j = l := by
  have a := h.place
  rw [e, h'.place] at a
  simp only [Prod.mk.injEq] at a
  omega

/-- On the way over side s: how far, in which lane; back from these. -/
def offI (n : Int) (s : Nat) (i j : Int) : Int := if s = 0 then i else if s = 1 then j else if s = 2 then n - 1 - i else n - 1 - j
def laneI (n : Int) (s : Nat) (i j : Int) : Int := if s = 0 then j else if s = 1 then n - 1 - i else if s = 2 then n - 1 - j else i
def posX (n : Int) (s : Nat) (l o : Int) : Int := if s = 0 then o else if s = 1 then n - 1 - l else if s = 2 then n - 1 - o else l
def posY (n : Int) (s : Nat) (l o : Int) : Int := if s = 0 then l else if s = 1 then o else if s = 2 then n - 1 - l else n - 1 - o
theorem four {s : Nat} (hs : s < 4) : s = 0 ∨ s = 1 ∨ s = 2 ∨ s = 3 := by omega
theorem six {f : Nat} (hf : f < 6) : f = 0 ∨ f = 1 ∨ f = 2 ∨ f = 3 ∨ f = 4 ∨ f = 5 := by omega
/-- The four ways, written out. -/
theorem ways {s : Nat} (hs : s < 4) : (s = 0 ∧ (∀ n l o, posX n s l o = o ∧ posY n s l o = l) ∧ (∀ n i j, offI n s i j = i ∧ laneI n s i j = j) ∧ DX s = 1 ∧ DY s = 0) ∨
    (s = 1 ∧ (∀ n l o, posX n s l o = n - 1 - l ∧ posY n s l o = o) ∧ (∀ n i j, offI n s i j = j ∧ laneI n s i j = n - 1 - i) ∧ DX s = 0 ∧ DY s = 1) ∨
    (s = 2 ∧ (∀ n l o, posX n s l o = n - 1 - o ∧ posY n s l o = n - 1 - l) ∧ (∀ n i j, offI n s i j = n - 1 - i ∧ laneI n s i j = n - 1 - j) ∧ DX s = -1 ∧ DY s = 0) ∨
    (s = 3 ∧ (∀ n l o, posX n s l o = l ∧ posY n s l o = n - 1 - o) ∧ (∀ n i j, offI n s i j = n - 1 - j ∧ laneI n s i j = i) ∧ DX s = 0 ∧ DY s = -1) := by
  rcases four hs with rfl | rfl | rfl | rfl
  · left; exact ⟨rfl, fun _ _ _ => ⟨rfl, rfl⟩, fun _ _ _ => ⟨rfl, rfl⟩, rfl, rfl⟩
  · right; left; exact ⟨rfl, fun _ _ _ => ⟨rfl, rfl⟩, fun _ _ _ => ⟨rfl, rfl⟩, rfl, rfl⟩
  · right; right; left; exact ⟨rfl, fun _ _ _ => ⟨rfl, rfl⟩, fun _ _ _ => ⟨rfl, rfl⟩, rfl, rfl⟩
  · right; right; right; exact ⟨rfl, fun _ _ _ => ⟨rfl, rfl⟩, fun _ _ _ => ⟨rfl, rfl⟩, rfl, rfl⟩
theorem pos_off {n : Int} {s : Nat} (hs : s < 4) (i j : Int) : posX n s (laneI n s i j) (offI n s i j) = i ∧ posY n s (laneI n s i j) (offI n s i j) = j := by
  rcases ways hs with ⟨_, p, q, _⟩ | ⟨_, p, q, _⟩ | ⟨_, p, q, _⟩ | ⟨_, p, q, _⟩ <;> (rw [(p _ _ _).1, (p _ _ _).2, (q n i j).1, (q n i j).2]; omega)
theorem off_pos {n : Int} {s : Nat} (hs : s < 4) (l o : Int) : offI n s (posX n s l o) (posY n s l o) = o ∧ laneI n s (posX n s l o) (posY n s l o) = l := by
  rcases ways hs with ⟨_, p, q, _⟩ | ⟨_, p, q, _⟩ | ⟨_, p, q, _⟩ | ⟨_, p, q, _⟩ <;> (rw [(q _ _ _).1, (q _ _ _).2, (p n l o).1, (p n l o).2]; omega)
theorem on_pos {n : Int} {f s : Nat} {l o : Int} (hs : s < 4) (hf : f < 6) (h1 : 1 ≤ n) (h2 : n ≤ 32) (l0 : 0 ≤ l) (l1 : l < n) (o0 : 0 ≤ o) (o1 : o < n) : On n f (posX n s l o) (posY n s l o) := by
  rcases ways hs with ⟨_, p, _⟩ | ⟨_, p, _⟩ | ⟨_, p, _⟩ | ⟨_, p, _⟩ <;> (have e := p n l o; exact ⟨h1, h2, hf, by omega, by omega, by omega, by omega⟩)
theorem On.off {n : Int} {f s : Nat} {i j : Int} (h : On n f i j) (hs : s < 4) : 0 ≤ offI n s i j ∧ offI n s i j < n ∧ 0 ≤ laneI n s i j ∧ laneI n s i j < n := by
  have h1 := h.n1; have h3 := h.i0; have h4 := h.i1; have h5 := h.j0; have h6 := h.j1
  rcases ways hs with ⟨_, _, q, _⟩ | ⟨_, _, q, _⟩ | ⟨_, _, q, _⟩ | ⟨_, _, q, _⟩ <;> (have e := q n i j; omega)
/-- One step within the face. -/
theorem step_near {n : Int} {f s : Nat} {i j : Int} (h : On n f i j) (hs : s < 4) (ho : offI n s i j < n - 1) : i + DX s = posX n s (laneI n s i j) (offI n s i j + 1) ∧ j + DY s = posY n s (laneI n s i j) (offI n s i j + 1) ∧ On n f (i + DX s) (j + DY s) := by
  have h1 := h.n1; have h2 := h.n32; have h3 := h.i0; have h4 := h.i1; have h5 := h.j0; have h6 := h.j1; have h7 := h.f6
  rcases ways hs with ⟨_, p, q, x, y⟩ | ⟨_, p, q, x, y⟩ | ⟨_, p, q, x, y⟩ | ⟨_, p, q, x, y⟩ <;>
    (have e := p n (laneI n s i j) (offI n s i j + 1); have d := q n i j; exact ⟨by omega, by omega, ⟨h1, h2, h7, by omega, by omega, by omega, by omega⟩⟩)
/-- .. out of it. -/
theorem step_out {n : Int} {f s : Nat} {i j : Int} (h : On n f i j) (hs : s < 4) (ho : offI n s i j = n - 1) : cellI n f (i + DX s) (j + DY s) = -1 := by
  have h1 := h.n1; have h3 := h.i0; have h4 := h.i1; have h5 := h.j0; have h6 := h.j1
  unfold cellI
  rw [if_neg]
  rintro ⟨-, -, -, a, b, c, d⟩
  rcases ways hs with ⟨_, _, q, x, y⟩ | ⟨_, _, q, x, y⟩ | ⟨_, _, q, x, y⟩ | ⟨_, _, q, x, y⟩ <;> (have e := q n i j; omega)
/-- .. to where. -/
theorem far_eval {n : Int} {f s : Nat} {i j : Int} (h : On n f i j) (hs : s < 4) (ho : offI n s i j = n - 1) :
    indexI n (SI n f s i j (nbF f s) 3) = posX n (nbS f s) (laneI n s i j) 0 ∧ indexI n (SI n f s i j (nbF f s) 6) = posY n (nbS f s) (laneI n s i j) 0 := by
  have h1 := h.n1; have h3 := h.i0; have h4 := h.i1; have h5 := h.j0; have h6 := h.j1
  rw [index_eq, index_eq]
  rcases six h.f6 with rfl | rfl | rfl | rfl | rfl | rfl <;> rcases four hs with rfl | rfl | rfl | rfl <;>
    (simp [SI, PI, MI, OU, FR, frT, nbF, nbS, nbT, posX, posY, laneI, offI] at ho ⊢; omega)
end TF
/- A turned cell. -/
namespace TF
open Go Go.RowKit
def TV' (t : Nat) (x y z : Int) (k : Nat) : Int := TV t x y z k
/-- The turned middle seen from the face on which it lies. -/
def RJ (n : Int) (t f : Nat) (i j : Int) (g k : Nat) : Int :=
  TV t (MI n f i j 0) (MI n f i j 1) (MI n f i j 2) 0 * FR g k + TV t (MI n f i j 0) (MI n f i j 1) (MI n f i j 2) 1 * FR g (k + 1) + TV t (MI n f i j 0) (MI n f i j 1) (MI n f i j 2) 2 * FR g (k + 2)
def cB (t f g k m : Nat) : Int := TV t (FR f m) (FR f (m + 1)) (FR f (m + 2)) 0 * FR g k + TV t (FR f m) (FR f (m + 1)) (FR f (m + 2)) 1 * FR g (k + 1) + TV t (FR f m) (FR f (m + 1)) (FR f (m + 2)) 2 * FR g (k + 2)
theorem RJ_lin (n : Int) (t f : Nat) (i j : Int) (g k : Nat) : RJ n t f i j g k = n * cB t f g k 0 + (2 * i + 1 - n) * cB t f g k 3 + (2 * j + 1 - n) * cB t f g k 6 := by
  unfold RJ cB TV MI
  generalize 2 * i + 1 - n = a
  generalize 2 * j + 1 - n = b
  simp only [Nat.reduceAdd, Nat.add_zero]
  grind
/-- The cosine and the sine of q quarters. -/
def cosQ (q : Nat) : Int := if q = 0 then 1 else if q = 2 then -1 else 0
def sinQ (q : Nat) : Int := if q = 1 then 1 else if q = 3 then -1 else 0
theorem cB_30 : ∀ t < 24, ∀ f < 6, cB t f (tF t f) 3 0 = 0 ∧ cB t f (tF t f) 6 0 = 0 := by decide
theorem cB_33 : ∀ t < 24, ∀ f < 6, cB t f (tF t f) 3 3 = cosQ (tQ t f) ∧ cB t f (tF t f) 3 6 = -sinQ (tQ t f) := by decide
theorem cB_63 : ∀ t < 24, ∀ f < 6, cB t f (tF t f) 6 3 = sinQ (tQ t f) ∧ cB t f (tF t f) 6 6 = cosQ (tQ t f) := by decide
theorem turn_eval {n : Int} {f t : Nat} {i j : Int} (h : On n f i j) (ht : t < 24) : indexI n (RJ n t f i j (tF t f) 3) = posX n (tQ t f) j i ∧ indexI n (RJ n t f i j (tF t f) 6) = posY n (tQ t f) j i := by
  have h1 := h.n1; have h3 := h.i0; have h4 := h.i1; have h5 := h.j0; have h6 := h.j1
  obtain ⟨z1, z2⟩ := cB_30 t ht f h.f6
  obtain ⟨a, b⟩ := cB_33 t ht f h.f6
  obtain ⟨c, d⟩ := cB_63 t ht f h.f6
  have hq4 : tQ t f < 4 := (turn_face t ht f h.f6).2.1
  rw [index_eq, index_eq, RJ_lin, RJ_lin, z1, z2, a, b, c, d]
  generalize tQ t f = q at hq4
  have w := ways (s := q) hq4
  rcases four hq4 with rfl | rfl | rfl | rfl
  · have e1 : cosQ 0 = 1 := rfl
    have e2 : sinQ 0 = 0 := rfl
    rw [e1, e2]
    rcases w with ⟨e', p, _⟩ | ⟨e', p, _⟩ | ⟨e', p, _⟩ | ⟨e', p, _⟩ <;> (have q := p n j i; omega)
  · have e1 : cosQ 1 = 0 := rfl
    have e2 : sinQ 1 = 1 := rfl
    rw [e1, e2]
    rcases w with ⟨e', p, _⟩ | ⟨e', p, _⟩ | ⟨e', p, _⟩ | ⟨e', p, _⟩ <;> (have q := p n j i; omega)
  · have e1 : cosQ 2 = -1 := rfl
    have e2 : sinQ 2 = 0 := rfl
    rw [e1, e2]
    rcases w with ⟨e', p, _⟩ | ⟨e', p, _⟩ | ⟨e', p, _⟩ | ⟨e', p, _⟩ <;> (have q := p n j i; omega)
  · have e1 : cosQ 3 = 0 := rfl
    have e2 : sinQ 3 = -1 := rfl
    rw [e1, e2]
    rcases w with ⟨e', p, _⟩ | ⟨e', p, _⟩ | ⟨e', p, _⟩ | ⟨e', p, _⟩ <;> (have q := p n j i; omega)
/-- .. in the words of a way: lane and place stay. -/
theorem turn_way {n : Int} {s q : Nat} (hs : s < 4) (hq : q < 4) (i j : Int) : posX n q j i = posX n ((s + q) % 4) (laneI n s i j) (offI n s i j) ∧ posY n q j i = posY n ((s + q) % 4) (laneI n s i j) (offI n s i j) := by
  have hm : (s + q) % 4 < 4 := by omega
  have w := ways hm
  rcases ways hs with ⟨e, _, u, _⟩ | ⟨e, _, u, _⟩ | ⟨e, _, u, _⟩ | ⟨e, _, u, _⟩ <;> rcases ways hq with ⟨e', v, _⟩ | ⟨e', v, _⟩ | ⟨e', v, _⟩ | ⟨e', v, _⟩ <;>
    (have u1 := u n i j; have v1 := v n j i
     rcases w with ⟨e'', x, _⟩ | ⟨e'', x, _⟩ | ⟨e'', x, _⟩ | ⟨e'', x, _⟩ <;> first | omega | (have x1 := x n (laneI n s i j) (offI n s i j); omega))

/-! ### Beside and Turn, in one -/
/-- What lies over side s: the face, i, j, the side that lies there. -/
def bF (n : Int) (f s : Nat) (i j : Int) : Nat := if offI n s i j = n - 1 then nbF f s else f
def bX (n : Int) (f s : Nat) (i j : Int) : Int := if offI n s i j = n - 1 then posX n (nbS f s) (laneI n s i j) 0 else i + DX s
def bY (n : Int) (f s : Nat) (i j : Int) : Int := if offI n s i j = n - 1 then posY n (nbS f s) (laneI n s i j) 0 else j + DY s
def bS (n : Int) (f s : Nat) (i j : Int) : Nat := if offI n s i j = n - 1 then nbB f s else (s + 2) % 4
/-- The way on over there. -/
def bW (n : Int) (f s : Nat) (i j : Int) : Nat := if offI n s i j = n - 1 then nbS f s else s
theorem b_on {n : Int} {f s : Nat} {i j : Int} (h : On n f i j) (hs : s < 4) : On n (bF n f s i j) (bX n f s i j) (bY n f s i j) ∧ bW n f s i j < 4 ∧ bS n f s i j = (bW n f s i j + 2) % 4 ∧
    laneI n (bW n f s i j) (bX n f s i j) (bY n f s i j) = laneI n s i j ∧ offI n (bW n f s i j) (bX n f s i j) (bY n f s i j) = (if offI n s i j = n - 1 then 0 else offI n s i j + 1) := by
  have h1 := h.n1
  obtain ⟨o0, o1, l0, l1⟩ := h.off hs
  obtain ⟨g1, g2, -⟩ := nb_fact f h.f6 s hs
  unfold bF bX bY bS bW
  by_cases ho : offI n s i j = n - 1
  · simp only [ho, if_true]
    refine ⟨on_pos g2 g1 h.n1 h.n32 l0 l1 (by omega) (by omega), g2, ?_, (off_pos g2 _ _).2, (off_pos g2 _ _).1⟩
    first | trivial | rfl
  · simp only [ho, if_false]
    obtain ⟨e1, e2, e3⟩ := step_near h hs (by omega)
    refine ⟨e3, hs, by first | trivial | rfl, ?_, ?_⟩
    · rw [e1, e2]; exact (off_pos hs _ _).2
    · rw [e1, e2]; exact (off_pos hs _ _).1
/-- Where a turn takes it: face, i, j. -/
def uX (n : Int) (t f : Nat) (i j : Int) : Int := posX n (tQ t f) j i
def uY (n : Int) (t f : Nat) (i j : Int) : Int := posY n (tQ t f) j i
theorem u_on {n : Int} {f t : Nat} {i j : Int} (h : On n f i j) (ht : t < 24) : On n (tF t f) (uX n t f i j) (uY n t f i j) := by
  obtain ⟨g1, g2, -⟩ := turn_face t ht f h.f6
  exact on_pos g2 g1 h.n1 h.n32 h.j0 h.j1 h.i0 h.i1
theorem u_way {n : Int} {f t s : Nat} {i j : Int} (h : On n f i j) (ht : t < 24) (hs : s < 4) : offI n ((s + tQ t f) % 4) (uX n t f i j) (uY n t f i j) = offI n s i j ∧ laneI n ((s + tQ t f) % 4) (uX n t f i j) (uY n t f i j) = laneI n s i j := by
  obtain ⟨g1, g2, -⟩ := turn_face t ht f h.f6
  obtain ⟨e1, e2⟩ := turn_way (n := n) hs g2 i j
  unfold uX uY
  rw [e1, e2]
  exact off_pos (by omega) _ _
end TF
/- Corners and middles of cells as points. -/
namespace TF

theorem pt_sf {n f : Nat} {k l : Int} (h1 : 1 ≤ n) (h2 : n ≤ 32) (hf : f < 6) (hk : k.natAbs ≤ n) (hl : l.natAbs ≤ n) : Sf n (PT n f k l 0) (PT n f k l 1) (PT n f k l 2) := by
  have e := six hf
  have t : (n : Int).natAbs = n := rfl
  rcases e with rfl | rfl | rfl | rfl | rfl | rfl
  all_goals
    refine ⟨h1, h2, ?_, ?_, ?_, ?_⟩
    all_goals
      simp [PT, FR, frT]
      try omega

/-- The corner i, j of a face's net; a cell's middle. -/
def CX (n f : Nat) (i j : Int) : Nat := VX n (PT n f (2 * i - n) (2 * j - n) 0) (PT n f (2 * i - n) (2 * j - n) 1) (PT n f (2 * i - n) (2 * j - n) 2)
def CY (n f : Nat) (i j : Int) : Nat := VY n (PT n f (2 * i - n) (2 * j - n) 0) (PT n f (2 * i - n) (2 * j - n) 1) (PT n f (2 * i - n) (2 * j - n) 2)
def CZ (n f : Nat) (i j : Int) : Nat := VZ n (PT n f (2 * i - n) (2 * j - n) 0) (PT n f (2 * i - n) (2 * j - n) 1) (PT n f (2 * i - n) (2 * j - n) 2)
def MX (n f : Nat) (i j : Int) : Nat := VX n (PT n f (2 * i + 1 - n) (2 * j + 1 - n) 0) (PT n f (2 * i + 1 - n) (2 * j + 1 - n) 1) (PT n f (2 * i + 1 - n) (2 * j + 1 - n) 2)
def MY (n f : Nat) (i j : Int) : Nat := VY n (PT n f (2 * i + 1 - n) (2 * j + 1 - n) 0) (PT n f (2 * i + 1 - n) (2 * j + 1 - n) 1) (PT n f (2 * i + 1 - n) (2 * j + 1 - n) 2)
def MZ (n f : Nat) (i j : Int) : Nat := VZ n (PT n f (2 * i + 1 - n) (2 * j + 1 - n) 0) (PT n f (2 * i + 1 - n) (2 * j + 1 - n) 1) (PT n f (2 * i + 1 - n) (2 * j + 1 - n) 2)
/-- the gap of two corners of a face, of two middles -/
def CG (n f : Nat) (i j a b : Int) : Nat := vgap (CX n f i j) (CY n f i j) (CZ n f i j) (CX n f a b) (CY n f a b) (CZ n f a b)
def MG (n f : Nat) (i j : Int) (g : Nat) (a b : Int) : Nat := vgap (MX n f i j) (MY n f i j) (MZ n f i j) (MX n g a b) (MY n g a b) (MZ n g a b)
/-- how long a side of a cell is -/
def LE (n f : Nat) (i j : Int) (s : Nat) : Nat := if s = 0 then CG n f (i + 1) j (i + 1) (j + 1) else if s = 1 then CG n f i (j + 1) (i + 1) (j + 1) else if s = 2 then CG n f i j i (j + 1) else CG n f i j (i + 1) j
theorem c_fw {n f : Nat} {i j : Int} (h1 : 1 ≤ n) (h2 : n ≤ 32) (hf : f < 6) (i0 : 0 ≤ i) (i1 : i ≤ n) (j0 : 0 ≤ j) (j1 : j ≤ n) : Fw (CX n f i j) ∧ Fw (CY n f i j) ∧ Fw (CZ n f i j) :=
  v_fw (pt_sf h1 h2 hf (by omega) (by omega))
theorem m_fw {n f : Nat} {i j : Int} (h1 : 1 ≤ n) (h2 : n ≤ 32) (hf : f < 6) (i0 : 0 ≤ i) (i1 : i < n) (j0 : 0 ≤ j) (j1 : j < n) : Fw (MX n f i j) ∧ Fw (MY n f i j) ∧ Fw (MZ n f i j) :=
  v_fw (pt_sf h1 h2 hf (by omega) (by omega))
end TF
