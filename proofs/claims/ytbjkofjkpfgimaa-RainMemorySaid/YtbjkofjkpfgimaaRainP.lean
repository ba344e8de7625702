/- Rain: sums; rows in two parts; rains that don't fall. -/
import Derived.Test.YtbjkofjkpfgimaaRainO
namespace TF
open Go Go.RowKit

def sumI (Z : Nat → Int) : Nat → Int
  | 0 => 0
  | k + 1 => sumI Z k + Z k
theorem sumI_upd (Z : Nat → Int) (c : Nat) (v : Int) : ∀ n, sumI (upd Z c v) n = sumI Z n + (if c < n then v - Z c else 0) := by
  intro n
  induction n with
  | zero => simp [sumI]
  | succ n ih =>
    simp only [sumI, ih]
    by_cases h : n = c
    · subst h; rw [upd_at, if_neg (by omega), if_pos (by omega)]; omega
    · rw [upd_off _ _ h]
      by_cases h2 : c < n
      · rw [if_pos h2, if_pos (by omega)]; omega
      · rw [if_neg h2, if_neg (by omega)]; omega
theorem sumI_bnd {Z : Nat → Int} {n : Nat} {M : Int} (h : ∀ i, i < n → 0 ≤ Z i ∧ Z i ≤ M) : ∀ k, k ≤ n → 0 ≤ sumI Z k ∧ sumI Z k ≤ M * k := by
  intro k
  induction k with
  | zero => intro _; simp [sumI]
  | succ k ih =>
    intro hk
    have h1 := ih (by omega)
    have h2 := h k (by omega)
    have h3 : M * ((k + 1 : Nat) : Int) = M * k + M := by rw [Int.natCast_succ, Int.mul_add, Int.mul_one]
    rw [h3]; simp only [sumI]; omega
theorem sumI_mono {Z : Nat → Int} {n : Nat} (h : ∀ i, i < n → 0 ≤ Z i) : ∀ k j, k + j ≤ n → sumI Z k ≤ sumI Z (k + j) := by
  intro k j
  induction j with
  | zero => intro _; exact Int.le_refl _
  | succ j ih =>
    intro hk
    have := ih (by omega)
    have h2 := h (k + j) (by omega)
    show sumI Z k ≤ sumI Z (k + j) + Z (k + j)
    omega

/-- Nothing comes or goes. -/
theorem rs_kept {st : Int} {C A F T : Nat → Int} {Z : Nat → Int} {s : Int} {n m : Nat} (hv : RainsOk n C A F T m) : ∀ k, k ≤ m → rsS st C A F T Z s k + sumI (rsZ st C A F T Z s k) n = s + sumI Z n := by
  intro k
  induction k with
  | zero => intro _; rfl
  | succ k ih =>
    intro hk
    have h1 := ih (by omega)
    obtain ⟨c0, c1, -⟩ := hv k (by omega)
    rw [rsS_succ, rsZ_succ, sumI_upd, if_pos (by omega)]
    omega

theorem rs_congr {st : Int} {C A F T C' A' F' T' : Nat → Int} {Z : Nat → Int} {s : Int} : ∀ m, (∀ i, i < m → C i = C' i ∧ A i = A' i ∧ F i = F' i ∧ T i = T' i) → rs st C A F T Z s m = rs st C' A' F' T' Z s m := by
  intro m
  induction m with
  | zero => intro _; rfl
  | succ m ih =>
    intro h
    have h1 := ih (fun i hi => h i (by omega))
    obtain ⟨e0, e1, e2, e3⟩ := h m (by omega)
    simp only [rs, h1, e0, e1, e2, e3]

/-- A row in two parts. -/
theorem rs_split (st : Int) (C A F T : Nat → Int) (Z : Nat → Int) (s : Int) (a : Nat) : ∀ b, rs st C A F T Z s (a + b) = rs st (fun i => C (a + i)) (fun i => A (a + i)) (fun i => F (a + i)) (fun i => T (a + i)) (rsZ st C A F T Z s a) (rsS st C A F T Z s a) b := by
  intro b
  induction b with
  | zero => rfl
  | succ b ih => rw [← Nat.add_assoc]; simp only [rs, ih]
def con (a : Int) : Nat → Int := fun _ => a
theorem rains_one (w : World) (t : TypeId) (a b c d : Int) {g : Nat} (hg : g = w.heap.size) :
    RainsAt (w.alloc (.cells #[.int .i64 a, .int .i64 b, .int .i64 c, .int .i64 d] t)) (some ⟨g, 0, none⟩) 1 (con a) (con b) (con c) (con d) := by
  subst hg
  intro i hi
  obtain rfl : i = 0 := by omega
  refine ⟨_, 0, rfl, by simp, ?_, ?_, ?_, ?_⟩ <;> rw [World.cell?_alloc_new] <;> rfl
theorem rains_none (w : World) (R : Option Addr) (C A F T : Nat → Int) : RainsAt w R 0 C A F T := fun _ hi => absurd hi (Nat.not_lt_zero _)
theorem refuse_one {n : Nat} {Z : Nat → Int} {s c a f t st : Int} : refuseB n Z s 1 (con c) (con a) (con f) (con t) st = (refuseB n Z s 0 (con c) (con a) (con f) (con t) st || !validB n c a f t) := by
  simp [refuseB, anyB, con]
theorem rs_one {st c a f t s : Int} {Z : Nat → Int} : rsS st (con c) (con a) (con f) (con t) Z s 1 = s - down st a f t s (Z c.toNat) ∧ rsZ st (con c) (con a) (con f) (con t) Z s 1 = upd Z c.toNat (Z c.toNat + down st a f t s (Z c.toNat)) := ⟨rfl, rfl⟩
theorem rs_rest (st : Int) (C A F T : Nat → Int) (Z : Nat → Int) (s : Int) {a m : Nat} (h : a ≤ m) :
    rsZ st (fun i => C (a + i)) (fun i => A (a + i)) (fun i => F (a + i)) (fun i => T (a + i)) (rsZ st C A F T Z s a) (rsS st C A F T Z s a) (m - a) = rsZ st C A F T Z s m ∧
    rsS st (fun i => C (a + i)) (fun i => A (a + i)) (fun i => F (a + i)) (fun i => T (a + i)) (rsZ st C A F T Z s a) (rsS st C A F T Z s a) (m - a) = rsS st C A F T Z s m := by
  have h1 := rs_split st C A F T Z s a (m - a)
  rw [show a + (m - a) = m by omega] at h1
  unfold rsZ rsS at h1 ⊢
  rw [h1]; exact ⟨rfl, rfl⟩

/-- the rest of a list of rains, where it begins as Go's cut says. -/
theorem rains_rest {w : World} {R : Option Addr} {m : Nat} {C A F T : Nat → Int} (h : RainsAt w R m C A F T) (k : Nat) (R' : Option Addr) (hR : ∀ b off, R = some ⟨b, off, none⟩ → k < m → R' = some ⟨b, off + k * 4, none⟩) :
    RainsAt w R' (m - k) (fun i => C (k + i)) (fun i => A (k + i)) (fun i => F (k + i)) (fun i => T (k + i)) := by
  intro i hi
  obtain ⟨b, off, h1, h2, h3, h4, h5, h6⟩ := h (k + i) (by omega)
  refine ⟨b, off + k * 4, hR b off h1 (by omega), h2, ?_, ?_, ?_, ?_⟩
  · rw [show off + k * 4 + i * 4 = off + (k + i) * 4 by omega]; exact h3
  · rw [show off + k * 4 + i * 4 + 1 = off + (k + i) * 4 + 1 by omega]; exact h4
  · rw [show off + k * 4 + i * 4 + 2 = off + (k + i) * 4 + 2 by omega]; exact h5
  · rw [show off + k * 4 + i * 4 + 3 = off + (k + i) * 4 + 3 by omega]; exact h6
/-- which of the first k rains fall in a step. -/
def fl (st : Int) (F T : Nat → Int) : Nat → List Nat
  | 0 => []
  | k + 1 => if F k ≤ st ∧ st < T k then fl st F T k ++ [k] else fl st F T k
theorem fl_lt {st : Int} {F T : Nat → Int} : ∀ k, (fl st F T k).length ≤ k ∧ ∀ i, i ∈ fl st F T k → i < k := by
  intro k
  induction k with
  | zero => simp [fl]
  | succ k ih =>
    unfold fl; split
    · refine ⟨by simp; omega, fun i hi => ?_⟩
      rcases List.mem_append.1 hi with h | h
      · have := ih.2 i h; omega
      · simp at h; omega
    · exact ⟨by omega, fun i hi => by have := ih.2 i hi; omega⟩
def at' (f : Nat → Int) (l : List Nat) : Nat → Int := fun j => f (l.getD j 0)
theorem at_app (f : Nat → Int) (l : List Nat) (k : Nat) {j : Nat} (h : j < l.length) : at' f (l ++ [k]) j = at' f l j := by
  unfold at'; rw [List.getD_eq_getElem?_getD, List.getD_eq_getElem?_getD, List.getElem?_append_left h]
theorem at_last (f : Nat → Int) (l : List Nat) (k : Nat) : at' f (l ++ [k]) l.length = f k := by
  unfold at'; rw [List.getD_eq_getElem?_getD, List.getElem?_append_right (Nat.le_refl _)]; simp
/-- Rains that don't fall could as well not be there. -/
theorem rs_fl {st : Int} {C A F T : Nat → Int} {Z : Nat → Int} {s : Int} : ∀ k, rs st (at' C (fl st F T k)) (at' A (fl st F T k)) (at' F (fl st F T k)) (at' T (fl st F T k)) Z s (fl st F T k).length = rs st C A F T Z s k := by
  intro k
  induction k with
  | zero => rfl
  | succ k ih =>
    by_cases h : F k ≤ st ∧ st < T k
    · have e : fl st F T (k + 1) = fl st F T k ++ [k] := by rw [fl, if_pos h]
      rw [e, List.length_append]
      have h2 : rs st (at' C (fl st F T k ++ [k])) (at' A (fl st F T k ++ [k])) (at' F (fl st F T k ++ [k])) (at' T (fl st F T k ++ [k])) Z s (fl st F T k).length = rs st C A F T Z s k := by
        rw [← ih]
        exact rs_congr _ fun i hi => ⟨at_app _ _ _ hi, at_app _ _ _ hi, at_app _ _ _ hi, at_app _ _ _ hi⟩
      show rs st _ _ _ _ Z s ((fl st F T k).length + 1) = rs st C A F T Z s (k + 1)
      simp only [rs, h2, at_last]
    · have e : fl st F T (k + 1) = fl st F T k := by rw [fl, if_neg h]
      rw [e, ih]
      have hd : rsD st C A F T Z s k = 0 := by unfold rsD down; rw [if_pos (by omega)]
      have h1 : rsZ st C A F T Z s (k + 1) = rsZ st C A F T Z s k := by rw [rsZ_succ, hd, upd_self]
      have h2 : rsS st C A F T Z s (k + 1) = rsS st C A F T Z s k := by rw [rsS_succ, hd]; omega
      exact Prod.ext h1.symm h2.symm

def rainCells (C A F T : Nat → Int) (l : List Nat) : List Value := l.flatMap fun i => [.int .i64 (C i), .int .i64 (A i), .int .i64 (F i), .int .i64 (T i)]
theorem rainCells_app (C A F T : Nat → Int) (l : List Nat) (k : Nat) : rainCells C A F T (l ++ [k]) = rainCells C A F T l ++ [.int .i64 (C k), .int .i64 (A k), .int .i64 (F k), .int .i64 (T k)] := by
  simp [rainCells]
theorem rainCells_at (C A F T : Nat → Int) : ∀ (l : List Nat) (j : Nat), j < l.length →
    (rainCells C A F T l)[j * 4]? = some (.int .i64 (at' C l j)) ∧ (rainCells C A F T l)[j * 4 + 1]? = some (.int .i64 (at' A l j)) ∧ (rainCells C A F T l)[j * 4 + 2]? = some (.int .i64 (at' F l j)) ∧ (rainCells C A F T l)[j * 4 + 3]? = some (.int .i64 (at' T l j)) := by
  intro l
  induction l with
  | nil => intro j hj; simp at hj
  | cons a l ih =>
    intro j hj
    cases j with
    | zero => simp [rainCells, at']
    | succ j =>
      have h := ih j (by simpa using hj)
      have e : rainCells C A F T (a :: l) = [.int .i64 (C a), .int .i64 (A a), .int .i64 (F a), .int .i64 (T a)] ++ rainCells C A F T l := by simp [rainCells]
      have e2 : ∀ f : Nat → Int, at' f (a :: l) (j + 1) = at' f l j := fun f => by simp [at']
      rw [e, e2, e2, e2, e2]
      refine ⟨?_, ?_, ?_, ?_⟩
      · rw [List.getElem?_append_right (by simp; omega), show (j + 1) * 4 - [Value.int .i64 (C a), .int .i64 (A a), .int .i64 (F a), .int .i64 (T a)].length = j * 4 by simp; omega]; exact h.1
      · rw [List.getElem?_append_right (by simp; omega), show (j + 1) * 4 + 1 - [Value.int .i64 (C a), .int .i64 (A a), .int .i64 (F a), .int .i64 (T a)].length = j * 4 + 1 by simp; omega]; exact h.2.1
      · rw [List.getElem?_append_right (by simp; omega), show (j + 1) * 4 + 2 - [Value.int .i64 (C a), .int .i64 (A a), .int .i64 (F a), .int .i64 (T a)].length = j * 4 + 2 by simp; omega]; exact h.2.2.1
      · rw [List.getElem?_append_right (by simp; omega), show (j + 1) * 4 + 3 - [Value.int .i64 (C a), .int .i64 (A a), .int .i64 (F a), .int .i64 (T a)].length = j * 4 + 3 by simp; omega]; exact h.2.2.2
/-- out of what a law on append leaves, rains. -/
theorem rains_of_row {w : World} {base e : Nat} {v : Value} {C A F T : Nat → Int} {l : List Nat} (h : w.ownsRow base e 4 v l.length (rainCells C A F T l)) :
    ∃ R cap, v = .slice R l.length cap ∧ RainsAt w R l.length (at' C l) (at' A l) (at' F l) (at' T l) := by
  rcases h.2 with ⟨rfl, h0⟩ | ⟨g, cap, cur, rfl, hg, hh, hc, hm, hs, ht⟩
  · rw [h0]; exact ⟨none, 0, rfl, rains_none _ _ _ _ _ _⟩
  · have hgs : g < w.heap.size := by
      rcases Nat.lt_or_ge g w.heap.size with h1 | h1
      · exact h1
      · rw [Array.getElem?_eq_none h1] at hh; cases hh
    refine ⟨_, cap, rfl, fun i hi => ⟨g, 0, rfl, hgs, ?_, ?_, ?_, ?_⟩⟩
    · rw [Nat.zero_add, h.cellAt _ (by omega)]; exact (rainCells_at C A F T l i hi).1
    · rw [Nat.zero_add, h.cellAt _ (by omega)]; exact (rainCells_at C A F T l i hi).2.1
    · rw [Nat.zero_add, h.cellAt _ (by omega)]; exact (rainCells_at C A F T l i hi).2.2.1
    · rw [Nat.zero_add, h.cellAt _ (by omega)]; exact (rainCells_at C A F T l i hi).2.2.2
/-- whether Fall refuses hangs on no step but one below 0. -/
theorem refuse_step {n : Nat} {Z : Nat → Int} {s : Int} {m : Nat} {C A F T : Nat → Int} {st st' : Int} (h : 0 ≤ st) (h' : 0 ≤ st') : refuseB n Z s m C A F T st = refuseB n Z s m C A F T st' := by
  unfold refuseB; rw [decide_eq_false (by omega : ¬ st < 0), decide_eq_false (by omega : ¬ st' < 0)]
theorem refuse_neg {n : Nat} {Z : Nat → Int} {s : Int} {m : Nat} {C A F T : Nat → Int} {st : Int} (h : st < 0) : refuseB n Z s m C A F T st = true := by
  unfold refuseB; rw [decide_eq_true h]; simp
/-- what the reference's Fall leaves, whether it takes or refuses. -/
def FallD (w : World) (n : Nat) (Z : Nat → Int) (s : Int) (q : Bool) (e : Ending) (w' : World) : Prop :=
  (q = true ∧ e = .returned (.tuple #[.slice none 0 0, .int .i64 0, .int .i64 1]) ∧ Below w.heap.size w w') ∨ (q = false ∧ FallP w n Z s e w')
theorem range_app (Z : Nat → Int) (k : Nat) : ((List.range (k + 1)).map fun i => Value.int .i64 (Z i)) = ((List.range k).map fun i => Value.int .i64 (Z i)) ++ [.int .i64 (Z k)] := by
  rw [List.range_succ, List.map_append]; rfl
end TF
