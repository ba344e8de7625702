/- Rain: what the step does, as a plain function; slices of integers and of rains as functions of the index; the call's own row of integers. -/
import Derived.ProofKit
import Derived.OwnWalk
import Derived.OneCell
import Derived.Below
namespace TF
open Go Go.RowKit

def outB (x : Int) : Bool := decide (x < 0) || decide (4503599627370496 < x)
theorem outB_false {x : Int} (h : outB x = false) : 0 ≤ x ∧ x ≤ 4503599627370496 := by
  simp [outB] at h; omega

def validB (n c a f t : Int) : Bool := decide (0 ≤ c) && decide (c < n) && decide (-4503599627370496 ≤ a) && decide (a ≤ 4503599627370496) && decide (0 ≤ f) && decide (f ≤ t)
theorem valid_cases (n c a f t : Int) : (validB n c a f t = true ∧ 0 ≤ c ∧ c < n ∧ -4503599627370496 ≤ a ∧ a ≤ 4503599627370496 ∧ 0 ≤ f ∧ f ≤ t) ∨ (validB n c a f t = false ∧ (c < 0 ∨ (0 ≤ c ∧ n ≤ c) ∨ (0 ≤ c ∧ c < n ∧ a < -4503599627370496) ∨ (0 ≤ c ∧ c < n ∧ -4503599627370496 ≤ a ∧ 4503599627370496 < a) ∨
      (0 ≤ c ∧ c < n ∧ -4503599627370496 ≤ a ∧ a ≤ 4503599627370496 ∧ f < 0) ∨ (0 ≤ c ∧ c < n ∧ -4503599627370496 ≤ a ∧ a ≤ 4503599627370496 ∧ 0 ≤ f ∧ t < f))) := by
  unfold validB
  simp only [Bool.and_eq_true, decide_eq_true_eq, Bool.and_eq_false_iff, decide_eq_false_iff_not]
  omega
theorem validB_true {n c a f t : Int} (h : validB n c a f t = true) : 0 ≤ c ∧ c < n ∧ -4503599627370496 ≤ a ∧ a ≤ 4503599627370496 ∧ 0 ≤ f ∧ f ≤ t := by
  rcases valid_cases n c a f t with ⟨-, h'⟩ | ⟨h', -⟩
  · exact h'
  · rw [h] at h'; cases h'

/-- whether p holds of one of the first n. -/
def anyB : Nat → (Nat → Bool) → Bool
  | 0, _ => false
  | n + 1, p => anyB n p || p n
theorem anyB_false {n : Nat} {p : Nat → Bool} : anyB n p = false ↔ ∀ i, i < n → p i = false := by
  induction n with
  | zero => simp [anyB]
  | succ n ih =>
    simp only [anyB, Bool.or_eq_false_iff, ih]
    constructor
    · intro h i hi
      by_cases e : i = n
      · subst e; exact h.2
      · exact h.1 i (by omega)
    · intro h; exact ⟨fun i hi => h i (by omega), h n (by omega)⟩
theorem anyB_true {n : Nat} {p : Nat → Bool} {i : Nat} (hi : i < n) (h : p i = true) : anyB n p = true := by
  cases e : anyB n p with
  | true => rfl
  | false => rw [anyB_false.1 e i hi] at h; cases h

def upd (Z : Nat → Int) (c : Nat) (v : Int) : Nat → Int := fun i => if i = c then v else Z i
theorem upd_at (Z : Nat → Int) (c : Nat) (v : Int) : upd Z c v c = v := by simp [upd]
theorem upd_off (Z : Nat → Int) {c i : Nat} (v : Int) (h : i ≠ c) : upd Z c v i = Z i := by simp [upd, h]
theorem upd_self (Z : Nat → Int) (c : Nat) : upd Z c (Z c + 0) = Z := by funext i; by_cases h : i = c <;> simp [upd, h]

/-- what comes down of a rain (below 0: what goes up). -/
def down (st a f t s z : Int) : Int := if st < f ∨ t ≤ st then 0 else if 0 ≤ a then min a s else -(min (-a) z)

/-- cells and sky behind the first k rains. -/
def rs (st : Int) (C A F T : Nat → Int) (Z : Nat → Int) (s : Int) : Nat → (Nat → Int) × Int
  | 0 => (Z, s)
  | k + 1 =>
    let p := rs st C A F T Z s k
    let d := down st (A k) (F k) (T k) p.2 (p.1 (C k).toNat)
    (upd p.1 (C k).toNat (p.1 (C k).toNat + d), p.2 - d)

def rsZ (st : Int) (C A F T : Nat → Int) (Z : Nat → Int) (s : Int) (k : Nat) : Nat → Int := (rs st C A F T Z s k).1
def rsS (st : Int) (C A F T : Nat → Int) (Z : Nat → Int) (s : Int) (k : Nat) : Int := (rs st C A F T Z s k).2
def rsD (st : Int) (C A F T : Nat → Int) (Z : Nat → Int) (s : Int) (k : Nat) : Int := down st (A k) (F k) (T k) (rsS st C A F T Z s k) (rsZ st C A F T Z s k (C k).toNat)
section
variable (st : Int) (C A F T : Nat → Int) (Z : Nat → Int) (s : Int)
theorem rsZ_zero : rsZ st C A F T Z s 0 = Z := rfl
theorem rsS_zero : rsS st C A F T Z s 0 = s := rfl
theorem rsZ_succ (k : Nat) : rsZ st C A F T Z s (k + 1) = upd (rsZ st C A F T Z s k) (C k).toNat (rsZ st C A F T Z s k (C k).toNat + rsD st C A F T Z s k) := rfl
theorem rsS_succ (k : Nat) : rsS st C A F T Z s (k + 1) = rsS st C A F T Z s k - rsD st C A F T Z s k := rfl
end

/-- what of a row of rains is right. -/
def RainsOk (n : Nat) (C A F T : Nat → Int) (m : Nat) : Prop := ∀ k, k < m → 0 ≤ C k ∧ C k < n ∧ -4503599627370496 ≤ A k ∧ A k ≤ 4503599627370496 ∧ 0 ≤ F k ∧ F k ≤ T k

theorem down_bnd {st a f t s z : Int} (ha : -4503599627370496 ≤ a) (ha' : a ≤ 4503599627370496) (hs : 0 ≤ s) (hz : 0 ≤ z) :
    -4503599627370496 ≤ down st a f t s z ∧ down st a f t s z ≤ 4503599627370496 ∧ 0 ≤ s - down st a f t s z ∧ 0 ≤ z + down st a f t s z := by
  unfold down; split
  · omega
  · split <;> omega

theorem rs_bnd {st : Int} {C A F T : Nat → Int} {Z : Nat → Int} {s : Int} {n m : Nat} (hv : RainsOk n C A F T m) (hz : ∀ i, i < n → 0 ≤ Z i ∧ Z i ≤ 4503599627370496) (hs : 0 ≤ s) (hs' : s ≤ 4503599627370496) :
    ∀ k, k ≤ m → (∀ i, i < n → 0 ≤ rsZ st C A F T Z s k i ∧ rsZ st C A F T Z s k i ≤ 4503599627370496 * (k + 1)) ∧ 0 ≤ rsS st C A F T Z s k ∧ rsS st C A F T Z s k ≤ 4503599627370496 * (k + 1) := by
  intro k
  induction k with
  | zero => intro _; exact ⟨fun i hi => by have := hz i hi; rw [rsZ_zero]; omega, by rw [rsS_zero]; omega, by rw [rsS_zero]; omega⟩
  | succ k ih =>
    intro hk
    obtain ⟨h1, h2, h3⟩ := ih (by omega)
    obtain ⟨c0, c1, a0, a1, -, -⟩ := hv k (by omega)
    have hc : (C k).toNat < n := by omega
    have hb := down_bnd (st := st) (f := F k) (t := T k) a0 a1 h2 (h1 _ hc).1
    have hD : rsD st C A F T Z s k = down st (A k) (F k) (T k) (rsS st C A F T Z s k) (rsZ st C A F T Z s k (C k).toNat) := rfl
    rw [← hD] at hb
    have hcb := h1 _ hc
    refine ⟨fun i hi => ?_, ?_, ?_⟩
    · rw [rsZ_succ]
      by_cases e : i = (C k).toNat
      · subst e; rw [upd_at]; omega
      · rw [upd_off _ _ e]; have := h1 i hi; omega
    · rw [rsS_succ]; omega
    · rw [rsS_succ]; omega

/-- The slice value A, n reads as integers Z 0 .. Z (n - 1). -/
def IntsAt (w : World) (A : Option Addr) (n : Nat) (Z : Nat → Int) : Prop := ∀ i, i < n → ∃ b off, A = some ⟨b, off, none⟩ ∧ b < w.heap.size ∧ w.cell? ⟨b, off + i, none⟩ = some (.int .i64 (Z i))
/-- .. as rains. -/
def RainsAt (w : World) (R : Option Addr) (m : Nat) (C A F T : Nat → Int) : Prop := ∀ i, i < m → ∃ b off, R = some ⟨b, off, none⟩ ∧ b < w.heap.size ∧
  w.cell? ⟨b, off + i * 4, none⟩ = some (.int .i64 (C i)) ∧ w.cell? ⟨b, off + i * 4 + 1, none⟩ = some (.int .i64 (A i)) ∧ w.cell? ⟨b, off + i * 4 + 2, none⟩ = some (.int .i64 (F i)) ∧ w.cell? ⟨b, off + i * 4 + 3, none⟩ = some (.int .i64 (T i))
/-- The call's own row: its block from lo on, below hi. -/
def OwnAt (w : World) (lo hi : Nat) (A : Option Addr) (n : Nat) (Z : Nat → Int) : Prop := ∀ i, i < n → ∃ b off, A = some ⟨b, off, none⟩ ∧ lo ≤ b ∧ b < hi ∧ b < w.heap.size ∧ w.cell? ⟨b, off + i, none⟩ = some (.int .i64 (Z i)) ∧ w.frozen? ⟨b, off + i, none⟩ = false

theorem IntsAt.below {w w' : World} {A : Option Addr} {n : Nat} {Z : Nat → Int} (h : IntsAt w A n Z) (hb : Below w.heap.size w w') : IntsAt w' A n Z := by
  intro i hi
  obtain ⟨b, off, h1, h2, h3⟩ := h i hi
  exact ⟨b, off, h1, Nat.lt_of_lt_of_le h2 hb.size, by rw [hb.cell (p := ⟨b, off + i, none⟩) h2]; exact h3⟩
theorem RainsAt.below {w w' : World} {R : Option Addr} {m : Nat} {C A F T : Nat → Int} (h : RainsAt w R m C A F T) (hb : Below w.heap.size w w') : RainsAt w' R m C A F T := by
  intro i hi
  obtain ⟨b, off, h1, h2, h3, h4, h5, h6⟩ := h i hi
  exact ⟨b, off, h1, Nat.lt_of_lt_of_le h2 hb.size, by rw [hb.cell (p := ⟨b, _, none⟩) h2]; exact h3, by rw [hb.cell (p := ⟨b, _, none⟩) h2]; exact h4, by rw [hb.cell (p := ⟨b, _, none⟩) h2]; exact h5, by rw [hb.cell (p := ⟨b, _, none⟩) h2]; exact h6⟩
theorem OwnAt.ints {w : World} {lo hi : Nat} {A : Option Addr} {n : Nat} {Z : Nat → Int} (h : OwnAt w lo hi A n Z) : IntsAt w A n Z := by
  intro i hi
  obtain ⟨b, off, h1, -, -, h2, h3, -⟩ := h i hi
  exact ⟨b, off, h1, h2, h3⟩
/-- what stays where all below hi stays. -/
theorem OwnAt.below {w w' : World} {lo hi : Nat} {A : Option Addr} {n : Nat} {Z : Nat → Int} (h : OwnAt w lo hi A n Z) (hb : Below hi w w') : OwnAt w' lo hi A n Z := by
  intro i hi
  obtain ⟨b, off, h1, h2, h3, h4, h5, h6⟩ := h i hi
  exact ⟨b, off, h1, h2, h3, Nat.lt_of_lt_of_le h4 hb.size, by rw [hb.cell (p := ⟨b, off + i, none⟩) h3]; exact h5, by rw [hb.frozen (p := ⟨b, off + i, none⟩) h3]; exact h6⟩
/-- a store into another block. -/
theorem OwnAt.far {w : World} {lo hi : Nat} {A : Option Addr} {n : Nat} {Z : Nat → Int} (h : OwnAt w lo hi A n Z) (b' o' : Nat) (v : Value) (hb : b' < lo ∨ hi ≤ b') : OwnAt (w.setCell ⟨b', o', none⟩ v) lo hi A n Z := by
  intro i hi
  obtain ⟨b, off, h1, h2, h3, h4, h5, h6⟩ := h i hi
  refine ⟨b, off, h1, h2, h3, by simpa [World.setCell] using h4, ?_, by simpa using h6⟩
  rw [World.cell?_setCell_other _ _ _ _ (by intro e; injection e with e1; omega)]
  exact h5
/-- a store into the row. -/
theorem OwnAt.stored {w : World} {lo hi : Nat} {A : Option Addr} {n : Nat} {Z : Nat → Int} (h : OwnAt w lo hi A n Z) {b off c : Nat} (hA : A = some ⟨b, off, none⟩) (hc : c < n) (v : Int) : OwnAt (w.setCell ⟨b, off + c, none⟩ (.int .i64 v)) lo hi A n (upd Z c v) := by
  intro i hi
  obtain ⟨b2, off2, h1, h2, h3, h4, h5, h6⟩ := h i hi
  have e : b2 = b ∧ off2 = off := by rw [hA] at h1; simpa using h1.symm
  obtain ⟨rfl, rfl⟩ := e
  refine ⟨b2, off2, h1, h2, h3, by simpa [World.setCell] using h4, ?_, by simpa using h6⟩
  by_cases e : i = c
  · subst e
    rw [World.cell?_setCell_same _ _ _ h5, upd_at]
  · rw [World.cell?_setCell_other _ _ _ _ (by intro e1; injection e1 with _ e2; omega), upd_off _ _ e]
    exact h5
theorem OwnAt.congr {w : World} {lo hi : Nat} {A : Option Addr} {n : Nat} {Z Z' : Nat → Int} (h : OwnAt w lo hi A n Z) (he : ∀ i, i < n → Z' i = Z i) : OwnAt w lo hi A n Z' := by
  intro i hi
  obtain ⟨b, off, h1, h2, h3, h4, h5, h6⟩ := h i hi
  exact ⟨b, off, h1, h2, h3, h4, by rw [he i hi]; exact h5, h6⟩

theorem OwnAt.wide {w : World} {lo hi lo' : Nat} {A : Option Addr} {n : Nat} {Z : Nat → Int} (h : OwnAt w lo hi A n Z) (hl : lo' ≤ lo) : OwnAt w lo' w.heap.size A n Z := by
  intro i hi
  obtain ⟨b, off, h1, h2, h3, h4, h5, h6⟩ := h i hi
  exact ⟨b, off, h1, by omega, h4, h4, h5, h6⟩
/-- out of what a law on append leaves. -/
theorem own_of_row {w : World} {base e : Nat} {v : Value} {n : Nat} {Z : Nat → Int} (h : w.ownsRow base e 1 v n ((List.range n).map fun i => Value.int .i64 (Z i))) :
    ∃ A cap, v = .slice A n cap ∧ n ≤ cap ∧ OwnAt w base w.heap.size A n Z := by
  have hx := h.1
  rcases h.2 with ⟨rfl, rfl⟩ | ⟨g, cap, cur, rfl, hg, hh, hc, hm, hs, ht⟩
  · exact ⟨none, 0, rfl, Nat.le_refl _, fun i hi => absurd hi (Nat.not_lt_zero _)⟩
  · refine ⟨_, cap, rfl, hc, fun i hi => ⟨g, 0, rfl, hg, ?_, ?_, ?_, ?_⟩⟩
    · rcases Nat.lt_or_ge g w.heap.size with h1 | h1
      · exact h1
      · rw [Array.getElem?_eq_none h1] at hh; cases hh
    · rcases Nat.lt_or_ge g w.heap.size with h1 | h1
      · exact h1
      · rw [Array.getElem?_eq_none h1] at hh; cases hh
    · rw [Nat.zero_add, h.cellAt i (by omega)]
      simp [hi]
    · rw [Nat.zero_add]; exact h.frozenAt i
/-- what slices.Clone leaves. -/
def CloneP (w : World) (n : Nat) (Z : Nat → Int) (e : Ending) (w' : World) : Prop := ∃ A cap, e = .returned (.slice A n cap) ∧ n ≤ cap ∧ OwnAt w' w.heap.size w'.heap.size A n Z ∧ Below w.heap.size w w'

/-- the state of Fall's loop: sky in block P, the answer's variable in block Q, the row between lo and hi. -/
structure RainS (w0 w : World) (P Q lo hi : Nat) (A : Option Addr) (n cap : Nat) (Z : Nat → Int) (s : Int) : Prop where
  below : Below w0.heap.size w0 w
  sky : w.cell? ⟨P, 0, none⟩ = some (.int .i64 s)
  skyf : w.frozen? ⟨P, 0, none⟩ = false
  box : w.cell? ⟨Q, 0, none⟩ = some (.slice A n cap)
  own : OwnAt w lo hi A n Z
  o1 : w0.heap.size ≤ P
  o2 : P < lo
  o3 : hi ≤ Q
  o4 : Q < w.heap.size
  o5 : lo ≤ hi

theorem RainS.on {w0 w w' : World} {P Q lo hi : Nat} {A : Option Addr} {n cap : Nat} {Z : Nat → Int} {s : Int} (h : RainS w0 w P Q lo hi A n cap Z s) (hb : Below w.heap.size w w') : RainS w0 w' P Q lo hi A n cap Z s := by
  obtain ⟨a, b, c, d, e, o1, o2, o3, o4, o5⟩ := h
  have hs := hb.size
  exact ⟨a.trans (hb.mono a.size), by rw [hb.cell (p := ⟨P, 0, none⟩) (by show P < _; omega)]; exact b, by rw [hb.frozen (p := ⟨P, 0, none⟩) (by show P < _; omega)]; exact c, by rw [hb.cell (p := ⟨Q, 0, none⟩) o4]; exact d, e.below (hb.mono (by omega)), o1, o2, o3, by omega, o5⟩

/-- both stores, the sky's first. -/
theorem RainS.fell {w0 w : World} {P Q lo hi : Nat} {A : Option Addr} {n cap : Nat} {Z : Nat → Int} {s : Int} (h : RainS w0 w P Q lo hi A n cap Z s) {b off c : Nat} (hA : A = some ⟨b, off, none⟩) (hc : c < n) (s' v : Int) :
    RainS w0 ((w.setCell ⟨P, 0, none⟩ (.int .i64 s')).setCell ⟨b, off + c, none⟩ (.int .i64 v)) P Q lo hi A n cap (upd Z c v) s' := by
  obtain ⟨a, sk, sf, d, e, o1, o2, o3, o4, o5⟩ := h
  obtain ⟨b2, off2, h1, h2, h3, h4, h5, h6⟩ := e c hc
  have e2 : b2 = b ∧ off2 = off := by rw [hA] at h1; simpa using h1.symm
  obtain ⟨rfl, rfl⟩ := e2
  refine ⟨(a.setCell o1 _).setCell (by show _ ≤ b2; omega) _, ?_, by simpa using sf, ?_, (e.far P 0 _ (.inl o2)).stored hA hc v, o1, o2, o3, by simpa [World.setCell] using o4, o5⟩
  · rw [World.cell?_setCell_other _ _ _ _ (by intro e1; injection e1; omega)]
    exact World.cell?_setCell_same _ _ _ sk
  · rw [World.cell?_setCell_other _ _ _ _ (by intro e1; injection e1; omega), World.cell?_setCell_other _ _ _ _ (by intro e1; injection e1; omega)]
    exact d
/-- both stores, the row's first. -/
theorem RainS.rose {w0 w : World} {P Q lo hi : Nat} {A : Option Addr} {n cap : Nat} {Z : Nat → Int} {s : Int} (h : RainS w0 w P Q lo hi A n cap Z s) {b off c : Nat} (hA : A = some ⟨b, off, none⟩) (hc : c < n) (s' v : Int) :
    RainS w0 ((w.setCell ⟨b, off + c, none⟩ (.int .i64 v)).setCell ⟨P, 0, none⟩ (.int .i64 s')) P Q lo hi A n cap (upd Z c v) s' := by
  obtain ⟨a, sk, sf, d, e, o1, o2, o3, o4, o5⟩ := h
  obtain ⟨b2, off2, h1, h2, h3, h4, h5, h6⟩ := e c hc
  have e2 : b2 = b ∧ off2 = off := by rw [hA] at h1; simpa using h1.symm
  obtain ⟨rfl, rfl⟩ := e2
  refine ⟨(a.setCell (by show _ ≤ b2; omega) _).setCell o1 _, ?_, by simpa using sf, ?_, (e.stored hA hc v).far P 0 _ (.inl o2), o1, o2, o3, by simpa [World.setCell] using o4, o5⟩
  · apply World.cell?_setCell_same _ _ _ (u := .int .i64 s)
    rw [World.cell?_setCell_other _ _ _ _ (by intro e1; injection e1; omega)]
    exact sk
  · rw [World.cell?_setCell_other _ _ _ _ (by intro e1; injection e1; omega), World.cell?_setCell_other _ _ _ _ (by intro e1; injection e1; omega)]
    exact d
def refuseB (n : Nat) (Z : Nat → Int) (s : Int) (m : Nat) (C A F T : Nat → Int) (st : Int) : Bool :=
  decide (st < 0) || outB s || decide (1024 < m) || anyB n (fun i => outB (Z i)) || anyB m (fun i => !validB n (C i) (A i) (F i) (T i))
theorem refuse_cases {n : Nat} {Z : Nat → Int} {s : Int} {m : Nat} {C A F T : Nat → Int} {st : Int} (h : refuseB n Z s m C A F T st = true) :
    st < 0 ∨ (0 ≤ st ∧ outB s = true) ∨ (0 ≤ st ∧ outB s = false ∧ 1024 < m) ∨ (0 ≤ st ∧ outB s = false ∧ m ≤ 1024 ∧ anyB n (fun i => outB (Z i)) = true) ∨
      (0 ≤ st ∧ outB s = false ∧ m ≤ 1024 ∧ anyB n (fun i => outB (Z i)) = false ∧ anyB m (fun i => !validB n (C i) (A i) (F i) (T i)) = true) := by
  unfold refuseB at h
  simp only [Bool.or_eq_true, decide_eq_true_eq] at h
  by_cases h1 : st < 0
  · exact .inl h1
  · cases h2 : outB s with
    | true => exact .inr (.inl ⟨by omega, rfl⟩)
    | false =>
      by_cases h3 : 1024 < m
      · exact .inr (.inr (.inl ⟨by omega, rfl, h3⟩))
      · cases h4 : anyB n (fun i => outB (Z i)) with
        | true => exact .inr (.inr (.inr (.inl ⟨by omega, rfl, by omega, rfl⟩)))
        | false => 
          rw [h2, h4] at h
          refine .inr (.inr (.inr (.inr ⟨by omega, rfl, by omega, rfl, ?_⟩)))
          rcases h with (((h | h) | h) | h) | h
          · omega
          · cases h
          · omega
          · cases h
          · exact h
theorem taken {n : Nat} {Z : Nat → Int} {s : Int} {m : Nat} {C A F T : Nat → Int} {st : Int} (h : refuseB n Z s m C A F T st = false) :
    0 ≤ st ∧ (0 ≤ s ∧ s ≤ 4503599627370496) ∧ m ≤ 1024 ∧ (∀ i, i < n → 0 ≤ Z i ∧ Z i ≤ 4503599627370496) ∧ RainsOk n C A F T m := by
  unfold refuseB at h
  simp only [Bool.or_eq_false_iff, decide_eq_false_iff_not, anyB_false] at h
  obtain ⟨⟨⟨⟨h1, h2⟩, h3⟩, h4⟩, h5⟩ := h
  exact ⟨by omega, outB_false h2, by omega, fun i hi => outB_false (h4 i hi), fun k hk => validB_true (by simpa using h5 k hk)⟩
theorem taken_mk {n : Nat} {Z : Nat → Int} {s : Int} {m : Nat} {C A F T : Nat → Int} {st : Int} (h1 : 0 ≤ st) (h2 : 0 ≤ s ∧ s ≤ 4503599627370496) (h3 : m ≤ 1024) (h4 : ∀ i, i < n → 0 ≤ Z i ∧ Z i ≤ 4503599627370496) (h5 : RainsOk n C A F T m) :
    refuseB n Z s m C A F T st = false := by
  unfold refuseB
  simp only [Bool.or_eq_false_iff, decide_eq_false_iff_not, anyB_false]
  refine ⟨⟨⟨⟨by omega, ?_⟩, by omega⟩, fun i hi => ?_⟩, fun k hk => ?_⟩
  · simp [outB]; omega
  · have := h4 i hi; simp [outB]; omega
  · have := h5 k hk; simp [validB]; omega

/-- the three ways of a rain. -/
theorem rs_dry {st : Int} {C A F T : Nat → Int} {Z : Nat → Int} {s : Int} {k : Nat} (h : st < F k ∨ T k ≤ st) : rsZ st C A F T Z s (k + 1) = rsZ st C A F T Z s k ∧ rsS st C A F T Z s (k + 1) = rsS st C A F T Z s k := by
  have hd : rsD st C A F T Z s k = 0 := by unfold rsD down; rw [if_pos h]
  rw [rsZ_succ, rsS_succ, hd, upd_self]; exact ⟨rfl, by omega⟩
theorem rs_nil {st : Int} {C A F T : Nat → Int} {Z : Nat → Int} {s : Int} {k : Nat} (h : ¬ (st < F k ∨ T k ≤ st)) (ha : A k = 0) (hs : 0 ≤ rsS st C A F T Z s k) : rsZ st C A F T Z s (k + 1) = rsZ st C A F T Z s k ∧ rsS st C A F T Z s (k + 1) = rsS st C A F T Z s k := by
  have hd : rsD st C A F T Z s k = 0 := by unfold rsD down; rw [if_neg h, if_pos (by omega), ha]; omega
  rw [rsZ_succ, rsS_succ, hd, upd_self]; exact ⟨rfl, by omega⟩
theorem rs_falls {st : Int} {C A F T : Nat → Int} {Z : Nat → Int} {s : Int} {k : Nat} (h : ¬ (st < F k ∨ T k ≤ st)) (ha : 0 ≤ A k) :
    rsZ st C A F T Z s (k + 1) = upd (rsZ st C A F T Z s k) (C k).toNat (rsZ st C A F T Z s k (C k).toNat + min (A k) (rsS st C A F T Z s k)) ∧ rsS st C A F T Z s (k + 1) = rsS st C A F T Z s k - min (A k) (rsS st C A F T Z s k) := by
  have hd : rsD st C A F T Z s k = min (A k) (rsS st C A F T Z s k) := by unfold rsD down; rw [if_neg h, if_pos ha]
  rw [rsZ_succ, rsS_succ, hd]; exact ⟨rfl, rfl⟩
theorem rs_rises {st : Int} {C A F T : Nat → Int} {Z : Nat → Int} {s : Int} {k : Nat} (h : ¬ (st < F k ∨ T k ≤ st)) (ha : A k < 0) :
    rsZ st C A F T Z s (k + 1) = upd (rsZ st C A F T Z s k) (C k).toNat (rsZ st C A F T Z s k (C k).toNat - min (-A k) (rsZ st C A F T Z s k (C k).toNat)) ∧ rsS st C A F T Z s (k + 1) = rsS st C A F T Z s k + min (-A k) (rsZ st C A F T Z s k (C k).toNat) := by
  have hd : rsD st C A F T Z s k = -(min (-A k) (rsZ st C A F T Z s k (C k).toNat)) := by unfold rsD down; rw [if_neg h, if_neg (by omega)]
  rw [rsZ_succ, rsS_succ, hd, Int.sub_eq_add_neg (b := min _ _)]; exact ⟨rfl, by omega⟩
/-- what Fall leaves where it takes. -/
def FallP (w : World) (n : Nat) (Z : Nat → Int) (s : Int) (e : Ending) (w' : World) : Prop := ∃ A cap, e = .returned (.tuple #[.slice A n cap, .int .i64 s, .int .i64 0]) ∧ n ≤ cap ∧ OwnAt w' w.heap.size w'.heap.size A n Z ∧ Below w.heap.size w w'
def two (a b : Int) : Nat → Int := fun i => if i = 0 then a else b
theorem ints_lit (w : World) (t : TypeId) (a b : Int) {g : Nat} (hg : g = w.heap.size) : IntsAt (w.alloc (.cells #[.int .i64 a, .int .i64 b] t)) (some ⟨g, 0, none⟩) 2 (two a b) := by
  subst hg
  intro i hi
  refine ⟨_, 0, rfl, by simp, ?_⟩
  rw [World.cell?_alloc_new]
  rcases (show i = 0 ∨ i = 1 by omega) with rfl | rfl <;> rfl
theorem rains_lit (w : World) (t : TypeId) (a b c d a' b' c' d' : Int) {g : Nat} (hg : g = w.heap.size) :
    RainsAt (w.alloc (.cells #[.int .i64 a, .int .i64 b, .int .i64 c, .int .i64 d, .int .i64 a', .int .i64 b', .int .i64 c', .int .i64 d'] t)) (some ⟨g, 0, none⟩) 2 (two a a') (two b b') (two c c') (two d d') := by
  subst hg
  intro i hi
  refine ⟨_, 0, rfl, by simp, ?_, ?_, ?_, ?_⟩ <;> rw [World.cell?_alloc_new] <;> rcases (show i = 0 ∨ i = 1 by omega) with rfl | rfl <;> rfl
theorem IntsAt.alloc {w : World} {A : Option Addr} {n : Nat} {Z : Nat → Int} (h : IntsAt w A n Z) (o : Obj) : IntsAt (w.alloc o) A n Z := h.below ((Below.refl _ _).alloc (Nat.le_refl _) _)
theorem RainsAt.alloc {w : World} {R : Option Addr} {m : Nat} {C A F T : Nat → Int} (h : RainsAt w R m C A F T) (o : Obj) : RainsAt (w.alloc o) R m C A F T := h.below ((Below.refl _ _).alloc (Nat.le_refl _) _)
theorem past1 {w w' : World} {o : Obj} (h : Below (w.alloc o).heap.size (w.alloc o) w') : Below w.heap.size w w' := ((Below.refl _ _).alloc (Nat.le_refl _) o).trans (h.mono (by simp))
theorem join {w w1 w2 : World} (h1 : Below w.heap.size w w1) (h2 : Below w1.heap.size w1 w2) : Below w.heap.size w w2 := h1.trans (h2.mono h1.size)
/-- the same, looked at from an earlier world. -/
def FallQ (w0 : World) (n : Nat) (Z : Nat → Int) (s : Int) (e : Ending) (w' : World) : Prop := ∃ A cap, e = .returned (.tuple #[.slice A n cap, .int .i64 s, .int .i64 0]) ∧ n ≤ cap ∧ OwnAt w' w0.heap.size w'.heap.size A n Z ∧ Below w0.heap.size w0 w'
theorem FallP.q {w0 x : World} {n : Nat} {Z : Nat → Int} {s : Int} {e : Ending} {w' : World} (hb : Below w0.heap.size w0 x) (h : FallP x n Z s e w') : FallQ w0 n Z s e w' := by
  obtain ⟨A, cap, h1, h2, h3, h4⟩ := h
  exact ⟨A, cap, h1, h2, h3.wide hb.size, join hb h4⟩
end TF
