/- Whole numbers as 150 words of 32 bits (not carried on), in memory; carried on. -/
import Derived.OneCell
import Derived.Below
namespace TF
open Go Go.RowKit

def B32 : Int := 4294967296
/-- the number that the first n words are. -/
def S (U : Nat → Int) : Nat → Int
  | 0 => 0
  | n + 1 => S U n + U n * B32 ^ n
def upd (U : Nat → Int) (c : Nat) (v : Int) : Nat → Int := fun i => if i = c then v else U i
theorem upd_at (U : Nat → Int) (c : Nat) (v : Int) : upd U c v c = v := by simp [upd]
theorem upd_off (U : Nat → Int) {c i : Nat} (v : Int) (h : i ≠ c) : upd U c v i = U i := by simp [upd, h]
theorem S_upd (U : Nat → Int) (c : Nat) (d : Int) : ∀ n, S (upd U c (U c + d)) n = S U n + (if c < n then d * B32 ^ c else 0) := by
  intro n
  induction n with
  | zero => simp [S]
  | succ n ih =>
    simp only [S, ih]
    by_cases h : n = c
    · subst h; rw [upd_at, if_neg (by omega), if_pos (by omega), Int.add_mul]; omega
    · rw [upd_off _ _ h]
      by_cases h2 : c < n
      · rw [if_pos h2, if_pos (by omega)]; omega
      · rw [if_neg h2, if_neg (by omega)]; omega
/-- what is carried into word k; word k carried. -/
def cy (U : Nat → Int) : Nat → Int
  | 0 => 0
  | k + 1 => (cy U k + U k) / B32
def dg (U : Nat → Int) (k : Nat) : Int := (cy U k + U k) % B32
theorem cy_bnd {U : Nat → Int} {K : Int} (hK : 1 ≤ K) (h : ∀ i, i < 150 → 0 ≤ U i ∧ U i ≤ K) : ∀ k, k ≤ 150 → 0 ≤ cy U k ∧ cy U k ≤ K := by
  intro k
  induction k with
  | zero => intro _; simp [cy]; omega
  | succ k ih =>
    intro hk
    obtain ⟨h1, h2⟩ := ih (by omega)
    obtain ⟨h3, h4⟩ := h k (by omega)
    simp only [cy, B32]; omega
theorem S_carried (U : Nat → Int) : ∀ n, S U n = S (dg U) n + cy U n * B32 ^ n := by
  intro n
  induction n with
  | zero => simp [S, cy]
  | succ n ih =>
    simp only [S, ih, cy, dg]
    have e := Int.emod_add_mul_ediv (cy U n + U n) B32
    rw [Int.pow_succ]
    generalize hq : (cy U n + U n) / B32 = q at *
    generalize hr : (cy U n + U n) % B32 = r at *
    have : cy U n = r + B32 * q - U n := by omega
    rw [this]
    grind
theorem dg_bnd (U : Nat → Int) (k : Nat) : 0 ≤ dg U k ∧ dg U k < B32 := ⟨Int.emod_nonneg _ (by decide), Int.emod_lt_of_pos _ (by decide)⟩
theorem S_low {D : Nat → Int} (h : ∀ k, 0 ≤ D k ∧ D k < B32) : ∀ n, 0 ≤ S D n ∧ S D n < B32 ^ n := by
  intro n
  induction n with
  | zero => simp [S]
  | succ n ih =>
    obtain ⟨h1, h2⟩ := h n
    have hp : (0 : Int) < B32 ^ n := Int.pow_pos (by decide)
    have e1 : 0 ≤ D n * B32 ^ n := Int.mul_nonneg h1 (by omega)
    have e2 : D n * B32 ^ n ≤ (B32 - 1) * B32 ^ n := Int.mul_le_mul_of_nonneg_right (by omega) (by omega)
    rw [Int.pow_succ]
    simp only [S]
    have e3 : (B32 - 1) * B32 ^ n = B32 ^ n * B32 - B32 ^ n := by grind
    omega
/-- equal numbers are carried to equal words. -/
theorem S_inj {D D' : Nat → Int} (h : ∀ k, 0 ≤ D k ∧ D k < B32) (h' : ∀ k, 0 ≤ D' k ∧ D' k < B32) : ∀ n (c c' : Int), S D n + c * B32 ^ n = S D' n + c' * B32 ^ n → ∀ i, i < n → D i = D' i := by
  intro n
  induction n with
  | zero => intro _ _ _ i hi; omega
  | succ n ih =>
    intro c c' he i hi
    have e1 : S D n + (D n + c * B32) * B32 ^ n = S D' n + (D' n + c' * B32) * B32 ^ n := by
      simp only [S, Int.pow_succ] at he
      grind
    by_cases hin : i = n
    · subst hin
      obtain ⟨l1, l2⟩ := S_low h i
      obtain ⟨l3, l4⟩ := S_low h' i
      have hp : (0 : Int) < B32 ^ i := Int.pow_pos (by decide)
      have e2 : D i + c * B32 = D' i + c' * B32 := by
        have a1 : (S D i + (D i + c * B32) * B32 ^ i) / B32 ^ i = D i + c * B32 := by
          rw [Int.add_mul_ediv_right _ _ (by omega), Int.ediv_eq_zero_of_lt l1 l2]; omega
        have a2 : (S D' i + (D' i + c' * B32) * B32 ^ i) / B32 ^ i = D' i + c' * B32 := by
          rw [Int.add_mul_ediv_right _ _ (by omega), Int.ediv_eq_zero_of_lt l3 l4]; omega
        rw [← a1, ← a2, e1]
      have := h i; have := h' i
      simp only [B32] at *
      omega
    · exact ih _ _ e1 i (by omega)
theorem dg_eq {U V : Nat → Int} (h : S U 150 = S V 150) : ∀ i, i < 150 → dg U i = dg V i := by
  rw [S_carried U, S_carried V] at h
  exact S_inj (dg_bnd U) (dg_bnd V) 150 _ _ h

/-- m * 2^(32 k + n), laid into three words. -/
theorem add_words (m : Int) (k n : Nat) :
    m % B32 * 2 ^ n % B32 * B32 ^ k + (m % B32 * 2 ^ n / B32 + m / B32 * 2 ^ n % B32) * B32 ^ (k + 1) + m / B32 * 2 ^ n / B32 * B32 ^ (k + 2) = m * 2 ^ (32 * k + n) := by
  have e1 := Int.emod_add_mul_ediv (m % B32 * 2 ^ n) B32
  have e2 := Int.emod_add_mul_ediv (m / B32 * 2 ^ n) B32
  have e3 := Int.emod_add_mul_ediv m B32
  have e4 : (2 : Int) ^ (32 * k + n) = B32 ^ k * 2 ^ n := by
    rw [Int.pow_add, Int.pow_mul]; rfl
  rw [e4, Int.pow_succ, Int.pow_succ, Int.pow_succ]
  generalize m % B32 * 2 ^ n % B32 = a at *
  generalize m % B32 * 2 ^ n / B32 = b at *
  generalize m / B32 * 2 ^ n % B32 = c at *
  generalize m / B32 * 2 ^ n / B32 = d at *
  generalize hx : m % B32 = x at *
  generalize hy : m / B32 = y at *
  generalize B32 ^ k = p at *
  generalize (2 : Int) ^ n = q at *
  rw [← e3]
  have f1 : a = x * q - B32 * b := by omega
  have f2 : c = y * q - B32 * d := by omega
  rw [f1, f2]
  grind

/-- The words at block B are U. -/
def WAt (w : World) (B : Nat) (U : Nat → Int) : Prop := ∀ i, i < 150 → w.cell? ⟨B, i, none⟩ = some (.int .u64 (U i)) ∧ w.frozen? ⟨B, i, none⟩ = false
theorem WAt.stored {w : World} {B : Nat} {U : Nat → Int} (h : WAt w B U) (c : Nat) (v : Int) : WAt (w.setCell ⟨B, c, none⟩ (.int .u64 v)) B (upd U c v) := by
  intro i hi
  obtain ⟨h1, h2⟩ := h i hi
  refine ⟨?_, by simpa using h2⟩
  by_cases e : i = c
  · subst e; rw [World.cell?_setCell_same _ _ _ h1, upd_at]
  · rw [World.cell?_setCell_other _ _ _ _ (by intro e1; injection e1 with _ e2; omega), upd_off _ _ e]; exact h1
theorem WAt.far {w : World} {B : Nat} {U : Nat → Int} (h : WAt w B U) {B' c : Nat} (hB : B' ≠ B) (v : Value) : WAt (w.setCell ⟨B', c, none⟩ v) B U := by
  intro i hi
  obtain ⟨h1, h2⟩ := h i hi
  refine ⟨?_, by simpa using h2⟩
  rw [World.cell?_setCell_other _ _ _ _ (by intro e1; injection e1; omega)]; exact h1
theorem WAt.below {w w' : World} {B : Nat} {U : Nat → Int} (h : WAt w B U) {lim : Nat} (hb : Below lim w w') (hB : B < lim) : WAt w' B U := by
  intro i hi
  obtain ⟨h1, h2⟩ := h i hi
  exact ⟨by rw [hb.cell (p := ⟨B, i, none⟩) hB]; exact h1, by rw [hb.frozen (p := ⟨B, i, none⟩) hB]; exact h2⟩
/-- a block of 150 cells, none of them frozen. -/
def Shape (w : World) (B : Nat) : Prop := ∃ cs t, w.heap[B]? = some (.cells cs t (0, 0)) ∧ cs.size = 150
theorem Shape.stored {w : World} {B : Nat} (h : Shape w B) (B' c : Nat) (v : Value) : Shape (w.setCell ⟨B', c, none⟩ v) B := by
  obtain ⟨cs, t, h1, h2⟩ := h
  by_cases e : B' = B
  · subst e
    refine ⟨cs.setIfInBounds c v, t, ?_, by simpa using h2⟩
    simp only [World.setCell, Array.getElem?_modify, h1]
    simp
  · exact ⟨cs, t, (Below.heap_setCell _ _ _ _ (by show B ≠ B'; omega)).trans h1, h2⟩
theorem Shape.below {w w' : World} {B : Nat} (h : Shape w B) {lim : Nat} (hb : Below lim w w') (hB : B < lim) : Shape w' B := by
  obtain ⟨cs, t, h1, h2⟩ := h
  exact ⟨cs, t, (hb.block B hB).trans h1, h2⟩
/-- all else stays. -/
structure Only (w w' : World) (B : Nat) : Prop where
  below : ∀ (w0 : World) (lim : Nat), lim ≤ B → Below lim w0 w → Below lim w0 w'
  other : ∀ (B' : Nat) (U : Nat → Int), B ≠ B' → WAt w B' U → WAt w' B' U
  shape : ∀ B' : Nat, Shape w B' → Shape w' B'
theorem Only.three {w : World} {B a b c : Nat} {x y z : Value} : Only w (((w.setCell ⟨B, a, none⟩ x).setCell ⟨B, b, none⟩ y).setCell ⟨B, c, none⟩ z) B where
  below := fun _ _ hl hb => ((hb.setCell hl _).setCell hl _).setCell hl _
  other := fun _ _ hn h => ((h.far hn _).far hn _).far hn _
  shape := fun _ h => ((h.stored _ _ _).stored _ _ _).stored _ _ _
theorem Only.drew {w w' : World} {B : Nat} (h : Only w w' B) : Only w w'.drew B := ⟨fun w0 lim hl hb => (h.below w0 lim hl hb).drew, fun B' U hn hW => h.other B' U hn hW, fun B' hs => h.shape B' hs⟩
theorem Only.self (w : World) (B : Nat) : Only w w B := ⟨fun _ _ _ h => h, fun _ _ _ h => h, fun _ h => h⟩
theorem Only.trans {w w1 w2 : World} {B : Nat} (h : Only w w1 B) (k : Only w1 w2 B) : Only w w2 B := ⟨fun w0 lim hl hb => k.below w0 lim hl (h.below w0 lim hl hb), fun B' U hn hW => k.other B' U hn (h.other B' U hn hW), fun B' hs => k.shape B' (h.shape B' hs)⟩

/-- the words, carried on up to the k-th, in an array. -/
def DA (U : Nat → Int) (k : Nat) : Array Value := Array.ofFn (n := 150) fun i => if i.val < k then .int .u64 (dg U i.val) else .int .u64 0
theorem DA_size (U : Nat → Int) (k : Nat) : (DA U k).size = 150 := by simp [DA]
theorem DA_one (U : Nat → Int) (k : Nat) : (DA U k).all (·.oneCell') = true := by
  rw [Array.all_eq_true]
  intro i hi
  simp only [DA, Array.getElem_ofFn]
  split <;> rfl
theorem DA_at (U : Nat → Int) {i : Nat} (hi : i < 150) : (DA U 150)[i]? = some (.int .u64 (dg U i)) := by
  rw [Array.getElem?_eq_getElem (by rw [DA_size]; exact hi)]
  simp [DA]
theorem DA_step (U : Nat → Int) (k : Nat) : (DA U k).setIfInBounds k (.int .u64 (dg U k)) = DA U (k + 1) := by
  apply Array.ext
  · simp [DA_size]
  · intro i h1 h2
    rw [DA_size] at h2
    rw [Array.getElem_setIfInBounds (by simpa using h1)]
    simp only [DA, Array.getElem_ofFn]
    by_cases h : k = i
    · subst h; simp
    · rw [if_neg h]
      by_cases h3 : i < k
      · rw [if_pos h3, if_pos (by omega)]
      · rw [if_neg h3, if_neg (by omega)]
theorem DA_zero (U : Nat → Int) : DA U 0 = Array.replicate 150 (.int .u64 0) := by
  apply Array.ext
  · simp [DA_size]
  · intro i h1 h2; simp [DA]
theorem DA_eq {U V : Nat → Int} (h : S U 150 = S V 150) : DA U 150 = DA V 150 := by
  apply Array.ext
  · simp [DA_size]
  · intro i h1 h2
    rw [DA_size] at h2
    simp [DA, dg_eq h i h2]
end TF
