/- Whole numbers as 70 words of 64 bits: sums and differences, carried on. -/
import Derived.OneCell
import Derived.Below
namespace TF
open Go Go.RowKit

/-- the number that the first n words are. -/
def SW (U : Nat → Int) : Nat → Int
  | 0 => 0
  | n + 1 => SW U n + U n * 18446744073709551616 ^ n
def WOk (U : Nat → Int) : Prop := ∀ i, 0 ≤ U i ∧ U i < 18446744073709551616
theorem SW_low {D : Nat → Int} (h : ∀ k, 0 ≤ D k ∧ D k < 18446744073709551616) : ∀ n, 0 ≤ SW D n ∧ SW D n < 18446744073709551616 ^ n := by
  intro n
  induction n with
  | zero => simp [SW]
  | succ n ih =>
    obtain ⟨h1, h2⟩ := h n
    have hp : (0 : Int) < 18446744073709551616 ^ n := Int.pow_pos (by decide)
    have e1 : 0 ≤ D n * 18446744073709551616 ^ n := Int.mul_nonneg h1 (by omega)
    have e2 : D n * 18446744073709551616 ^ n ≤ (18446744073709551616 - 1) * 18446744073709551616 ^ n := Int.mul_le_mul_of_nonneg_right (by omega) (by omega)
    rw [Int.pow_succ]
    simp only [SW]
    have e3 : ((18446744073709551616 : Int) - 1) * 18446744073709551616 ^ n = 18446744073709551616 ^ n * 18446744073709551616 - 18446744073709551616 ^ n := by grind
    omega
theorem SW_ext {U V : Nat → Int} : ∀ n, (∀ i, i < n → U i = V i) → SW U n = SW V n := by
  intro n
  induction n with
  | zero => intro _; rfl
  | succ n ih => intro h; simp only [SW]; rw [ih (fun i hi => h i (by omega)), h n (by omega)]
theorem SW_zero : ∀ n, SW (fun _ => 0) n = 0 := by
  intro n
  induction n with
  | zero => rfl
  | succ n ih => simp only [SW, ih]; simp
/-- what is carried into word k of a sum; its word k. -/
def ca (U A : Nat → Int) : Nat → Int
  | 0 => 0
  | k + 1 => (U k + A k + ca U A k) / 18446744073709551616
def ad (U A : Nat → Int) (k : Nat) : Int := (U k + A k + ca U A k) % 18446744073709551616
theorem ca_bit {U A : Nat → Int} (hU : WOk U) (hA : WOk A) : ∀ k, ca U A k = 0 ∨ ca U A k = 1 := by
  intro k
  induction k with
  | zero => exact .inl rfl
  | succ k ih =>
    have := hU k; have := hA k
    simp only [ca]; omega
theorem ad_ok (U A : Nat → Int) : WOk (ad U A) := fun _ => ⟨Int.emod_nonneg _ (by decide), Int.emod_lt_of_pos _ (by decide)⟩
theorem SW_ad (U A : Nat → Int) : ∀ n, SW (ad U A) n + ca U A n * 18446744073709551616 ^ n = SW U n + SW A n := by
  intro n
  induction n with
  | zero => simp [SW, ca]
  | succ n ih =>
    simp only [SW, ca]
    have e := Int.emod_add_mul_ediv (U n + A n + ca U A n) 18446744073709551616
    have ea : ad U A n = (U n + A n + ca U A n) % 18446744073709551616 := rfl
    rw [← ea] at e
    rw [Int.pow_succ]
    generalize (U n + A n + ca U A n) / 18446744073709551616 = q at *
    generalize ad U A n = r at *
    generalize (18446744073709551616 : Int) ^ n = p at *
    have e2 : ca U A n = r + 18446744073709551616 * q - U n - A n := by omega
    rw [e2] at ih
    have : SW (ad U A) n = SW U n + SW A n - (r + 18446744073709551616 * q - U n - A n) * p := by omega
    rw [this]; grind
/-- the same of a difference. -/
def br (U A : Nat → Int) : Nat → Int
  | 0 => 0
  | k + 1 => if U k < A k + br U A k then 1 else 0
def sb (U A : Nat → Int) (k : Nat) : Int := (U k + 18446744073709551616 - A k - br U A k) % 18446744073709551616
theorem br_bit (U A : Nat → Int) : ∀ k, br U A k = 0 ∨ br U A k = 1 := by
  intro k
  cases k with
  | zero => exact .inl rfl
  | succ k => simp only [br]; split <;> simp
theorem sb_ok (U A : Nat → Int) : WOk (sb U A) := fun _ => ⟨Int.emod_nonneg _ (by decide), Int.emod_lt_of_pos _ (by decide)⟩
theorem SW_sb {U A : Nat → Int} (hU : WOk U) (hA : WOk A) : ∀ n, SW (sb U A) n - br U A n * 18446744073709551616 ^ n = SW U n - SW A n := by
  intro n
  induction n with
  | zero => simp [SW, br]
  | succ n ih =>
    have h1 := hU n; have h2 := hA n; have h3 := br_bit U A n
    have e : sb U A n = U n - A n - br U A n + 18446744073709551616 * br U A (n + 1) := by
      simp only [sb, br]; split <;> omega
    simp only [SW]
    rw [e, Int.pow_succ]
    generalize br U A (n + 1) = q at *
    generalize br U A n = r at *
    generalize (18446744073709551616 : Int) ^ n = p at *
    have : SW (sb U A) n = SW U n - SW A n + r * p := by omega
    rw [this]; grind
/-- the words stand for X, without regard to the 70th power. -/
structure Is (U : Nat → Int) (X : Int) : Prop where
  ok : WOk U
  eq : SW U 70 = X % 18446744073709551616 ^ 70
theorem pow70_pos : (0 : Int) < 18446744073709551616 ^ 70 := Int.pow_pos (by decide)
theorem Is.zero : Is (fun _ => 0) 0 := ⟨fun _ => by omega, by rw [SW_zero]; simp⟩
theorem Is.add {U A : Nat → Int} {X Y : Int} (h : Is U X) (hY : SW A 70 = Y) : Is (ad U A) (X + Y) := by
  refine ⟨ad_ok U A, ?_⟩
  have h1 := SW_ad U A 70
  have h2 := SW_low (ad_ok U A) 70
  rw [h.eq, hY] at h1
  have h3 := Int.mul_ediv_add_emod X (18446744073709551616 ^ 70)
  generalize (18446744073709551616 : Int) ^ 70 = p at *
  have e : SW (ad U A) 70 = (X + Y) + p * (-(X / p) - ca U A 70) := by grind
  have e2 : (X + Y) % p = SW (ad U A) 70 % p := by rw [e, Int.add_mul_emod_self_left]
  rw [e2, Int.emod_eq_of_lt h2.1 h2.2]
theorem Is.sub {U A : Nat → Int} {X Y : Int} (h : Is U X) (hA : WOk A) (hY : SW A 70 = Y) : Is (sb U A) (X - Y) := by
  refine ⟨sb_ok U A, ?_⟩
  have h1 := SW_sb h.ok hA 70
  have h2 := SW_low (sb_ok U A) 70
  rw [h.eq, hY] at h1
  have h3 := Int.mul_ediv_add_emod X (18446744073709551616 ^ 70)
  generalize (18446744073709551616 : Int) ^ 70 = p at *
  have e : SW (sb U A) 70 = (X - Y) + p * (-(X / p) + br U A 70) := by grind
  have e2 : (X - Y) % p = SW (sb U A) 70 % p := by rw [e, Int.add_mul_emod_self_left]
  rw [e2, Int.emod_eq_of_lt h2.1 h2.2]
/-- of a sum of sums. -/
theorem Is.plus {U A : Nat → Int} {X Y : Int} (h : Is U X) (hA : Is A Y) : Is (ad U A) (X + Y) := by
  have h1 := h.add hA.eq
  refine ⟨h1.ok, ?_⟩
  rw [h1.eq, Int.add_emod_emod]

/-- a number of 128 bits, moved up by at words and sh bits, in words. -/
def lw (hi lo : Int) (at' sh : Nat) (i : Nat) : Int :=
  if i = at' then lo * 2 ^ sh % 18446744073709551616 else if i = at' + 1 then hi * 2 ^ sh % 18446744073709551616 + lo * 2 ^ sh / 18446744073709551616 else if i = at' + 2 then hi * 2 ^ sh / 18446744073709551616 else 0
theorem SW_three {A : Nat → Int} {k n : Nat} (hk : k + 2 < n) (h : ∀ i, i ≠ k → i ≠ k + 1 → i ≠ k + 2 → A i = 0) : SW A n = (A k + A (k + 1) * 18446744073709551616 + A (k + 2) * 18446744073709551616 ^ 2) * 18446744073709551616 ^ k := by
  have low : ∀ m, m ≤ k → SW A m = 0 := by
    intro m
    induction m with
    | zero => intro _; rfl
    | succ m ih => intro hm; simp only [SW]; rw [ih (by omega), h m (by omega) (by omega) (by omega)]; simp
  have h3 : SW A (k + 3) = (A k + A (k + 1) * 18446744073709551616 + A (k + 2) * 18446744073709551616 ^ 2) * 18446744073709551616 ^ k := by
    simp only [SW, low k (Nat.le_refl _), Int.pow_succ]; grind
  have up : ∀ m, SW A (k + 3 + m) = SW A (k + 3) := by
    intro m
    induction m with
    | zero => rfl
    | succ m ih =>
      show SW A (k + 3 + m) + A (k + 3 + m) * _ = _
      rw [ih, h (k + 3 + m) (by omega) (by omega) (by omega)]; simp
  obtain ⟨m, rfl⟩ : ∃ m, n = k + 3 + m := ⟨n - (k + 3), by omega⟩
  rw [up, h3]
theorem lw_sum {hi lo : Int} {k sh : Nat} (h : k + 2 < 70) : SW (lw hi lo k sh) 70 = (hi * 18446744073709551616 + lo) * 2 ^ (64 * k + sh) := by
  rw [SW_three h (fun i h1 h2 h3 => by unfold lw; rw [if_neg h1, if_neg h2, if_neg h3])]
  have e0 : lw hi lo k sh k = lo * 2 ^ sh % 18446744073709551616 := if_pos rfl
  have e1 : lw hi lo k sh (k + 1) = hi * 2 ^ sh % 18446744073709551616 + lo * 2 ^ sh / 18446744073709551616 := by unfold lw; rw [if_neg (by omega), if_pos rfl]
  have e2 : lw hi lo k sh (k + 2) = hi * 2 ^ sh / 18446744073709551616 := by unfold lw; rw [if_neg (by omega), if_neg (by omega), if_pos rfl]
  rw [e0, e1, e2, Int.pow_add, Int.pow_mul, show (2 : Int) ^ 64 = 18446744073709551616 from rfl]
  have f1 := Int.emod_add_mul_ediv (lo * 2 ^ sh) 18446744073709551616
  have f2 := Int.emod_add_mul_ediv (hi * 2 ^ sh) 18446744073709551616
  generalize lo * 2 ^ sh % 18446744073709551616 = a at *
  generalize lo * 2 ^ sh / 18446744073709551616 = b at *
  generalize hi * 2 ^ sh % 18446744073709551616 = c at *
  generalize hi * 2 ^ sh / 18446744073709551616 = d at *
  generalize (18446744073709551616 : Int) ^ k = p
  generalize (2 : Int) ^ sh = q at *
  have g1 : a = lo * q - 18446744073709551616 * b := by omega
  have g2 : c = hi * q - 18446744073709551616 * d := by omega
  rw [g1, g2]; grind
theorem lw_ok {hi lo : Int} {k sh : Nat} (h0 : 0 ≤ hi) (h1 : hi < 18446744073709551616) (l0 : 0 ≤ lo) (l1 : lo < 18446744073709551616) (hs : sh < 64) : WOk (lw hi lo k sh) := by
  have hp : (2 : Int) ^ sh * 2 ^ (64 - sh) = 18446744073709551616 := by
    rw [← Int.pow_add, show sh + (64 - sh) = 64 by omega]; rfl
  have hq : (0 : Int) < 2 ^ sh := Int.pow_pos (by decide)
  have hq2 : (0 : Int) < 2 ^ (64 - sh) := Int.pow_pos (by decide)
  intro i
  unfold lw
  split
  · omega
  · split
    · have hlo : lo * 2 ^ sh / 18446744073709551616 < 2 ^ sh := by
        refine Int.ediv_lt_of_lt_mul (by decide) ?_
        rw [Int.mul_comm]; exact Int.mul_lt_mul_of_pos_left l1 hq
      have hlo0 : 0 ≤ lo * 2 ^ sh / 18446744073709551616 := Int.ediv_nonneg (Int.mul_nonneg l0 (by omega)) (by decide)
      have hhi : hi * 2 ^ sh % 18446744073709551616 ≤ 18446744073709551616 - 2 ^ sh := by
        have e : hi * 2 ^ sh % 18446744073709551616 = hi % 2 ^ (64 - sh) * 2 ^ sh := by
          rw [← hp, Int.mul_comm hi, Int.mul_emod_mul_of_pos _ _ hq, Int.mul_comm]
        have h3 := Int.emod_lt_of_pos hi hq2
        rw [e]
        have h4 : hi % 2 ^ (64 - sh) * 2 ^ sh ≤ (2 ^ (64 - sh) - 1) * 2 ^ sh := Int.mul_le_mul_of_nonneg_right (by omega) (by omega)
        rw [Int.sub_mul, Int.one_mul, Int.mul_comm (2 ^ (64 - sh)), hp] at h4
        exact h4
      have hhi0 := Int.emod_nonneg (hi * 2 ^ sh) (show (18446744073709551616 : Int) ≠ 0 by decide)
      omega
    · split
      · have : hi * 2 ^ sh / 18446744073709551616 < 2 ^ sh := by
          refine Int.ediv_lt_of_lt_mul (by decide) ?_
          rw [Int.mul_comm]; exact Int.mul_lt_mul_of_pos_left h1 hq
        have h0' : 0 ≤ hi * 2 ^ sh / 18446744073709551616 := Int.ediv_nonneg (Int.mul_nonneg h0 (by omega)) (by decide)
        have : (2 : Int) ^ sh ≤ 18446744073709551616 := by
          have : (2 : Int) ^ sh * 1 ≤ 2 ^ sh * 2 ^ (64 - sh) := Int.mul_le_mul_of_nonneg_left (by omega) (by omega)
          omega
        omega
      · omega
end TF
