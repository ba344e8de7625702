/- The reference's limbs, carried; their bits. -/
import Derived.Test.YtneedadoafcfcaaRfN
import Derived.Test.YtneedadoafcfcaaAccZ
namespace TF
open Ieee Go Go.RowKit

def cR (l : Nat → Int) : Nat → Int
  | 0 => 0
  | n + 1 => (l n + cR l n) / 4294967296
def dR (l : Nat → Int) (n : Nat) : Int := (l n + cR l n) % 4294967296
theorem dR_range (l : Nat → Int) (n : Nat) : 0 ≤ dR l n ∧ dR l n < 4294967296 := by unfold dR; omega
theorem SR_dR (l : Nat → Int) : ∀ n, SR (dR l) n + cR l n * 4294967296 ^ n = SR l n := by
  intro n
  induction n with
  | zero => simp [SR, cR]
  | succ n ih =>
    simp only [SR]
    rw [← ih]
    show SR (dR l) n + dR l n * 4294967296 ^ n + (l n + cR l n) / 4294967296 * 4294967296 ^ (n + 1) = SR (dR l) n + cR l n * 4294967296 ^ n + l n * 4294967296 ^ n
    unfold dR
    have hd := Int.emod_add_mul_ediv (l n + cR l n) 4294967296
    rw [Int.pow_succ]
    generalize (4294967296 : Int) ^ n = p
    generalize (l n + cR l n) % 4294967296 = u at *
    generalize (l n + cR l n) / 4294967296 = v at *
    have : l n = u + 4294967296 * v - cR l n := by omega
    rw [this]
    grind
theorem cR_small {l : Nat → Int} (h : ∀ i, i < 136 → -36028797018963968 ≤ l i ∧ l i ≤ 36028797018963968) : ∀ n, n ≤ 136 → -36028797018963968 ≤ cR l n ∧ cR l n ≤ 36028797018963968 := by
  intro n
  induction n with
  | zero => intro _; exact ⟨by show (-36028797018963968 : Int) ≤ 0; decide, by show (0 : Int) ≤ 36028797018963968; decide⟩
  | succ n ih =>
    intro hn
    have h1 := ih (by omega)
    have h2 := h n (by omega)
    have e : cR l (n + 1) = (l n + cR l n) / 4294967296 := rfl
    omega
structure LOk (d : Nat → Int) : Prop where
  r : ∀ i, 0 ≤ d i ∧ d i < 4294967296
theorem SR_low {d : Nat → Int} (h : LOk d) : ∀ n, 0 ≤ SR d n ∧ SR d n < 4294967296 ^ n := by
  intro n
  induction n with
  | zero => simp [SR]
  | succ n ih =>
    obtain ⟨h1, h2⟩ := h.r n
    have hp : (0 : Int) < 4294967296 ^ n := Int.pow_pos (by decide)
    have h3 : 0 ≤ d n * 4294967296 ^ n := Int.mul_nonneg h1 (by omega)
    have h4 : d n * 4294967296 ^ n ≤ 4294967295 * 4294967296 ^ n := Int.mul_le_mul_of_nonneg_right (by omega) (by omega)
    simp only [SR]
    rw [Int.pow_succ]
    generalize (4294967296 : Int) ^ n = p at *
    omega
theorem dR_ok (l : Nat → Int) : LOk (dR l) := ⟨dR_range l⟩
theorem P_pow (k : Nat) : (4294967296 : Int) ^ k = ((2 ^ (32 * k) : Nat) : Int) := by rw [Nat.pow_mul]; simp
theorem big_limbs {g : AccG} (h : GOk g) : -(4294967296 ^ 136) < g.X ∧ g.X < 4294967296 ^ 136 := by
  obtain ⟨m, hm⟩ : ∃ m, m = 32 * 136 := ⟨_, rfl⟩
  rw [P_pow, ← hm]
  have hD : DB = 4224 := rfl
  have hB : BIG = ((2 ^ DB : Nat) : Int) := rfl
  have e2 : 2 ^ DB * 1048576 < 2 ^ m := by
    rw [show (1048576 : Nat) = 2 ^ 20 from rfl, ← Nat.pow_add]
    exact Nat.pow_lt_pow_right (by omega) (by omega)
  have e3 : g.cnt * BIG ≤ ((2 ^ DB * 1048576 : Nat) : Int) := by
    rw [hB, Int.natCast_mul, Int.mul_comm]
    exact Int.mul_le_mul_of_nonneg_left h.c9 (Int.natCast_nonneg _)
  have e4 : ((2 ^ DB * 1048576 : Nat) : Int) < ((2 ^ m : Nat) : Int) := Int.ofNat_lt.2 e2
  have h1 := h.lo
  have h2 := h.hi
  constructor <;> omega
theorem carry_end {l : Nat → Int} {X : Int} (h : SR l 136 = X) (_lo : -(4294967296 ^ 136) < X) (hi : X < 4294967296 ^ 136) :
    (0 ≤ cR l 136 → 0 ≤ X ∧ SR (dR l) 136 = X) ∧ (cR l 136 < 0 → X < 0) := by
  have e := SR_dR l 136
  obtain ⟨s1, s2⟩ := SR_low (dR_ok l) 136
  rw [h] at e
  generalize SR (dR l) 136 = S at *
  generalize cR l 136 = c at *
  generalize (4294967296 : Int) ^ 136 = P at *
  constructor
  · intro hc
    have : c = 0 := by
      rcases (show c = 0 ∨ 1 ≤ c by omega) with h1 | h1
      · exact h1
      · have := Int.mul_le_mul_of_nonneg_right h1 (show 0 ≤ P by omega)
        omega
    rw [this, Int.zero_mul, Int.add_zero] at e
    omega
  · intro hc
    have := Int.mul_le_mul_of_nonneg_right (show c ≤ -1 by omega) (show 0 ≤ P by omega)
    omega
/-- a number's digits. -/
structure DigR (d : Nat → Int) (N : Nat) : Prop where
  ok : LOk d
  eq : SR d 136 = N
theorem SR_split (d : Nat → Int) (k : Nat) : ∀ m, SR d (k + m) = SR d k + SR (fun i => d (k + i)) m * 4294967296 ^ k := by
  intro m
  induction m with
  | zero => simp [SR]
  | succ m ih =>
    rw [← Nat.add_assoc]
    show SR d (k + m) + d (k + m) * 4294967296 ^ (k + m) = _
    rw [ih]
    show _ = SR d k + (SR (fun i => d (k + i)) m + d (k + m) * 4294967296 ^ m) * 4294967296 ^ k
    rw [Int.pow_add, Int.add_mul]
    generalize (4294967296 : Int) ^ k = p
    generalize (4294967296 : Int) ^ m = q
    grind
theorem DigR.high {d : Nat → Int} {N : Nat} (h : DigR d N) {k : Nat} (hk : k < 136) : (N : Int) / 4294967296 ^ k = SR (fun i => d (k + i)) (136 - k) := by
  have e := SR_split d k (136 - k)
  rw [show k + (136 - k) = 136 by omega, h.eq] at e
  have hp : (0 : Int) < 4294967296 ^ k := Int.pow_pos (by decide)
  obtain ⟨l1, l2⟩ := SR_low h.ok k
  rw [e, Int.add_mul_ediv_right _ _ (by omega), Int.ediv_eq_zero_of_lt l1 l2]; omega
theorem SR_first (d : Nat → Int) (n : Nat) : ∃ z, SR d (n + 1) = d 0 + 4294967296 * z := by
  have e := SR_split d 1 n
  rw [Nat.add_comm 1 n] at e
  refine ⟨SR (fun i => d (1 + i)) n, ?_⟩
  rw [e]
  show 0 + d 0 * 4294967296 ^ 0 + _ = _
  rw [Int.pow_zero, Int.mul_one, Int.zero_add, Int.pow_one, Int.mul_comm]
theorem DigR.word {d : Nat → Int} {N : Nat} (h : DigR d N) {k : Nat} (hk : k < 136) : ((N / 2 ^ (32 * k) % 4294967296 : Nat) : Int) = d k := by
  have e := h.high hk
  obtain ⟨z, hz⟩ := SR_first (fun i => d (k + i)) (136 - k - 1)
  rw [show 136 - k - 1 + 1 = 136 - k by omega] at hz
  rw [hz, P_pow] at e
  have hd := h.ok.r k
  have e2 : ((N / 2 ^ (32 * k) : Nat) : Int) = d k + 4294967296 * z := by rw [Int.natCast_ediv]; simpa using e
  omega
theorem DigR.lt {d : Nat → Int} {N : Nat} (h : DigR d N) : N < 2 ^ (32 * 136) := by
  have := (SR_low h.ok 136).2
  rw [h.eq, P_pow] at this
  omega
theorem DigR.bit {d : Nat → Int} {N : Nat} (h : DigR d N) {k r : Nat} (hk : k < 136) (hr : r < 32) : ((N / 2 ^ (32 * k + r) % 2 : Nat) : Int) = d k / ((2 ^ r : Nat) : Int) % 2 := by
  have e := h.word hk
  rw [← e, ← Int.natCast_ediv]
  have hp : (4294967296 : Nat) = 2 ^ r * 2 ^ (32 - r) := by rw [← Nat.pow_add, show r + (32 - r) = 32 by omega]
  have e2 : N / 2 ^ (32 * k) % 4294967296 / 2 ^ r % 2 = N / 2 ^ (32 * k + r) % 2 := by
    rw [Nat.pow_add, ← Nat.div_div_eq_div_mul]
    generalize N / 2 ^ (32 * k) = m
    rw [hp, Nat.mod_mul_right_div_self]
    obtain ⟨t, ht⟩ : ∃ t, 2 ^ (32 - r) = 2 * t := ⟨2 ^ (32 - r - 1), by rw [← Nat.pow_succ']; congr 1; omega⟩
    rw [ht, Nat.mod_mul_right_mod]
  omega
/-- the digits of a sum's magnitude. -/
theorem dig_pos {l : Nat → Int} {X : Int} (h : SR l 136 = X) (lo : -(4294967296 ^ 136) < X) (hi : X < 4294967296 ^ 136) (hc : 0 ≤ cR l 136) : 0 ≤ X ∧ DigR (dR l) X.natAbs := by
  obtain ⟨h1, h2⟩ := (carry_end h lo hi).1 hc
  exact ⟨h1, dR_ok l, by rw [h2]; omega⟩
theorem dig_neg {l : Nat → Int} {X : Int} (h : SR l 136 = X) (lo : -(4294967296 ^ 136) < X) (hi : X < 4294967296 ^ 136) (hc : cR l 136 < 0) : X < 0 ∧ 0 ≤ cR (fun i => -l i) 136 ∧ DigR (dR (fun i => -l i)) X.natAbs := by
  have h1 := (carry_end h lo hi).2 hc
  have h2 : SR (fun i => -l i) 136 = -X := by rw [SR_neg, h]
  generalize hP : (4294967296 : Int) ^ 136 = P at *
  have h3 : 0 ≤ cR (fun i => -l i) 136 := by
    rcases Int.lt_or_le (cR (fun i => -l i) 136) 0 with h4 | h4
    · have := (carry_end h2 (by rw [hP]; omega) (by rw [hP]; omega)).2 h4
      omega
    · exact h4
  obtain ⟨h5, h6⟩ := (carry_end h2 (by rw [hP]; omega) (by rw [hP]; omega)).1 h3
  exact ⟨h1, h3, dR_ok _, by rw [h6]; omega⟩
end TF
