/- A sum rounded: bits, the highest, the nearest float. -/
import Derived.Test.YtneedadoafcfcaaAccG
namespace TF
open Ieee Go Go.RowKit

/-- the number, word by word. -/
structure Digs (d : Nat → Int) (N : Nat) : Prop where
  ok : WOk d
  eq : SW d 70 = N
theorem SW_split (d : Nat → Int) (k : Nat) : ∀ m, SW d (k + m) = SW d k + SW (fun i => d (k + i)) m * 18446744073709551616 ^ k := by
  intro m
  induction m with
  | zero => simp [SW]
  | succ m ih =>
    rw [← Nat.add_assoc]
    show SW d (k + m) + d (k + m) * 18446744073709551616 ^ (k + m) = _
    rw [ih]
    show _ = SW d k + (SW (fun i => d (k + i)) m + d (k + m) * 18446744073709551616 ^ m) * 18446744073709551616 ^ k
    rw [Int.pow_add, Int.add_mul]
    generalize (18446744073709551616 : Int) ^ k = p
    generalize (18446744073709551616 : Int) ^ m = q
    grind
theorem W_pow (k : Nat) : (18446744073709551616 : Int) ^ k = ((2 ^ (64 * k) : Nat) : Int) := by
  rw [Nat.pow_mul]; simp
/-- the number above word k. -/
theorem Digs.high {d : Nat → Int} {N : Nat} (h : Digs d N) {k : Nat} (hk : k < 70) : (N : Int) / 18446744073709551616 ^ k = SW (fun i => d (k + i)) (70 - k) := by
  have e := SW_split d k (70 - k)
  rw [show k + (70 - k) = 70 by omega, h.eq] at e
  have hp : (0 : Int) < 18446744073709551616 ^ k := Int.pow_pos (by decide)
  obtain ⟨l1, l2⟩ := SW_low h.ok k
  rw [e, Int.add_mul_ediv_right _ _ (by omega), Int.ediv_eq_zero_of_lt l1 l2]; omega
theorem SW_first (d : Nat → Int) (n : Nat) : ∃ z, SW d (n + 1) = d 0 + 18446744073709551616 * z := by
  have e := SW_split d 1 n
  rw [Nat.add_comm 1 n] at e
  refine ⟨SW (fun i => d (1 + i)) n, ?_⟩
  rw [e]
  show 0 + d 0 * 18446744073709551616 ^ 0 + _ = _
  rw [Int.pow_zero, Int.mul_one, Int.zero_add, Int.pow_one, Int.mul_comm]
theorem Digs.word {d : Nat → Int} {N : Nat} (h : Digs d N) {k : Nat} (hk : k < 70) : ((N / 2 ^ (64 * k) % 18446744073709551616 : Nat) : Int) = d k := by
  have e := h.high hk
  obtain ⟨z, hz⟩ := SW_first (fun i => d (k + i)) (70 - k - 1)
  rw [show 70 - k - 1 + 1 = 70 - k by omega] at hz
  rw [hz, W_pow] at e
  have hd := h.ok k
  have e2 : ((N / 2 ^ (64 * k) : Nat) : Int) = d k + 18446744073709551616 * z := by rw [Int.natCast_ediv]; simpa using e
  omega
theorem Digs.lt {d : Nat → Int} {N : Nat} (h : Digs d N) : N < 2 ^ (64 * 70) := by
  have := (SW_low h.ok 70).2
  rw [h.eq, W_pow] at this
  omega
/-- bit by bit. -/
theorem Digs.bit {d : Nat → Int} {N : Nat} (h : Digs d N) {k r : Nat} (hk : k < 70) (hr : r < 64) : ((N / 2 ^ (64 * k + r) % 2 : Nat) : Int) = d k / ((2 ^ r : Nat) : Int) % 2 := by
  have e := h.word hk
  rw [← e, ← Int.natCast_ediv]
  have hp : (18446744073709551616 : Nat) = 2 ^ r * 2 ^ (64 - r) := by rw [← Nat.pow_add, show r + (64 - r) = 64 by omega]
  have e2 : N / 2 ^ (64 * k) % 18446744073709551616 / 2 ^ r % 2 = N / 2 ^ (64 * k + r) % 2 := by
    rw [Nat.pow_add, ← Nat.div_div_eq_div_mul]
    generalize N / 2 ^ (64 * k) = m
    rw [hp, Nat.mod_mul_right_div_self]
    obtain ⟨t, ht⟩ : ∃ t, 2 ^ (64 - r) = 2 * t := ⟨2 ^ (64 - r - 1), by rw [← Nat.pow_succ']; congr 1; omega⟩
    rw [ht, Nat.mod_mul_right_mod]
  omega
/-- what lies below a place. -/
theorem Digs.low {d : Nat → Int} {N : Nat} (h : Digs d N) {k r : Nat} (hk : k < 70) (hr : r < 64) : ((N % 2 ^ (64 * k + r) : Nat) : Int) = SW d k + d k % ((2 ^ r : Nat) : Int) * 18446744073709551616 ^ k := by
  have e := h.word hk
  have e3 : ((N % 2 ^ (64 * k) : Nat) : Int) = SW d k := by
    have e4 := SW_split d k (70 - k)
    rw [show k + (70 - k) = 70 by omega, h.eq, W_pow] at e4
    obtain ⟨l1, l2⟩ := SW_low h.ok k
    rw [W_pow] at l2
    rw [Int.natCast_emod, e4, Int.add_mul_emod_self_right, Int.emod_eq_of_lt l1 l2]
  have hp : (18446744073709551616 : Nat) = 2 ^ r * 2 ^ (64 - r) := by rw [← Nat.pow_add, show r + (64 - r) = 64 by omega]
  have e2 : N % 2 ^ (64 * k + r) = N % 2 ^ (64 * k) + 2 ^ (64 * k) * (N / 2 ^ (64 * k) % 18446744073709551616 % 2 ^ r) := by
    rw [Nat.pow_add, Nat.mod_mul]
    congr 2
    rw [hp, Nat.mod_mul_right_mod]
  rw [e2, W_pow, ← e, ← Int.natCast_emod, ← e3, Int.natCast_add, Int.natCast_mul, Int.mul_comm]
theorem SW_eq_zero {d : Nat → Int} (h : WOk d) : ∀ n, SW d n = 0 ↔ ∀ i, i < n → d i = 0 := by
  intro n
  induction n with
  | zero => simp [SW]
  | succ n ih =>
    have hp : (0 : Int) < 18446744073709551616 ^ n := Int.pow_pos (by decide)
    have h1 := (SW_low h n).1
    have h2 := (h n).1
    have h3 : 0 ≤ d n * 18446744073709551616 ^ n := Int.mul_nonneg h2 (by omega)
    simp only [SW]
    constructor
    · intro h0 i hi
      have a : SW d n = 0 := by omega
      have b : d n * 18446744073709551616 ^ n = 0 := by omega
      by_cases e : i = n
      · subst e
        rcases Int.mul_eq_zero.1 b with b | b
        · exact b
        · omega
      · exact ih.1 a i (by omega)
    · intro h0
      rw [ih.2 (fun i hi => h0 i (by omega)), h0 n (by omega)]; simp
/-- the highest bit, found from above. -/
theorem Digs.top {d : Nat → Int} {N : Nat} (h : Digs d N) {k : Nat} (hk : k < 70) (hz : ∀ i, k < i → i < 70 → d i = 0) (hd : d k ≠ 0) : (N.log2 : Int) = k * 64 + lenN (d k).toNat - 1 := by
  have e := h.high hk
  have hs := SW_split (fun i => d (k + i)) 1 (70 - k - 1)
  rw [show 1 + (70 - k - 1) = 70 - k by omega] at hs
  have h0 : SW (fun i => d (k + (1 + i))) (70 - k - 1) = 0 := by
    refine (SW_eq_zero (fun i => h.ok _) _).2 (fun i hi => hz _ (by omega) (by omega))
  have h1 : SW (fun i => d (k + i)) 1 = d k := by show 0 + d (k + 0) * 18446744073709551616 ^ 0 = _; simp
  have hs2 : SW (fun i => d (k + i)) (70 - k) = d k := by rw [hs, h1, h0, Int.zero_mul, Int.add_zero]
  have hdk := h.ok k
  rw [hs2, W_pow] at e
  clear hs h0 h1 hs2
  have e2 : N / 2 ^ (64 * k) = (d k).toNat := by
    have : ((N / 2 ^ (64 * k) : Nat) : Int) = d k := by rw [Int.natCast_ediv]; exact e
    omega
  have hn0 : (d k).toNat ≠ 0 := by omega
  have hp := Nat.two_pow_pos (64 * k)
  have hdm := Nat.div_add_mod N (2 ^ (64 * k))
  have hlt := Nat.mod_lt N hp
  rw [e2] at hdm
  have hl1 := Nat.log2_self_le hn0
  have hl2 : (d k).toNat < 2 ^ ((d k).toNat.log2 + 1) := Nat.lt_log2_self
  unfold lenN
  rw [if_neg hn0]
  have hN0 : N ≠ 0 := by
    intro hc; rw [hc] at hdm
    have := Nat.mul_le_mul_left (2 ^ (64 * k)) (show 1 ≤ (d k).toNat by omega)
    omega
  have a1 : 2 ^ (64 * k + (d k).toNat.log2) ≤ N := by
    rw [Nat.pow_add]
    have := Nat.mul_le_mul_left (2 ^ (64 * k)) hl1
    omega
  have a2 : N < 2 ^ (64 * k + (d k).toNat.log2 + 1) := by
    rw [Nat.add_assoc, Nat.pow_add]
    have := Nat.mul_le_mul_left (2 ^ (64 * k)) (show (d k).toNat + 1 ≤ 2 ^ ((d k).toNat.log2 + 1) by omega)
    rw [Nat.mul_add, Nat.mul_one] at this
    omega
  have b1 := (Nat.le_log2 hN0).2 a1
  have b2 := (Nat.log2_lt hN0).2 a2
  omega
/-- the place of the last bit that is kept; the rounded rung. -/
def lastI (N : Nat) : Nat := if N = 0 then 1102 else max (N.log2 - 52) 1102
theorem nrs_nought (s : Nat) : nrs 0 s = 0 := by
  have := Nat.two_pow_pos s
  unfold nrs; rw [Nat.zero_mod, Nat.zero_div, if_neg (by omega)]
theorem rung_sum (N : Nat) : rung N (-2176) = (lastI N - 1102) * 2 ^ 52 + nrs N (lastI N) := by
  unfold rung lastI
  by_cases h : N = 0
  · subst h; rw [if_pos rfl, if_pos rfl, nrs_nought, Nat.sub_self, Nat.zero_mul]
  · rw [if_neg h, if_neg h, cut_nrs]
    have e1 : (max (-2176 + (N.log2 : Int) - 52) (-1074) + 1074).toNat = max (N.log2 - 52) 1102 - 1102 := by omega
    have e2 : (-2176 - max (-2176 + (N.log2 : Int) - 52) (-1074)).toNat = 0 := by omega
    have e3 : (max (-2176 + (N.log2 : Int) - 52) (-1074) - -2176).toNat = max (N.log2 - 52) 1102 := by omega
    rw [e1, e2, e3, Nat.shiftLeft_zero]
theorem last_lt {N : Nat} (h : N < 2 ^ (64 * 70)) : N / 2 ^ lastI N < 2 ^ 53 ∧ lastI N ≤ 4427 ∧ 1102 ≤ lastI N := by
  unfold lastI
  by_cases h0 : N = 0
  · subst h0
    refine ⟨?_, by rw [if_pos rfl]; omega, by rw [if_pos rfl]; omega⟩
    rw [Nat.zero_div]; exact Nat.two_pow_pos _
  · rw [if_neg h0]
    have hl := (Nat.log2_lt h0).2 h
    refine ⟨?_, by omega, by omega⟩
    refine (Nat.div_lt_iff_lt_mul (Nat.two_pow_pos _)).2 ?_
    rw [← Nat.pow_add]
    refine Nat.lt_of_lt_of_le (Nat.lt_log2_self (n := N)) (Nat.pow_le_pow_right (by omega) (by omega))
/-- rounding, by the bit below and what lies below that. -/
theorem nrs_bits (N s : Nat) (hs : 1 ≤ s) : nrs N s = N / 2 ^ s + (if N / 2 ^ (s - 1) % 2 = 1 ∧ (N % 2 ^ (s - 1) ≠ 0 ∨ N / 2 ^ s % 2 = 1) then 1 else 0) := by
  obtain ⟨t, rfl⟩ : ∃ t, s = t + 1 := ⟨s - 1, by omega⟩
  rw [Nat.add_sub_cancel]
  unfold nrs
  have hp := Nat.two_pow_pos t
  have e1 : N % 2 ^ (t + 1) = N % 2 ^ t + 2 ^ t * (N / 2 ^ t % 2) := by rw [Nat.pow_succ, Nat.mod_mul]
  have hlt := Nat.mod_lt N hp
  rw [e1, Nat.pow_succ]
  generalize N / (2 ^ t * 2) = q
  generalize N % 2 ^ t = c at *
  rcases Nat.mod_two_eq_zero_or_one (N / 2 ^ t) with h | h <;> rw [h]
  · rw [Nat.mul_zero, if_neg (by omega), if_neg (by omega)]; rfl
  · rw [Nat.mul_one]
    by_cases hc : c ≠ 0 ∨ q % 2 = 1
    · rw [if_pos (by omega), if_pos ⟨rfl, hc⟩]
    · rw [if_neg (by omega), if_neg (by omega)]; rfl
end TF
