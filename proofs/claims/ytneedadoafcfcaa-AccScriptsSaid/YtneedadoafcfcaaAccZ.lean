/- The sign of a sum. -/
import Derived.Test.YtneedadoafcfcaaAccV
namespace TF
open Ieee Go Go.RowKit

theorem half_pos : (0 : Int) < 9223372036854775808 * 18446744073709551616 ^ 69 := Int.mul_pos (by decide) (Int.pow_pos (by decide))
theorem P_half : (18446744073709551616 : Int) ^ 70 = 2 * (9223372036854775808 * 18446744073709551616 ^ 69) := by
  rw [Int.pow_succ]; generalize (18446744073709551616 : Int) ^ 69 = p; omega
theorem big_half {g : AccG} (h : GOk g) : -(9223372036854775808 * 18446744073709551616 ^ 69) < g.X ∧ g.X < 9223372036854775808 * 18446744073709551616 ^ 69 := by
  have e1 : (9223372036854775808 : Int) * 18446744073709551616 ^ 69 = ((2 ^ (63 + 64 * 69) : Nat) : Int) := by
    rw [W_pow]
    generalize 64 * 69 = q
    rw [Nat.pow_add, Int.natCast_mul, show (2 : Nat) ^ 63 = 9223372036854775808 from rfl]; rfl
  obtain ⟨m, hm⟩ : ∃ m, m = 63 + 64 * 69 := ⟨_, rfl⟩
  rw [e1, ← hm]
  have hD : DB = 4224 := rfl
  have hB : BIG = ((2 ^ DB : Nat) : Int) := rfl
  have e2 : 2 ^ DB * 1048576 < 2 ^ m := by
    rw [show (1048576 : Nat) = 2 ^ 20 from rfl, ← Nat.pow_add]
    exact Nat.pow_lt_pow_right (by omega) (by omega)
  have e3 : g.cnt * BIG ≤ ((2 ^ DB * 1048576 : Nat) : Int) := by
    rw [hB, Int.natCast_mul, Int.mul_comm]
    exact Int.mul_le_mul_of_nonneg_left h.c9 (Int.natCast_nonneg _)
  have e4 : ((2 ^ DB * 1048576 : Nat) : Int) < ((2 ^ m : Nat) : Int) := Int.ofNat_lt.2 e2
  have h1 := h.lo
  have h2 := h.hi
  constructor <;> omega
theorem sum_sign {d : Nat → Int} {X : Int} (h : Is d X) (lo : -(9223372036854775808 * 18446744073709551616 ^ 69) < X) (hi : X < 9223372036854775808 * 18446744073709551616 ^ 69) :
    (d 69 < 9223372036854775808 → 0 ≤ X ∧ Digs d X.natAbs) ∧
    (9223372036854775808 ≤ d 69 → X < 0 ∧ Digs (sb (fun _ => 0) d) X.natAbs) := by
  have hS : SW d 70 = SW d 69 + d 69 * 18446744073709551616 ^ 69 := rfl
  obtain ⟨l1, l2⟩ := SW_low h.ok 69
  have he := h.eq
  have hp := half_pos
  have hn := (Is.zero.sub h.ok rfl).eq
  have hm := Int.mul_ediv_add_emod X (18446744073709551616 ^ 70)
  have hk := h.ok 69
  rw [P_half] at he hm hn
  constructor
  · intro ht
    have h1 : d 69 * 18446744073709551616 ^ 69 ≤ 9223372036854775807 * 18446744073709551616 ^ 69 := Int.mul_le_mul_of_nonneg_right (by omega) (Int.pow_nonneg (by decide))
    generalize (18446744073709551616 : Int) ^ 69 = p at *
    have h2 : X % (2 * (9223372036854775808 * p)) < 9223372036854775808 * p := by omega
    have h3 : 0 ≤ X := by
      rcases Int.lt_or_le X 0 with hx | hx
      · rw [← Int.add_emod_right, Int.emod_eq_of_lt (by omega) (by omega)] at h2; omega
      · exact hx
    refine ⟨h3, h.ok, ?_⟩
    rw [he, Int.emod_eq_of_lt h3 (by omega)]; omega
  · intro ht
    have h1 : 9223372036854775808 * 18446744073709551616 ^ 69 ≤ d 69 * 18446744073709551616 ^ 69 := Int.mul_le_mul_of_nonneg_right ht (Int.pow_nonneg (by decide))
    generalize (18446744073709551616 : Int) ^ 69 = p at *
    have h3 : X < 0 := by
      rcases Int.lt_or_le X 0 with hx | hx
      · exact hx
      · rw [Int.emod_eq_of_lt hx (by omega)] at he; omega
    refine ⟨h3, sb_ok _ _, ?_⟩
    rw [← Int.add_emod_right, Int.emod_eq_of_lt (by omega) (by omega)] at he
    rw [he] at hn
    rw [hn, show 0 - (X + 2 * (9223372036854775808 * p)) = -X + (2 * (9223372036854775808 * p)) * (-1) by omega, Int.add_mul_emod_self_left, Int.emod_eq_of_lt (by omega) (by omega)]
    omega
end TF
