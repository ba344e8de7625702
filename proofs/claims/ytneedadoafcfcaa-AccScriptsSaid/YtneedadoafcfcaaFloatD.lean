/- Products with powers of two, steps between neighbours, quarters of a step. -/
import Derived.Test.YtneedadoafcfcaaFloatC
namespace TF
open Ieee

theorem rnd2_Q (n : Nat) : rnd2 (Q * n) = rnd n := by
  refine (near_rnd2 (Q * n)).unique Q_pos ?_
  exact (near_rnd n).ratio (by omega) Q_pos (by rw [Nat.mul_one, Nat.mul_comm])
theorem Q_split (a b : Nat) (h : a + b = T) : Q = 2 ^ a * 2 ^ b := by
  unfold Q; rw [← h, Nat.pow_add]
theorem V_pow {D : Nat} {c : Nat} (h : c = D * 2 ^ 52 + 2 ^ 52) : V c = 2 ^ 52 * 2 ^ D := by rw [h]; exact V_block (by omega) (by omega)

theorem V_pow_up {c D e : Nat} (h : c = D * 2 ^ 52 + 2 ^ 52) (hD : D + 52 = T + e) : V c = 2 ^ e * Q := by
  rw [V_pow h]; unfold Q; rw [← Nat.pow_add, ← Nat.pow_add]; congr 1; omega
theorem V_pow_down {c D e : Nat} (h : c = D * 2 ^ 52 + 2 ^ 52) (hD : D + 52 + e = T) : 2 ^ e * V c = Q := by
  rw [V_pow h]; unfold Q; rw [← Nat.pow_add, ← Nat.pow_add]; congr 1; omega
/-- 2, 0.5, 0.25, 1 as words. -/
theorem V_two : V 4611686018427387904 = 2 * Q := by
  have := V_pow_up (c := 4611686018427387904) (D := 1023) (e := 1) (by omega) rfl
  rw [show (2 : Nat) ^ 1 = 2 from rfl] at this; exact this
theorem V_half : 2 * V 4602678819172646912 = Q := by
  have := V_pow_down (c := 4602678819172646912) (D := 1021) (e := 1) (by omega) rfl
  rw [show (2 : Nat) ^ 1 = 2 from rfl] at this; exact this
theorem V_quarter : 4 * V 4598175219545276416 = Q := by
  have := V_pow_down (c := 4598175219545276416) (D := 1020) (e := 2) (by omega) rfl
  rw [show (2 : Nat) ^ 2 = 4 from rfl] at this; exact this
theorem V_one : V 4607182418800017408 = Q := by
  have := V_pow_up (c := 4607182418800017408) (D := 1022) (e := 0) (by omega) rfl
  simpa using this

/-- Twice a magnitude. -/
theorem rnd2_two (r : Nat) : rnd2 (V 4611686018427387904 * V r) = rnd (2 * V r) := by
  rw [V_two, show 2 * Q * V r = Q * (2 * V r) from by rw [Nat.mul_comm 2 Q, Nat.mul_assoc]]; exact rnd2_Q _
theorem near_zero {n q : Nat} (h : 2 * n ≤ q) : Near n q 0 where
  lo s hs := by omega
  loe s hs := by omega
  hi := by rw [V_zero, show V (0 + 1) = 1 from by decide]; omega
  hie _ := rfl
theorem rnd2_half' {v : Nat} (hv : 2 * v = Q) (k : Nat) : rnd2 (2 ^ k * v) = if k = 0 then 0 else rnd (2 ^ (k - 1)) := by
  by_cases h : k = 0
  · rw [if_pos h]; subst h
    exact (near_rnd2 _).unique Q_pos (near_zero (by omega))
  · rw [if_neg h]
    obtain ⟨j, rfl⟩ : ∃ j, k = j + 1 := ⟨k - 1, by omega⟩
    rw [show j + 1 - 1 = j from rfl, ← rnd2_Q, ← hv, Nat.pow_succ]
    congr 1
    rw [Nat.mul_assoc, Nat.mul_comm (2 * v)]
theorem rnd2_quarter' {v : Nat} (hv : 4 * v = Q) (k : Nat) : rnd2 (2 ^ k * v) = if k < 2 then 0 else rnd (2 ^ (k - 2)) := by
  by_cases h : k < 2
  · rw [if_pos h]
    refine (near_rnd2 _).unique Q_pos (near_zero ?_)
    rcases (show k = 0 ∨ k = 1 by omega) with rfl | rfl <;> omega
  · rw [if_neg h]
    obtain ⟨j, rfl⟩ : ∃ j, k = j + 2 := ⟨k - 2, by omega⟩
    rw [show j + 2 - 2 = j from rfl, ← rnd2_Q, ← hv, Nat.pow_add]
    congr 1
    rw [Nat.mul_assoc, Nat.mul_comm (4 * v)]
/-- Half, and a quarter, of a power of two: the power below it; of the least ones nothing. -/
theorem rnd2_half (k : Nat) : rnd2 (2 ^ k * V 4602678819172646912) = if k = 0 then 0 else rnd (2 ^ (k - 1)) := rnd2_half' V_half k
theorem rnd2_quarter (k : Nat) : rnd2 (2 ^ k * V 4598175219545276416) = if k < 2 then 0 else rnd (2 ^ (k - 2)) := rnd2_quarter' V_quarter k
/-- Between two neighbours one of them is nearest. -/
theorem rnd_between {n r : Nat} (h1 : V r ≤ n) (h2 : n ≤ V (r + 1)) : rnd n = r ∨ rnd n = r + 1 := by
  have := le_rnd_of h1
  have := rnd_le_of h2
  omega
theorem rnd_pow (k : Nat) : V (rnd (2 ^ k)) = 2 ^ k := by
  have := (rep_bits 1 k (by omega)).eq; simpa using this
/-- A quarter of a step more is nothing. -/
theorem rnd_quarter_step {r : Nat} (h : 2 ≤ E r) : rnd (V r + 2 ^ (E r - 2)) = r := by
  refine (near_rnd _).unique (by omega) ?_
  have h1 := V_succ r
  have hp := Nat.two_pow_pos (E r - 2)
  have h2 : 2 ^ E r = 4 * 2 ^ (E r - 2) := by
    rw [show E r = (E r - 2) + 2 from by omega, Nat.pow_add, show E r - 2 + 2 - 2 = E r - 2 from rfl]; omega
  exact ⟨fun s hs => by subst hs; have := V_lt_succ s; omega, fun s hs _ => by subst hs; have := V_lt_succ s; omega, by omega, fun _ => by omega⟩
/-- Twice a normal magnitude. -/
theorem V_double {r : Nat} (h : 2 ^ 52 ≤ r) : 2 * V r = V (r + 2 ^ 52) := by
  unfold V M E
  rw [if_neg (by omega), if_neg (by omega)]
  have e1 : (r + 2 ^ 52) / 2 ^ 52 = r / 2 ^ 52 + 1 := by omega
  have e2 : (r + 2 ^ 52) % 2 ^ 52 = r % 2 ^ 52 := by omega
  have e3 : r / 2 ^ 52 + 1 - 1 = r / 2 ^ 52 - 1 + 1 := by omega
  rw [e1, e2, e3]
  generalize r / 2 ^ 52 - 1 = k
  generalize 2 ^ 52 + r % 2 ^ 52 = m
  rw [Nat.pow_succ, Nat.mul_comm (2 ^ k) 2, Nat.mul_left_comm]
end TF
