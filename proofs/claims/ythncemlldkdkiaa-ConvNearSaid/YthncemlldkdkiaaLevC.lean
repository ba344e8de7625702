/- A filled cell comes near its level: the errors of the four roundings. -/
import Derived.Test.YthncemlldkdkiaaLevH
namespace TF
open Ieee Go Go.RowKit

/-- the error of one rounding. -/
theorem rnd_err (n : Nat) : 2 ^ 53 * (V (rnd n)) ≤ 2 ^ 53 * n + n ∧ 2 ^ 53 * n ≤ 2 ^ 53 * (V (rnd n)) + n := by
  by_cases hs : n ≤ 2 ^ 53
  · have h : Rep n := ⟨n, V_small hs⟩
    rw [h.eq]; omega
  · -- a block: n lies between 2^k·2^52 and twice that
    obtain ⟨k, h1, h2⟩ : ∃ k, 2 ^ 52 * 2 ^ k ≤ n ∧ n < 2 ^ 53 * 2 ^ k := by
      have hl := Nat.log2_self_le (show n ≠ 0 by omega)
      have hh : n < 2 ^ (n.log2 + 1) := Nat.lt_log2_self
      have h52 : 52 ≤ n.log2 := by
        refine Classical.byContradiction fun hc => ?_
        have : 2 ^ (n.log2 + 1) ≤ 2 ^ 52 := Nat.pow_le_pow_right (by omega) (by omega)
        omega
      refine ⟨n.log2 - 52, ?_, ?_⟩
      · rw [← Nat.pow_add, show 52 + (n.log2 - 52) = n.log2 from by omega]; exact hl
      · rw [← Nat.pow_add, show 53 + (n.log2 - 52) = n.log2 + 1 from by omega]; exact hh
    have hp := Nat.two_pow_pos k
    -- the nearest multiple of 2^k
    obtain ⟨c, hc, hd⟩ : ∃ c, c ≤ 2 ^ 53 ∧ 2 * ((c * 2 ^ k : Nat) - (n : Int)).natAbs ≤ 2 ^ k := by
      generalize 2 ^ k = e at *
      have hdm := Nat.div_add_mod n e
      have hm := Nat.mod_lt n hp
      have hq : n / e < 2 ^ 53 := (Nat.div_lt_iff_lt_mul hp).2 h2
      by_cases hr : 2 * (n % e) ≤ e
      · refine ⟨n / e, by omega, ?_⟩
        rw [Nat.mul_comm (n / e) e]; omega
      · refine ⟨n / e + 1, by omega, ?_⟩
        rw [Nat.mul_comm (n / e + 1) e, Nat.mul_add, Nat.mul_one]; omega
    have hb := near_best' n (rep_bits c k hc)
    generalize V (rnd n) = v at *
    generalize c * 2 ^ k = m at *
    generalize 2 ^ k = e at *
    have h3 : 2 * ((v : Int) - n).natAbs ≤ e := by omega
    omega
/-- the same of a quotient. -/
theorem near_err {n q r : Nat} (hq : 0 < q) (h : Near n q r) : 2 ^ 53 * (q * V r) ≤ (2 ^ 53 + 1) * (n + q) ∧ 2 ^ 53 * n ≤ 2 ^ 53 * (q * V r) + n + 2 ^ 54 * q := by
  have hdm := Nat.div_add_mod n q
  have hm := Nat.mod_lt n hq
  have lo : rnd (n / q) ≤ r := (near_rnd (n / q)).le_of (by omega) hq h (by rw [Nat.mul_one, Nat.mul_comm]; omega)
  have hi : r ≤ rnd (n / q + 1) := h.le_of hq (by omega) (near_rnd (n / q + 1)) (by rw [Nat.mul_one, Nat.mul_comm, Nat.mul_add, Nat.mul_one]; omega)
  have lo' := V_le lo
  have hi' := V_le hi
  obtain ⟨-, e1⟩ := rnd_err (n / q)
  obtain ⟨e2, -⟩ := rnd_err (n / q + 1)
  have a1 : q * V (rnd (n / q)) ≤ q * V r := Nat.mul_le_mul_left _ lo'
  have a2 : q * V r ≤ q * V (rnd (n / q + 1)) := Nat.mul_le_mul_left _ hi'
  have b1 : q * (2 ^ 53 * (n / q)) ≤ q * (2 ^ 53 * V (rnd (n / q)) + n / q) := Nat.mul_le_mul_left _ e1
  have b2 : q * (2 ^ 53 * V (rnd (n / q + 1))) ≤ q * (2 ^ 53 * (n / q + 1) + (n / q + 1)) := Nat.mul_le_mul_left _ e2
  rw [Nat.mul_left_comm, Nat.mul_add, Nat.mul_left_comm q] at b1
  rw [Nat.mul_left_comm, Nat.mul_add, Nat.mul_left_comm q, Nat.mul_add, Nat.mul_one] at b2
  generalize q * V r = x at *
  generalize q * V (rnd (n / q)) = y at *
  generalize q * V (rnd (n / q + 1)) = z at *
  generalize q * (n / q) = k at *
  omega

/-- the nearest whole number's error. -/
theorem nr_err (v : Nat) : 2 * (nr v * Q) ≤ 2 * v + Q ∧ 2 * v ≤ 2 * (nr v * Q) + Q := by
  have hdm := Nat.div_add_mod v Q
  have hm := Nat.mod_lt v Q_pos
  unfold nr
  generalize v / Q = k at *
  generalize v % Q = x at *
  generalize Q = q at *
  rw [Nat.mul_comm] at hdm
  split
  · rw [Nat.add_mul, Nat.one_mul]; omega
  · omega

/-- the four errors together. R = A·Q; uA, vA: A times the errors of the level and the difference. -/
theorem comes_sum {A Q' x y h p wq d L s hA Ad AL Ay Ax R iA AiA As t At : Int} (hA1 : 1 ≤ A) (hAb : A ≤ 2 ^ 31) (hQ : 2 ^ 200 ≤ Q')
    (e1 : hA = A * h) (e2 : Ad = A * d) (e3 : AL = A * L) (e4 : Ay = A * y) (e5 : Ax = A * x) (e6 : R = A * Q') (e7 : AiA = A * iA) (e8 : As = A * s) (e9 : At = A * t)
    (hx : -(2 ^ 20 * Q') ≤ x ∧ x ≤ 2 ^ 20 * Q') (hy : -(2 ^ 20 * Q') ≤ y ∧ y ≤ 2 ^ 20 * Q') (hxy : x < y)
    (h1 : 2 ^ 53 * h ≤ 2 ^ 53 * (y - x) + (y - x) ∧ 2 ^ 53 * (y - x) ≤ 2 ^ 53 * h + (y - x))
    (h2 : 2 ^ 53 * p ≤ 2 ^ 53 * hA + hA ∧ 2 ^ 53 * hA ≤ 2 ^ 53 * p + hA)
    (h3 : 2 * wq ≤ 2 * p + Q' ∧ 2 * p ≤ 2 * wq + Q')
    (h4 : 2 ^ 53 * Ad ≤ (2 ^ 53 + 1) * (wq + A) ∧ 2 ^ 53 * wq ≤ 2 ^ 53 * Ad + wq + 2 ^ 54 * A) (hd : 0 ≤ d)
    (h5 : 2 ^ 53 * L ≤ 2 ^ 53 * (x + d) + (x + d).natAbs ∧ 2 ^ 53 * (x + d) ≤ 2 ^ 53 * L + (x + d).natAbs)
    (h6 : 2 ^ 53 * Q' ≤ 2 ^ 53 * AiA + Q' + 2 ^ 54 * A)
    (h7 : 2 ^ 29 * t = 2 ^ 29 * iA + Q') (h8 : 2 ^ 53 * t ≤ 2 ^ 53 * s + t) :
    L - y ≤ s ∧ y - L ≤ s := by
  have hA0 : 0 ≤ A := by omega
  -- all times A
  have m1 : 2 ^ 53 * hA ≤ 2 ^ 53 * (Ay - Ax) + (Ay - Ax) ∧ 2 ^ 53 * (Ay - Ax) ≤ 2 ^ 53 * hA + (Ay - Ax) := by
    have a := Int.mul_le_mul_of_nonneg_left h1.1 hA0
    have b := Int.mul_le_mul_of_nonneg_left h1.2 hA0
    subst e1 e4 e5
    grind
  have m2 : Ay - Ax ≤ 2 ^ 21 * R := by
    have a := Int.mul_le_mul_of_nonneg_left (show y - x ≤ 2 ^ 21 * Q' by omega) hA0
    subst e4 e5 e6; grind
  have mq : Q' ≤ R := by
    have a := Int.mul_le_mul_of_nonneg_right hA1 (show 0 ≤ Q' by omega)
    subst e6; omega
  have mA : 2 ^ 100 * A ≤ Q' := by omega
  have hD0 : 0 ≤ Ay - Ax := by
    have a := Int.mul_le_mul_of_nonneg_left (show 0 ≤ y - x by omega) hA0
    subst e4 e5; grind
  have bAd : Ad ≤ 2 ^ 22 * R := by omega
  have bd : d ≤ 2 ^ 22 * Q' := by
    refine Int.le_of_mul_le_mul_left (a := A) ?_ (by omega)
    rw [← e2, show A * (2 ^ 22 * Q') = 2 ^ 22 * (A * Q') from by grind, ← e6]; exact bAd
  have m5 : 2 ^ 53 * (AL - (Ax + Ad)) ≤ 5 * 2 ^ 20 * R ∧ -(5 * 2 ^ 20 * R) ≤ 2 ^ 53 * (AL - (Ax + Ad)) := by
    have a := Int.mul_le_mul_of_nonneg_left (show 2 ^ 53 * (L - (x + d)) ≤ 5 * 2 ^ 20 * Q' by omega) hA0
    have b := Int.mul_le_mul_of_nonneg_left (show -(5 * 2 ^ 20 * Q') ≤ 2 ^ 53 * (L - (x + d)) by omega) hA0
    subst e2 e3 e5 e6
    constructor <;> grind
  have m7 : 2 ^ 29 * At = 2 ^ 29 * AiA + R := by
    have a : A * (2 ^ 29 * t) = A * (2 ^ 29 * iA + Q') := by rw [h7]
    subst e6 e7 e9
    grind
  have m8 : 2 ^ 53 * At ≤ 2 ^ 53 * As + At := by
    have a := Int.mul_le_mul_of_nonneg_left h8 hA0
    subst e8 e9; grind
  have k : AL - Ay ≤ As ∧ Ay - AL ≤ As := by
    clear e1 e2 e3 e4 e5 e6 e7 e8 e9 h1 h5 hx hy hxy h7 h8 bd
    omega
  constructor
  · refine Int.le_of_mul_le_mul_left (a := A) ?_ (by omega)
    rw [← e8, show A * (L - y) = A * L - A * y from by grind, ← e3, ← e4]; exact k.1
  · refine Int.le_of_mul_le_mul_left (a := A) ?_ (by omega)
    rw [← e8, show A * (y - L) = A * y - A * L from by grind, ← e3, ← e4]; exact k.2
end TF
