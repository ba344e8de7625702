/- Whole numbers as floats, powers of two as floats, their products; the reference's Sum, way by way. -/
import Derived.Test.YtneedadoafcfcaaTwinC
import Derived.Test.YtneedadoafcfcaaFloatD
namespace TF
open Ieee Go Go.RowKit

/-- float64(n). -/
theorem fi_eq (n : Int) : floatOfInt .f64 n = wd (decide (n < 0)) (min (rnd (n.natAbs * Q)) INF) := by
  have e : floatOfInt .f64 n = double.nearest (decide (n < 0)) n.natAbs 0 := by
    unfold floatOfInt FloatKind.nearest FloatKind.encode; rfl
  rw [e, nearest_eq, word_eq]
  suffices key : rung n.natAbs 0 = rnd (n.natAbs * Q) by rw [key]
  have h := near_rung (mag := n.natAbs) 0
  rw [show ((0 : Int) + 1074).toNat = T from rfl, show (-((0 : Int) + 1074)).toNat = 0 from rfl, Nat.pow_zero] at h
  have h' := near_rnd (n.natAbs * Q)
  unfold Q at h' ⊢
  exact h.unique (by omega) h'
theorem rep_Q {n : Nat} (h : n ≤ 2 ^ 53) : Rep (n * Q) := rep_bits n T h
theorem Q_small {n : Nat} (h : n ≤ 2 ^ 53) : rnd (n * Q) < INF := by
  have h1 : n * Q ≤ V (1075 * 2 ^ 52 + 2 ^ 52) := by
    rw [V_block (by omega) (by omega), show (1075 : Nat) = 1 + T from rfl, Nat.pow_add]
    have : n * Q ≤ 2 ^ 53 * Q := Nat.mul_le_mul_right _ h
    unfold Q at this ⊢
    generalize 2 ^ T = q at *
    omega
  have := rnd_le_of h1
  unfold INF; omega
/-- A whole number of at most 53 bits is a float. -/
theorem fi_small {n : Int} (h : n.natAbs ≤ 2 ^ 53) : W64 (floatOfInt .f64 n) ∧ mg (floatOfInt .f64 n) < INF ∧ V (mg (floatOfInt .f64 n)) = n.natAbs * Q ∧ ng (floatOfInt .f64 n) = decide (n < 0) ∧ iv (floatOfInt .f64 n) = n * Q := by
  have hI := INF_lt
  have hs := Q_small h
  have e : floatOfInt .f64 n = wd (decide (n < 0)) (rnd (n.natAbs * Q)) := by rw [fi_eq, Nat.min_eq_left (by omega)]
  have hm : mg (floatOfInt .f64 n) = rnd (n.natAbs * Q) := by rw [e, mg_wd (by omega)]
  have hg : ng (floatOfInt .f64 n) = decide (n < 0) := by rw [e, ng_wd (by omega)]
  have hV : V (mg (floatOfInt .f64 n)) = n.natAbs * Q := by rw [hm]; exact (rep_Q h).eq
  refine ⟨by rw [e]; exact wd_lt (by omega), by omega, hV, hg, ?_⟩
  unfold iv
  rw [hg, hV]
  by_cases h0 : n < 0
  · rw [decide_eq_true h0, if_pos rfl, Int.natCast_mul, ← Int.neg_mul]; congr 1; omega
  · rw [decide_eq_false h0, if_neg Bool.false_ne_true, Int.natCast_mul]; congr 1; omega

/-- The float 2^k units. -/
def pw (k : Nat) : Nat := if k < 52 then 2 ^ k else (k - 51) * 2 ^ 52
theorem V_pw (k : Nat) : V (pw k) = 2 ^ k := by
  unfold pw
  split
  · rename_i h
    exact V_small (Nat.pow_le_pow_right (by omega) (by omega))
  · rename_i h
    have := V_block (D := k - 52) (k := 2 ^ 52) (by omega) (by omega)
    rw [show (k - 51) * 2 ^ 52 = (k - 52) * 2 ^ 52 + 2 ^ 52 from by omega, this, ← Nat.pow_add]
    congr 1; omega
theorem pw_lt {k : Nat} (h : k ≤ 2097) : pw k < INF := by
  unfold pw INF
  split
  · have := Nat.pow_le_pow_right (show 0 < 2 by omega) (show k ≤ 51 by omega)
    omega
  · omega
theorem mul_pw {n : Int} {k : Nat} (h : n.natAbs ≤ 2 ^ 53) (hk : k ≤ 2097) :
    double.mul (floatOfInt .f64 n) (pw k) = some (wd (decide (n < 0)) (min (rnd (n.natAbs * 2 ^ k)) INF)) := by
  have hI := INF_lt
  have hp := pw_lt hk
  obtain ⟨_, h2, h3, h4, _⟩ := fi_small h
  rw [mul_fin h2 (by rw [mg_small (by omega)]; exact hp), h4, ng_small (by omega), h3, mg_small (by omega), V_pw, Nat.mul_comm n.natAbs Q, Nat.mul_assoc, rnd2_Q]
  simp
theorem mul_op_left {a b : Nat} (ha : W64 a) : double.mul (op a) b = (double.mul a b).map op := by
  have ha' : a < 2 ^ 64 := ha
  have hI := INF_lt
  by_cases h1 : mg a < INF
  · by_cases h2 : mg b < INF
    · rw [mul_fin (by rw [mg_op ha']; exact h1) h2, mul_fin h1 h2, mg_op ha', ng_op ha']
      show some _ = some _
      rw [op_wd (by omega)]
      cases ng a <;> cases ng b <;> rfl
    · by_cases h3 : mg b = INF
      · rw [mul_fin_inf (by rw [mg_op ha']; exact h1) h3, mul_fin_inf h1 h3, mg_op ha', ng_op ha']
        split
        · rfl
        · show some _ = some _
          rw [op_wd hI]; cases ng a <;> cases ng b <;> rfl
      · rw [mul_nan_right (by omega), mul_nan_right (by omega)]; rfl
  · by_cases h3 : mg a = INF
    · by_cases h2 : mg b < INF
      · rw [mul_inf_fin (by rw [mg_op ha']; exact h3) h2, mul_inf_fin h3 h2, ng_op ha']
        split
        · rfl
        · show some _ = some _
          rw [op_wd hI]; cases ng a <;> cases ng b <;> rfl
      · by_cases h4 : mg b = INF
        · rw [mul_inf_inf (by rw [mg_op ha']; exact h3) h4, mul_inf_inf h3 h4, ng_op ha']
          show some _ = some _
          rw [op_wd hI]; cases ng a <;> cases ng b <;> rfl
        · rw [mul_nan_right (by omega), mul_nan_right (by omega)]; rfl
    · rw [mul_nan_left (by rw [mg_op ha']; omega), mul_nan_left (by omega)]; rfl

theorem canon_wd {s : Bool} {m : Nat} (h : s = true → m ≠ 0) : canonW (wd s (min (rnd m) INF)) = rw' false (if s then -(m : Int) else m) := by
  cases s
  · have := canon_rw false (m : Int)
    unfold rw' at this ⊢
    by_cases h0 : m = 0
    · subst h0; simp at this ⊢; exact this
    · rw [if_neg (by omega)] at this
      rw [if_neg Bool.false_ne_true, if_neg (by omega)]
      simp only [Int.natAbs_natCast] at this ⊢
      rw [decide_eq_false (by omega)] at this ⊢
      exact this
  · have hm := h rfl
    have := canon_rw false (-(m : Int))
    unfold rw' at this ⊢
    rw [if_neg (by omega)] at this
    rw [if_pos rfl, if_neg (by omega)]
    simp only [Int.natAbs_neg, Int.natAbs_natCast] at this ⊢
    rw [decide_eq_true (by omega)] at this ⊢
    exact this

/-- n * 2^k, by way of floats: the word of that many units. -/
theorem prod_pos {n : Int} {k : Nat} (h0 : 0 ≤ n) (h : n ≤ 2 ^ 53) (hk : k ≤ 2097) : ∃ r, floatBits .mul .f64 (floatOfInt .f64 n) (pw k) = some r ∧ canonW r = rw' false (n * (2 ^ k : Nat)) := by
  refine ⟨_, mul_pw (by omega) hk, ?_⟩
  rw [canon_wd (by simp; omega), decide_eq_false (by omega), if_neg Bool.false_ne_true, Int.natCast_mul]
  congr 2; omega
theorem prod_neg {n : Int} {k : Nat} (h0 : n < 0) (h : -2 ^ 53 ≤ n) (hk : k ≤ 2097) : ∃ r, floatBits .mul .f64 (op (floatOfInt .f64 (-n))) (pw k) = some r ∧ canonW r = rw' false (n * (2 ^ k : Nat)) := by
  have hI := INF_lt
  obtain ⟨h64, _⟩ := fi_small (n := -n) (by omega)
  refine ⟨_, by show double.mul _ _ = _; rw [mul_op_left h64, mul_pw (by omega) hk]; rfl, ?_⟩
  rw [op_wd (by omega), decide_eq_false (by omega), Bool.not_false, canon_wd (by
    intro _ hz
    rcases Nat.mul_eq_zero.1 hz with hz | hz
    · omega
    · have := Nat.two_pow_pos k; omega), if_pos rfl, Int.natCast_mul, ← Int.neg_mul]
  congr 2; omega

/-- A finite word's whole number of 2^k units, for a k that isn't above its own. -/
def sn (x k : Nat) : Int := if ng x then -((M (mg x) * 2 ^ (E (mg x) - k) : Nat) : Int) else ((M (mg x) * 2 ^ (E (mg x) - k) : Nat) : Int)
theorem iv_sn {x k : Nat} (h : k ≤ E (mg x)) : iv x = sn x k * (2 ^ k : Nat) := by
  have e : V (mg x) = M (mg x) * 2 ^ (E (mg x) - k) * 2 ^ k := by
    unfold V; rw [Nat.mul_assoc, ← Nat.pow_add]; congr 2; omega
  unfold iv sn
  rw [e]
  cases ng x <;> simp [Int.neg_mul]

/-- The exact rest as a whole number of the smaller unit. -/
theorem rest_whole {x y s : Nat} (hle : mg y ≤ mg x) (e : iv s = rI (iv x + iv y)) (es : mg s = rnd (iv x + iv y).natAbs) :
    ∃ X : Int, iv x + iv y - iv s = X * (2 ^ (min (E (mg y)) (E (mg s))) : Nat) ∧ X = sn x (min (E (mg y)) (E (mg s))) + sn y (min (E (mg y)) (E (mg s))) - sn s (min (E (mg y)) (E (mg s))) ∧ X.natAbs ≤ 2 ^ 53 := by
  have hxy := E_mono hle
  have hk1 : min (E (mg y)) (E (mg s)) ≤ E (mg x) := by omega
  have hk2 : min (E (mg y)) (E (mg s)) ≤ E (mg y) := by omega
  have hk3 : min (E (mg y)) (E (mg s)) ≤ E (mg s) := by omega
  have ex := iv_sn hk1
  have ey := iv_sn hk2
  have ez := iv_sn hk3
  have hpos := Nat.two_pow_pos (min (E (mg y)) (E (mg s)))
  have heq : iv x + iv y - iv s = (sn x (min (E (mg y)) (E (mg s))) + sn y (min (E (mg y)) (E (mg s))) - sn s (min (E (mg y)) (E (mg s)))) * (2 ^ (min (E (mg y)) (E (mg s))) : Nat) := by
    rw [Int.sub_mul, Int.add_mul, ← ex, ← ey, ← ez]
  refine ⟨_, heq, rfl, ?_⟩
  generalize sn x (min (E (mg y)) (E (mg s))) + sn y (min (E (mg y)) (E (mg s))) - sn s (min (E (mg y)) (E (mg s))) = X at *
  by_cases hc : E (mg s) ≤ E (mg y)
  · have hd : ((2 ^ E (mg y) : Nat) : Int) ∣ iv x + iv y := by
      refine Int.dvd_add ?_ ?_
      · rw [iv_sn hxy]; exact Int.dvd_mul_left _ _
      · rw [iv_sn (Nat.le_refl (E (mg y)))]; exact Int.dvd_mul_left _ _
    have := rI_exact hd (by rw [← es]; exact hc)
    rw [e, this, Int.sub_self] at heq
    rcases Int.mul_eq_zero.1 heq.symm with h | h
    · rw [h]; simp
    · omega
  · have hmin : min (E (mg y)) (E (mg s)) = E (mg y) := by omega
    rw [hmin] at heq hpos
    obtain ⟨_, _, _, h4⟩ := fast_two_sum (A := iv x) (B := iv y) (iv_natAbs x) (iv_natAbs y) hle
    rw [← e, heq, Int.natAbs_mul, Int.natAbs_natCast, iv_natAbs] at h4
    have := V_lt_E (mg y)
    exact Nat.le_of_mul_le_mul_right (Nat.le_of_lt (Nat.lt_of_le_of_lt h4 this)) hpos
end TF
