/- The statements of layer 1 over words, as the walk asks for them: each way through a statement, with all its tests. -/
import Derived.Test.YtcjnnhmijpnicaaBitsF
namespace TF
open Ieee Go Go.RowKit

def finB (x : Nat) : Bool := decide (mg x < INF)

theorem INF_eq : INF = 9218868437227405312 := by decide
theorem canonW_word {x : Nat} (h : isN x = false) (h0 : mg x ≠ 0) : canonW x = x := by unfold canonW; rw [h]; simp [h0]
theorem canonW_zero {x : Nat} (h0 : mg x = 0) : canonW x = 0 := by
  unfold canonW
  rw [show isN x = false from isN_false.2 (by omega), if_neg Bool.false_ne_true, if_pos h0]
theorem canonW_canonW (x : Nat) : canonW (canonW x) = canonW x := by
  cases hn : isN x
  · by_cases h0 : mg x = 0
    · rw [canonW_zero h0]; decide
    · rw [canonW_word hn h0, canonW_word hn h0]
  · rw [canonW_nan (isN_true.1 hn)]; decide
theorem class_nan {x : Nat} (h : isN x = true) : classW x = 4 := by
  rw [isN_true, INF_eq] at h
  unfold classW
  rw [if_neg (by omega), if_neg (by omega), if_neg (by omega), if_neg (by omega)]
theorem class_canon (x : Nat) : classW (canonW x) = classW x := by
  cases hn : isN x
  · by_cases h0 : mg x = 0
    · rw [canonW_zero h0]; unfold classW; rw [h0]; decide
    · rw [canonW_word hn h0]
  · rw [canonW_nan (isN_true.1 hn), class_nan hn]; decide
theorem class_op {x : Nat} (h : W64 x) : classW (op x) = classW x := by unfold classW; rw [mg_op h]
theorem eqW_self_true {x : Nat} (h : isN x = false) : eqW x x = true := by rw [eqW_self, h]; rfl
theorem eqW_self_false {x : Nat} (h : isN x = true) : eqW x x = false := by rw [eqW_self, h]; rfl
theorem isN_op {x : Nat} (h : W64 x) : isN (op x) = isN x := by unfold isN; rw [mg_op h]

/-- The ways through BitsCanon behind its first test. -/
theorem canon_ways (x : Nat) : (eqW x x = false ∧ sameB (canonW x) 9221120237041090561 = true ∧ classW x = 4) ∨
    (eqW x x = true ∧ ((eqW x 0 = true ∧ sameB (canonW x) 0 = true ∧ classW x = 0) ∨
      (eqW x 0 = false ∧ sameB (canonW x) x = true ∧ ((finB x = false ∧ classW x = 3) ∨ (finB x = true ∧
        ((ltW (op 4503599627370496) x = true ∧ ltW x 4503599627370496 = true ∧ classW x = 1) ∨ (ltW (op 4503599627370496) x = true ∧ ltW x 4503599627370496 = false ∧ classW x = 2) ∨ (ltW (op 4503599627370496) x = false ∧ classW x = 2))))))) := by
  cases hn : isN x
  · refine .inr ⟨eqW_self_true hn, ?_⟩
    rw [eqW_zero, hn]
    have hm := isN_false.1 hn
    rw [INF_eq] at hm
    by_cases h0 : mg x = 0
    · refine .inl ⟨by simp [h0], by rw [canonW_zero h0]; decide, by unfold classW; rw [if_pos h0]⟩
    · refine .inr ⟨by simp [h0], by rw [canonW_word hn h0]; exact sameB_self x, ?_⟩
      by_cases h1 : mg x < INF
      · refine .inr ⟨by simp [finB, h1], ?_⟩
        rw [INF_eq] at h1
        have e1 : ltW (op 4503599627370496) x = decide (-4503599627370496 < rk x) := by
          unfold ltW; rw [hn, show isN (op 4503599627370496) = false from by decide, show rk (op 4503599627370496) = -4503599627370496 from by decide]; rfl
        have e2 : ltW x 4503599627370496 = decide (rk x < 4503599627370496) := by
          unfold ltW; rw [hn, show isN 4503599627370496 = false from by decide, show rk 4503599627370496 = 4503599627370496 from by decide]; rfl
        rw [e1, e2]
        simp only [decide_eq_true_eq, decide_eq_false_iff_not]
        have hr : rk x = if ng x = true then -(mg x : Int) else mg x := rfl
        have hc : classW x = if mg x < 4503599627370496 then 1 else 2 := by
          unfold classW; rw [if_neg h0]
          by_cases hq : mg x < 4503599627370496
          · rw [if_pos hq, if_pos hq]
          · rw [if_neg hq, if_neg hq, if_pos h1]
        rw [hc]
        split <;> split at hr <;> simp only [Int.reduceEq, and_false, false_or, or_false, and_true] <;> omega
      · refine .inl ⟨by simp [finB]; omega, ?_⟩
        unfold classW
        rw [INF_eq] at h1
        rw [if_neg (by omega), if_neg (by omega), if_neg (by omega), if_pos (by omega)]
  · exact .inl ⟨eqW_self_false hn, by rw [canonW_nan (isN_true.1 hn)]; decide, class_nan hn⟩

/-- x - x == 0. -/
theorem fin_ways {x : Nat} (h : W64 x) : (finB x = true ∧ floatBits .sub .f64 x x = some 0) ∨ (finB x = false ∧ floatBits .sub .f64 x x = none) := by
  have h' : x < 2 ^ 64 := h
  by_cases h1 : mg x < INF
  · refine .inl ⟨by simp [finB, h1], ?_⟩
    show double.sub x x = _
    rw [sub_word h1 h' h1, Int.sub_self]
    cases ng x <;> decide
  · refine .inr ⟨by simp [finB]; omega, ?_⟩
    show double.sub x x = none
    rw [sub_eq h']
    by_cases h2 : mg x = INF
    · exact add_inf_opp h2 (by rw [mg_op h']; exact h2) (by rw [ng_op h']; simp)
    · exact add_nan_left (by omega)
theorem eqW_nan {n : Nat} (h : INF < mg n) (y : Nat) : eqW n y = false := by unfold eqW; rw [isN_true.2 h]; rfl
end TF
