/- The statements of layer 1 over words, as the walk asks for them: each way through a statement, with all its tests. -/
import Derived.Test.YtneedadoafcfcaaBitsF
namespace TF
open Ieee Go Go.RowKit

def finB (x : Nat) : Bool := decide (mg x < INF)

theorem INF_eq : INF = 9218868437227405312 := by decide
theorem canonW_word {x : Nat} (h : isN x = false) (h0 : mg x ≠ 0) : canonW x = x := by unfold canonW; rw [h]; simp [h0]
theorem canonW_zero {x : Nat} (h0 : mg x = 0) : canonW x = 0 := by
  unfold canonW
  rw [show isN x = false from isN_false.2 (by omega), if_neg Bool.false_ne_true, if_pos h0]
theorem canonW_canonW (x : Nat) : canonW (canonW x) = canonW x := by
  cases hn : isN x
  · by_cases h0 : mg x = 0
    · rw [canonW_zero h0]; decide
    · rw [canonW_word hn h0, canonW_word hn h0]
  · rw [canonW_nan (isN_true.1 hn)]; decide
theorem class_nan {x : Nat} (h : isN x = true) : classW x = 4 := by
  rw [isN_true, INF_eq] at h
  unfold classW
  rw [if_neg (by omega), if_neg (by omega), if_neg (by omega), if_neg (by omega)]
theorem class_canon (x : Nat) : classW (canonW x) = classW x := by
  cases hn : isN x
  · by_cases h0 : mg x = 0
    · rw [canonW_zero h0]; unfold classW; rw [h0]; decide
    · rw [canonW_word hn h0]
  · rw [canonW_nan (isN_true.1 hn), class_nan hn]; decide
theorem class_op {x : Nat} (h : W64 x) : classW (op x) = classW x := by unfold classW; rw [mg_op h]
theorem eqW_self_true {x : Nat} (h : isN x = false) : eqW x x = true := by rw [eqW_self, h]; rfl
theorem eqW_self_false {x : Nat} (h : isN x = true) : eqW x x = false := by rw [eqW_self, h]; rfl
theorem isN_op {x : Nat} (h : W64 x) : isN (op x) = isN x := by unfold isN; rw [mg_op h]

/-- The ways through BitsCanon behind its first test. -/
theorem canon_ways (x : Nat) : (eqW x x = false ∧ sameB (canonW x) 9221120237041090561 = true ∧ classW x = 4) ∨
    (eqW x x = true ∧ ((eqW x 0 = true ∧ sameB (canonW x) 0 = true ∧ classW x = 0) ∨
      (eqW x 0 = false ∧ sameB (canonW x) x = true ∧ ((finB x = false ∧ classW x = 3) ∨ (finB x = true ∧
        ((ltW (op 4503599627370496) x = true ∧ ltW x 4503599627370496 = true ∧ classW x = 1) ∨ (ltW (op 4503599627370496) x = true ∧ ltW x 4503599627370496 = false ∧ classW x = 2) ∨ (ltW (op 4503599627370496) x = false ∧ classW x = 2))))))) := by
  cases hn : isN x
  · refine .inr ⟨eqW_self_true hn, ?_⟩
    rw [eqW_zero, hn]
    have hm := isN_false.1 hn
    rw [INF_eq] at hm
    by_cases h0 : mg x = 0
    · refine .inl ⟨by simp [h0], by rw [canonW_zero h0]; decide, by unfold classW; rw [if_pos h0]⟩
    · refine .inr ⟨by simp [h0], by rw [canonW_word hn h0]; exact sameB_self x, ?_⟩
      by_cases h1 : mg x < INF
      · refine .inr ⟨by simp [finB, h1], ?_⟩
        rw [INF_eq] at h1
        have e1 : ltW (op 4503599627370496) x = decide (-4503599627370496 < rk x) := by
          unfold ltW; rw [hn, show isN (op 4503599627370496) = false from by decide, show rk (op 4503599627370496) = -4503599627370496 from by decide]; rfl
        have e2 : ltW x 4503599627370496 = decide (rk x < 4503599627370496) := by
          unfold ltW; rw [hn, show isN 4503599627370496 = false from by decide, show rk 4503599627370496 = 4503599627370496 from by decide]; rfl
        rw [e1, e2]
        simp only [decide_eq_true_eq, decide_eq_false_iff_not]
        have hr : rk x = if ng x = true then -(mg x : Int) else mg x := rfl
        have hc : classW x = if mg x < 4503599627370496 then 1 else 2 := by
          unfold classW; rw [if_neg h0]
          by_cases hq : mg x < 4503599627370496
          · rw [if_pos hq, if_pos hq]
          · rw [if_neg hq, if_neg hq, if_pos h1]
        rw [hc]
        split <;> split at hr <;> simp only [Int.reduceEq, and_false, false_or, or_false, and_true] <;> omega
      · refine .inl ⟨by simp [finB]; omega, ?_⟩
        unfold classW
        rw [INF_eq] at h1
        rw [if_neg (by omega), if_neg (by omega), if_neg (by omega), if_pos (by omega)]
  · exact .inl ⟨eqW_self_false hn, by rw [canonW_nan (isN_true.1 hn)]; decide, class_nan hn⟩

/-- x - x == 0. -/
theorem fin_ways {x : Nat} (h : W64 x) : (finB x = true ∧ floatBits .sub .f64 x x = some 0) ∨ (finB x = false ∧ floatBits .sub .f64 x x = none) := by
  have h' : x < 2 ^ 64 := h
  by_cases h1 : mg x < INF
  · refine .inl ⟨by simp [finB, h1], ?_⟩
    show double.sub x x = _
    rw [sub_word h1 h' h1, Int.sub_self]
    cases ng x <;> decide
  · refine .inr ⟨by simp [finB]; omega, ?_⟩
    show double.sub x x = none
    rw [sub_eq h']
    by_cases h2 : mg x = INF
    · exact add_inf_opp h2 (by rw [mg_op h']; exact h2) (by rw [ng_op h']; simp)
    · exact add_nan_left (by omega)
theorem eqW_nan {n : Nat} (h : INF < mg n) (y : Nat) : eqW n y = false := by unfold eqW; rw [isN_true.2 h]; rfl

theorem place_rk {a : Nat} (h : W64 a) : (placeW a : Int) = 9223372036854775808 + (if ng a = true then -1 - (mg a : Int) else mg a) := by
  have h' : a < 2 ^ 64 := h
  unfold placeW mg
  by_cases e : ng a = true
  · rw [if_pos e]; rw [ng_iff h'] at e; rw [if_pos (by omega)]; omega
  · rw [if_neg e]; rw [Bool.not_eq_true, ng_false_iff h'] at e; rw [if_neg (by omega)]; omega
theorem placeW_inj {a b : Nat} (ha : W64 a) (hb : W64 b) (h : placeW a = placeW b) : a = b := by
  have ha' : a < 2 ^ 64 := ha
  have hb' : b < 2 ^ 64 := hb
  unfold placeW at h
  split at h <;> split at h <;> omega
theorem order_tri {a b : Nat} (ha : W64 a) (hb : W64 b) : (orderW a b = -1 ∧ orderW b a = 1 ∧ sameB a b = false ∧ sameB b a = false ∧ placeW a < placeW b) ∨ (a = b ∧ orderW a b = 0 ∧ orderW b a = 0 ∧ sameB a b = true) ∨ (orderW a b = 1 ∧ orderW b a = -1 ∧ sameB a b = false ∧ sameB b a = false ∧ placeW b < placeW a) := by
  unfold orderW cmpN
  rcases Nat.lt_trichotomy (placeW a) (placeW b) with h | h | h
  · refine .inl ⟨if_pos h, ?_, sameB_false.2 ?_, sameB_false.2 ?_, h⟩
    · rw [if_neg (by omega), if_pos h]
    · intro e; subst e; omega
    · intro e; subst e; omega
  · obtain rfl := placeW_inj ha hb h
    exact .inr (.inl ⟨rfl, by simp, by simp, sameB_self _⟩)
  · refine .inr (.inr ⟨?_, if_pos h, sameB_false.2 ?_, sameB_false.2 ?_, h⟩)
    · rw [if_neg (by omega), if_pos h]
    · intro e; subst e; omega
    · intro e; subst e; omega
theorem order_self (a : Nat) : orderW a a = 0 := by unfold orderW cmpN; simp
theorem order_bd (a b : Nat) : -1 ≤ orderW a b ∧ orderW a b ≤ 1 := by unfold orderW cmpN; split; omega; split <;> omega
theorem order_le {a b : Nat} : orderW a b ≤ 0 ↔ placeW a ≤ placeW b := by
  unfold orderW cmpN
  by_cases h : placeW a < placeW b
  · rw [if_pos h]; omega
  · rw [if_neg h]
    by_cases h' : placeW b < placeW a
    · rw [if_pos h']; omega
    · rw [if_neg h']; omega
theorem order_trans (a b c : Nat) (h : orderW a b ≤ 0) : 0 < orderW b c ∨ (orderW b c ≤ 0 ∧ orderW a c ≤ 0) := by
  by_cases h1 : orderW b c ≤ 0
  · refine .inr ⟨h1, ?_⟩
    rw [order_le] at *; omega
  · exact .inl (by omega)
theorem order_end {a b : Nat} (ha : W64 a) (hb : W64 b) : (eqW a a = false) ∨ (eqW a a = true ∧ eqW b b = false) ∨ (eqW a a = true ∧ eqW b b = true ∧ eqW a 0 = true ∧ eqW b 0 = true) ∨
    (eqW a a = true ∧ eqW b b = true ∧ ((eqW a 0 = false ∧ ltW a b = decide (placeW a < placeW b) ∧ ltW b a = decide (placeW b < placeW a)) ∨ (eqW a 0 = true ∧ eqW b 0 = false ∧ ltW a b = decide (placeW a < placeW b) ∧ ltW b a = decide (placeW b < placeW a)))) := by
  rw [eqW_self, eqW_self, eqW_zero, eqW_zero]
  unfold ltW
  have pa := place_rk ha
  have pb := place_rk hb
  have ra : rk a = if ng a = true then -(mg a : Int) else mg a := rfl
  have rb : rk b = if ng b = true then -(mg b : Int) else mg b := rfl
  cases hna : isN a <;> cases hnb : isN b <;> simp
  by_cases h0 : mg a = 0
  · by_cases h1 : mg b = 0
    · simp [h0, h1]
    · right; simp [h0, h1]
      cases ea : ng a <;> cases eb : ng b <;> simp [ea, eb] at pa pb ra rb <;> omega
  · right; left; simp [h0]
    cases ea : ng a <;> cases eb : ng b <;> simp [ea, eb] at pa pb ra rb <;> omega

theorem le_of_place {a b : Nat} (ha : W64 a) (hb : W64 b) (hna : isN a = false) (hnb : isN b = false) (h : placeW a ≤ placeW b) : leW a b = true := by
  unfold leW
  rw [hna, hnb]
  have pa := place_rk ha
  have pb := place_rk hb
  have ra : rk a = if ng a = true then -(mg a : Int) else mg a := rfl
  have rb : rk b = if ng b = true then -(mg b : Int) else mg b := rfl
  simp
  cases ea : ng a <;> cases eb : ng b <;> simp [ea, eb] at pa pb ra rb <;> omega
theorem maxmin_ways {a b : Nat} (ha : W64 a) (hb : W64 b) : (eqW a a = false ∧ maxW a b = 9221120237041090561 ∧ maxW b a = 9221120237041090561 ∧ minW a b = 9221120237041090561 ∧ minW b a = 9221120237041090561) ∨
    (eqW a a = true ∧ eqW b b = false ∧ maxW a b = 9221120237041090561 ∧ maxW b a = 9221120237041090561 ∧ minW a b = 9221120237041090561 ∧ minW b a = 9221120237041090561) ∨
    (eqW a a = true ∧ eqW b b = true ∧ ((sameB b a = false ∧ maxW a b = b ∧ maxW b a = b ∧ minW a b = a ∧ minW b a = a ∧ (ltW a b || eqW b a) = true ∧ orderW a b ≤ 0) ∨ (maxW a b = a ∧ maxW b a = a ∧ minW a b = b ∧ minW b a = b ∧ (ltW b a || eqW a b) = true ∧ orderW b a ≤ 0))) := by
  rw [eqW_self, eqW_self]
  cases hna : isN a <;> cases hnb : isN b
  · refine .inr (.inr ⟨rfl, rfl, ?_⟩)
    unfold maxW minW
    simp only [hna, hnb, Bool.or_self, Bool.false_eq_true, if_false]
    rcases order_tri ha hb with ⟨h1, h2, h3, h4, h5⟩ | ⟨rfl, h1, h2, h3⟩ | ⟨h1, h2, h3, h4, h5⟩
    · left; rw [h1, h2]
      exact ⟨h4, rfl, rfl, rfl, rfl, by rw [eq_comm', ← le_or]; exact le_of_place ha hb hna hnb (by omega), by omega⟩
    · right; rw [h1]
      exact ⟨rfl, rfl, rfl, rfl, by rw [eq_comm', ← le_or]; exact le_of_place ha ha hna hna (by omega), by omega⟩
    · right; rw [h1, h2]
      exact ⟨rfl, rfl, rfl, rfl, by rw [eq_comm', ← le_or]; exact le_of_place hb ha hnb hna (by omega), by omega⟩
  · refine .inr (.inl ⟨rfl, rfl, ?_⟩); unfold maxW minW; rw [hna, hnb]; exact ⟨rfl, rfl, rfl, rfl⟩
  · refine .inl ⟨rfl, ?_⟩; unfold maxW minW; rw [hna, hnb]; exact ⟨rfl, rfl, rfl, rfl⟩
  · refine .inl ⟨rfl, ?_⟩; unfold maxW minW; rw [hna, hnb]; exact ⟨rfl, rfl, rfl, rfl⟩

theorem order_end_self (a : Nat) : (eqW a a = false) ∨ (eqW a a = true ∧ eqW a 0 = true) ∨ (eqW a a = true ∧ eqW a 0 = false ∧ ltW a a = false) := by
  have h : ltW a a = false := by unfold ltW; simp
  cases h1 : eqW a a
  · exact .inl rfl
  · cases h2 : eqW a 0
    · exact .inr (.inr ⟨rfl, rfl, h⟩)
    · exact .inr (.inl ⟨rfl, rfl⟩)
end TF
