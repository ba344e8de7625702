/- Sum and Product turned: the other order, the other signs. -/
import Derived.Test.YtkkikcfolinkfaaTwinZ
namespace TF
open Ieee Go Go.RowKit

theorem add_comm' {a b : Nat} : double.add a b = double.add b a := by
  by_cases ha : mg a < INF
  · by_cases hb : mg b < INF
    · rw [add_word ha hb, add_word hb ha, Bool.and_comm, Int.add_comm]
    · by_cases hb' : mg b = INF
      · rw [add_fin_inf ha hb', add_inf_fin hb' ha]
      · rw [add_nan_right (by omega), add_nan_left (by omega)]
  · by_cases ha' : mg a = INF
    · by_cases hb : mg b < INF
      · rw [add_inf_fin ha' hb, add_fin_inf hb ha']
      · by_cases hb' : mg b = INF
        · by_cases hs : ng a = ng b
          · rw [add_inf_inf ha' hb' hs, add_inf_inf hb' ha' hs.symm, hs]
          · rw [add_inf_opp ha' hb' hs, add_inf_opp hb' ha' (fun h => hs h.symm)]
        · rw [add_nan_right (by omega), add_nan_left (by omega)]
    · rw [add_nan_left (by omega), add_nan_right (by omega)]
theorem mul_comm' {a b : Nat} : double.mul a b = double.mul b a := by
  by_cases ha : mg a < INF
  · by_cases hb : mg b < INF
    · rw [mul_fin ha hb, mul_fin hb ha, Bool.xor_comm, Nat.mul_comm]
    · by_cases hb' : mg b = INF
      · rw [mul_fin_inf ha hb', mul_inf_fin hb' ha]
      · rw [mul_nan_right (by omega), mul_nan_left (by omega)]
  · by_cases ha' : mg a = INF
    · by_cases hb : mg b < INF
      · rw [mul_inf_fin ha' hb, mul_fin_inf hb ha']
      · by_cases hb' : mg b = INF
        · rw [mul_inf_inf ha' hb', mul_inf_inf hb' ha', Bool.xor_comm]
        · rw [mul_nan_right (by omega), mul_nan_left (by omega)]
    · rw [mul_nan_left (by omega), mul_nan_right (by omega)]

theorem canon_op_canon {s : Nat} (hs : W64 s) : canonW (op (canonW s)) = canonW (op s) := by
  have hs' : s < 2 ^ 64 := hs
  unfold canonW
  cases h : isN s
  · have hc : isN (op s) = false := by rw [isN_op hs]; exact h
    by_cases h0 : mg s = 0
    · simp only [h0, if_true, Bool.false_eq_true, if_false, hc, mg_op hs']
      decide
    · simp only [h0, Bool.false_eq_true, if_false]
  · have hc : isN (op s) = true := by rw [isN_op hs]; exact h
    simp only [if_true, hc]
    decide
theorem canon_op_rw (z : Bool) (n : Int) : canonW (op (rw' z n)) = rw' false (-n) := by
  have h1 : canonW (op (rw' z n)) = canonW (rw' (!z) (-n)) := by
    congr 1
    unfold rw'
    rw [op_wd (by have := INF_lt; omega), Int.natAbs_neg]
    congr 1
    by_cases h0 : n = 0
    · subst h0; simp
    · rw [if_neg h0, if_neg (by omega)]
      by_cases h1 : n < 0
      · rw [decide_eq_true h1, decide_eq_false (by omega)]; rfl
      · rw [decide_eq_false h1, decide_eq_true (by omega)]; rfl
  rw [h1, canon_rw]
theorem canon_op_zero : canonW (op 0) = 0 := by decide
theorem canon_op_nan : canonW (op 9221120237041090561) = 9221120237041090561 := by decide

theorem sumW_comm (a b : Nat) : sumW b a = sumW a b := by
  unfold sumW; rw [add_comm' (a := b)]
  split
  · rfl
  · split
    · rw [Int.add_comm]
    · rfl
theorem sumW_op {a b : Nat} (ha : W64 a) (hb : W64 b) : sumW (op a) (op b) = (canonW (op (sumW a b).1), canonW (op (sumW a b).2)) := by
  have hI := INF_lt
  have ha' : a < 2 ^ 64 := ha
  have hb' : b < 2 ^ 64 := hb
  have wdc : ∀ s : Bool, canonW (op (canonW (wd s INF))) = canonW (wd (!s) INF) := by
    intro s
    rw [canon_op_canon (wd_lt hI), op_wd hI]
  have inf : ∀ s : Bool, ¬ mg (wd s INF) < INF := by intro s; rw [mg_wd hI]; omega
  unfold sumW
  by_cases fa : mg a < INF
  · by_cases fb : mg b < INF
    · rw [add_word fa fb, add_word (by rw [mg_op ha']; exact fa) (by rw [mg_op hb']; exact fb), iv_op ha', iv_op hb', show -iv a + -iv b = -(iv a + iv b) from by omega]
      simp only [mg_rw, Int.natAbs_neg]
      by_cases hr : rnd (iv a + iv b).natAbs < INF
      · rw [if_pos (by omega), if_pos (by omega)]
        simp only [canon_rw, canon_op_rw, iv_rw hr]
        rw [iv_rw (by rw [Int.natAbs_neg]; exact hr), rI_neg]
        congr 2; omega
      · rw [if_neg (by omega), if_neg (by omega)]
        simp only [canon_rw, canon_op_rw, canon_op_zero]
    · by_cases fb' : mg b = INF
      · rw [add_fin_inf fa fb', add_fin_inf (by rw [mg_op ha']; exact fa) (by rw [mg_op hb']; exact fb'), ng_op hb']
        simp only
        rw [if_neg (inf _), if_neg (inf _)]
        simp only [wdc, canon_op_zero]
      · rw [add_nan_right (a := a) (b := b) (by omega), add_nan_right (a := op a) (b := op b) (by rw [mg_op hb']; omega)]
        simp only [canon_op_zero, canon_op_nan]
  · by_cases fa' : mg a = INF
    · by_cases fb : mg b < INF
      · rw [add_inf_fin fa' fb, add_inf_fin (by rw [mg_op ha']; exact fa') (by rw [mg_op hb']; exact fb), ng_op ha']
        simp only
        rw [if_neg (inf _), if_neg (inf _)]
        simp only [wdc, canon_op_zero]
      · by_cases fb' : mg b = INF
        · by_cases hs : ng a = ng b
          · rw [add_inf_inf fa' fb' hs, add_inf_inf (by rw [mg_op ha']; exact fa') (by rw [mg_op hb']; exact fb') (by rw [ng_op ha', ng_op hb', hs]), ng_op ha']
            simp only
            rw [if_neg (inf _), if_neg (inf _)]
            simp only [wdc, canon_op_zero]
          · rw [add_inf_opp fa' fb' hs, add_inf_opp (by rw [mg_op ha']; exact fa') (by rw [mg_op hb']; exact fb') (by rw [ng_op ha', ng_op hb']; simpa using hs)]
            simp only [canon_op_zero, canon_op_nan]
        · rw [add_nan_right (a := a) (b := b) (by omega), add_nan_right (a := op a) (b := op b) (by rw [mg_op hb']; omega)]
          simp only [canon_op_zero, canon_op_nan]
    · rw [add_nan_left (a := a) (b := b) (by omega), add_nan_left (a := op a) (b := op b) (by rw [mg_op ha']; omega)]
      simp only [canon_op_zero, canon_op_nan]

theorem prodIn_comm {a b p : Nat} : prodIn b a p ↔ prodIn a b p := by unfold prodIn; omega
theorem prodW_comm (a b : Nat) : prodW b a = prodW a b := by
  have e : floatBits .mul .f64 b a = floatBits .mul .f64 a b := mul_comm'
  unfold prodW
  rw [e]
  split
  · rfl
  · rename_i p _
    by_cases h : prodIn a b p
    · rw [if_pos h, if_pos (prodIn_comm.2 h), Int.mul_comm]
    · rw [if_neg h, if_neg (fun h' => h (prodIn_comm.1 h'))]
theorem prod_whole {a b p : Nat} (ha : W64 a) (hb : W64 b) (h : floatBits .mul .f64 a b = some p) (hin : prodIn a b p) : ∃ n : Int, iv a * iv b = Q * n := by
  obtain ⟨_, i1, i2, i3, i4⟩ := hin
  obtain ⟨_, _, _, _, _, _, _, _, _, _, _, _, _, _, _, A, B, P, K, hK, ia, ib, _⟩ := way_word ha hb (V_le996 i1) (V_le996 i2) h i3 i4
  refine ⟨A * B * (2 ^ K : Nat), ?_⟩
  rw [ia, ib]
  refine four ?_
  rw [← Int.natCast_mul, ← Nat.pow_add, hK, Nat.pow_add, Int.natCast_mul]; rfl
theorem prodW_op {a b : Nat} (ha : W64 a) (hb : W64 b) : prodW (op a) b = (canonW (op (prodW a b).1), canonW (op (prodW a b).2)) := by
  have ha' : a < 2 ^ 64 := ha
  cases h : floatBits .mul .f64 a b with
  | none =>
    have h2 : floatBits .mul .f64 (op a) b = none := by
      have := mul_op_left (b := b) ha
      rw [show double.mul a b = none from h] at this; exact this
    rw [prodW_none h, prodW_none h2]
    simp only [canon_op_zero, canon_op_nan]
  | some p =>
    have hp : W64 p := floatBits_lt h
    have hp' : p < 2 ^ 64 := hp
    have h2 : floatBits .mul .f64 (op a) b = some (op p) := by
      have := mul_op_left (b := b) ha
      rw [show double.mul a b = some p from h] at this; exact this
    have hin : prodIn (op a) b (op p) ↔ prodIn a b p := by unfold prodIn; rw [mg_op ha', mg_op hp']
    by_cases hi : prodIn a b p
    · obtain ⟨n, hn⟩ := prod_whole ha hb h hi
      rw [prodW_in h hi hn, prodW_in h2 (hin.2 hi) (n := -n) (by rw [iv_op ha', Int.neg_mul, hn, Int.mul_neg])]
      simp only [canon_op_canon hp, canon_op_rw, iv_op hp']
      congr 2; omega
    · rw [prodW_out h hi, prodW_out h2 (fun h' => hi (hin.1 h'))]
      simp only [canon_op_canon hp, canon_op_zero]
end TF
