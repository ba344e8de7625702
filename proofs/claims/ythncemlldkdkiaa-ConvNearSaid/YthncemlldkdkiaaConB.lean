/- Whole numbers of floats: Round and Floor. -/
import Derived.Test.YthncemlldkdkiaaLevI
namespace TF
open Ieee Go Go.RowKit

/-- a magnitude with its sign, where it is a number of 64 bits. -/
def whI (s : Bool) (r : Int) : Int × Bool := if s then (if r ≤ 9223372036854775808 then (-r, true) else (0, false)) else (if r < 9223372036854775808 then (r, true) else (0, false))
def roundI (x : Nat) : Int × Bool := if mg x < INF then whI (ng x) (nr (V (mg x))) else (0, false)
def floorI (x : Nat) : Int × Bool := if mg x < INF then whI (ng x) (flK (ng x) (V (mg x))) else (0, false)

theorem iv_two63 : iv 14114281232179134464 = -(2 ^ 63 * (Q : Int)) := by
  have h1 : ng 14114281232179134464 = true := by decide
  have h2 : mg 14114281232179134464 = 4890909195324358656 := by decide
  unfold iv
  rw [h1, h2, V_two63]
  simp
theorem V_two63' : V 4890909195324358656 = 9223372036854775808 * Q := by have := V_two63; omega
theorem rk_two63 : rk 14114281232179134464 = -4890909195324358656 := by decide
theorem rk_two63' : rk 4890909195324358656 = 4890909195324358656 := by decide
theorem eqW_two63 (x : Nat) : eqW x 14114281232179134464 = (ng x && decide (mg x = 4890909195324358656)) := by
  have hN : isN 14114281232179134464 = false := by decide
  have hI := INF_eq
  unfold eqW
  rw [hN, rk_two63]
  rw [Bool.eq_iff_iff]
  simp only [Bool.and_eq_true, Bool.not_eq_true', decide_eq_true_eq, Bool.not_false, and_true]
  unfold rk
  cases hg : ng x
  · simp only [Bool.false_eq_true, if_false]; constructor
    · intro h; omega
    · intro h; exact h.1.elim
  · simp only [if_true, true_and]; constructor
    · intro h; omega
    · intro h; exact ⟨isN_false.2 (by omega), by omega⟩
theorem V_ge_two63 {r : Nat} (h : 4890909195324358656 ≤ r) : V r % Q = 0 ∧ 9223372036854775808 ≤ V r / Q ∧ (r ≠ 4890909195324358656 → 9223372036854775808 < V r / Q) ∧ (r = 4890909195324358656 → V r / Q = 9223372036854775808) := by
  have hQ := Q_pos
  have h1 := V_le h
  rw [V_two63] at h1
  have h2 : V r % Q = 0 := whole_of_great (by omega)
  have h3 := Nat.div_add_mod (V r) Q
  rw [h2, Nat.add_zero] at h3
  refine ⟨h2, (Nat.le_div_iff_mul_le hQ).2 (by omega), fun hne => ?_, fun he => ?_⟩
  · have h4 := V_lt (show 4890909195324358656 < r by omega)
    rw [V_two63] at h4
    refine Nat.lt_of_not_le fun hc => ?_
    have := Nat.mul_le_mul_left Q hc
    omega
  · rw [he, V_two63]; exact Nat.mul_div_cancel _ hQ

theorem round_ways (x : Nat) :
    (ltW (mg x) 4890909195324358656 = true ∧ mg x < 4890909195324358656 ∧ nr (V (mg x)) < 9223372036854775808 ∧ ((ltW x 0 = true ∧ roundI x = (-(nr (V (mg x)) : Int), true)) ∨ (ltW x 0 = false ∧ roundI x = ((nr (V (mg x)) : Int), true)))) ∨
    (ltW (mg x) 4890909195324358656 = false ∧ eqW x 14114281232179134464 = true ∧ roundI x = (-9223372036854775808, true)) ∨
    (ltW (mg x) 4890909195324358656 = false ∧ eqW x 14114281232179134464 = false ∧ roundI x = (0, false)) := by
  have hI := INF_eq
  have hl : ltW (mg x) 4890909195324358656 = decide (mg x < 4890909195324358656) := by
    unfold ltW
    rw [isN_mg, rk_two63', rk_small (mg_lt x), show isN 4890909195324358656 = false from by decide]
    by_cases hN : isN x = true
    · rw [hN]
      have := isN_true.1 hN
      rw [decide_eq_false (p := mg x < _) (by omega)]; rfl
    · rw [Bool.not_eq_true] at hN
      rw [hN, Bool.eq_iff_iff]
      simp only [Bool.not_false, Bool.true_and, decide_eq_true_eq]; omega
  rw [hl, eqW_two63]
  by_cases h : mg x < 4890909195324358656
  · obtain ⟨r, k, h1, h2, h3, h4, h5⟩ := near_ways h
    refine .inl ⟨decide_eq_true h, h, h4, ?_⟩
    have hN : isN x = false := isN_false.2 (by omega)
    have hr : roundI x = whI (ng x) (nr (V (mg x))) := if_pos (by omega)
    rw [hr, ltW_nought, hN]
    by_cases h0 : mg x = 0
    · have hz : nr (V (mg x)) = 0 := by rw [h0, V_zero]; unfold nr; simp
      refine .inr ⟨by rw [h0]; simp, ?_⟩
      rw [hz]; unfold whI; cases ng x <;> rfl
    · cases hg : ng x
      · refine .inr ⟨by simp, ?_⟩
        unfold whI; rw [if_neg Bool.false_ne_true, if_pos (by omega)]
      · refine .inl ⟨by simp [h0], ?_⟩
        unfold whI; rw [if_pos rfl, if_pos (by omega)]
  · rw [decide_eq_false h]
    refine .inr ?_
    obtain ⟨v1, v2, v3, v4⟩ := V_ge_two63 (r := mg x) (by omega)
    have hw := nr_whole v1
    cases hg : ng x
    · refine .inr ⟨rfl, rfl, ?_⟩
      unfold roundI; rw [hg]
      split
      · unfold whI; rw [if_neg Bool.false_ne_true, hw, if_neg (by omega)]
      · rfl
    · by_cases he : mg x = 4890909195324358656
      · refine .inl ⟨rfl, by rw [decide_eq_true he]; rfl, ?_⟩
        unfold roundI whI; rw [hg, if_pos (by omega), if_pos rfl, hw, v4 he, if_pos (by omega)]; rfl
      · refine .inr ⟨rfl, by rw [decide_eq_false he]; rfl, ?_⟩
        have := v3 he
        unfold roundI; rw [hg]
        split
        · unfold whI; rw [if_pos rfl, hw, if_neg (by omega)]
        · rfl

/-- the whole number below, as a float. -/
theorem fl_word {x : Nat} (_ : mg x < INF) : ng (flW x) = ng x ∧ mg (flW x) = min (rnd (flK (ng x) (V (mg x)) * Q)) INF ∧ V (rnd (flK (ng x) (V (mg x)) * Q)) = flK (ng x) (V (mg x)) * Q := by
  have hI := INF_lt
  unfold flW
  refine ⟨ng_wd (by omega), mg_wd (by omega), (rep_fl _ _).eq⟩
theorem flw_rk {x : Nat} (h : mg x < INF) : (rnd (flK (ng x) (V (mg x)) * Q) ≤ 4890909195324358656 ↔ flK (ng x) (V (mg x)) ≤ 9223372036854775808) ∧ (rnd (flK (ng x) (V (mg x)) * Q) < 4890909195324358656 ↔ flK (ng x) (V (mg x)) < 9223372036854775808) := by
  obtain ⟨-, -, hV⟩ := fl_word h
  have hQ := Q_pos
  generalize rnd (flK (ng x) (V (mg x)) * Q) = r at *
  generalize flK (ng x) (V (mg x)) = k at *
  rw [← V_le_iff, ← V_lt_iff, hV, V_two63']
  generalize Q = u at *
  exact ⟨⟨fun h => Nat.le_of_mul_le_mul_right h hQ, fun h => Nat.mul_le_mul_right _ h⟩, ⟨fun h => Nat.lt_of_mul_lt_mul_right h, fun h => Nat.mul_lt_mul_of_pos_right h hQ⟩⟩
theorem floor_ways {x : Nat} (h : mg x < INF) :
    ((ltW 14114281232179134464 (flW x) || eqW (flW x) 14114281232179134464) = true ∧ ltW (flW x) 4890909195324358656 = true ∧ ∃ n : Int, floatToIntVal .f64 (flW x) .i64 = some n ∧ floorI x = (n, true)) ∨
    ((ltW 14114281232179134464 (flW x) || eqW (flW x) 14114281232179134464) = true ∧ ltW (flW x) 4890909195324358656 = false ∧ floorI x = (0, false)) ∨
    ((ltW 14114281232179134464 (flW x) || eqW (flW x) 14114281232179134464) = false ∧ floorI x = (0, false)) := by
  have hI := INF_eq
  obtain ⟨h1, h2, h3⟩ := fl_word h
  obtain ⟨r1, r2⟩ := flw_rk h
  have hf : floorI x = whI (ng x) (flK (ng x) (V (mg x))) := if_pos h
  have hN : isN (flW x) = false := isN_false.2 (by rw [h2]; omega)
  have a1 : (ltW 14114281232179134464 (flW x) || eqW (flW x) 14114281232179134464) = decide (-4890909195324358656 ≤ rk (flW x)) := by
    unfold ltW eqW
    rw [hN, show isN 14114281232179134464 = false from by decide, rk_two63, Bool.eq_iff_iff]
    simp only [Bool.not_false, Bool.true_and, Bool.or_eq_true, decide_eq_true_eq]; omega
  have a2 : ltW (flW x) 4890909195324358656 = decide (rk (flW x) < 4890909195324358656) := by
    unfold ltW
    rw [hN, show isN 4890909195324358656 = false from by decide, rk_two63']; rfl
  have a3 : rk (flW x) = if ng x then -((min (rnd (flK (ng x) (V (mg x)) * Q)) INF : Nat) : Int) else ((min (rnd (flK (ng x) (V (mg x)) * Q)) INF : Nat) : Int) := by
    unfold rk; rw [h1, h2]
  rw [a1, a2, a3]
  have key : rnd (flK (ng x) (V (mg x)) * Q) ≤ 4890909195324358656 → -9223372036854775808 ≤ (if ng x then -(flK (ng x) (V (mg x)) : Int) else (flK (ng x) (V (mg x)) : Int)) → (if ng x then -(flK (ng x) (V (mg x)) : Int) else (flK (ng x) (V (mg x)) : Int)) < 9223372036854775808 →
      floatToIntVal .f64 (flW x) .i64 = some (if ng x then -(flK (ng x) (V (mg x)) : Int) else (flK (ng x) (V (mg x)) : Int)) := by
    intro hr k1 k2
    have hm : mg (flW x) = rnd (flK (ng x) (V (mg x)) * Q) := by rw [h2]; omega
    unfold floatToIntVal
    rw [toInt_zero (by rw [hm]; omega), h1, hm, h3, Nat.mul_div_cancel _ Q_pos]
    show (if IntKind.i64.min ≤ _ ∧ _ ≤ IntKind.i64.max then some _ else none) = _
    rw [if_pos ⟨by show -9223372036854775808 ≤ _; exact k1, by show _ ≤ 9223372036854775807; omega⟩]
  rw [hf]
  generalize rnd (flK (ng x) (V (mg x)) * Q) = r at *
  generalize flK (ng x) (V (mg x)) = k at *
  cases hg : ng x
  · rw [hg] at key
    simp only [Bool.false_eq_true, if_false] at *
    by_cases hk : k < 9223372036854775808
    · refine .inl ⟨decide_eq_true (by omega), decide_eq_true (by omega), _, key (by omega) (by omega) (by omega), ?_⟩
      unfold whI; rw [if_neg Bool.false_ne_true, if_pos (by omega)]
    · refine .inr (.inl ⟨decide_eq_true (by omega), decide_eq_false (by omega), ?_⟩)
      unfold whI; rw [if_neg Bool.false_ne_true, if_neg (by omega)]
  · rw [hg] at key
    simp only [if_true] at *
    by_cases hk : k ≤ 9223372036854775808
    · refine .inl ⟨decide_eq_true (by omega), decide_eq_true (by omega), _, key (by omega) (by omega) (by omega), ?_⟩
      unfold whI; rw [if_pos rfl, if_pos (by omega)]
    · refine .inr (.inr ⟨decide_eq_false (by omega), ?_⟩)
      unfold whI; rw [if_pos rfl, if_neg (by omega)]

/-- the reference: what it reckons out of the parts. -/
theorem rround_ways (x : Nat) :
    ((partsW x = 1 ∨ partsW x = 2) ∧ partsE x = 0 ∧ partsM x = 0 ∧ roundI x = (0, false) ∧ floorI x = (0, false)) ∨
    (partsW x = 0 ∧ -1074 ≤ partsE x ∧ partsE x < 0 ∧ 0 ≤ partsM x ∧ partsM x < 9007199254740992 ∧ (∃ r : Int, 0 ≤ r ∧ r ≤ 9223372036854775808 ∧ nearI (partsM x) (-partsE x) = r ∧ roundI x = whI (ng x) r) ∧
      (∃ q c : Int, 0 ≤ q ∧ q < 9223372036854775808 ∧ downQ (partsM x) (-partsE x) = q ∧ downC (partsM x) (-partsE x) = c ∧ 0 ≤ c ∧ floorI x = whI (ng x) (if ng x = true ∧ 0 < c then q + 1 else q))) ∨
    (partsW x = 0 ∧ 0 ≤ partsE x ∧ partsE x ≤ 971 ∧ 0 ≤ partsM x ∧ partsM x < 9007199254740992 ∧
     ((greatB (partsM x) (partsE x) = true ∧ roundI x = (0, false) ∧ floorI x = (0, false)) ∨
      (greatB (partsM x) (partsE x) = false ∧ partsE x ≤ 11 ∧ ∃ r : Int, 0 ≤ r ∧ r ≤ 9223372036854775808 ∧ partsM x * 2 ^ (partsE x).toNat = r ∧ roundI x = whI (ng x) r ∧ floorI x = whI (ng x) r))) := by
  rcases parts_ways x with ⟨hN, h1, h2, h3⟩ | ⟨hN, h, h1, h2, h3⟩ | ⟨hN, h, h1, h2, h3, h4, h5, h6, h7, h8⟩ | ⟨hN, h, h1, h2, h3, h4, h5, h6, h7⟩
  · have := isN_true.1 hN
    exact .inl ⟨.inr h3, h2, h1, if_neg (by omega), if_neg (by omega)⟩
  · exact .inl ⟨.inl h3, h2, h1, if_neg (by omega), if_neg (by omega)⟩
  · refine .inr (.inl ⟨h1, h2, h3, h4, h5, ?_, ?_⟩)
    · have hb := down_bound (m := partsM x) (s := -partsE x) (by omega) h4 (by omega)
      refine ⟨_, by omega, ?_, h6, if_pos h⟩
      rw [← h6]; unfold nearI; split <;> omega
    · have hb := down_bound (m := partsM x) (s := -partsE x) (by omega) h4 (by omega)
      have hc0 : 0 ≤ downC (partsM x) (-partsE x) := by unfold downC; repeat' split <;> omega
      refine ⟨_, _, hb.1, hb.2, rfl, rfl, hc0, ?_⟩
      have hf : floorI x = whI (ng x) (flK (ng x) (V (mg x))) := if_pos h
      rw [hf]
      congr 1
      unfold flK
      rw [h7]
      cases ng x
      · simp
      · by_cases hz : V (mg x) % Q = 0
        · have := h8.2 hz
          rw [if_neg (by simp [hz]), if_neg (by omega)]; simp
        · have : ¬ downC (partsM x) (-partsE x) = 0 := fun hc => hz (h8.1 hc)
          rw [if_pos ⟨rfl, hz⟩, if_pos ⟨rfl, by omega⟩]; simp
  · have hnr := nr_whole h6
    have hr : roundI x = whI (ng x) (V (mg x) / Q : Nat) := by
      have : roundI x = whI (ng x) (nr (V (mg x))) := if_pos h
      rw [this, hnr]
    have hf : floorI x = whI (ng x) (V (mg x) / Q : Nat) := by
      have : floorI x = whI (ng x) (flK (ng x) (V (mg x))) := if_pos h
      rw [this]; unfold flK; rw [h6]; simp
    refine .inr (.inr ⟨h1, h2, h3, h4, h5, ?_⟩)
    rcases h7 with ⟨g1, g2⟩ | ⟨g1, g2, g3, g4⟩
    · have hz : whI (ng x) (V (mg x) / Q : Nat) = (0, false) := by
        unfold whI; split
        · rw [if_neg (by omega)]
        · rw [if_neg (by omega)]
      exact .inl ⟨g1, by rw [hr, hz], by rw [hf, hz]⟩
    · exact .inr ⟨g1, g2, _, by omega, by omega, g3, hr, hf⟩
end TF
