/- The limiters as plain functions of positive words. -/
import Derived.Test.YtjbiklkjcalmkaaFloatD
import Derived.Test.YtjbiklkjcalmkaaTwinC
namespace TF
open Ieee Go Go.RowKit

/-- A word above 0 (the infinity too). -/
structure Pos (a : Nat) : Prop where
  gt : 0 < a
  le : a ≤ INF
theorem Pos.w64 {a : Nat} (h : Pos a) : W64 a := show a < 2 ^ 64 by have := h.le; have := INF_lt; omega
theorem Pos.mg {a : Nat} (h : Pos a) : mg a = a := mg_small (by have := h.le; have := INF_lt; omega)
theorem Pos.ng {a : Nat} (h : Pos a) : ng a = false := ng_small (by have := h.le; have := INF_lt; omega)
theorem Pos.isN {a : Nat} (h : Pos a) : isN a = false := isN_false.2 (by rw [h.mg]; exact h.le)
theorem Pos.canon {a : Nat} (h : Pos a) : canonW a = a := by
  unfold canonW
  rw [h.isN, h.mg, if_neg Bool.false_ne_true, if_neg (by have := h.gt; omega)]
theorem Pos.ltW {a b : Nat} (ha : Pos a) (hb : Pos b) : ltW a b = decide (a < b) := by
  have hI := INF_lt
  have := ha.le
  have := hb.le
  unfold TF.ltW
  rw [ha.isN, hb.isN, rk_small (by omega), rk_small (by omega)]
  simp
theorem Pos.min {a b : Nat} (ha : Pos a) (hb : Pos b) : Pos (min a b) := ⟨by have := ha.gt; have := hb.gt; omega, by have := ha.le; omega⟩
theorem Pos.max {a b : Nat} (ha : Pos a) (hb : Pos b) : Pos (max a b) := ⟨by have := ha.gt; omega, by have := ha.le; have := hb.le; omega⟩
theorem pos_of {a : Nat} (ha : W64 a) (h : ltW 0 a = true) : Pos a := by
  have hn : isN a = false := by
    unfold ltW at h
    cases hc : isN a
    · rfl
    · rw [hc] at h; simp at h
  rw [zero_ltW hn] at h
  have ha' : a < 2 ^ 64 := ha
  simp only [Bool.and_eq_true, Bool.not_eq_true', decide_eq_true_eq] at h
  have e := word_split ha'
  rw [h.1] at e
  have e : a = mg a := e
  have := isN_false.1 hn
  exact ⟨by omega, by omega⟩
theorem neg_of {a : Nat} (ha : W64 a) (h : ltW a 0 = true) : Pos (op a) ∧ op (op a) = a := by
  have hn : isN a = false := by
    unfold ltW at h
    cases hc : isN a
    · rfl
    · rw [hc] at h; simp at h
  rw [ltW_zero hn] at h
  have ha' : a < 2 ^ 64 := ha
  simp only [Bool.and_eq_true, decide_eq_true_eq] at h
  have e : op a = a - 2 ^ 63 := by unfold op; rw [h.1, if_pos rfl]
  have h1 := (ng_iff ha').1 h.1
  have h2 : mg a = a - 2 ^ 63 := by unfold mg; omega
  have := isN_false.1 hn
  exact ⟨⟨by omega, by omega⟩, op_op ha'⟩

theorem minW_pos {a b : Nat} (ha : Pos a) (hb : Pos b) : minW a b = min a b := by
  have hI := INF_lt
  have := ha.le
  have := hb.le
  have e1 : placeW a = a + 9223372036854775808 := by unfold placeW; rw [if_neg (by omega)]
  have e2 : placeW b = b + 9223372036854775808 := by unfold placeW; rw [if_neg (by omega)]
  unfold minW orderW
  rw [ha.isN, hb.isN, if_neg (by simp), e1, e2]
  unfold cmpN
  (repeat' split) <;> omega
theorem maxW_pos {a b : Nat} (ha : Pos a) (hb : Pos b) : maxW a b = max a b := by
  have hI := INF_lt
  have := ha.le
  have := hb.le
  have e1 : placeW a = a + 9223372036854775808 := by unfold placeW; rw [if_neg (by omega)]
  have e2 : placeW b = b + 9223372036854775808 := by unfold placeW; rw [if_neg (by omega)]
  unfold maxW orderW
  rw [ha.isN, hb.isN, if_neg (by simp), e1, e2]
  unfold cmpN
  (repeat' split) <;> omega

/-- Twice. -/
def dbl (a : Nat) : Nat := if a < INF then min (rnd (2 * V a)) INF else INF
theorem mul_two {a : Nat} (h : Pos a) : floatBits .mul .f64 4611686018427387904 a = some (dbl a) := by
  have hI := INF_lt
  have hle := h.le
  have e2 : mg 4611686018427387904 = 4611686018427387904 := by decide
  have e3 : ng 4611686018427387904 = false := by decide
  show double.mul _ _ = _
  unfold dbl
  by_cases ha : a < INF
  · rw [mul_fin (by decide) (by rw [h.mg]; exact ha), if_pos ha, e2, e3, h.mg, h.ng, rnd2_two]; rfl
  · rw [mul_fin_inf (by decide) (by rw [h.mg]; omega), if_neg ha, e2, e3, h.ng, if_neg (by decide)]; rfl
theorem dbl_le {a : Nat} (h : Pos a) : a ≤ dbl a := by
  have := h.le
  unfold dbl
  split
  · have : a ≤ rnd (2 * V a) := le_rnd_of (by omega)
    omega
  · omega
theorem dbl_pos {a : Nat} (h : Pos a) : Pos (dbl a) := ⟨by have := dbl_le h; have := h.gt; omega, by unfold dbl; split <;> omega⟩
theorem dbl_mono {a b : Nat} (hb : Pos b) (h : a ≤ b) : dbl a ≤ dbl b := by
  have := hb.le
  unfold dbl
  by_cases h1 : b < INF
  · rw [if_pos h1, if_pos (by omega)]
    have := rnd_mono (show 2 * V a ≤ 2 * V b by have := V_le h; omega)
    omega
  · rw [if_neg h1]; split <;> omega

def leerQ (a b : Nat) : Option Nat := (floatBits .mul .f64 (dbl a) b).bind fun p => (floatBits .add .f64 a b).bind fun s => floatBits .quo .f64 p s
def leerW (a b : Nat) : Nat := match leerQ a b with | none => 0 | some q => if finB q then q else 0
def aboveW (k : Int) (a b : Nat) : Nat := if k = 1 then min a b else if k = 2 then max (min (dbl a) b) (min a (dbl b)) else if k = 3 then leerW a b else 0
def slopeW (k : Int) (a b : Nat) : Nat :=
  if 0 ≤ k ∧ k ≤ 3 then if ltW 0 a && ltW 0 b then canonW (aboveW k a b) else if ltW a 0 && ltW b 0 then canonW (op (aboveW k (op a) (op b))) else 0 else 0

theorem add_pos' {a b : Nat} (ha : Pos a) (hb : Pos b) : ∃ s, floatBits .add .f64 a b = some s ∧ Pos s := by
  have hI := INF_lt
  have h1 := ha.le
  have h2 := hb.le
  show ∃ s, double.add a b = some s ∧ _
  by_cases fa : a < INF
  · by_cases fb : b < INF
    · refine ⟨_, add_word (by rw [ha.mg]; exact fa) (by rw [hb.mg]; exact fb), ?_⟩
      have ia : iv a = V a := by unfold iv; rw [ha.ng, ha.mg]; rfl
      have ib : iv b = V b := by unfold iv; rw [hb.ng, hb.mg]; rfl
      rw [ia, ib]
      have h0 : 0 < V a := by have := V_lt ha.gt; rw [V_zero] at this; exact this
      unfold rw'
      rw [if_neg (by omega), decide_eq_false (by omega)]
      show Pos (min _ _)
      have : a ≤ rnd ((V a : Int) + V b).natAbs := le_rnd_of (by omega)
      exact ⟨by have := ha.gt; omega, by omega⟩
    · refine ⟨_, add_fin_inf (by rw [ha.mg]; exact fa) (by rw [hb.mg]; omega), ?_⟩
      rw [hb.ng]; exact ⟨by have := INF_eq; show 0 < INF; omega, Nat.le_refl _⟩
  · by_cases fb : b < INF
    · refine ⟨_, add_inf_fin (by rw [ha.mg]; omega) (by rw [hb.mg]; exact fb), ?_⟩
      rw [ha.ng]; exact ⟨by have := INF_eq; show 0 < INF; omega, Nat.le_refl _⟩
    · refine ⟨_, add_inf_inf (by rw [ha.mg]; omega) (by rw [hb.mg]; omega) (by rw [ha.ng, hb.ng]), ?_⟩
      rw [ha.ng]; exact ⟨by have := INF_eq; show 0 < INF; omega, Nat.le_refl _⟩
theorem mul_pos' {a b : Nat} (ha : Pos a) (hb : Pos b) : ∃ p, floatBits .mul .f64 a b = some p := by
  have h1 := ha.le
  have h2 := hb.le
  show ∃ p, double.mul a b = some p
  by_cases fa : a < INF
  · by_cases fb : b < INF
    · exact ⟨_, mul_fin (by rw [ha.mg]; exact fa) (by rw [hb.mg]; exact fb)⟩
    · rw [mul_fin_inf (by rw [ha.mg]; exact fa) (by rw [hb.mg]; omega), if_neg (by rw [ha.mg]; have := ha.gt; omega)]
      exact ⟨_, rfl⟩
  · by_cases fb : b < INF
    · rw [mul_inf_fin (by rw [ha.mg]; omega) (by rw [hb.mg]; exact fb), if_neg (by rw [hb.mg]; have := hb.gt; omega)]
      exact ⟨_, rfl⟩
    · exact ⟨_, mul_inf_inf (by rw [ha.mg]; omega) (by rw [hb.mg]; omega)⟩

theorem leer_ways {a b : Nat} (ha : Pos a) (hb : Pos b) : ∃ p s, floatBits .mul .f64 4611686018427387904 a = some (dbl a) ∧ floatBits .mul .f64 (dbl a) b = some p ∧ floatBits .add .f64 a b = some s ∧
    ((floatBits .quo .f64 p s = none ∧ leerW a b = 0) ∨ ∃ q, floatBits .quo .f64 p s = some q ∧ W64 q ∧ ((finB q = true ∧ leerW a b = q ∧ classW q < 3 ∧ eqW q q = true ∧ ltW 9218868437227405311 (mg q) = false) ∨ (finB q = false ∧ leerW a b = 0 ∧ 3 ≤ classW q ∧ (eqW q q = false ∨ (eqW q q = true ∧ ltW 9218868437227405311 (mg q) = true))))) := by
  obtain ⟨p, hp⟩ := mul_pos' (dbl_pos ha) hb
  obtain ⟨s, hs, _⟩ := add_pos' ha hb
  refine ⟨p, s, mul_two ha, hp, hs, ?_⟩
  have e : leerQ a b = floatBits .quo .f64 p s := by unfold leerQ; rw [hp, hs]; rfl
  cases hq : floatBits .quo .f64 p s with
  | none => left; exact ⟨rfl, by unfold leerW; rw [e, hq]⟩
  | some q =>
    right
    have hI := INF_eq
    have hm := mg_lt q
    refine ⟨q, rfl, W64.of_wf (floatBits_wf hq), ?_⟩
    have hl : leerW a b = if finB q then q else 0 := by unfold leerW; rw [e, hq]
    have hlt : isN q = false → ltW 9218868437227405311 (mg q) = decide (9218868437227405311 < mg q) := by
      intro hn
      unfold ltW
      rw [isN_mg, show isN 9218868437227405311 = false from by decide, hn, rk_small (r := 9218868437227405311) (by omega), rk_small hm]
      simp; omega
    have hc : classW q = if mg q = 0 then 0 else if mg q < 4503599627370496 then 1 else if mg q < 9218868437227405312 then 2 else if mg q = 9218868437227405312 then 3 else 4 := rfl
    by_cases hf : mg q < INF
    · left
      have hn : isN q = false := isN_false.2 (by omega)
      refine ⟨finB_true.2 hf, by rw [hl, finB_true.2 hf, if_pos rfl], ?_, by rw [eqW_self, hn]; rfl, by rw [hlt hn]; simp; omega⟩
      rw [hc]; split <;> (try split) <;> (try split) <;> omega
    · right
      refine ⟨finB_false.2 (by omega), by rw [hl, finB_false.2 (by omega)]; rfl, ?_, ?_⟩
      · rw [hc, if_neg (by omega), if_neg (by omega), if_neg (by omega)]; split <;> omega
      · cases hn : isN q
        · right; exact ⟨by rw [eqW_self, hn]; rfl, by rw [hlt hn]; simp; omega⟩
        · left; rw [eqW_self, hn]; rfl
end TF
