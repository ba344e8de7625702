/- The reference's functions of layer 1, way by way, against the plain functions. -/
import Derived.Test.YthncemlldkdkiaaBitsN
namespace TF
open Ieee Go Go.RowKit

theorem mod_mg {b : Nat} (n m : Int) (hn : n = b) (hm : m = mg b) : n % 9223372036854775808 = m := by subst hn; subst hm; unfold mg; omega
theorem tmod_mg {b : Nat} (n m : Int) (hn : n = b) (hm : m = mg b) : n.tmod 9223372036854775808 = m := by
  rw [Int.tmod_eq_emod_of_nonneg (by omega)]; exact mod_mg n m hn hm
theorem below_cases {b : Nat} (hb : W64 b) (n : Int) (hn : n = b) : (ng b = true ∧ 9223372036854775808 ≤ n) ∨ (ng b = false ∧ n < 9223372036854775808) := by
  have h : b < 2 ^ 64 := hb
  cases e : ng b
  · rw [ng_false_iff h] at e; exact .inr ⟨rfl, by omega⟩
  · rw [ng_iff h] at e; exact .inl ⟨rfl, by omega⟩
theorem none_cases {b : Nat} (m : Int) (hm : m = mg b) : (isN b = true ∧ 9218868437227405312 < m) ∨ (isN b = false ∧ m ≤ 9218868437227405312) := by
  have hI := INF_eq
  cases e : isN b
  · rw [isN_false] at e; exact .inr ⟨rfl, by omega⟩
  · rw [isN_true] at e; exact .inl ⟨rfl, by omega⟩
theorem canon_cases (b : Nat) (m : Int) (hm : m = mg b) : (canonW b = 9221120237041090561 ∧ isN b = true) ∨ (isN b = false ∧ ((canonW b = 0 ∧ m = 0) ∨ (canonW b = b ∧ (m == 0) = false))) := by
  unfold canonW
  cases e : isN b
  · right
    refine ⟨rfl, ?_⟩
    rw [if_neg Bool.false_ne_true]
    by_cases h0 : mg b = 0
    · rw [if_pos h0]; exact .inl ⟨rfl, by omega⟩
    · rw [if_neg h0]; exact .inr ⟨rfl, by simp; omega⟩
  · left; exact ⟨rfl, rfl⟩
theorem rup_cases {b : Nat} (hb : W64 b) (m : Int) (hm : m = mg b) : (upW b = 9221120237041090561 ∧ isN b = true) ∨ (isN b = false ∧ ((upW b = 1 ∧ m = 0) ∨ ((m == 0) = false ∧ 0 < m ∧ m ≤ 9218868437227405312 ∧
    ((ng b = true ∧ upW b = (m + 9223372036854775807).toNat) ∨ (ng b = false ∧ ((upW b = b ∧ m = 9218868437227405312) ∨ ((m == 9218868437227405312) = false ∧ upW b = (m + 1).toNat))))))) := by
  have h64 : b < 2 ^ 64 := hb
  have hI := INF_eq
  cases e : isN b
  · right
    refine ⟨rfl, ?_⟩
    have hle := isN_false.1 e
    have key : (ng b = true → 2 ^ 63 ≤ b ∧ mg b = b - 2 ^ 63) ∧ (ng b = false → b < 2 ^ 63 ∧ mg b = b) := by
      refine ⟨fun hg => ?_, fun hg => ?_⟩
      · rw [ng_iff h64] at hg; exact ⟨hg, by unfold mg; omega⟩
      · rw [ng_false_iff h64] at hg; exact ⟨hg, mg_small hg⟩
    unfold upW
    rw [e, if_neg Bool.false_ne_true]
    by_cases h0 : mg b = 0
    · left
      have : b ≠ 9218868437227405312 := by intro e; subst e; revert h0; decide
      rw [if_neg this, if_pos h0]; exact ⟨rfl, by omega⟩
    · right
      refine ⟨by simp; omega, by omega, by omega, ?_⟩
      cases hg : ng b
      · right
        have := key.2 hg
        refine ⟨rfl, ?_⟩
        by_cases h1 : b = 9218868437227405312
        · rw [if_pos h1]; exact .inl ⟨rfl, by omega⟩
        · rw [if_neg h1, if_neg h0, if_neg (by omega)]; exact .inr ⟨by simp; omega, by omega⟩
      · left
        have := key.1 hg
        rw [if_neg (by omega), if_neg h0, if_pos (by omega)]
        exact ⟨rfl, by omega⟩
  · left
    unfold upW; rw [e, if_pos rfl]; exact ⟨rfl, rfl⟩
theorem opp_cases {b : Nat} (hb : W64 b) (m : Int) (hm : m = mg b) : 0 ≤ m ∧ m ≤ 9223372036854775807 ∧ ((ng b = true ∧ op b = m.toNat) ∨ (ng b = false ∧ op b = (m + 9223372036854775808).toNat)) := by
  have h64 : b < 2 ^ 64 := hb
  have := mg_lt b
  refine ⟨by omega, by omega, ?_⟩
  rw [word_split (op_lt h64), mg_op h64, ng_op h64]
  cases hg : ng b
  · right; refine ⟨rfl, ?_⟩; show 2 ^ 63 + mg b = _; omega
  · left; refine ⟨rfl, ?_⟩; show mg b = _; omega
theorem rulp_cases (x : Nat) (m : Int) (hm : m = mg x) : (ulpW x = 9221120237041090561 ∧ isN x = true) ∨ (isN x = false ∧ ((ulpW x = 9218868437227405312 ∧ 9218868437227405311 ≤ m) ∨ (0 ≤ m ∧ m < 9218868437227405311 ∧ ∃ a b r, a = (m + 1).toNat ∧ b = m.toNat ∧ floatBits .sub .f64 a b = some r ∧ ulpW x = r))) := by
  have hI := INF_eq
  cases e : isN x
  · right
    refine ⟨rfl, ?_⟩
    by_cases h : 9218868437227405311 ≤ mg x
    · left; unfold ulpW; rw [e, if_neg Bool.false_ne_true, if_pos h]; exact ⟨rfl, by omega⟩
    · right
      refine ⟨by omega, by omega, mg x + 1, mg x, _, by omega, by omega, (sub_step (show mg x + 1 < INF by omega)).1, ?_⟩
      exact ulpW_fin (by omega)
  · left; unfold ulpW; rw [e, if_pos rfl]; exact ⟨rfl, rfl⟩
theorem rorder_cases {a b : Nat} (ha : W64 a) (hb : W64 b) (x y : Int) (hx : x = a) (hy : y = b) : (orderW a b = 0 ∧ x = y) ∨ ((x == y) = false ∧
    ((ng a = true ∧ ng b = true ∧ ((orderW a b = -1 ∧ y < x) ∨ (orderW a b = 1 ∧ ¬ y < x))) ∨ (ng a = true ∧ ng b = false ∧ orderW a b = -1) ∨ (ng a = false ∧ ng b = true ∧ orderW a b = 1) ∨
      (ng a = false ∧ ng b = false ∧ ((orderW a b = -1 ∧ x < y) ∨ (orderW a b = 1 ∧ ¬ x < y))))) := by
  have ha' : a < 2 ^ 64 := ha
  have hb' : b < 2 ^ 64 := hb
  have pa : (ng a = true → 2 ^ 63 ≤ a ∧ placeW a = 18446744073709551615 - a) ∧ (ng a = false → a < 2 ^ 63 ∧ placeW a = a + 9223372036854775808) := by
    unfold placeW
    refine ⟨fun hg => ?_, fun hg => ?_⟩
    · rw [ng_iff ha'] at hg; rw [if_pos (by omega)]; exact ⟨hg, rfl⟩
    · rw [ng_false_iff ha'] at hg; rw [if_neg (by omega)]; exact ⟨hg, rfl⟩
  have pb : (ng b = true → 2 ^ 63 ≤ b ∧ placeW b = 18446744073709551615 - b) ∧ (ng b = false → b < 2 ^ 63 ∧ placeW b = b + 9223372036854775808) := by
    unfold placeW
    refine ⟨fun hg => ?_, fun hg => ?_⟩
    · rw [ng_iff hb'] at hg; rw [if_pos (by omega)]; exact ⟨hg, rfl⟩
    · rw [ng_false_iff hb'] at hg; rw [if_neg (by omega)]; exact ⟨hg, rfl⟩
  have lt : placeW a < placeW b → orderW a b = -1 := fun h => by unfold orderW cmpN; rw [if_pos h]
  have gt : placeW b < placeW a → orderW a b = 1 := fun h => by unfold orderW cmpN; rw [if_neg (by omega), if_pos h]
  by_cases e : a = b
  · left; subst e; exact ⟨order_self a, by omega⟩
  · right
    refine ⟨by simp; omega, ?_⟩
    cases ga : ng a <;> cases gb : ng b
    · have := pa.2 ga; have := pb.2 gb
      refine .inr (.inr (.inr ⟨rfl, rfl, ?_⟩))
      by_cases h : a < b
      · exact .inl ⟨lt (by omega), by omega⟩
      · exact .inr ⟨gt (by omega), by omega⟩
    · have := pa.2 ga; have := pb.1 gb
      exact .inr (.inr (.inl ⟨rfl, rfl, gt (by omega)⟩))
    · have := pa.1 ga; have := pb.2 gb
      exact .inr (.inl ⟨rfl, rfl, lt (by omega)⟩)
    · have := pa.1 ga; have := pb.1 gb
      refine .inl ⟨rfl, rfl, ?_⟩
      by_cases h : b < a
      · exact .inl ⟨lt (by omega), by omega⟩
      · exact .inr ⟨gt (by omega), by omega⟩
theorem rmax_cases (a b : Nat) : (maxW a b = 9221120237041090561 ∧ (isN a = true ∨ (isN a = false ∧ isN b = true))) ∨ (isN a = false ∧ isN b = false ∧ ((maxW a b = b ∧ orderW a b < 0) ∨ (maxW a b = a ∧ ¬ orderW a b < 0))) := by
  rcases max_cases a b with ⟨e, h⟩ | ⟨h1, h2, h⟩
  · left; refine ⟨e, ?_⟩; rw [eqW_self, eqW_self] at h; simpa using h
  · right; rw [eqW_self] at h1 h2; exact ⟨by simpa using h1, by simpa using h2, h⟩
theorem rmin_cases (a b : Nat) : (minW a b = 9221120237041090561 ∧ (isN a = true ∨ (isN a = false ∧ isN b = true))) ∨ (isN a = false ∧ isN b = false ∧ ((minW a b = b ∧ 0 < orderW a b) ∨ (minW a b = a ∧ ¬ 0 < orderW a b))) := by
  rcases min_cases a b with ⟨e, h⟩ | ⟨h1, h2, h⟩
  · left; refine ⟨e, ?_⟩; rw [eqW_self, eqW_self] at h; simpa using h
  · right; rw [eqW_self] at h1 h2; exact ⟨by simpa using h1, by simpa using h2, h⟩
theorem rbetween_cases {a b : Nat} (x y : Int) (hx : x = mg a) (hy : y = mg b) : (betweenW a b = (0, false) ∧ (isN a = true ∨ (isN a = false ∧ isN b = true))) ∨ (isN a = false ∧ isN b = false ∧ 0 ≤ x ∧ x ≤ 9218868437227405312 ∧ 0 ≤ y ∧ y ≤ 9218868437227405312 ∧
    ((ng a = true ∧ ng b = true ∧ betweenW a b = (-(y - x), true)) ∨ (ng a = false ∧ ng b = false ∧ betweenW a b = (y - x, true)) ∨
     (ng a = true ∧ ng b = false ∧ ((betweenW a b = (0, false) ∧ 9223372036854775808 ≤ x + y) ∨ (betweenW a b = (x + y, true) ∧ x + y < 9223372036854775808))) ∨
     (ng a = false ∧ ng b = true ∧ ((betweenW a b = (0, false) ∧ 9223372036854775808 < x + y) ∨ (betweenW a b = (-(x + y), true) ∧ x + y ≤ 9223372036854775808))))) := by
  have hI := INF_eq
  cases na : isN a <;> cases nb : isN b
  · right
    have := isN_false.1 na; have := isN_false.1 nb
    refine ⟨rfl, rfl, by omega, by omega, by omega, by omega, ?_⟩
    unfold betweenW rk
    rw [na, nb, if_neg (by simp)]
    cases ga : ng a <;> cases gb : ng b
    · right; left; refine ⟨rfl, rfl, ?_⟩
      simp only [Bool.false_eq_true, if_false]
      rw [if_neg (by omega), hx, hy]
    · right; right; right; refine ⟨rfl, rfl, ?_⟩
      simp only [Bool.false_eq_true, if_false, if_true]
      by_cases h : 9223372036854775808 < x + y
      · left; rw [if_pos (by omega)]; exact ⟨rfl, h⟩
      · right; rw [if_neg (by omega)]; exact ⟨by congr 1; omega, by omega⟩
    · right; right; left; refine ⟨rfl, rfl, ?_⟩
      simp only [Bool.false_eq_true, if_false, if_true]
      by_cases h : 9223372036854775808 ≤ x + y
      · left; rw [if_pos (by omega)]; exact ⟨rfl, h⟩
      · right; rw [if_neg (by omega)]; exact ⟨by congr 1; omega, by omega⟩
    · left; refine ⟨rfl, rfl, ?_⟩
      simp only [if_true]
      rw [if_neg (by omega)]; congr 1; omega
  · left; unfold betweenW; rw [na, nb]; exact ⟨rfl, .inr ⟨rfl, rfl⟩⟩
  · left; unfold betweenW; rw [na, nb]; exact ⟨rfl, .inl rfl⟩
  · left; unfold betweenW; rw [na, nb]; exact ⟨rfl, .inl rfl⟩

theorem wrap_neg_u64 (t : Int) (h0 : 0 ≤ t) (h1 : t ≤ 9223372036854775808) : wrap64 (IntKind.u64.wrap (-t)) = -t := by
  have : IntKind.u64.wrap (-t) = (-t) % 18446744073709551616 := by simp [IntKind.wrap, IntKind.bits, IntKind.signed]
  rw [this]; unfold wrap64; omega
theorem ret_ib {a b : Int} {c : Bool} (h : a = b) : Ending.returned (.tuple #[.int .i64 a, .bool c]) = .returned (.tuple #[.int .i64 b, .bool c]) := by rw [h]
end TF
