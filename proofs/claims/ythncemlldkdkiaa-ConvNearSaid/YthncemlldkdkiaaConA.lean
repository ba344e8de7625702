/- Floats of 64 bits to floats of 32 and back, by the machine's conversions. -/
import Derived.Test.YthncemlldkdkiaaCon32
import Derived.Test.YthncemlldkdkiaaCon16
import Derived.Laws.BitsAllLaws
import Derived.Laws.FloatArith
namespace TF
open Ieee Go Go.RowKit

theorem mg32_lt (b : Nat) : mg32 b < 2147483648 := Nat.mod_lt _ (by omega)
theorem read32_fin {b : Nat} (h : mg32 b < 2139095040) : single.read b = .number (ng32 b) (TF32.M (mg32 b)) ((TF32.E (mg32 b) : Int) - 149) := by
  have e1 : single.leastPlace = -149 := by decide
  have e2 : single.binade = 8388608 := by decide
  have e3 : single.infRung = 2139095040 := by decide
  have e4 : single.signWeight = 2147483648 := by decide
  unfold Format.read
  simp only [e1, e2, e3, e4]
  unfold mg32 ng32 at *
  by_cases hs : b % 2147483648 < 8388608
  · rw [if_pos hs]
    have h1 : TF32.E (b % 2147483648) = 0 := by unfold TF32.E; omega
    have h2 : TF32.M (b % 2147483648) = b % 2147483648 := if_pos hs
    rw [h1, h2]; rfl
  · rw [if_neg hs, if_pos h]
    have h2 : TF32.M (b % 2147483648) = 8388608 + b % 2147483648 % 8388608 := if_neg hs
    rw [h2]
    have h1 : ((TF32.E (b % 2147483648) : Nat) : Int) - 149 = -149 + ((b % 2147483648 / 8388608 - 1 : Nat) : Int) := by unfold TF32.E; omega
    rw [h1]
theorem read32_inf {b : Nat} (h : mg32 b = 2139095040) : single.read b = .infinity (ng32 b) := by
  have e1 : single.leastPlace = -149 := by decide
  have e2 : single.binade = 8388608 := by decide
  have e3 : single.infRung = 2139095040 := by decide
  have e4 : single.signWeight = 2147483648 := by decide
  unfold Format.read
  simp only [e1, e2, e3, e4]
  unfold mg32 ng32 at *
  rw [if_neg (by omega), if_neg (by omega), if_pos h]
theorem mg32_wd {s : Bool} {r : Nat} (h : r < 2147483648) : mg32 (wd32 s r) = r := by unfold mg32 wd32; cases s <;> simp <;> omega
theorem ng32_wd {s : Bool} {r : Nat} (h : r < 2147483648) : ng32 (wd32 s r) = s := by
  unfold ng32 wd32
  cases s
  · have : r / 2147483648 % 2 = 0 := by omega
    simp [this]
  · have : (2147483648 + r) / 2147483648 % 2 = 1 := by omega
    simp; omega
theorem word32_eq (s : Bool) (r : Nat) : single.word s r = wd32 s r := by
  have e4 : single.signWeight = 2147483648 := by decide
  unfold Format.word wd32; rw [e4]
/-- a small finite float as one of 64 bits. -/
theorem up_fin {b : Nat} (h : mg32 b < 2139095040) : floatToFloatBits .f32 b .f64 = some (wd (ng32 b) (w32 (mg32 b))) := by
  have hw : double.write (.number (ng32 b) (TF32.M (mg32 b)) ((TF32.E (mg32 b) : Int) - 149)) = wd (ng32 b) (w32 (mg32 b)) := by
    show double.nearest _ _ _ = _
    rw [nearest_eq, word_eq, rung_w32, Nat.min_eq_left (Nat.le_of_lt (w32_fin (by omega)))]
  have hr : double.read (wd (ng32 b) (w32 (mg32 b))) = .number _ _ _ := read_fin (by rw [mg_wd (Nat.lt_trans (w32_fin (by omega)) INF_lt)]; exact w32_fin (by omega))
  unfold floatToFloatBits
  rw [if_neg (by decide)]
  show (match single.read b with | .nan _ _ => none | .infinity s => some (double.write (.infinity s)) | .number s m e => if (double.read (double.write (.number s m e))).isInfinity then none else some (double.write (.number s m e))) = _
  rw [read32_fin h]
  show (if (double.read (double.write (.number _ _ _))).isInfinity then none else some (double.write (.number _ _ _))) = _
  rw [hw, hr]; rfl
theorem up_inf {b : Nat} (h : mg32 b = 2139095040) : floatToFloatBits .f32 b .f64 = some (wd (ng32 b) INF) := by
  unfold floatToFloatBits
  rw [if_neg (by decide)]
  show (match single.read b with | .nan _ _ => none | .infinity s => some (double.write (.infinity s)) | .number s m e => if (double.read (double.write (.number s m e))).isInfinity then none else some (double.write (.number s m e))) = _
  rw [read32_inf h]
  exact congrArg some (write_inf _)
/-- a finite float as a small one, where it doesn't overflow. -/
theorem down_fin {x : Nat} (h : mg x < INF) (hn : n32 x < 2139095040) : floatToFloatBits .f64 x .f32 = some (wd32 (ng x) (n32 x)) := by
  have hI : TF32.INF = 2139095040 := rfl
  have hw : single.write (.number (ng x) (M (mg x)) (-1074 + (E (mg x) : Int))) = wd32 (ng x) (n32 x) := by
    show single.nearest _ _ _ = _
    rw [TF32.nearest_eq, word32_eq, show -1074 + (E (mg x) : Int) = (E (mg x) : Int) - 1074 from by omega]
    show wd32 _ (min (n32 x) _) = _
    rw [Nat.min_eq_left (by omega)]
  have hr : single.read (wd32 (ng x) (n32 x)) = .number _ _ _ := read32_fin (by rw [mg32_wd (by omega)]; exact hn)
  unfold floatToFloatBits
  rw [if_neg (by decide)]
  show (match double.read x with | .nan _ _ => none | .infinity s => some (single.write (.infinity s)) | .number s m e => if (single.read (single.write (.number s m e))).isInfinity then none else some (single.write (.number s m e))) = _
  rw [read_fin h]
  show (if (single.read (single.write (.number _ _ _))).isInfinity then none else some (single.write (.number _ _ _))) = _
  rw [hw, hr]; rfl

/-- where the infinity of 32 bits begins. -/
theorem far32_V : U32 * (TF32.V (2139095040 - 1) + TF32.V 2139095040) = 2 * V 5183643170835005440 := by
  have e1 : TF32.M (2139095040 - 1) = 16777215 := by decide
  have e2 : TF32.E (2139095040 - 1) = 253 := by decide
  have e3 : TF32.M 2139095040 = 8388608 := by decide
  have e4 : TF32.E 2139095040 = 254 := by decide
  have e5 : M 5183643170835005440 = 9007198986305536 := by decide
  have e6 : E 5183643170835005440 = 1149 := by decide
  obtain ⟨a, ha⟩ : ∃ a : Nat, a = 253 := ⟨_, rfl⟩
  obtain ⟨c, hc⟩ : ∃ a : Nat, a = 1149 := ⟨_, rfl⟩
  have hT := T32_eq
  unfold TF32.V V
  rw [e1, e2, e3, e4, e5, e6, ← ha, ← hc, show 254 = a + 1 from by omega]
  have h1 : U32 * 2 ^ a = 2 ^ 29 * 2 ^ c := by
    unfold U32; rw [← Nat.pow_add, ← Nat.pow_add]; congr 1; omega
  rw [Nat.pow_succ]
  generalize 2 ^ a = y at *
  generalize 2 ^ c = z at *
  generalize U32 = u at *
  have h2 : u * (16777215 * y + 8388608 * (y * 2)) = 33554431 * (u * y) := by grind
  rw [h2, h1]; omega
theorem ge_words {a b : Nat} (ha : a ≤ INF) (hb : b ≤ INF) : (ltW b a || eqW a b) = decide (b ≤ a) := by
  have hI := INF_lt
  have h1 : isN a = false := isN_false.2 (by rw [mg_small (by omega)]; exact ha)
  have h2 : isN b = false := isN_false.2 (by rw [mg_small (by omega)]; exact hb)
  unfold ltW eqW
  rw [h1, h2, rk_small (by omega), rk_small (by omega)]
  rw [Bool.eq_iff_iff]; simp; omega
theorem lt_words {a b : Nat} (ha : a ≤ INF) (hb : b ≤ INF) : ltW a b = decide (a < b) := by
  have hI := INF_lt
  have h1 : isN a = false := isN_false.2 (by rw [mg_small (by omega)]; exact ha)
  have h2 : isN b = false := isN_false.2 (by rw [mg_small (by omega)]; exact hb)
  unfold ltW
  rw [h1, h2, rk_small (by omega), rk_small (by omega)]
  rw [Bool.eq_iff_iff]; simp
theorem n32_far {x : Nat} : 2139095040 ≤ n32 x ↔ 5183643170835005440 ≤ mg x := by
  rw [n32_inf, far32_V]
  constructor
  · intro h; exact V_le_iff.1 (by omega)
  · intro h; have := V_le h; omega
theorem mg_mg (x : Nat) : mg (mg x) = mg x := mg_small (mg_lt x)
theorem ng_mg (x : Nat) : ng (mg x) = false := ng_small (mg_lt x)
theorem n32_mg (x : Nat) : n32 (mg x) = n32 x := by unfold n32; rw [mg_mg]

theorem to32_ways (x : Nat) :
    (eqW x x = false ∧ to32 x = 2143289344) ∨
    (eqW x x = true ∧ (ltW 5183643170835005440 (mg x) || eqW (mg x) 5183643170835005440) = true ∧ to32 x = wd32 (ng x) 2139095040) ∨
    (eqW x x = true ∧ (ltW 5183643170835005440 (mg x) || eqW (mg x) 5183643170835005440) = false ∧ ∃ r, r < 2139095040 ∧ floatToFloatBits .f64 (mg x) .f32 = some r ∧ to32 x = wd32 (ng x) r) := by
  have hI := INF_eq
  by_cases hN : isN x = true
  · refine .inl ⟨by rw [eqW_self, hN]; rfl, ?_⟩
    unfold to32; rw [if_pos hN]
  · rw [Bool.not_eq_true] at hN
    have hm := isN_false.1 hN
    have he : eqW x x = true := by rw [eqW_self, hN]; rfl
    have ht : to32 x = wd32 (ng x) (if mg x = INF then 2139095040 else min (n32 x) 2139095040) := by
      unfold to32; rw [hN]; rfl
    rw [ge_words hm (by omega)]
    by_cases hf : 5183643170835005440 ≤ mg x
    · refine .inr (.inl ⟨he, decide_eq_true hf, ?_⟩)
      rw [ht]
      split
      · rfl
      · rw [Nat.min_eq_right (n32_far.2 hf)]
    · have hn : n32 x < 2139095040 := by
        rcases Nat.lt_or_ge (n32 x) 2139095040 with h | h
        · exact h
        · exact absurd (n32_far.1 h) hf
      refine .inr (.inr ⟨he, decide_eq_false hf, n32 x, hn, ?_, ?_⟩)
      · rw [down_fin (by rw [mg_mg]; omega) (by rw [n32_mg]; exact hn), ng_mg, n32_mg]; rfl
      · rw [ht, if_neg (by omega), Nat.min_eq_left (by omega)]

theorem and_bit (m i : Nat) : m &&& 2 ^ i = if m / 2 ^ i % 2 = 1 then 2 ^ i else 0 := by
  refine Nat.eq_of_testBit_eq fun j => ?_
  rw [Nat.testBit_and, Nat.testBit_two_pow]
  by_cases hj : i = j
  · subst hj
    by_cases h : m / 2 ^ i % 2 = 1
    · rw [if_pos h, Nat.testBit_two_pow, Nat.testBit_eq_decide_div_mod_eq, decide_eq_true h]; rfl
    · rw [if_neg h, Nat.zero_testBit, Nat.testBit_eq_decide_div_mod_eq, decide_eq_false h]; rfl
  · rw [decide_eq_false hj, Bool.and_false]
    split
    · rw [Nat.testBit_two_pow, decide_eq_false hj]
    · rw [Nat.zero_testBit]
/-- the sign's bit, moved down. -/
theorem sign32 {x : Nat} (h : W64 x) (n : Int) (hn : n = x) :
    (ng x = false ∧ bits .and .u64 (n / 4294967296) 2147483648 = 0) ∨ (ng x = true ∧ bits .and .u64 (n / 4294967296) 2147483648 = 2147483648) := by
  have h' : x < 2 ^ 64 := h
  have e := u64_and_nat (x / 4294967296) 2147483648 (by omega) (by omega)
  have e2 : ((x / 4294967296 : Nat) : Int) = n / 4294967296 := by omega
  rw [e2] at e
  have e3 := and_bit (x / 4294967296) 31
  rw [show (2 : Nat) ^ 31 = 2147483648 from rfl] at e3
  rw [e3] at e
  have hg : ng x = true ↔ 2 ^ 63 ≤ x := ng_iff h'
  by_cases hc : 2 ^ 63 ≤ x
  · refine .inr ⟨hg.2 hc, ?_⟩
    rw [show ((2147483648 : Nat) : Int) = 2147483648 from rfl] at e
    rw [e, if_pos (by omega)]; rfl
  · refine .inl ⟨(ng_false_iff h').2 (by omega), ?_⟩
    rw [show ((2147483648 : Nat) : Int) = 2147483648 from rfl] at e
    rw [e, if_neg (by omega)]; rfl
theorem or32 {r : Nat} (h : r < 2147483648) (R : Int) (hR : R = r) : bits .or .u32 0 R = (wd32 false r : Int) ∧ bits .or .u32 2147483648 R = (wd32 true r : Int) := by
  subst hR
  have e0 := u32_or_nat 0 r (by omega) (by omega)
  have e1 := u32_or_nat 2147483648 r (by omega) (by omega)
  constructor
  · rw [show ((0 : Nat) : Int) = 0 from rfl] at e0
    rw [e0, Nat.zero_or]; rfl
  · rw [show ((2147483648 : Nat) : Int) = 2147483648 from rfl] at e1
    rw [e1]
    have := Nat.two_pow_add_eq_or_of_lt (i := 31) (b := r) (by omega) 1
    rw [show (2 : Nat) ^ 31 * 1 = 2147483648 from rfl] at this
    rw [← this]; rfl
theorem from32_ways (n : Int) (h0 : 0 ≤ n) (h1 : n < 4294967296) :
    ∃ m : Int, bits .andNot .u32 n 2147483648 = m ∧ 0 ≤ m ∧ m < 2147483648 ∧ ((2139095040 < m ∧ from32 n.toNat = 9221120237041090561) ∨ (m ≤ 2139095040 ∧ floatToFloatBits .f32 n.toNat .f64 = some (from32 n.toNat))) := by
  obtain ⟨b, rfl⟩ := Int.eq_ofNat_of_zero_le h0
  have e := u32_andNot_nat b 2147483648 (by omega) (by omega)
  rw [show ((2147483648 : Nat) : Int) = 2147483648 from rfl] at e
  have e2 : b &&& (4294967295 - 2147483648) = mg32 b := Nat.and_two_pow_sub_one_eq_mod b 31
  rw [e2] at e
  have hl := mg32_lt b
  refine ⟨(mg32 b : Int), e, by omega, by omega, ?_⟩
  rw [Int.toNat_natCast]
  unfold from32
  rcases Nat.lt_trichotomy (mg32 b) 2139095040 with h | h | h
  · exact .inr ⟨by omega, by rw [up_fin h, if_neg (by omega), if_neg (by omega)]⟩
  · exact .inr ⟨by omega, by rw [up_inf h, if_neg (by omega), if_pos h]⟩
  · exact .inl ⟨by omega, by rw [if_pos h]⟩
end TF
