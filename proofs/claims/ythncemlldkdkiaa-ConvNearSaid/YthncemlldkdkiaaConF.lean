/- The laws of small floats' values: back, order, opposites. -/
import Derived.Test.YthncemlldkdkiaaConE
namespace TF
open Ieee Go Go.RowKit

theorem n32_mg' (x : Nat) : n32 (mg x) = n32 x := by unfold n32; rw [mg_mg]
/-- the rung of 32 bits of a magnitude (infinity too). -/
def q32 (m : Nat) : Nat := if m = INF then 2139095040 else min (n32 m) 2139095040
theorem q32_le (m : Nat) : q32 m ≤ 2139095040 := by unfold q32; split <;> omega
theorem q32_mono {a b : Nat} (h : a ≤ b) (hb : b ≤ INF) : q32 a ≤ q32 b := by
  have hI := INF_lt
  have hq := q32_le a
  unfold q32 at hq ⊢
  by_cases h2 : b = INF
  · rw [if_pos h2]; exact hq
  · rw [if_neg h2, if_neg (by omega)]
    have := n32_mono (x := a) (y := b) (by rw [mg_small (by omega), mg_small (by omega)]; exact V_le h)
    omega
theorem to32_is {x : Nat} (h : isN x = false) : to32 x = wd32 (ng x) (q32 (mg x)) := by
  unfold to32 q32
  rw [h, if_neg Bool.false_ne_true, n32_mg']
/-- the word's magnitude of a rung of 32 bits. -/
def f32 (r : Nat) : Nat := if r = 2139095040 then INF else w32 r
theorem f32_le {r s : Nat} (h : r ≤ s) (hs : s ≤ 2139095040) : f32 r ≤ f32 s := by
  unfold f32
  by_cases h2 : s = 2139095040
  · rw [if_pos h2]; split
    · exact Nat.le_refl _
    · exact Nat.le_of_lt (w32_fin (by omega))
  · rw [if_neg h2, if_neg (by omega)]; exact w32_le h
theorem f32_inf {r : Nat} (h : r ≤ 2139095040) : f32 r ≤ INF := by
  unfold f32; split
  · exact Nat.le_refl _
  · exact Nat.le_of_lt (w32_fin h)
theorem f32_zero : f32 0 = 0 := by
  unfold f32 w32; rw [if_neg (by omega), TF32.V_zero, Nat.zero_mul, rnd_zero]
theorem from32_is {b : Nat} (h : mg32 b ≤ 2139095040) : from32 b = wd (ng32 b) (f32 (mg32 b)) := by
  unfold from32 f32; rw [if_neg (by omega)]
theorem mgng32 {s : Bool} {r : Nat} (h : r < 2147483648) : mg32 (wd32 s r) = r ∧ ng32 (wd32 s r) = s := by
  unfold mg32 ng32 wd32
  cases s
  · refine ⟨?_, ?_⟩
    · simp; omega
    · have : r / 2147483648 % 2 = 0 := by omega
      simp [this]
  · refine ⟨?_, ?_⟩
    · simp; omega
    · have : (2147483648 + r) / 2147483648 % 2 = 1 := by omega
      simp; omega
theorem from32_wd {s : Bool} {r : Nat} (h : r ≤ 2139095040) : from32 (wd32 s r) = wd s (f32 r) := by
  obtain ⟨h1, h2⟩ := mgng32 (s := s) (r := r) (by omega)
  rw [from32_is (by omega), h1, h2]
theorem word32 {b : Nat} (h : b < 4294967296) : wd32 (ng32 b) (mg32 b) = b := by
  unfold wd32 ng32 mg32
  by_cases hc : b / 2147483648 % 2 = 1
  · rw [hc]; simp; omega
  · have : b / 2147483648 % 2 = 0 := by omega
    rw [this]; simp; omega
theorem q32_f32 {r : Nat} (h : r ≤ 2139095040) : q32 (f32 r) = r := by
  unfold q32 f32
  by_cases h2 : r = 2139095040
  · rw [if_pos h2, if_pos rfl, h2]
  · have h3 := w32_fin h
    rw [if_neg h2, if_neg (by omega)]
    have := n32_w32 h false
    unfold wd at this
    rw [if_neg Bool.false_ne_true] at this
    rw [this]; omega
/-- it comes back. -/
theorem back32 {b : Nat} (hb : b < 4294967296) (h : mg32 b ≤ 2139095040) : to32 (from32 b) = b := by
  have hI := INF_lt
  have hf := f32_inf h
  rw [from32_is h, to32_is (isN_false.2 (by rw [mg_wd (by omega)]; exact hf)), ng_wd (by omega), mg_wd (by omega), q32_f32 h, word32 hb]
theorem back32_nan {b : Nat} (h : 2139095040 < mg32 b) : from32 b = 9221120237041090561 ∧ to32 9221120237041090561 = 2143289344 := by
  refine ⟨by unfold from32; rw [if_pos h], ?_⟩
  unfold to32; rw [show isN 9221120237041090561 = true from by decide]; rfl
/-- there and back. -/
theorem tofro32 {x : Nat} (h : isN x = false) : from32 (to32 x) = wd (ng x) (f32 (q32 (mg x))) := by
  rw [to32_is h, from32_wd (q32_le _)]
theorem order32 {x y : Nat} (h : leW x y = true) : leW (from32 (to32 x)) (from32 (to32 y)) = true := by
  obtain ⟨hx, hy, hr⟩ := rk_of_le h
  have hI := INF_lt
  have ix := isN_false.1 hx
  have iy := isN_false.1 hy
  have fx := f32_inf (q32_le (mg x))
  have fy := f32_inf (q32_le (mg y))
  rw [tofro32 hx, tofro32 hy]
  unfold leW
  rw [isN_false.2 (by rw [mg_wd (by omega)]; exact fx), isN_false.2 (by rw [mg_wd (by omega)]; exact fy)]
  simp only [Bool.not_false, Bool.true_and, decide_eq_true_eq]
  have e : ∀ z : Nat, f32 (q32 (mg z)) ≤ INF → rk (wd (ng z) (f32 (q32 (mg z)))) = sg (fun m => f32 (q32 m)) z := by
    intro z hz
    unfold rk sg
    rw [ng_wd (by omega), mg_wd (by omega)]
  rw [e x fx, e y fy]
  refine sg_mono ?_ (fun a b hab ha hb => ?_) hr
  · have hz : q32 0 = 0 := by
      have h0 := q32_f32 (r := 0) (by omega)
      rw [f32_zero] at h0; exact h0
    show f32 (q32 0) = 0
    rw [hz, f32_zero]
  · exact f32_le (q32_mono hab (by omega)) (q32_le _)
theorem to32_lt (x : Nat) : to32 x < 4294967296 := by
  have := q32_le (mg x)
  by_cases h : isN x = true
  · unfold to32; rw [if_pos h]; omega
  · rw [to32_is (by simpa using h)]; unfold wd32; split <;> omega
theorem opp32 {x : Nat} (h64 : W64 x) (h : isN x = false) : to32 (op x) = wd32 (!ng x) (q32 (mg x)) := by
  rw [to32_is, ng_op h64, mg_op h64]
  rw [isN_false, mg_op h64]; exact isN_false.1 h
theorem xor32 {r : Nat} (s : Bool) (h : r < 2147483648) : bits .xor .u32 (wd32 s r : Int) (wd32 (!s) r : Int) = 2147483648 := by
  have key : r ^^^ (2147483648 + r) = 2147483648 := by
    have h1 := Nat.two_pow_add_eq_or_of_lt (i := 31) (b := r) (by omega) 1
    rw [show (2 : Nat) ^ 31 * 1 = 2147483648 from rfl] at h1
    refine Nat.eq_of_testBit_eq fun j => ?_
    rw [Nat.testBit_xor, h1, Nat.testBit_or, show (2147483648 : Nat) = 2 ^ 31 from rfl, Nat.testBit_two_pow]
    by_cases hj : 31 = j
    · subst hj
      rw [Nat.testBit_lt_two_pow (by omega)]; simp
    · rw [decide_eq_false hj]; simp
  unfold wd32
  cases s
  · have e := u32_xor_nat r (2147483648 + r) (by omega) (by omega)
    simp only [Bool.false_eq_true, if_false, Bool.not_false, if_true]
    rw [e, key]; rfl
  · have e := u32_xor_nat (2147483648 + r) r (by omega) (by omega)
    simp only [Bool.false_eq_true, if_false, Bool.not_true, if_true]
    rw [e, Nat.xor_comm, key]; rfl

theorem n16_mg' (x : Nat) : n16 (mg x) = n16 x := by unfold n16; rw [mg_mg]
/-- the rung of 16 bits of a magnitude (infinity too). -/
def q16 (m : Nat) : Nat := if m = INF then 31744 else min (n16 m) 31744
theorem q16_le (m : Nat) : q16 m ≤ 31744 := by unfold q16; split <;> omega
theorem q16_mono {a b : Nat} (h : a ≤ b) (hb : b ≤ INF) : q16 a ≤ q16 b := by
  have hI := INF_lt
  have hq := q16_le a
  unfold q16 at hq ⊢
  by_cases h2 : b = INF
  · rw [if_pos h2]; exact hq
  · rw [if_neg h2, if_neg (by omega)]
    have := n16_mono (x := a) (y := b) (by rw [mg_small (by omega), mg_small (by omega)]; exact V_le h)
    omega
theorem to16_is {x : Nat} (h : isN x = false) : to16 x = wd16 (ng x) (q16 (mg x)) := by
  unfold to16 q16
  rw [h, if_neg Bool.false_ne_true, n16_mg']
/-- the word's magnitude of a rung of 16 bits. -/
def f16 (r : Nat) : Nat := if r = 31744 then INF else w16 r
theorem f16_le {r s : Nat} (h : r ≤ s) (hs : s ≤ 31744) : f16 r ≤ f16 s := by
  unfold f16
  by_cases h2 : s = 31744
  · rw [if_pos h2]; split
    · exact Nat.le_refl _
    · exact Nat.le_of_lt (w16_fin (by omega))
  · rw [if_neg h2, if_neg (by omega)]; exact w16_le h
theorem f16_inf {r : Nat} (h : r ≤ 31744) : f16 r ≤ INF := by
  unfold f16; split
  · exact Nat.le_refl _
  · exact Nat.le_of_lt (w16_fin h)
theorem f16_zero : f16 0 = 0 := by
  unfold f16 w16; rw [if_neg (by omega), TF16.V_zero, Nat.zero_mul, rnd_zero]
theorem from16_is {b : Nat} (h : mg16 b ≤ 31744) : from16 b = wd (ng16 b) (f16 (mg16 b)) := by
  unfold from16 f16; rw [if_neg (by omega)]
theorem mgng16 {s : Bool} {r : Nat} (h : r < 32768) : mg16 (wd16 s r) = r ∧ ng16 (wd16 s r) = s := by
  unfold mg16 ng16 wd16
  cases s
  · refine ⟨?_, ?_⟩
    · simp; omega
    · have : r / 32768 % 2 = 0 := by omega
      simp [this]
  · refine ⟨?_, ?_⟩
    · simp; omega
    · have : (32768 + r) / 32768 % 2 = 1 := by omega
      simp; omega
theorem from16_wd {s : Bool} {r : Nat} (h : r ≤ 31744) : from16 (wd16 s r) = wd s (f16 r) := by
  obtain ⟨h1, h2⟩ := mgng16 (s := s) (r := r) (by omega)
  rw [from16_is (by omega), h1, h2]
theorem word16 {b : Nat} (h : b < 65536) : wd16 (ng16 b) (mg16 b) = b := by
  unfold wd16 ng16 mg16
  by_cases hc : b / 32768 % 2 = 1
  · rw [hc]; simp; omega
  · have : b / 32768 % 2 = 0 := by omega
    rw [this]; simp; omega
theorem q16_f16 {r : Nat} (h : r ≤ 31744) : q16 (f16 r) = r := by
  unfold q16 f16
  by_cases h2 : r = 31744
  · rw [if_pos h2, if_pos rfl, h2]
  · have h3 := w16_fin h
    rw [if_neg h2, if_neg (by omega)]
    have := n16_w16 h false
    unfold wd at this
    rw [if_neg Bool.false_ne_true] at this
    rw [this]; omega
/-- it comes back. -/
theorem back16 {b : Nat} (hb : b < 65536) (h : mg16 b ≤ 31744) : to16 (from16 b) = b := by
  have hI := INF_lt
  have hf := f16_inf h
  rw [from16_is h, to16_is (isN_false.2 (by rw [mg_wd (by omega)]; exact hf)), ng_wd (by omega), mg_wd (by omega), q16_f16 h, word16 hb]
theorem back16_nan {b : Nat} (h : 31744 < mg16 b) : from16 b = 9221120237041090561 ∧ to16 9221120237041090561 = 32256 := by
  refine ⟨by unfold from16; rw [if_pos h], ?_⟩
  unfold to16; rw [show isN 9221120237041090561 = true from by decide]; rfl
/-- there and back. -/
theorem tofro16 {x : Nat} (h : isN x = false) : from16 (to16 x) = wd (ng x) (f16 (q16 (mg x))) := by
  rw [to16_is h, from16_wd (q16_le _)]
theorem order16 {x y : Nat} (h : leW x y = true) : leW (from16 (to16 x)) (from16 (to16 y)) = true := by
  obtain ⟨hx, hy, hr⟩ := rk_of_le h
  have hI := INF_lt
  have ix := isN_false.1 hx
  have iy := isN_false.1 hy
  have fx := f16_inf (q16_le (mg x))
  have fy := f16_inf (q16_le (mg y))
  rw [tofro16 hx, tofro16 hy]
  unfold leW
  rw [isN_false.2 (by rw [mg_wd (by omega)]; exact fx), isN_false.2 (by rw [mg_wd (by omega)]; exact fy)]
  simp only [Bool.not_false, Bool.true_and, decide_eq_true_eq]
  have e : ∀ z : Nat, f16 (q16 (mg z)) ≤ INF → rk (wd (ng z) (f16 (q16 (mg z)))) = sg (fun m => f16 (q16 m)) z := by
    intro z hz
    unfold rk sg
    rw [ng_wd (by omega), mg_wd (by omega)]
  rw [e x fx, e y fy]
  refine sg_mono ?_ (fun a b hab ha hb => ?_) hr
  · have hz : q16 0 = 0 := by
      have h0 := q16_f16 (r := 0) (by omega)
      rw [f16_zero] at h0; exact h0
    show f16 (q16 0) = 0
    rw [hz, f16_zero]
  · exact f16_le (q16_mono hab (by omega)) (q16_le _)
theorem to16_lt (x : Nat) : to16 x < 65536 := by
  have := q16_le (mg x)
  by_cases h : isN x = true
  · unfold to16; rw [if_pos h]; omega
  · rw [to16_is (by simpa using h)]; unfold wd16; split <;> omega
theorem opp16 {x : Nat} (h64 : W64 x) (h : isN x = false) : to16 (op x) = wd16 (!ng x) (q16 (mg x)) := by
  rw [to16_is, ng_op h64, mg_op h64]
  rw [isN_false, mg_op h64]; exact isN_false.1 h
theorem xor16 {r : Nat} (s : Bool) (h : r < 32768) : bits .xor .u16 (wd16 s r : Int) (wd16 (!s) r : Int) = 32768 := by
  have key : r ^^^ (32768 + r) = 32768 := by
    have h1 := Nat.two_pow_add_eq_or_of_lt (i := 15) (b := r) (by omega) 1
    rw [show (2 : Nat) ^ 15 * 1 = 32768 from rfl] at h1
    refine Nat.eq_of_testBit_eq fun j => ?_
    rw [Nat.testBit_xor, h1, Nat.testBit_or, show (32768 : Nat) = 2 ^ 15 from rfl, Nat.testBit_two_pow]
    by_cases hj : 15 = j
    · subst hj
      rw [Nat.testBit_lt_two_pow (by omega)]; simp
    · rw [decide_eq_false hj]; simp
  unfold wd16
  cases s
  · have e := u16_xor_nat r (32768 + r) (by omega) (by omega)
    simp only [Bool.false_eq_true, if_false, Bool.not_false, if_true]
    rw [e, key]; rfl
  · have e := u16_xor_nat (32768 + r) r (by omega) (by omega)
    simp only [Bool.false_eq_true, if_false, Bool.not_true, if_true]
    rw [e, Nat.xor_comm, key]; rfl

theorem U16_U32 : U16 = 2 ^ 125 * U32 := by
  have hT := T32_eq
  have hT2 := T16_eq
  unfold U16 U32; rw [← Nat.pow_add]; exact congrArg (2 ^ ·) (by omega)
/-- every number of 16 bits is one of 32. -/
theorem in32 (k : Nat) : ∃ s, TF32.V s * U32 = TF16.V k * U16 := by
  by_cases h0 : TF16.M k = 0
  · refine ⟨0, ?_⟩
    unfold TF16.V; rw [h0, TF32.V_zero]; simp
  · have hM := TF16.M_lt k
    have hlo := Nat.log2_self_le h0
    have hhi : TF16.M k < 2 ^ ((TF16.M k).log2 + 1) := Nat.lt_log2_self
    have hl : (TF16.M k).log2 < 11 := (Nat.log2_lt h0).2 hM
    generalize hlg : (TF16.M k).log2 = l at *
    have e1 : 2 ^ l * 2 ^ (23 - l) = 2 ^ 23 := by rw [← Nat.pow_add]; exact congrArg (2 ^ ·) (by omega)
    have e2 : 2 ^ (l + 1) * 2 ^ (23 - l) = 2 ^ 24 := by rw [← Nat.pow_add]; exact congrArg (2 ^ ·) (by omega)
    have k1 : 2 ^ 23 ≤ TF16.M k * 2 ^ (23 - l) := by rw [← e1]; exact Nat.mul_le_mul_right _ hlo
    have k2 : TF16.M k * 2 ^ (23 - l) ≤ 2 ^ 24 := by rw [← e2]; exact Nat.mul_le_mul_right _ (Nat.le_of_lt hhi)
    refine ⟨(TF16.E k + 102 + l) * 2 ^ 23 + TF16.M k * 2 ^ (23 - l), ?_⟩
    rw [TF32.V_block k1 k2, U16_U32]
    unfold TF16.V
    have e3 : 2 ^ (23 - l) * 2 ^ (TF16.E k + 102 + l) = 2 ^ TF16.E k * 2 ^ 125 := by
      rw [← Nat.pow_add, ← Nat.pow_add]; exact congrArg (2 ^ ·) (by omega)
    clear e1 e2 k1 k2 hlo hhi
    generalize 2 ^ TF16.E k = a at *
    generalize (2 : Nat) ^ 125 = b at *
    generalize U32 = u
    generalize 2 ^ (23 - l) = y at *
    generalize 2 ^ (TF16.E k + 102 + l) = z at *
    generalize TF16.M k = m
    have e4 : m * y * z * u = m * u * (y * z) := by grind
    rw [e4, e3]; grind
/-- going over 32 bits to 16 ends at most one place off. -/
theorem twice {x : Nat} (h : isN x = false) : q16 (f32 (q32 (mg x))) ≤ q16 (mg x) + 1 ∧ q16 (mg x) ≤ q16 (f32 (q32 (mg x))) + 1 := by
  have hI := INF_eq
  have hm := isN_false.1 h
  by_cases hinf : mg x = INF
  · have e1 : q32 (mg x) = 2139095040 := if_pos hinf
    have e2 : f32 2139095040 = INF := if_pos rfl
    rw [e1, e2, hinf]; omega
  by_cases hbig : 2139095040 ≤ n32 x
  · have e1 : q32 (mg x) = 2139095040 := by unfold q32; rw [if_neg hinf, n32_mg]; omega
    have e2 : f32 2139095040 = INF := if_pos rfl
    have e3 : q16 INF = 31744 := if_pos rfl
    have hf := n32_far.1 hbig
    have e4 : q16 (mg x) = 31744 := by
      unfold q16; rw [if_neg hinf, n16_mg']
      have := n16_far.2 (show 4679237813814689792 ≤ mg x by omega)
      omega
    rw [e1, e2, e3, e4]; omega
  · have e1 : q32 (mg x) = n32 x := by unfold q32; rw [if_neg hinf, n32_mg]; omega
    have e2 : f32 (n32 x) = w32 (n32 x) := if_neg (by omega)
    have hw := w32_fin (r := n32 x) (by omega)
    have hwm : mg (w32 (n32 x)) = w32 (n32 x) := mg_small (by omega)
    have e3 : q16 (w32 (n32 x)) = min (n16 (w32 (n32 x))) 31744 := if_neg (by omega)
    have e4 : q16 (mg x) = min (n16 x) 31744 := by unfold q16; rw [if_neg hinf, n16_mg']
    rw [e1, e2, e3, e4]
    have hv := V_w32 (n32 x)
    have nx := near_n16 x
    have nw := near_n16 (w32 (n32 x))
    have n3 := near_n32 x
    rw [hwm] at nw
    have up : n16 (w32 (n32 x)) ≤ n16 x + 1 ∨ 31744 ≤ n16 x := by
      rcases Nat.lt_or_ge (n16 x) 31744 with hc | hc
      · refine .inl ?_
        obtain ⟨s, hs⟩ := in32 (n16 x + 1)
        have h1 : V (mg x) ≤ TF16.V (n16 x + 1) * U16 := by
          have := nx.hi
          have h2 := TF16.V_le (show n16 x ≤ n16 x + 1 by omega)
          have h3 : U16 * (TF16.V (n16 x) + TF16.V (n16 x + 1)) ≤ U16 * (2 * TF16.V (n16 x + 1)) := Nat.mul_le_mul_left _ (by omega)
          have h4 : U16 * (2 * TF16.V (n16 x + 1)) = 2 * (TF16.V (n16 x + 1) * U16) := by rw [Nat.mul_left_comm, Nat.mul_comm U16]
          omega
        rw [← hs] at h1
        have h2 : n32 x ≤ s := TF32.Near.le_of U32_pos U32_pos n3 (by have := TF32.near_self (r := s) U32_pos; rw [Nat.mul_comm] at this; exact this) (Nat.mul_le_mul_right _ h1)
        have h3 := Nat.mul_le_mul_right U32 (TF32.V_le h2)
        rw [← hv, hs] at h3
        exact TF16.Near.le_of U16_pos U16_pos nw (by have := TF16.near_self (r := n16 x + 1) U16_pos; rw [Nat.mul_comm] at this; exact this) (Nat.mul_le_mul_right _ h3)
      · exact .inr hc
    have dn : min (n16 x) 31744 ≤ n16 (w32 (n32 x)) + 1 := by
      obtain ⟨k, hk⟩ : ∃ k, k = min (n16 x) 31744 := ⟨_, rfl⟩
      rw [← hk]
      rcases Nat.eq_zero_or_pos k with h0 | h0
      · omega
      · obtain ⟨s, hs⟩ := in32 (k - 1)
        have h1 : TF16.V (k - 1) * U16 ≤ V (mg x) := by
          have h2 := nx.lo (n16 x - 1) (by omega)
          have h3 := TF16.V_le (show n16 x - 1 ≤ n16 x by omega)
          have h4 := TF16.V_le (show k - 1 ≤ n16 x - 1 by omega)
          have h5 : U16 * (2 * TF16.V (k - 1)) ≤ U16 * (TF16.V (n16 x - 1) + TF16.V (n16 x)) := Nat.mul_le_mul_left _ (by omega)
          have h6 : U16 * (2 * TF16.V (k - 1)) = 2 * (TF16.V (k - 1) * U16) := by rw [Nat.mul_left_comm, Nat.mul_comm U16]
          omega
        rw [← hs] at h1
        have h2 : s ≤ n32 x := TF32.Near.le_of U32_pos U32_pos (by have := TF32.near_self (r := s) U32_pos; rw [Nat.mul_comm] at this; exact this) n3 (Nat.mul_le_mul_right _ h1)
        have h3 := Nat.mul_le_mul_right U32 (TF32.V_le h2)
        rw [← hv, hs] at h3
        have := TF16.Near.le_of U16_pos U16_pos (by have := TF16.near_self (r := k - 1) U16_pos; rw [Nat.mul_comm] at this; exact this) nw (Nat.mul_le_mul_right _ h3)
        omega
    omega
end TF
