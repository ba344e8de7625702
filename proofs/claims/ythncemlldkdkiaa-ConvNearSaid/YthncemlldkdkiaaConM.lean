/- Between which middles a magnitude lies. -/
import Derived.Test.YthncemlldkdkiaaConH
namespace TF
open Ieee Go Go.RowKit

/-- what the comparison with both middles asks. -/
structure Mid (x below at' above : Nat) (even : Bool) : Prop where
  out : ∃ p1 p2 p3 low high, floatBits .mul .f64 4602678819172646912 below = some p1 ∧ floatBits .mul .f64 4602678819172646912 at' = some p2 ∧ floatBits .mul .f64 4602678819172646912 above = some p3 ∧
    floatBits .add .f64 p1 p2 = some low ∧ floatBits .add .f64 p2 p3 = some high ∧
    (ltW low x = true ∨ (ltW low x = false ∧ eqW x low = true ∧ even = true)) ∧ (ltW x high = true ∨ (ltW x high = false ∧ eqW x high = true ∧ even = true))
theorem half_mul {b n : Nat} (hb : mg b < INF) (hI : rnd n < INF) (h : V (mg b) = 2 * n) : floatBits .mul .f64 4602678819172646912 b = some (wd (ng b) (rnd n)) := by
  have hI2 := INF_eq
  show double.mul _ b = _
  have e : V 4602678819172646912 * V (mg b) = Q * n := by
    rw [h, ← V_half]; generalize V 4602678819172646912 = v; grind
  rw [mul_fin (by rw [mg_small (by omega)]; omega) hb, mg_small (by omega), ng_small (by omega), e, rnd2_Q, Nat.min_eq_left (by omega)]
  cases ng b <;> rfl
theorem add_exact {a b : Nat} {m n : Int} (ha : mg a < INF) (hb : mg b < INF) (hm : iv a = m) (hn : iv b = n) (hr : Rep (m + n).natAbs) (hI : rnd (m + n).natAbs < INF) : ∃ s, floatBits .add .f64 a b = some s ∧ mg s < INF ∧ iv s = m + n := by
  refine ⟨_, add_word ha hb, ?_, ?_⟩
  · rw [mg_rw, hm, hn]; omega
  · rw [iv_rw (by rw [hm, hn]; exact hI), hm, hn]; exact rI_rep hr
theorem iv_wd {s : Bool} {r : Nat} (h : r < 2 ^ 63) : iv (wd s r) = if s then -(V r : Int) else V r := by
  unfold iv; rw [ng_wd h, mg_wd h]

theorem H32_two : ∃ h, U32 = 2 * 2 ^ h := by
  obtain ⟨h, hh⟩ : ∃ h, T32 = h + 1 := ⟨924, rfl⟩
  refine ⟨h, ?_⟩
  unfold U32
  rw [hh, Nat.pow_succ']
theorem rep_half32 (k h : Nat) : Rep (TF32.V k * 2 ^ h) := by
  unfold TF32.V
  rw [Nat.mul_assoc, ← Nat.pow_add]
  have := TF32.M_lt k
  exact rep_bits _ _ (by omega)
theorem rep_mid32 (k h : Nat) : Rep ((TF32.V k + TF32.V (k + 1)) * 2 ^ h) := by
  have e : (TF32.V k + TF32.V (k + 1)) * 2 ^ h = (2 * TF32.M k + 1) * 2 ^ (TF32.E k + h) := by
    rw [TF32.V_succ, Nat.pow_add]
    unfold TF32.V
    generalize 2 ^ TF32.E k = z
    generalize 2 ^ h = y
    generalize TF32.M k = m
    grind
  rw [e]
  have := TF32.M_lt k
  exact rep_bits _ _ (by omega)
/-- the half of a small number. -/
theorem half32 {k h : Nat} (hk : k ≤ 2139095040) (hh : U32 = 2 * 2 ^ h) (s : Bool) : floatBits .mul .f64 4602678819172646912 (wd s (w32 k)) = some (wd s (rnd (TF32.V k * 2 ^ h))) ∧ rnd (TF32.V k * 2 ^ h) < INF ∧ V (rnd (TF32.V k * 2 ^ h)) = TF32.V k * 2 ^ h := by
  have hI := INF_lt
  have hw := w32_fin hk
  have hV := V_w32 k
  have hrep := rep_half32 k h
  have hlt : rnd (TF32.V k * 2 ^ h) < INF := by
    refine Nat.lt_of_le_of_lt ?_ hw
    refine V_le_iff.1 ?_
    rw [hrep.eq, hV, hh]
    generalize 2 ^ h = z
    exact Nat.mul_le_mul_left _ (by omega)
  refine ⟨?_, hlt, hrep.eq⟩
  have := half_mul (b := wd s (w32 k)) (n := TF32.V k * 2 ^ h) (by rw [mg_wd (by omega)]; exact hw) hlt (by rw [mg_wd (by omega), hV, hh]; rw [Nat.mul_left_comm])
  rw [ng_wd (by omega)] at this
  exact this
theorem mid32' {a r h : Nat} (hh : U32 = 2 * 2 ^ h) (ha : a < INF) (hr : n32 a = r) (hlt : r < 2139095040) : Mid a (if 0 < r then w32 (r - 1) else wd true (w32 1)) (w32 r) (w32 (r + 1)) (r % 2 == 0) := by
  have hI := INF_lt
  have hIe := INF_eq
  have hma : mg a = a := mg_small (by omega)
  have hna : ng a = false := ng_small (by omega)
  have hiva : iv a = V a := iv_small (by omega)
  have nx := near_n32 a
  rw [hr, hma, hh] at nx
  obtain ⟨at1, at2, at3⟩ := half32 (k := r) (h := h) (by omega) hh false
  obtain ⟨ab1, ab2, ab3⟩ := half32 (k := r + 1) (h := h) (by omega) hh false
  have wdf : ∀ x : Nat, wd false x = x := fun x => rfl
  rw [wdf, wdf] at at1 ab1
  have mat : mg (rnd (TF32.V r * 2 ^ h)) = rnd (TF32.V r * 2 ^ h) := mg_small (by omega)
  have mab : mg (rnd (TF32.V (r + 1) * 2 ^ h)) = rnd (TF32.V (r + 1) * 2 ^ h) := mg_small (by omega)
  have iat : iv (rnd (TF32.V r * 2 ^ h)) = ((TF32.V r * 2 ^ h : Nat) : Int) := by rw [iv_small (by omega), at3]
  have iab : iv (rnd (TF32.V (r + 1) * 2 ^ h)) = ((TF32.V (r + 1) * 2 ^ h : Nat) : Int) := by rw [iv_small (by omega), ab3]
  have hw1 := w32_fin (r := r + 1) (by omega)
  have hwV := V_w32 (r + 1)
  have sumlt : ∀ n : Nat, n ≤ (TF32.V r + TF32.V (r + 1)) * 2 ^ h → rnd n < INF := by
    intro n hn
    refine Nat.lt_of_le_of_lt (rnd_le_of ?_) hw1
    rw [hwV, hh]
    have := TF32.V_lt_succ r
    refine Nat.le_trans hn ?_
    rw [Nat.mul_left_comm, ← Nat.mul_assoc]
    exact Nat.mul_le_mul_right _ (by omega)
  have eu : ((TF32.V r * 2 ^ h : Nat) : Int) + ((TF32.V (r + 1) * 2 ^ h : Nat) : Int) = (((TF32.V r + TF32.V (r + 1)) * 2 ^ h : Nat) : Int) := by
    rw [← Int.natCast_add, Nat.add_mul]
  obtain ⟨high, hs1, hs2, hs3⟩ := add_exact (a := rnd (TF32.V r * 2 ^ h)) (b := rnd (TF32.V (r + 1) * 2 ^ h)) (by rw [mat]; exact at2) (by rw [mab]; exact ab2) iat iab (by rw [eu, Int.natAbs_natCast]; exact rep_mid32 r h) (by rw [eu, Int.natAbs_natCast]; exact sumlt _ (Nat.le_refl _))
  rw [eu] at hs3
  have hhi : V a ≤ (TF32.V r + TF32.V (r + 1)) * 2 ^ h := by
    have := nx.hi
    rw [Nat.mul_assoc] at this
    rw [Nat.mul_comm]; omega
  have hhie : V a = (TF32.V r + TF32.V (r + 1)) * 2 ^ h → r % 2 = 0 := by
    intro he
    refine nx.hie ?_
    rw [he, Nat.mul_assoc, Nat.mul_comm (2 ^ h)]
  have top : ltW a high = true ∨ (ltW a high = false ∧ eqW a high = true ∧ (r % 2 == 0) = true) := by
    rw [lt_iv' (by rw [hma]; exact ha) hs2, eq_iv' (by rw [hma]; exact ha) hs2, hiva, hs3]
    by_cases he : V a = (TF32.V r + TF32.V (r + 1)) * 2 ^ h
    · have := hhie he
      exact .inr ⟨decide_eq_false (by omega), decide_eq_true (by omega), by rw [this]; rfl⟩
    · exact .inl (decide_eq_true (by omega))
  by_cases h0 : 0 < r
  · rw [if_pos h0]
    obtain ⟨s, rfl⟩ : ∃ s, r = s + 1 := ⟨r - 1, by omega⟩
    rw [Nat.add_sub_cancel]
    obtain ⟨be1, be2, be3⟩ := half32 (k := s) (h := h) (by omega) hh false
    rw [wdf, wdf] at be1
    have mbe : mg (rnd (TF32.V s * 2 ^ h)) = rnd (TF32.V s * 2 ^ h) := mg_small (by omega)
    have ibe : iv (rnd (TF32.V s * 2 ^ h)) = ((TF32.V s * 2 ^ h : Nat) : Int) := by rw [iv_small (by omega), be3]
    have el : ((TF32.V s * 2 ^ h : Nat) : Int) + ((TF32.V (s + 1) * 2 ^ h : Nat) : Int) = (((TF32.V s + TF32.V (s + 1)) * 2 ^ h : Nat) : Int) := by
      rw [← Int.natCast_add, Nat.add_mul]
    obtain ⟨low, ls1, ls2, ls3⟩ := add_exact (a := rnd (TF32.V s * 2 ^ h)) (b := rnd (TF32.V (s + 1) * 2 ^ h)) (by rw [mbe]; exact be2) (by rw [mat]; exact at2) ibe iat (by rw [el, Int.natAbs_natCast]; exact rep_mid32 s h) (by
      rw [el, Int.natAbs_natCast]
      refine sumlt _ (Nat.mul_le_mul_right _ ?_)
      have := TF32.V_lt_succ s
      have := TF32.V_lt_succ (s + 1)
      omega)
    rw [el] at ls3
    have hlo : (TF32.V s + TF32.V (s + 1)) * 2 ^ h ≤ V a := by
      have := nx.lo s rfl
      rw [Nat.mul_assoc] at this
      rw [Nat.mul_comm]; omega
    have hloe : (TF32.V s + TF32.V (s + 1)) * 2 ^ h = V a → (s + 1) % 2 = 0 := by
      intro he
      refine nx.loe s rfl ?_
      rw [← he, Nat.mul_assoc, Nat.mul_comm (2 ^ h)]
    refine ⟨_, _, _, low, high, be1, at1, ab1, ls1, hs1, ?_, top⟩
    rw [lt_iv' ls2 (by rw [hma]; exact ha), eq_iv' (by rw [hma]; exact ha) ls2, hiva, ls3]
    by_cases he : (TF32.V s + TF32.V (s + 1)) * 2 ^ h = V a
    · have := hloe he
      exact .inr ⟨decide_eq_false (by omega), decide_eq_true (by omega), by rw [this]; rfl⟩
    · exact .inl (decide_eq_true (by omega))
  · rw [if_neg h0]
    have hr0 : r = 0 := by omega
    subst hr0
    obtain ⟨be1, be2, be3⟩ := half32 (k := 1) (h := h) (by omega) hh true
    have v1 : TF32.V 1 = 1 := by decide
    have v0 : TF32.V 0 = 0 := by decide
    have hp := Nat.two_pow_pos h
    rw [v1, Nat.one_mul] at be1 be2 be3
    have mbe : mg (wd true (rnd (2 ^ h))) = rnd (2 ^ h) := mg_wd (by omega)
    have ibe : iv (wd true (rnd (2 ^ h))) = -((2 ^ h : Nat) : Int) := by rw [iv_wd (by omega), be3]; rfl
    have hsum : -((2 ^ h : Nat) : Int) + ((TF32.V 0 * 2 ^ h : Nat) : Int) = -((2 ^ h : Nat) : Int) := by rw [v0, Nat.zero_mul]; omega
    obtain ⟨low, ls1, ls2, ls3⟩ := add_exact (a := wd true (rnd (2 ^ h))) (b := rnd (TF32.V 0 * 2 ^ h)) (by rw [mbe]; exact be2) (by rw [mat]; exact at2) ibe iat (by rw [hsum, Int.natAbs_neg, Int.natAbs_natCast]; have := rep_bits 1 h (by omega); rw [Nat.one_mul] at this; exact this) (by
      rw [hsum, Int.natAbs_neg, Int.natAbs_natCast]; exact be2)
    rw [hsum] at ls3
    refine ⟨_, _, _, low, high, be1, at1, ab1, ls1, hs1, ?_, top⟩
    rw [lt_iv' ls2 (by rw [hma]; exact ha), hiva, ls3]
    exact .inl (decide_eq_true (by omega))
theorem mid32 {a r : Nat} (ha : a ≤ INF) (hr : q32 a = r) (hlt : r < 2139095040) : Mid a (if 0 < r then w32 (r - 1) else wd true (w32 1)) (w32 r) (w32 (r + 1)) (r % 2 == 0) := by
  have hne : a ≠ INF := by
    intro h; unfold q32 at hr; rw [if_pos h] at hr; omega
  have hn : n32 a = r := by unfold q32 at hr; rw [if_neg hne] at hr; omega
  obtain ⟨h, hh⟩ := H32_two
  exact mid32' hh (by omega) hn hlt
theorem w32_top : w32 2139095040 = 5183643171103440896 := by
  refine V_inj ?_
  rw [V_w32]
  have e1 : TF32.M 2139095040 = 8388608 := by decide
  obtain ⟨e, he⟩ : ∃ e : Nat, e = 254 := ⟨_, rfl⟩
  have e2 : TF32.E 2139095040 = e := by rw [he]; decide
  obtain ⟨D, hD⟩ : ∃ D : Nat, D = 1150 := ⟨_, rfl⟩
  have e3 : V 5183643171103440896 = 2 ^ 52 * 2 ^ D := V_pow (by omega)
  have hT := T32_eq
  rw [e3]
  unfold TF32.V U32
  rw [e1, e2, show (8388608 : Nat) = 2 ^ 23 from rfl, ← Nat.pow_add, ← Nat.pow_add, ← Nat.pow_add]
  exact congrArg (2 ^ ·) (by omega)
theorem from32_low {k : Nat} (h : k < 2139095040) : from32 k = w32 k := by
  have h1 : mg32 k = k := by unfold mg32; omega
  have h2 : ng32 k = false := by
    have h3 : k / 2147483648 % 2 = 0 := by omega
    unfold ng32; rw [h3]; rfl
  rw [from32_is (by omega), h1, h2]
  unfold f32 wd
  rw [if_neg Bool.false_ne_true, if_neg (by omega)]

theorem H16_two : ∃ h, U16 = 2 * 2 ^ h := by
  obtain ⟨h, hh⟩ : ∃ h, T16 = h + 1 := ⟨1049, rfl⟩
  refine ⟨h, ?_⟩
  unfold U16
  rw [hh, Nat.pow_succ']
theorem rep_half16 (k h : Nat) : Rep (TF16.V k * 2 ^ h) := by
  unfold TF16.V
  rw [Nat.mul_assoc, ← Nat.pow_add]
  have := TF16.M_lt k
  exact rep_bits _ _ (by omega)
theorem rep_mid16 (k h : Nat) : Rep ((TF16.V k + TF16.V (k + 1)) * 2 ^ h) := by
  have e : (TF16.V k + TF16.V (k + 1)) * 2 ^ h = (2 * TF16.M k + 1) * 2 ^ (TF16.E k + h) := by
    rw [TF16.V_succ, Nat.pow_add]
    unfold TF16.V
    generalize 2 ^ TF16.E k = z
    generalize 2 ^ h = y
    generalize TF16.M k = m
    grind
  rw [e]
  have := TF16.M_lt k
  exact rep_bits _ _ (by omega)
/-- the half of a small number. -/
theorem half16 {k h : Nat} (hk : k ≤ 31744) (hh : U16 = 2 * 2 ^ h) (s : Bool) : floatBits .mul .f64 4602678819172646912 (wd s (w16 k)) = some (wd s (rnd (TF16.V k * 2 ^ h))) ∧ rnd (TF16.V k * 2 ^ h) < INF ∧ V (rnd (TF16.V k * 2 ^ h)) = TF16.V k * 2 ^ h := by
  have hI := INF_lt
  have hw := w16_fin hk
  have hV := V_w16 k
  have hrep := rep_half16 k h
  have hlt : rnd (TF16.V k * 2 ^ h) < INF := by
    refine Nat.lt_of_le_of_lt ?_ hw
    refine V_le_iff.1 ?_
    rw [hrep.eq, hV, hh]
    generalize 2 ^ h = z
    exact Nat.mul_le_mul_left _ (by omega)
  refine ⟨?_, hlt, hrep.eq⟩
  have := half_mul (b := wd s (w16 k)) (n := TF16.V k * 2 ^ h) (by rw [mg_wd (by omega)]; exact hw) hlt (by rw [mg_wd (by omega), hV, hh]; rw [Nat.mul_left_comm])
  rw [ng_wd (by omega)] at this
  exact this
theorem mid16' {a r h : Nat} (hh : U16 = 2 * 2 ^ h) (ha : a < INF) (hr : n16 a = r) (hlt : r < 31744) : Mid a (if 0 < r then w16 (r - 1) else wd true (w16 1)) (w16 r) (w16 (r + 1)) (r % 2 == 0) := by
  have hI := INF_lt
  have hIe := INF_eq
  have hma : mg a = a := mg_small (by omega)
  have hna : ng a = false := ng_small (by omega)
  have hiva : iv a = V a := iv_small (by omega)
  have nx := near_n16 a
  rw [hr, hma, hh] at nx
  obtain ⟨at1, at2, at3⟩ := half16 (k := r) (h := h) (by omega) hh false
  obtain ⟨ab1, ab2, ab3⟩ := half16 (k := r + 1) (h := h) (by omega) hh false
  have wdf : ∀ x : Nat, wd false x = x := fun x => rfl
  rw [wdf, wdf] at at1 ab1
  have mat : mg (rnd (TF16.V r * 2 ^ h)) = rnd (TF16.V r * 2 ^ h) := mg_small (by omega)
  have mab : mg (rnd (TF16.V (r + 1) * 2 ^ h)) = rnd (TF16.V (r + 1) * 2 ^ h) := mg_small (by omega)
  have iat : iv (rnd (TF16.V r * 2 ^ h)) = ((TF16.V r * 2 ^ h : Nat) : Int) := by rw [iv_small (by omega), at3]
  have iab : iv (rnd (TF16.V (r + 1) * 2 ^ h)) = ((TF16.V (r + 1) * 2 ^ h : Nat) : Int) := by rw [iv_small (by omega), ab3]
  have hw1 := w16_fin (r := r + 1) (by omega)
  have hwV := V_w16 (r + 1)
  have sumlt : ∀ n : Nat, n ≤ (TF16.V r + TF16.V (r + 1)) * 2 ^ h → rnd n < INF := by
    intro n hn
    refine Nat.lt_of_le_of_lt (rnd_le_of ?_) hw1
    rw [hwV, hh]
    have := TF16.V_lt_succ r
    refine Nat.le_trans hn ?_
    rw [Nat.mul_left_comm, ← Nat.mul_assoc]
    exact Nat.mul_le_mul_right _ (by omega)
  have eu : ((TF16.V r * 2 ^ h : Nat) : Int) + ((TF16.V (r + 1) * 2 ^ h : Nat) : Int) = (((TF16.V r + TF16.V (r + 1)) * 2 ^ h : Nat) : Int) := by
    rw [← Int.natCast_add, Nat.add_mul]
  obtain ⟨high, hs1, hs2, hs3⟩ := add_exact (a := rnd (TF16.V r * 2 ^ h)) (b := rnd (TF16.V (r + 1) * 2 ^ h)) (by rw [mat]; exact at2) (by rw [mab]; exact ab2) iat iab (by rw [eu, Int.natAbs_natCast]; exact rep_mid16 r h) (by rw [eu, Int.natAbs_natCast]; exact sumlt _ (Nat.le_refl _))
  rw [eu] at hs3
  have hhi : V a ≤ (TF16.V r + TF16.V (r + 1)) * 2 ^ h := by
    have := nx.hi
    rw [Nat.mul_assoc] at this
    rw [Nat.mul_comm]; omega
  have hhie : V a = (TF16.V r + TF16.V (r + 1)) * 2 ^ h → r % 2 = 0 := by
    intro he
    refine nx.hie ?_
    rw [he, Nat.mul_assoc, Nat.mul_comm (2 ^ h)]
  have top : ltW a high = true ∨ (ltW a high = false ∧ eqW a high = true ∧ (r % 2 == 0) = true) := by
    rw [lt_iv' (by rw [hma]; exact ha) hs2, eq_iv' (by rw [hma]; exact ha) hs2, hiva, hs3]
    by_cases he : V a = (TF16.V r + TF16.V (r + 1)) * 2 ^ h
    · have := hhie he
      exact .inr ⟨decide_eq_false (by omega), decide_eq_true (by omega), by rw [this]; rfl⟩
    · exact .inl (decide_eq_true (by omega))
  by_cases h0 : 0 < r
  · rw [if_pos h0]
    obtain ⟨s, rfl⟩ : ∃ s, r = s + 1 := ⟨r - 1, by omega⟩
    rw [Nat.add_sub_cancel]
    obtain ⟨be1, be2, be3⟩ := half16 (k := s) (h := h) (by omega) hh false
    rw [wdf, wdf] at be1
    have mbe : mg (rnd (TF16.V s * 2 ^ h)) = rnd (TF16.V s * 2 ^ h) := mg_small (by omega)
    have ibe : iv (rnd (TF16.V s * 2 ^ h)) = ((TF16.V s * 2 ^ h : Nat) : Int) := by rw [iv_small (by omega), be3]
    have el : ((TF16.V s * 2 ^ h : Nat) : Int) + ((TF16.V (s + 1) * 2 ^ h : Nat) : Int) = (((TF16.V s + TF16.V (s + 1)) * 2 ^ h : Nat) : Int) := by
      rw [← Int.natCast_add, Nat.add_mul]
    obtain ⟨low, ls1, ls2, ls3⟩ := add_exact (a := rnd (TF16.V s * 2 ^ h)) (b := rnd (TF16.V (s + 1) * 2 ^ h)) (by rw [mbe]; exact be2) (by rw [mat]; exact at2) ibe iat (by rw [el, Int.natAbs_natCast]; exact rep_mid16 s h) (by
      rw [el, Int.natAbs_natCast]
      refine sumlt _ (Nat.mul_le_mul_right _ ?_)
      have := TF16.V_lt_succ s
      have := TF16.V_lt_succ (s + 1)
      omega)
    rw [el] at ls3
    have hlo : (TF16.V s + TF16.V (s + 1)) * 2 ^ h ≤ V a := by
      have := nx.lo s rfl
      rw [Nat.mul_assoc] at this
      rw [Nat.mul_comm]; omega
    have hloe : (TF16.V s + TF16.V (s + 1)) * 2 ^ h = V a → (s + 1) % 2 = 0 := by
      intro he
      refine nx.loe s rfl ?_
      rw [← he, Nat.mul_assoc, Nat.mul_comm (2 ^ h)]
    refine ⟨_, _, _, low, high, be1, at1, ab1, ls1, hs1, ?_, top⟩
    rw [lt_iv' ls2 (by rw [hma]; exact ha), eq_iv' (by rw [hma]; exact ha) ls2, hiva, ls3]
    by_cases he : (TF16.V s + TF16.V (s + 1)) * 2 ^ h = V a
    · have := hloe he
      exact .inr ⟨decide_eq_false (by omega), decide_eq_true (by omega), by rw [this]; rfl⟩
    · exact .inl (decide_eq_true (by omega))
  · rw [if_neg h0]
    have hr0 : r = 0 := by omega
    subst hr0
    obtain ⟨be1, be2, be3⟩ := half16 (k := 1) (h := h) (by omega) hh true
    have v1 : TF16.V 1 = 1 := by decide
    have v0 : TF16.V 0 = 0 := by decide
    have hp := Nat.two_pow_pos h
    rw [v1, Nat.one_mul] at be1 be2 be3
    have mbe : mg (wd true (rnd (2 ^ h))) = rnd (2 ^ h) := mg_wd (by omega)
    have ibe : iv (wd true (rnd (2 ^ h))) = -((2 ^ h : Nat) : Int) := by rw [iv_wd (by omega), be3]; rfl
    have hsum : -((2 ^ h : Nat) : Int) + ((TF16.V 0 * 2 ^ h : Nat) : Int) = -((2 ^ h : Nat) : Int) := by rw [v0, Nat.zero_mul]; omega
    obtain ⟨low, ls1, ls2, ls3⟩ := add_exact (a := wd true (rnd (2 ^ h))) (b := rnd (TF16.V 0 * 2 ^ h)) (by rw [mbe]; exact be2) (by rw [mat]; exact at2) ibe iat (by rw [hsum, Int.natAbs_neg, Int.natAbs_natCast]; have := rep_bits 1 h (by omega); rw [Nat.one_mul] at this; exact this) (by
      rw [hsum, Int.natAbs_neg, Int.natAbs_natCast]; exact be2)
    rw [hsum] at ls3
    refine ⟨_, _, _, low, high, be1, at1, ab1, ls1, hs1, ?_, top⟩
    rw [lt_iv' ls2 (by rw [hma]; exact ha), hiva, ls3]
    exact .inl (decide_eq_true (by omega))
theorem mid16 {a r : Nat} (ha : a ≤ INF) (hr : q16 a = r) (hlt : r < 31744) : Mid a (if 0 < r then w16 (r - 1) else wd true (w16 1)) (w16 r) (w16 (r + 1)) (r % 2 == 0) := by
  have hne : a ≠ INF := by
    intro h; unfold q16 at hr; rw [if_pos h] at hr; omega
  have hn : n16 a = r := by unfold q16 at hr; rw [if_neg hne] at hr; omega
  obtain ⟨h, hh⟩ := H16_two
  exact mid16' hh (by omega) hn hlt
theorem w16_top : w16 31744 = 4679240012837945344 := by
  refine V_inj ?_
  rw [V_w16]
  have e1 : TF16.M 31744 = 1024 := by decide
  obtain ⟨e, he⟩ : ∃ e : Nat, e = 30 := ⟨_, rfl⟩
  have e2 : TF16.E 31744 = e := by rw [he]; decide
  obtain ⟨D, hD⟩ : ∃ D : Nat, D = 1038 := ⟨_, rfl⟩
  have e3 : V 4679240012837945344 = 2 ^ 52 * 2 ^ D := V_pow (by omega)
  have hT := T16_eq
  rw [e3]
  unfold TF16.V U16
  rw [e1, e2, show (1024 : Nat) = 2 ^ 10 from rfl, ← Nat.pow_add, ← Nat.pow_add, ← Nat.pow_add]
  exact congrArg (2 ^ ·) (by omega)
theorem from16_low {k : Nat} (h : k < 31744) : from16 k = w16 k := by
  have h1 : mg16 k = k := by unfold mg16; omega
  have h2 : ng16 k = false := by
    have h3 : k / 32768 % 2 = 0 := by omega
    unfold ng16; rw [h3]; rfl
  rw [from16_is (by omega), h1, h2]
  unfold f16 wd
  rw [if_neg Bool.false_ne_true, if_neg (by omega)]
end TF
