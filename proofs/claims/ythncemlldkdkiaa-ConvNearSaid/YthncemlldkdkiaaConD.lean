/- Floats of 16 bits: From16's steps; the reference's parts of both. -/
import Derived.Test.YthncemlldkdkiaaConC
import Derived.Test.YthncemlldkdkiaaLevD
namespace TF
open Ieee Go Go.RowKit

theorem mg16_lt (b : Nat) : mg16 b < 32768 := Nat.mod_lt _ (by omega)
theorem V16_small {r : Nat} (h : r ≤ 2048) : TF16.V r = r := TF16.V_small h
theorem fint_is {f : Int} (h0 : 0 ≤ f) (h1 : f ≤ 2048) : ∃ F : Nat, floatOfInt .f64 f = F ∧ F < INF ∧ V F = f.toNat * Q := by
  have h := fi_is (n := f) h0 (by omega)
  refine ⟨_, h.eq, by have := h.fin; rw [h.self] at this; exact this, ?_⟩
  have hr : Rep (f.natAbs * Q) := rep_Q (by omega)
  rw [hr.eq]
  have : f.natAbs = f.toNat := by omega
  rw [this]
theorem V_1024 : V 4652218415073722368 = 1024 * Q := by
  have := V_pow_up (c := 4652218415073722368) (D := 1032) (e := 10) (by omega) (by unfold T; omega)
  omega
theorem from16_ways (n : Int) (h0 : 0 ≤ n) (h1 : n < 65536) :
    ∃ e : Int, bits .and .u16 (n / 1024) 31 = e ∧ 0 ≤ e ∧ e ≤ 31 ∧ 0 ≤ n % 1024 ∧
    ((e = 31 ∧ eqW (floatOfInt .f64 (n % 1024)) 0 = false ∧ from16 n.toNat = 9221120237041090561) ∨
     (∃ y : Nat, from16 n.toNat = (if 32768 ≤ n then wd true y else y) ∧ y < 9223372036854775808 ∧
      ((e = 31 ∧ eqW (floatOfInt .f64 (n % 1024)) 0 = true ∧ y = 9218868437227405312) ∨
       (e = 0 ∧ floatBits .mul .f64 (floatOfInt .f64 (n % 1024)) (powW (-24)) = some y) ∨
       (1 ≤ e ∧ e ≤ 30 ∧ ∃ g, floatBits .add .f64 4652218415073722368 (floatOfInt .f64 (n % 1024)) = some g ∧ floatBits .mul .f64 g (powW (e - 25)) = some y)))) := by
  have hI := INF_eq
  have hT2 : T = 1074 := rfl
  have hT := T16_eq
  obtain ⟨b, rfl⟩ := Int.eq_ofNat_of_zero_le h0
  have ea := u16_and_nat (b / 1024) 31 (by omega) (by omega)
  have ea2 : (b / 1024) &&& 31 = b / 1024 % 32 := Nat.and_two_pow_sub_one_eq_mod (b / 1024) 5
  rw [ea2] at ea
  have ea3 : ((b / 1024 : Nat) : Int) = (b : Int) / 1024 := by omega
  rw [ea3, show ((31 : Nat) : Int) = 31 from rfl] at ea
  refine ⟨((b / 1024 % 32 : Nat) : Int), ea, by omega, by omega, by omega, ?_⟩
  rw [Int.toNat_natCast]
  obtain ⟨F, hF, hFI, hFV⟩ := fint_is (f := (b : Int) % 1024) (by omega) (by omega)
  rw [hF]
  obtain ⟨f, hf⟩ : ∃ f : Nat, f = b % 1024 := ⟨_, rfl⟩
  have hf2 : ((b : Int) % 1024).toNat = f := by omega
  rw [hf2] at hFV
  obtain ⟨r, hr⟩ : ∃ r, r = mg16 b := ⟨_, rfl⟩
  have hr2 : r = b % 32768 := hr
  have hz : eqW F 0 = decide (f = 0) := by
    rw [eqW_zero, mg_small (by have := INF_lt; omega), show isN F = false from isN_false.2 (by rw [mg_small (by have := INF_lt; omega)]; omega)]
    rw [Bool.eq_iff_iff]; simp only [Bool.not_false, Bool.true_and, decide_eq_true_eq]
    rw [← V_eq_zero, hFV]
    have := Q_pos
    constructor
    · intro h
      rcases Nat.mul_eq_zero.1 h with h | h
      · exact h
      · omega
    · intro h; rw [h, Nat.zero_mul]
  have hs : (ng16 b = true ↔ (32768 : Int) ≤ b) := by
    unfold ng16
    rw [beq_iff_eq]; omega
  have hfr : ∀ y : Nat, ¬ 31744 < r → (if r = 31744 then INF else w16 r) = y → from16 b = (if (32768 : Int) ≤ b then wd true y else y) := by
    intro y h1 h2
    unfold from16
    rw [← hr, if_neg h1, h2]
    by_cases hc : (32768 : Int) ≤ b
    · rw [if_pos hc, hs.2 hc]
    · rw [if_neg hc]
      have : ng16 b = false := by rw [Bool.eq_false_iff]; exact fun h => hc (hs.1 h)
      rw [this]; rfl
  by_cases he : b / 1024 % 32 = 31
  · by_cases h0 : f = 0
    · refine .inr ⟨9218868437227405312, hfr _ (by omega) (by rw [if_pos (by omega)]; omega), by omega, .inl ⟨by omega, by rw [hz, decide_eq_true h0], rfl⟩⟩
    · refine .inl ⟨by omega, by rw [hz, decide_eq_false h0], ?_⟩
      unfold from16; rw [← hr, if_pos (by omega)]
  · by_cases he0 : b / 1024 % 32 = 0
    · have hrf : r = f := by omega
      have hw := w16_fin (r := r) (by omega)
      have hrep := rep16 r
      refine .inr ⟨w16 r, hfr _ (by omega) (if_neg (by omega)), by omega, .inr (.inl ⟨by omega, ?_⟩)⟩
      obtain ⟨p1, p2, p3⟩ := powW_lt (e := -24) (by omega) (by omega)
      refine mul_exact hFI p3 hw ?_
      obtain ⟨D, hD⟩ : ∃ D : Nat, D = 998 := ⟨_, rfl⟩
      rw [hFV, powW_V (e := -24) (D := D) (by omega), V16_small (by omega), hrf]
      have e1 : 2 ^ 52 * 2 ^ D = U16 := by unfold U16; rw [← Nat.pow_add]; exact congrArg (2 ^ ·) (by omega)
      rw [e1]; generalize Q = q; generalize U16 = u; grind
    · have hw := w16_fin (r := r) (by omega)
      refine .inr ⟨w16 r, hfr _ (by omega) (if_neg (by omega)), by omega, .inr (.inr ⟨by omega, by omega, rnd ((1024 + f) * Q), ?_, ?_⟩)⟩
      · show double.add _ _ = _
        have i1 : iv 4652218415073722368 = 1024 * (Q : Int) := by rw [iv_small (by omega), V_1024]; simp
        have i2 : iv F = f * (Q : Int) := by rw [iv_small (by have := INF_lt; omega), hFV]; simp
        have hg : rnd ((1024 + f) * Q) < INF := by
          refine rnd_fin ?_
          exact Nat.mul_le_mul_right _ (by omega)
        rw [add_fin (by rw [mg_small (by omega)]; omega) (by rw [mg_small (by have := INF_lt; omega)]; exact hFI), i1, i2]
        have i3 : 1024 * (Q : Int) + f * (Q : Int) = (((1024 + f) * Q : Nat) : Int) := by
          rw [Nat.add_mul]; simp
        have hq : 0 < (1024 + f) * Q := Nat.mul_pos (by omega) Q_pos
        rw [i3, if_neg (by omega), decide_eq_false (by omega), Int.natAbs_natCast, Nat.min_eq_left (by omega)]
        simp only [wd, Bool.false_eq_true, if_false]
      · have hg : rnd ((1024 + f) * Q) < INF := by
          refine rnd_fin ?_
          exact Nat.mul_le_mul_right _ (by omega)
        have hrg : Rep ((1024 + f) * Q) := rep_Q (by omega)
        obtain ⟨p1, p2, p3⟩ := powW_lt (e := ((b / 1024 % 32 : Nat) : Int) - 25) (by omega) (by omega)
        refine mul_exact hg p3 hw ?_
        obtain ⟨D, hD⟩ : ∃ D : Nat, D = b / 1024 % 32 + 997 := ⟨_, rfl⟩
        rw [hrg.eq, powW_V (e := ((b / 1024 % 32 : Nat) : Int) - 25) (D := D) (by omega)]
        have m1 : TF16.M r = 1024 + f := by unfold TF16.M; rw [if_neg (by omega)]; omega
        have m2 : TF16.E r = b / 1024 % 32 - 1 := by unfold TF16.E; omega
        unfold TF16.V
        rw [m1, m2]
        have e0 : 52 + D = b / 1024 % 32 - 1 + T16 := by omega
        have e1 : 2 ^ 52 * 2 ^ D = 2 ^ (b / 1024 % 32 - 1) * U16 := by clear hD; unfold U16; rw [← Nat.pow_add, ← Nat.pow_add, e0]
        rw [e1]; clear hD e0 e1; generalize Q = q; generalize U16 = u; generalize 2 ^ (b / 1024 % 32 - 1) = z; rw [Nat.mul_assoc, Nat.mul_left_comm, Nat.mul_assoc]

/-- the bits of 16. -/
theorem or16 {r : Nat} (h : r < 32768) (R : Int) (hR : R = r) : bits .or .u16 0 R = (wd16 false r : Int) ∧ bits .or .u16 32768 R = (wd16 true r : Int) := by
  subst hR
  have e0 := u16_or_nat 0 r (by omega) (by omega)
  have e1 := u16_or_nat 32768 r (by omega) (by omega)
  constructor
  · rw [show ((0 : Nat) : Int) = 0 from rfl] at e0
    rw [e0, Nat.zero_or]; rfl
  · rw [show ((32768 : Nat) : Int) = 32768 from rfl] at e1
    rw [e1]
    have := Nat.two_pow_add_eq_or_of_lt (i := 15) (b := r) (by omega) 1
    rw [show (2 : Nat) ^ 15 * 1 = 32768 from rfl] at this
    rw [← this]; rfl
/-- the sign, as the reference and the code move it down. -/
theorem sign63 {x : Nat} (h : W64 x) (n : Int) (hn : n = x) : (ng x = false ∧ n / 9223372036854775808 = 0) ∨ (ng x = true ∧ n / 9223372036854775808 = 1) := by
  have h' : x < 2 ^ 64 := h
  by_cases hc : 2 ^ 63 ≤ x
  · exact .inr ⟨(ng_iff h').2 hc, by omega⟩
  · exact .inl ⟨(ng_false_iff h').2 (by omega), by omega⟩

/-- the reference: what it makes of the parts. -/
theorem parts_small (x : Nat) :
    (isN x = true ∧ partsW x = 2) ∨ (isN x = false ∧ mg x = INF ∧ partsW x = 1) ∨
    (isN x = false ∧ mg x < INF ∧ partsW x = 0 ∧ ∃ m : Nat, partsM x = m ∧ m < 9007199254740992 ∧ -1074 ≤ partsE x ∧ partsE x ≤ 971 ∧
      smallI m (partsE x) 23 (-149) 2139095040 = ((min (n32 x) 2139095040 : Nat) : Int) ∧ smallI m (partsE x) 10 (-24) 31744 = ((min (n16 x) 31744 : Nat) : Int)) := by
  have hI := INF_eq
  rcases Nat.lt_trichotomy (mg x) INF with h | h | h
  · have e1 : partsM x = (M (mg x) : Int) := if_pos h
    have e2 : partsE x = (E (mg x) : Int) - 1074 := if_pos h
    have e3 : partsW x = 0 := if_pos h
    have hM := M_lt (mg x)
    have hE : E (mg x) ≤ 2045 := by unfold E; omega
    refine .inr (.inr ⟨isN_false.2 (by omega), h, e3, M (mg x), e1, by omega, by omega, by omega, ?_, ?_⟩)
    · rw [small32_word, e2]; rfl
    · rw [small16_word, e2]; rfl
  · refine .inr (.inl ⟨isN_false.2 (by omega), h, ?_⟩)
    unfold partsW; rw [if_neg (by omega), if_pos h]
  · refine .inl ⟨isN_true.2 h, ?_⟩
    unfold partsW; rw [if_neg (by omega), if_neg (by omega)]
end TF
