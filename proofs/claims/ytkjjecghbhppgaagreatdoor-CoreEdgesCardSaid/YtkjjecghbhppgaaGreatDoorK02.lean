/- Laid together: BitsF, TwinA, TwinB, BitsL, FloatD, BitsM2. -/
import Derived.Test.YtkjjecghbhppgaaGreatDoorK01
/- The functions of package bits as plain functions of words. -/
namespace TF
open Ieee Go Go.RowKit

theorem rk_zero {x : Nat} : rk x = rk 0 ↔ mg x = 0 := by
  have : rk 0 = 0 := by decide
  rw [this]; unfold rk; split <;> omega
theorem isN_zero : isN 0 = false := by decide
theorem eqW_self (x : Nat) : eqW x x = !isN x := by unfold eqW; simp
theorem eqW_zero (x : Nat) : eqW x 0 = (!isN x && decide (mg x = 0)) := by
  unfold eqW; rw [isN_zero]; simp [rk_zero]

def canonW (x : Nat) : Nat := if isN x then 9221120237041090561 else if mg x = 0 then 0 else x
def upW (x : Nat) : Nat := if isN x then 9221120237041090561 else if x = 9218868437227405312 then x else if mg x = 0 then 1 else if 9223372036854775808 ≤ x then x - 1 else x + 1
def downW (x : Nat) : Nat := if isN x then 9221120237041090561 else op (upW (op x))
def classW (x : Nat) : Int := if mg x = 0 then 0 else if mg x < 4503599627370496 then 1 else if mg x < 9218868437227405312 then 2 else if mg x = 9218868437227405312 then 3 else 4
def placeW (x : Nat) : Nat := if 9223372036854775808 ≤ x then 18446744073709551615 - x else x + 9223372036854775808
def cmpN (a b : Nat) : Int := if a < b then -1 else if b < a then 1 else 0
def orderW (a b : Nat) : Int := cmpN (placeW a) (placeW b)
def maxW (a b : Nat) : Nat := if isN a || isN b then 9221120237041090561 else if orderW a b < 0 then b else a
def minW (a b : Nat) : Nat := if isN a || isN b then 9221120237041090561 else if 0 < orderW a b then b else a
theorem isN_eq (x : Nat) : isN x = !eqW x x := by rw [eqW_self, Bool.not_not]

theorem not_bits {b : Nat} (h : b < 2 ^ 64) : bits .xor .u64 18446744073709551615 (b : Int) = ((18446744073709551615 - b : Nat) : Int) := by
  have e := u64_xor_nat 18446744073709551615 b (by omega) h
  rw [show ((18446744073709551615 : Nat) : Int) = 18446744073709551615 from rfl] at e
  rw [e]
  congr 1
  have : ∀ c : Nat, c < 2 ^ 64 → (2 ^ 64 - 1) ^^^ c = 2 ^ 64 - 1 - c := by
    intro c hc
    have := (BitVec.allOnes_xor (x := BitVec.ofNat 64 c))
    have h2 := congrArg BitVec.toNat this
    rw [BitVec.toNat_xor, BitVec.toNat_not, BitVec.toNat_ofNat, Nat.mod_eq_of_lt hc] at h2
    simpa using h2
  simpa using this b h
theorem or_bits {b : Nat} (h : b < 2 ^ 63) : bits .or .u64 (b : Int) 9223372036854775808 = ((b + 9223372036854775808 : Nat) : Int) := by
  have e := u64_or_nat b 9223372036854775808 (by omega) (by omega)
  rw [show ((9223372036854775808 : Nat) : Int) = 9223372036854775808 from rfl] at e
  rw [e]
  congr 1
  have := Nat.two_pow_add_eq_or_of_lt (i := 63) (b := b) (by omega) 1
  rw [Nat.or_comm, Nat.add_comm]
  simpa using this.symm

theorem ret_f64 {a b : Nat} (h : a = b) : Ending.returned (.float .f64 a) = .returned (.float .f64 b) := by rw [h]
theorem ret_int' {k : IntKind} {a b : Int} (h : a = b) : Ending.returned (.int k a) = .returned (.int k b) := by rw [h]

theorem class_cases (b : Nat) (n : Int) (hn : n = mg b) : (classW b = 0 ∧ n = 0) ∨ (classW b = 1 ∧ 0 < n ∧ n < 4503599627370496) ∨ (classW b = 2 ∧ 4503599627370496 ≤ n ∧ n < 9218868437227405312) ∨
    (classW b = 3 ∧ n = 9218868437227405312) ∨ (classW b = 4 ∧ 9218868437227405312 < n) := by
  unfold classW
  by_cases h1 : mg b = 0
  · rw [if_pos h1]; exact .inl ⟨rfl, by omega⟩
  · rw [if_neg h1]
    by_cases h2 : mg b < 4503599627370496
    · rw [if_pos h2]; exact .inr (.inl ⟨rfl, by omega, by omega⟩)
    · rw [if_neg h2]
      by_cases h3 : mg b < 9218868437227405312
      · rw [if_pos h3]; exact .inr (.inr (.inl ⟨rfl, by omega, by omega⟩))
      · rw [if_neg h3]
        by_cases h4 : mg b = 9218868437227405312
        · rw [if_pos h4]; exact .inr (.inr (.inr (.inl ⟨rfl, by omega⟩)))
        · rw [if_neg h4]; exact .inr (.inr (.inr (.inr ⟨rfl, by omega⟩)))

theorem up_cases {b : Nat} (hb : b < 2 ^ 64) (n : Int) (hn : n = b) : (upW b = 9221120237041090561 ∧ eqW b b = false) ∨ (eqW b b = true ∧
    ((upW b = b ∧ n = 9218868437227405312) ∨ ((n == 9218868437227405312) = false ∧
      ((upW b = 1 ∧ eqW b 0 = true) ∨ (eqW b 0 = false ∧
        ((9223372036854775808 ≤ n ∧ n ≤ 18446744073709551615 ∧ upW b = n.toNat - 1) ∨ (n < 9223372036854775808 ∧ 0 ≤ n ∧ upW b = (n + 1).toNat))))))) := by
  have hz := eqW_zero b
  rw [← Bool.not_not (isN b), ← eqW_self] at hz
  unfold upW
  rw [isN_eq]
  by_cases h : eqW b b = false
  · rw [h]; exact .inl ⟨rfl, rfl⟩
  · rw [Bool.not_eq_false] at h
    rw [h, Bool.not_true, Bool.not_false, Bool.true_and] at hz
    rw [h, Bool.not_true, if_neg Bool.false_ne_true]
    refine .inr ⟨rfl, ?_⟩
    by_cases h2 : b = 9218868437227405312
    · rw [if_pos h2]; exact .inl ⟨rfl, by omega⟩
    · rw [if_neg h2]
      refine .inr ⟨by simp; omega, ?_⟩
      by_cases h0 : mg b = 0
      · rw [if_pos h0, hz, decide_eq_true h0]; exact .inl ⟨rfl, rfl⟩
      · rw [if_neg h0, hz, decide_eq_false h0]
        refine .inr ⟨rfl, ?_⟩
        by_cases h3 : 9223372036854775808 ≤ b
        · rw [if_pos h3]; exact .inl ⟨by omega, by omega, by omega⟩
        · rw [if_neg h3]; exact .inr ⟨by omega, by omega, by omega⟩
theorem place_cases {b : Nat} (hb : b < 2 ^ 64) (n : Int) (hn : n = b) : (9223372036854775808 ≤ n ∧ bits .xor .u64 IntKind.u64.max n = (placeW b : Nat)) ∨ (n < 9223372036854775808 ∧ bits .or .u64 n 9223372036854775808 = (placeW b : Nat)) := by
  unfold placeW
  subst hn
  by_cases h3 : 9223372036854775808 ≤ b
  · rw [if_pos h3]; exact .inl ⟨by omega, not_bits hb⟩
  · rw [if_neg h3]; exact .inr ⟨by omega, or_bits (by omega)⟩
theorem placeW_lt {b : Nat} (hb : b < 2 ^ 64) : placeW b < 2 ^ 64 := by unfold placeW; split <;> omega

theorem canonW_lt {x : Nat} (h : x < 2 ^ 64) : canonW x < 2 ^ 64 := by unfold canonW; split; omega; split <;> omega
theorem upW_lt {x : Nat} (h : x < 2 ^ 64) : upW x < 2 ^ 64 := by
  unfold upW
  split
  · omega
  · split
    · omega
    · split
      · omega
      · split <;> omega
theorem downW_lt {x : Nat} (h : x < 2 ^ 64) : downW x < 2 ^ 64 := by
  unfold downW
  split
  · omega
  · exact op_lt (upW_lt (op_lt h))
theorem mg_word_lt (x : Nat) : mg x < 2 ^ 64 := by have := mg_lt x; omega

theorem max_cases (a b : Nat) : (maxW a b = 9221120237041090561 ∧ (eqW a a = false ∨ (eqW a a = true ∧ eqW b b = false))) ∨ (eqW a a = true ∧ eqW b b = true ∧ ((maxW a b = b ∧ orderW a b < 0) ∨ (maxW a b = a ∧ ¬ orderW a b < 0))) := by
  unfold maxW
  rw [eqW_self, eqW_self]
  cases isN a <;> cases isN b <;> simp
  by_cases h : orderW a b < 0
  · exact .inl ⟨fun _ => by omega, h⟩
  · exact .inr ⟨fun _ => by omega, by omega⟩
theorem min_cases (a b : Nat) : (minW a b = 9221120237041090561 ∧ (eqW a a = false ∨ (eqW a a = true ∧ eqW b b = false))) ∨ (eqW a a = true ∧ eqW b b = true ∧ ((minW a b = b ∧ 0 < orderW a b) ∨ (minW a b = a ∧ ¬ 0 < orderW a b))) := by
  unfold minW
  rw [eqW_self, eqW_self]
  cases isN a <;> cases isN b <;> simp
  by_cases h : 0 < orderW a b
  · exact .inl ⟨fun _ => by omega, h⟩
  · exact .inr ⟨fun _ => by omega, by omega⟩

/-- The rank as the code reckons it. -/
theorem rank_cases {b : Nat} (n : Int) (hn : n = b) (m : Int) (hm : m = mg b) (hb : b < 2 ^ 64) : 0 ≤ m ∧ m ≤ 9223372036854775807 ∧ ((9223372036854775808 ≤ n ∧ rk b = -m) ∨ (n < 9223372036854775808 ∧ rk b = m)) := by
  have := mg_lt b
  refine ⟨by omega, by omega, ?_⟩
  unfold rk
  by_cases h : ng b = true
  · rw [if_pos h]; rw [ng_iff hb] at h; exact .inl ⟨by omega, by omega⟩
  · rw [if_neg h]; rw [Bool.not_eq_true, ng_false_iff hb] at h; exact .inr ⟨by omega, by omega⟩

/-- Between, as the document has it. -/
def betweenW (a b : Nat) : Int × Bool := if isN a || isN b then (0, false) else if rk b - rk a < -9223372036854775808 ∨ 9223372036854775807 < rk b - rk a then (0, false) else (rk b - rk a, true)

theorem between_cases (a b : Nat) : (betweenW a b = (0, false) ∧ (eqW a a = false ∨ (eqW a a = true ∧ eqW b b = false))) ∨ (eqW a a = true ∧ eqW b b = true ∧
    ((betweenW a b = (rk b - rk a, true) ∧ -9223372036854775808 ≤ rk b - rk a ∧ rk b - rk a ≤ 9223372036854775807) ∨
     (betweenW a b = (0, false) ∧ ∃ d, wrap64 (rk b - rk a) = d ∧ ((d < 0 ∧ rk a < rk b) ∨ (0 < d ∧ rk b ≤ rk a))))) := by
  unfold betweenW
  rw [eqW_self, eqW_self]
  cases isN a <;> cases isN b
  · refine .inr ⟨rfl, rfl, ?_⟩
    by_cases h : rk b - rk a < -9223372036854775808 ∨ 9223372036854775807 < rk b - rk a
    · rw [if_pos h]
      refine .inr ⟨rfl, _, rfl, ?_⟩
      have ha : -9223372036854775808 < rk a ∧ rk a < 9223372036854775808 := by have := mg_lt a; unfold rk; split <;> omega
      have hb : -9223372036854775808 < rk b ∧ rk b < 9223372036854775808 := by have := mg_lt b; unfold rk; split <;> omega
      unfold wrap64
      omega
    · rw [if_neg h]
      exact .inl ⟨rfl, by omega, by omega⟩
  · exact .inl ⟨rfl, .inr ⟨rfl, rfl⟩⟩
  · exact .inl ⟨rfl, .inl rfl⟩
  · exact .inl ⟨rfl, .inl rfl⟩

def ulpW (x : Nat) : Nat := if isN x then 9221120237041090561 else if 9218868437227405311 ≤ mg x then 9218868437227405312 else (double.sub (mg x + 1) (mg x)).getD 0

theorem mg_small {r : Nat} (h : r < 2 ^ 63) : mg r = r := Nat.mod_eq_of_lt h
theorem ng_small {r : Nat} (h : r < 2 ^ 63) : ng r = false := by rw [ng_false_iff (by omega)]; exact h
theorem isN_mg (x : Nat) : isN (mg x) = isN x := by unfold isN; rw [mg_small (mg_lt x)]
theorem rk_small {r : Nat} (h : r < 2 ^ 63) : rk r = r := by unfold rk; rw [ng_small h, mg_small h]; rfl
theorem canonW_pos {r : Nat} (h : r ≤ INF) : canonW r = r := by
  have := INF_lt
  unfold canonW
  rw [show isN r = false from isN_false.2 (by rw [mg_small (by omega)]; omega), mg_small (by omega)]
  simp; omega
theorem canonW_nan {n : Nat} (h : INF < mg n) : canonW n = 9221120237041090561 := by
  unfold canonW; rw [isN_true.2 h]; rfl
theorem iv_small {r : Nat} (h : r < 2 ^ 63) : iv r = V r := by unfold iv; rw [ng_small h, mg_small h]; rfl
theorem pow_E_le (r : Nat) : 2 ^ E r ≤ V (r + 1) := by rw [V_succ]; omega
/-- The step above a finite magnitude, as the machine subtracts. -/
theorem sub_step {r : Nat} (h : r + 1 < INF) : double.sub (r + 1) r = some (rnd (2 ^ E r)) ∧ V (rnd (2 ^ E r)) = 2 ^ E r ∧ rnd (2 ^ E r) < INF ∧ 0 < rnd (2 ^ E r) := by
  have hI := INF_lt
  have hp := Nat.two_pow_pos (E r)
  have h1 : rnd (2 ^ E r) ≤ r + 1 := rnd_le_of (pow_E_le r)
  have h2 : V (rnd (2 ^ E r)) = 2 ^ E r := (rep_bits 1 (E r) (by omega)).eq |> fun e => by simpa using e
  have h3 : 0 < rnd (2 ^ E r) := by
    rcases Nat.eq_zero_or_pos (rnd (2 ^ E r)) with h0 | h0
    · rw [rnd_eq_zero] at h0; omega
    · exact h0
  refine ⟨?_, h2, by omega, h3⟩
  rw [sub_word (by rw [mg_small (by omega)]; omega) (by omega) (by rw [mg_small (by omega)]; omega), iv_small (by omega), iv_small (by omega), V_succ]
  rw [show ((V r + 2 ^ E r : Nat) : Int) - (V r : Int) = ((2 ^ E r : Nat) : Int) from by omega]
  unfold rw'
  rw [if_neg (by omega), Int.natAbs_natCast, Nat.min_eq_left (by omega)]
  simp [wd]
  exact Int.le_of_lt (Int.pow_pos (by decide))
theorem ulp_cases {x : Nat} : (ulpW x = 9221120237041090561 ∧ ltW 9218868437227405311 (mg x) = false ∧ isN x = true) ∨
    (ulpW x = mg x ∧ ltW 9218868437227405311 (mg x) = true) ∨
    (ltW 9218868437227405311 (mg x) = false ∧ ∃ r, upW (mg x) = mg x + 1 ∧ floatBits .sub .f64 (mg x + 1) (mg x) = some r ∧ ulpW x = r ∧ canonW r = r) := by
  have hI : INF = 9218868437227405312 := by decide
  have hm := mg_lt x
  by_cases hn : isN x = true
  · refine .inl ⟨by unfold ulpW; rw [if_pos hn], ?_, hn⟩
    unfold ltW; rw [isN_mg, hn]; simp
  · rw [Bool.not_eq_true] at hn
    have hn' := isN_false.1 hn
    by_cases h1 : mg x = INF
    · refine .inr (.inl ⟨by unfold ulpW; rw [hn, if_neg Bool.false_ne_true, if_pos (by omega)]; omega, ?_⟩)
      unfold ltW; rw [isN_mg, hn, rk_small hm, rk_small (by omega), show isN 9218868437227405311 = false from by decide]
      simp; omega
    · refine .inr (.inr ⟨?_, ?_⟩)
      · unfold ltW; rw [isN_mg, hn, rk_small hm, rk_small (by omega)]
        simp; omega
      · have hup : upW (mg x) = mg x + 1 := by
          unfold upW
          rw [isN_mg, hn, if_neg Bool.false_ne_true, if_neg (by omega), mg_small hm]
          split
          · omega
          · rw [if_neg (by omega)]
        by_cases h2 : mg x + 1 = INF
        · refine ⟨INF, hup, ?_, ?_, canonW_pos (Nat.le_refl _)⟩
          · show double.sub _ _ = _
            rw [sub_eq (by omega), add_inf_fin (by rw [h2]; decide) (by rw [mg_op (by omega), mg_small hm]; omega), h2]
            decide
          · unfold ulpW; rw [hn, if_neg Bool.false_ne_true, if_pos (by omega)]; omega
        · obtain ⟨s1, s2, s3, s4⟩ := sub_step (show mg x + 1 < INF by omega)
          refine ⟨_, hup, s1, ?_, canonW_pos (by omega)⟩
          unfold ulpW; rw [hn, if_neg Bool.false_ne_true, if_neg (by omega), s1]; rfl

/-- A word of 64 bits (kept from the walk's eyes). -/
def W64 (x : Nat) : Prop := x < 2 ^ 64
theorem W64.op {x : Nat} (h : W64 x) : W64 (TF.op x) := op_lt h
theorem W64.up {x : Nat} (h : W64 x) : W64 (upW x) := upW_lt h
theorem W64.down {x : Nat} (h : W64 x) : W64 (downW x) := downW_lt h
theorem W64.canon {x : Nat} (h : W64 x) : W64 (canonW x) := canonW_lt h
theorem W64.mg (x : Nat) : W64 (mg x) := mg_word_lt x
theorem W64.max {x y : Nat} (h : W64 x) (h' : W64 y) : W64 (maxW x y) := by
  unfold W64 maxW at *
  split
  · omega
  · split <;> assumption
theorem W64.min {x y : Nat} (h : W64 x) (h' : W64 y) : W64 (minW x y) := by
  unfold W64 minW at *
  split
  · omega
  · split <;> assumption
theorem W64.of_wf {x : Nat} (h : (Lit.float .f64 x).wf = true) : W64 x := by simpa [Lit.wf, W64] using h
theorem ulpW_lt (x : Nat) : ulpW x < 2 ^ 64 := by
  rcases ulp_cases (x := x) with ⟨e, _⟩ | ⟨e, _⟩ | ⟨_, r, _, h, e, _⟩
  · rw [e]; omega
  · rw [e]; exact mg_word_lt x
  · rw [e]
    have := Ieee.Format.sub_lt double h
    exact this
theorem W64.ulp (x : Nat) : W64 (ulpW x) := ulpW_lt x
/-- Whether two words are the same. -/
def sameB (a b : Nat) : Bool := a == b
theorem sameB_self (a : Nat) : sameB a a = true := by simp [sameB]
theorem sameB_true {a b : Nat} : sameB a b = true ↔ a = b := by simp [sameB]
theorem sameB_false {a b : Nat} : sameB a b = false ↔ a ≠ b := by simp [sameB]

theorem ret_bool' {a b : Bool} (h : a = b) : Ending.returned (.bool a) = .returned (.bool b) := by rw [h]
theorem cast_beq (a b : Nat) : ((a : Int) == (b : Int)) = sameB a b := by
  unfold sameB
  rw [Bool.eq_iff_iff]; simp; omega
end TF
/- The rounded sum of two floats and its exact rest, by three rounded operations, none of which loses anything but the first. -/
namespace TF

theorem rI_nonneg {n : Int} (h : 0 ≤ n) : 0 ≤ rI n := by unfold rI; rw [if_neg (by omega)]; omega
theorem rI_nonpos {n : Int} (h : n ≤ 0) : rI n ≤ 0 := by
  unfold rI
  by_cases h0 : n < 0
  · rw [if_pos h0]; omega
  · obtain rfl : n = 0 := by omega
    decide

theorem dvd_int {d : Nat} {x : Int} : d ∣ x.natAbs ↔ (d : Int) ∣ x := by
  rw [← Int.natAbs_dvd_natAbs, Int.natAbs_natCast]
theorem dvd_rI {k : Nat} {n : Int} (h : k ≤ E (rnd n.natAbs)) : ((2 ^ k : Nat) : Int) ∣ rI n := by
  rw [← dvd_int, rI_natAbs]; exact V_dvd h
theorem rI_exact {n : Int} {k : Nat} (h : ((2 ^ k : Nat) : Int) ∣ n) (he : E (rnd n.natAbs) ≤ k) : rI n = n := by
  rw [← dvd_int] at h
  have := rnd_exact h he
  unfold rI; rw [this]; split <;> omega

theorem near_even (k : Nat) (c : Int) (h : c.natAbs ≤ 2 ^ 54) : ∃ x : Int, Rep x.natAbs ∧ (x - (2 ^ k : Nat) * c).natAbs ≤ 2 ^ k := by
  refine ⟨(2 ^ (k + 1) : Nat) * (c / 2), ?_, ?_⟩
  · rw [Int.natAbs_mul, Int.natAbs_natCast, Nat.mul_comm]
    exact rep_bits _ _ (by omega)
  · have e : ((2 ^ (k + 1) : Nat) : Int) * (c / 2) - (2 ^ k : Nat) * c = (2 ^ k : Nat) * (2 * (c / 2) - c) := by
      rw [Nat.pow_succ, Int.natCast_mul]; grind
    rw [e, Int.natAbs_mul, Int.natAbs_natCast]
    have : (2 * (c / 2) - c).natAbs ≤ 1 := by omega
    exact Nat.le_trans (Nat.mul_le_mul_left _ this) (by omega)

theorem fast_two_sum {A B : Int} {ra rb : Nat} (hA : A.natAbs = V ra) (hB : B.natAbs = V rb) (h : rb ≤ ra) :
    Rep (rI (A + B) - A).natAbs ∧ Rep (A + B - rI (A + B)).natAbs ∧ (rI (A + B) - A).natAbs ≤ max A.natAbs (rI (A + B)).natAbs ∧ (A + B - rI (A + B)).natAbs ≤ B.natAbs := by
  have hAB : B.natAbs ≤ A.natAbs := by rw [hA, hB]; exact V_le h
  have hbest : (rI (A + B) - (A + B)).natAbs ≤ (A - (A + B)).natAbs := rI_best (A + B) A ⟨ra, hA.symm⟩
  have herr : (A + B - rI (A + B)).natAbs ≤ B.natAbs := by omega
  have hbd : (rI (A + B) - A).natAbs ≤ max A.natAbs (rI (A + B)).natAbs := by
    by_cases h0 : 0 ≤ A
    · have := rI_nonneg (show 0 ≤ A + B by omega); omega
    · have := rI_nonpos (show A + B ≤ 0 by omega); omega
  have hdA : ((2 ^ E ra : Nat) : Int) ∣ A := by rw [← dvd_int, hA]; exact V_dvd (Nat.le_refl _)
  have hdB : ((2 ^ E rb : Nat) : Int) ∣ B := by rw [← dvd_int, hB]; exact V_dvd (Nat.le_refl _)
  have hk := E_mono h
  have hdA' : ((2 ^ E rb : Nat) : Int) ∣ A := Int.dvd_trans (by rw [← dvd_int, Int.natAbs_natCast]; exact Nat.pow_dvd_pow 2 hk) hdA
  have hdn : ((2 ^ E rb : Nat) : Int) ∣ A + B := Int.dvd_add hdA' hdB
  refine ⟨?_, ?_, hbd, herr⟩
  · by_cases he : E (rnd (A + B).natAbs) ≤ E rb
    · rw [rI_exact hdn he, show A + B - A = B from by omega]; exact ⟨rb, hB.symm⟩
    · have hS : ((2 ^ (E rb + 1) : Nat) : Int) ∣ rI (A + B) := dvd_rI (by omega)
      have hVb := V_lt_E rb
      have hp : 2 ^ (E rb + 1) = 2 * 2 ^ E rb := by rw [Nat.pow_succ, Nat.mul_comm]
      by_cases hka : E rb + 1 ≤ E ra
      · refine rep_dvd (D := E rb + 1) ?_ ?_
        · rw [dvd_int]
          exact Int.dvd_sub hS (Int.dvd_trans (by rw [← dvd_int, Int.natAbs_natCast]; exact Nat.pow_dvd_pow 2 hka) hdA)
        · rw [hp]; omega
      · have hkk : E ra = E rb := by omega
        have hMb := M_lt rb
        have hVa := V_lt_E ra
        rw [hkk] at hVa
        have hVb' : V rb = M rb * 2 ^ E rb := rfl
        obtain ⟨c, hc⟩ := hdn
        have hpos := Nat.two_pow_pos (E rb)
        have hone : (rI (A + B) - (A + B)).natAbs ≤ 2 ^ E rb := by
          have hcb : c.natAbs ≤ 2 ^ 54 := by
            have e : (A + B).natAbs = 2 ^ E rb * c.natAbs := by rw [hc, Int.natAbs_mul, Int.natAbs_natCast]
            have e' : 2 ^ E rb * c.natAbs ≤ 2 ^ E rb * 2 ^ 54 := by omega
            exact Nat.le_of_mul_le_mul_left e' hpos
          obtain ⟨x, hx, hxb⟩ := near_even (E rb) c hcb
          rw [← hc] at hxb
          exact Nat.le_trans (rI_best (A + B) x hx) hxb
        refine rep_dvd (D := E rb) ?_ ?_
        · rw [dvd_int]
          exact Int.dvd_sub (Int.dvd_trans (by rw [← dvd_int, Int.natAbs_natCast]; exact Nat.pow_dvd_pow 2 (by omega)) hS) hdA'
        · have : M rb * 2 ^ E rb + 2 ^ E rb ≤ 2 ^ 53 * 2 ^ E rb := by
            rw [← Nat.succ_mul]; exact Nat.mul_le_mul_right _ hMb
          omega
  · by_cases he : E (rnd (A + B).natAbs) ≤ E rb
    · rw [rI_exact hdn he, show A + B - (A + B) = 0 from by omega]; exact ⟨0, V_zero⟩
    · have hS : ((2 ^ E rb : Nat) : Int) ∣ rI (A + B) := dvd_rI (by omega)
      refine rep_dvd (D := E rb) ?_ ?_
      · rw [dvd_int]; exact Int.dvd_sub hdn hS
      · have := V_lt_E rb; omega
end TF
/- A float cut into two halves (Veltkamp): what each rounded operation gives, in whole numbers of units. -/
namespace TF

/-- One rounding loses at most half a step. -/
theorem rI_close {n : Int} {p : Nat} (h : n.natAbs ≤ 2 ^ 53 * 2 ^ p) : 2 * (rI n - n).natAbs ≤ 2 ^ p := by
  have hg := Nat.two_pow_pos p
  have key : ∃ x : Int, Rep x.natAbs ∧ 2 * (x - n).natAbs ≤ 2 ^ p := by
    generalize hgg : 2 ^ p = g at *
    have hgI : (0 : Int) < g := by omega
    have e1 := Int.mul_ediv_add_emod (2 * n + g) (2 * g)
    have e2 := Int.emod_nonneg (2 * n + g) (show (2 * (g : Int)) ≠ 0 by omega)
    have e3 := Int.emod_lt_of_pos (2 * n + g) (show 0 < 2 * (g : Int) by omega)
    generalize (2 * n + g) / (2 * (g : Int)) = d at *
    generalize (2 * n + g) % (2 * (g : Int)) = m at *
    have e4 : 2 * ((g : Int) * d) + m = 2 * n + g := by rw [← e1, Int.mul_assoc]
    refine ⟨g * d, ?_, ?_⟩
    · rw [Int.natAbs_mul, Int.natAbs_natCast, Nat.mul_comm, ← hgg]
      refine rep_bits _ _ ?_
      have hu : d ≤ 2 ^ 53 := by
        refine Classical.byContradiction fun hc => ?_
        have : (g : Int) * (2 ^ 53 + 1) ≤ g * d := Int.mul_le_mul_of_nonneg_left (by omega) (by omega)
        omega
      have hl : -2 ^ 53 ≤ d := by
        refine Classical.byContradiction fun hc => ?_
        have : (g : Int) * d ≤ g * (-2 ^ 53 - 1) := Int.mul_le_mul_of_nonneg_left (by omega) (by omega)
        omega
      omega
    · generalize (g : Int) * d = y at *
      omega
  obtain ⟨x, hx, hb⟩ := key
  have := rI_best n x hx
  omega

theorem E_of_le {n p : Nat} (h : 2 ^ 52 * 2 ^ p ≤ n) : p ≤ E (rnd n) := by
  have hv : V (p * 2 ^ 52 + 2 ^ 52) ≤ n := by rw [V_block (by omega) (by omega)]; exact h
  have := le_rnd_of hv
  have := E_mono this
  unfold E at this ⊢
  omega
theorem rI_dvd {n : Int} {p : Nat} (h : 2 ^ 52 * 2 ^ p ≤ n.natAbs) : ((2 ^ p : Nat) : Int) ∣ rI n := dvd_rI (E_of_le h)

theorem rep_int {x : Int} {D : Nat} (h : ((2 ^ D : Nat) : Int) ∣ x) (hn : x.natAbs ≤ 2 ^ 53 * 2 ^ D) : Rep x.natAbs := rep_dvd (dvd_int.2 h) hn
theorem rI_int {x : Int} {D : Nat} (h : ((2 ^ D : Nat) : Int) ∣ x) (hn : x.natAbs ≤ 2 ^ 53 * 2 ^ D) : rI x = x := rI_rep (rep_int h hn)
theorem rI_small {x : Int} (hn : x.natAbs ≤ 2 ^ 53) : rI x = x := rI_int (D := 0) (by simp) (by simpa using hn)

theorem dvd_pow {a b : Nat} (h : a ≤ b) {x : Int} (hx : ((2 ^ b : Nat) : Int) ∣ x) : ((2 ^ a : Nat) : Int) ∣ x :=
  Int.dvd_trans (by rw [← dvd_int, Int.natAbs_natCast]; exact Nat.pow_dvd_pow 2 h) hx

/-- A float of at most 26 bits that are counted from its unit is its own first half. -/
theorem cut_small {X : Int} (h : X.natAbs < 2 ^ 26) :
    rI (134217729 * X) = 134217729 * X ∧ rI (134217729 * X - X) = 134217729 * X - X ∧ rI (134217729 * X - (134217729 * X - X)) = X ∧ rI (X - X) = 0 := by
  refine ⟨rI_small (by omega), ?_, ?_, ?_⟩
  · refine rI_int (D := 27) ⟨X, by omega⟩ (by omega)
  · rw [show 134217729 * X - (134217729 * X - X) = X from by omega]; exact rI_small (by omega)
  · rw [Int.sub_self]; decide

/-- Else: its first half is a multiple of 2^(t + 1), the second one at most 2^t. -/
theorem cut_great {X : Int} {r t : Nat} (hX : X = V r) (h1 : 2 ^ 26 * 2 ^ t ≤ V r) (h2 : V r < 2 ^ 27 * 2 ^ t) :
    ∃ c d h : Int, rI (134217729 * X) = c ∧ rI (c - X) = d ∧ rI (c - d) = h ∧ c - d = h ∧ rI (X - h) = X - h ∧
      ((2 ^ (t + 1) : Nat) : Int) ∣ h ∧ 0 ≤ h ∧ h ≤ 2 ^ 27 * (2 ^ t : Nat) ∧ (X - h).natAbs ≤ 2 ^ t ∧ ((2 ^ E r : Nat) : Int) ∣ X - h ∧ c ≤ 2 ^ 55 * (2 ^ t : Nat) ∧ 0 ≤ c ∧ 0 ≤ d ∧ d ≤ 2 ^ 54 * (2 ^ t : Nat) := by
  have hg := Nat.two_pow_pos t
  have hp1 : 2 ^ (t + 1) = 2 * 2 ^ t := by rw [Nat.pow_succ, Nat.mul_comm]
  have hp2 : 2 ^ (t + 2) = 4 * 2 ^ t := by rw [Nat.pow_succ, hp1]; omega
  -- the step of X, and how far X is from the ends
  have hEt : E r ≤ t := by
    have a : V r < V (t * 2 ^ 52 + 2 ^ 52) := by rw [V_block (by omega) (by omega)]; omega
    have a' := V_lt_iff.1 a
    unfold E; omega
  have hstep : 2 ^ 27 * 2 ^ E r ≥ 2 * 2 ^ t := by
    by_cases h0 : r < 2 ^ 52
    · have hVr : V r = r := V_small (by omega)
      have : E r = 0 := by unfold E; rw [Nat.div_eq_of_lt h0]
      rw [this]
      have : 2 ^ t < 2 ^ 26 := by omega
      omega
    · have hM : 2 ^ 52 ≤ M r := by unfold M; rw [if_neg h0]; omega
      have : 2 ^ 52 * 2 ^ E r ≤ V r := Nat.mul_le_mul_right _ hM
      have : 2 ^ 25 * 2 ^ E r < 2 ^ t := by omega
      have hlt : E r + 25 < t := by
        refine (Nat.pow_lt_pow_iff_right (a := 2) (by omega)).1 ?_
        rw [Nat.pow_add, Nat.mul_comm]; exact this
      have hge : 2 ^ t < 2 ^ (E r + 27) := by
        have hM' := M_lt r
        have : V r < 2 ^ 53 * 2 ^ E r := V_lt_E r
        rw [Nat.pow_add, Nat.mul_comm]; omega
      have : t + 1 ≤ E r + 27 := by
        have := (Nat.pow_lt_pow_iff_right (a := 2) (by omega)).1 hge
        omega
      have := Nat.pow_le_pow_right (show 0 < 2 by omega) this
      rw [Nat.pow_succ, Nat.pow_add] at this
      omega
  have hdX : ((2 ^ E r : Nat) : Int) ∣ X := by rw [hX, ← dvd_int, Int.natAbs_natCast]; exact V_dvd (Nat.le_refl _)
  have hdN : 2 ^ E r ∣ V r := V_dvd (Nat.le_refl _)
  have hup : V r + 2 ^ E r ≤ 2 ^ 27 * 2 ^ t := by
    obtain ⟨j, hj⟩ := Nat.pow_dvd_pow 2 hEt
    obtain ⟨i, hi⟩ := hdN
    rw [hi, hj] at h2 ⊢
    rw [show 2 ^ 27 * (2 ^ E r * j) = 2 ^ E r * (2 ^ 27 * j) from by rw [Nat.mul_left_comm]] at h2 ⊢
    have := Nat.lt_of_mul_lt_mul_left h2
    rw [← Nat.mul_succ]
    exact Nat.mul_le_mul_left _ this
  have hlow : V r = 2 ^ 26 * 2 ^ t ∨ 2 ^ 26 * 2 ^ t + 2 ^ E r ≤ V r := by
    rcases Nat.lt_or_eq_of_le h1 with hlt | heq
    · right
      obtain ⟨j, hj⟩ := Nat.pow_dvd_pow 2 hEt
      obtain ⟨i, hi⟩ := hdN
      rw [hi, hj] at hlt ⊢
      rw [show 2 ^ 26 * (2 ^ E r * j) = 2 ^ E r * (2 ^ 26 * j) from by rw [Nat.mul_left_comm]] at hlt ⊢
      have := Nat.lt_of_mul_lt_mul_left hlt
      rw [← Nat.mul_succ]
      exact Nat.mul_le_mul_left _ this
    · left; exact heq.symm
  -- c
  have c1 := rI_close (n := 134217729 * X) (p := t + 2) (by omega)
  have c2 := rI_dvd (n := 134217729 * X) (p := t + 1) (by omega)
  have c3 : V r = 2 ^ 26 * 2 ^ t → rI (134217729 * X) = 134217729 * X := by
    intro he
    have e26 : 2 ^ (t + 26) = 2 ^ 26 * 2 ^ t := by rw [Nat.pow_add, Nat.mul_comm]
    refine rI_int (D := t + 26) ⟨134217729, ?_⟩ (by omega)
    rw [hX, he, e26]; exact Int.mul_comm ..
  have c4 := rI_nonneg (show 0 ≤ 134217729 * X by omega)
  generalize hc : rI (134217729 * X) = c at c1 c2 c3 c4
  -- d
  have lo : 2 ^ 52 * (2 * 2 ^ t) ≤ (c - X).natAbs := by
    rcases hlow with he | he
    · have := c3 he; omega
    · omega
  have hi : (c - X).natAbs ≤ 2 ^ 53 * (2 * 2 ^ t) := by omega
  have d1 := rI_close (n := c - X) (p := t + 1) (by rw [hp1]; exact hi)
  have d2 := rI_dvd (n := c - X) (p := t + 1) (by rw [hp1]; exact lo)
  have d3 := rI_nonneg (show 0 ≤ c - X by omega)
  have d4 : rI (c - X) ≤ 2 ^ 54 * (2 ^ t : Nat) := by
    have a := rI_mono (show c - X ≤ 2 ^ 54 * (2 ^ t : Nat) by omega)
    rwa [rI_int (x := 2 ^ 54 * ((2 ^ t : Nat) : Int)) (D := t + 1) ⟨2 ^ 53, by rw [hp1]; omega⟩ (by rw [hp1]; omega)] at a
  generalize hd : rI (c - X) = d at d1 d2 d3 d4
  have hcd : ((2 ^ (t + 1) : Nat) : Int) ∣ c - d := Int.dvd_sub c2 d2
  have hh : rI (c - d) = c - d := rI_int hcd (by omega)
  have hhu : c - d ≤ 2 ^ 27 * (2 ^ t : Nat) := by
    obtain ⟨j, hj⟩ := hcd
    rw [hj, hp1]
    have : j ≤ 2 ^ 26 := by
      refine Classical.byContradiction fun hc => ?_
      have : ((2 ^ (t + 1) : Nat) : Int) * (2 ^ 26 + 1) ≤ (2 ^ (t + 1) : Nat) * j := Int.mul_le_mul_of_nonneg_left (by omega) (by omega)
      rw [← hj, hp1] at this
      omega
    have := Int.mul_le_mul_of_nonneg_left this (show (0 : Int) ≤ (2 * 2 ^ t : Nat) by omega)
    omega
  have hl : ((2 ^ E r : Nat) : Int) ∣ X - (c - d) := Int.dvd_sub hdX (dvd_pow (by omega) hcd)
  have hlb : (X - (c - d)).natAbs ≤ 2 ^ t := by omega
  refine ⟨c, d, c - d, rfl, hd, hh, rfl, rI_int hl ?_, hcd, by omega, hhu, hlb, hl, by omega, by omega, by omega, ?_⟩
  · have := Nat.two_pow_pos (E r); omega
  · omega
end TF
/- The statements of layer 1 over words, as the walk asks for them: each way through a statement, with all its tests. -/
namespace TF
open Ieee Go Go.RowKit

def finB (x : Nat) : Bool := decide (mg x < INF)

theorem INF_eq : INF = 9218868437227405312 := by decide
theorem canonW_word {x : Nat} (h : isN x = false) (h0 : mg x ≠ 0) : canonW x = x := by unfold canonW; rw [h]; simp [h0]
theorem canonW_zero {x : Nat} (h0 : mg x = 0) : canonW x = 0 := by
  unfold canonW
  rw [show isN x = false from isN_false.2 (by omega), if_neg Bool.false_ne_true, if_pos h0]
theorem canonW_canonW (x : Nat) : canonW (canonW x) = canonW x := by
  cases hn : isN x
  · by_cases h0 : mg x = 0
    · rw [canonW_zero h0]; decide
    · rw [canonW_word hn h0, canonW_word hn h0]
  · rw [canonW_nan (isN_true.1 hn)]; decide
theorem class_nan {x : Nat} (h : isN x = true) : classW x = 4 := by
  rw [isN_true, INF_eq] at h
  unfold classW
  rw [if_neg (by omega), if_neg (by omega), if_neg (by omega), if_neg (by omega)]
theorem class_canon (x : Nat) : classW (canonW x) = classW x := by
  cases hn : isN x
  · by_cases h0 : mg x = 0
    · rw [canonW_zero h0]; unfold classW; rw [h0]; decide
    · rw [canonW_word hn h0]
  · rw [canonW_nan (isN_true.1 hn), class_nan hn]; decide
theorem class_op {x : Nat} (h : W64 x) : classW (op x) = classW x := by unfold classW; rw [mg_op h]
theorem eqW_self_true {x : Nat} (h : isN x = false) : eqW x x = true := by rw [eqW_self, h]; rfl
theorem eqW_self_false {x : Nat} (h : isN x = true) : eqW x x = false := by rw [eqW_self, h]; rfl
theorem isN_op {x : Nat} (h : W64 x) : isN (op x) = isN x := by unfold isN; rw [mg_op h]

/-- The ways through BitsCanon behind its first test. -/
theorem canon_ways (x : Nat) : (eqW x x = false ∧ sameB (canonW x) 9221120237041090561 = true ∧ classW x = 4) ∨
    (eqW x x = true ∧ ((eqW x 0 = true ∧ sameB (canonW x) 0 = true ∧ classW x = 0) ∨
      (eqW x 0 = false ∧ sameB (canonW x) x = true ∧ ((finB x = false ∧ classW x = 3) ∨ (finB x = true ∧
        ((ltW (op 4503599627370496) x = true ∧ ltW x 4503599627370496 = true ∧ classW x = 1) ∨ (ltW (op 4503599627370496) x = true ∧ ltW x 4503599627370496 = false ∧ classW x = 2) ∨ (ltW (op 4503599627370496) x = false ∧ classW x = 2))))))) := by
  cases hn : isN x
  · refine .inr ⟨eqW_self_true hn, ?_⟩
    rw [eqW_zero, hn]
    have hm := isN_false.1 hn
    rw [INF_eq] at hm
    by_cases h0 : mg x = 0
    · refine .inl ⟨by simp [h0], by rw [canonW_zero h0]; decide, by unfold classW; rw [if_pos h0]⟩
    · refine .inr ⟨by simp [h0], by rw [canonW_word hn h0]; exact sameB_self x, ?_⟩
      by_cases h1 : mg x < INF
      · refine .inr ⟨by simp [finB, h1], ?_⟩
        rw [INF_eq] at h1
        have e1 : ltW (op 4503599627370496) x = decide (-4503599627370496 < rk x) := by
          unfold ltW; rw [hn, show isN (op 4503599627370496) = false from by decide, show rk (op 4503599627370496) = -4503599627370496 from by decide]; rfl
        have e2 : ltW x 4503599627370496 = decide (rk x < 4503599627370496) := by
          unfold ltW; rw [hn, show isN 4503599627370496 = false from by decide, show rk 4503599627370496 = 4503599627370496 from by decide]; rfl
        rw [e1, e2]
        simp only [decide_eq_true_eq, decide_eq_false_iff_not]
        have hr : rk x = if ng x = true then -(mg x : Int) else mg x := rfl
        have hc : classW x = if mg x < 4503599627370496 then 1 else 2 := by
          unfold classW; rw [if_neg h0]
          by_cases hq : mg x < 4503599627370496
          · rw [if_pos hq, if_pos hq]
          · rw [if_neg hq, if_neg hq, if_pos h1]
        rw [hc]
        split <;> split at hr <;> simp only [Int.reduceEq, and_false, false_or, or_false, and_true] <;> omega
      · refine .inl ⟨by simp [finB]; omega, ?_⟩
        unfold classW
        rw [INF_eq] at h1
        rw [if_neg (by omega), if_neg (by omega), if_neg (by omega), if_pos (by omega)]
  · exact .inl ⟨eqW_self_false hn, by rw [canonW_nan (isN_true.1 hn)]; decide, class_nan hn⟩

/-- x - x == 0. -/
theorem fin_ways {x : Nat} (h : W64 x) : (finB x = true ∧ floatBits .sub .f64 x x = some 0) ∨ (finB x = false ∧ floatBits .sub .f64 x x = none) := by
  have h' : x < 2 ^ 64 := h
  by_cases h1 : mg x < INF
  · refine .inl ⟨by simp [finB, h1], ?_⟩
    show double.sub x x = _
    rw [sub_word h1 h' h1, Int.sub_self]
    cases ng x <;> decide
  · refine .inr ⟨by simp [finB]; omega, ?_⟩
    show double.sub x x = none
    rw [sub_eq h']
    by_cases h2 : mg x = INF
    · exact add_inf_opp h2 (by rw [mg_op h']; exact h2) (by rw [ng_op h']; simp)
    · exact add_nan_left (by omega)
theorem eqW_nan {n : Nat} (h : INF < mg n) (y : Nat) : eqW n y = false := by unfold eqW; rw [isN_true.2 h]; rfl

theorem place_rk {a : Nat} (h : W64 a) : (placeW a : Int) = 9223372036854775808 + (if ng a = true then -1 - (mg a : Int) else mg a) := by
  have h' : a < 2 ^ 64 := h
  unfold placeW mg
  by_cases e : ng a = true
  · rw [if_pos e]; rw [ng_iff h'] at e; rw [if_pos (by omega)]; omega
  · rw [if_neg e]; rw [Bool.not_eq_true, ng_false_iff h'] at e; rw [if_neg (by omega)]; omega
theorem placeW_inj {a b : Nat} (ha : W64 a) (hb : W64 b) (h : placeW a = placeW b) : a = b := by
  have ha' : a < 2 ^ 64 := ha
  have hb' : b < 2 ^ 64 := hb
  unfold placeW at h
  split at h <;> split at h <;> omega
theorem order_tri {a b : Nat} (ha : W64 a) (hb : W64 b) : (orderW a b = -1 ∧ orderW b a = 1 ∧ sameB a b = false ∧ sameB b a = false ∧ placeW a < placeW b) ∨ (a = b ∧ orderW a b = 0 ∧ orderW b a = 0 ∧ sameB a b = true) ∨ (orderW a b = 1 ∧ orderW b a = -1 ∧ sameB a b = false ∧ sameB b a = false ∧ placeW b < placeW a) := by
  unfold orderW cmpN
  rcases Nat.lt_trichotomy (placeW a) (placeW b) with h | h | h
  · refine .inl ⟨if_pos h, ?_, sameB_false.2 ?_, sameB_false.2 ?_, h⟩
    · rw [if_neg (by omega), if_pos h]
    · intro e; subst e; omega
    · intro e; subst e; omega
  · obtain rfl := placeW_inj ha hb h
    exact .inr (.inl ⟨rfl, by simp, by simp, sameB_self _⟩)
  · refine .inr (.inr ⟨?_, if_pos h, sameB_false.2 ?_, sameB_false.2 ?_, h⟩)
    · rw [if_neg (by omega), if_pos h]
    · intro e; subst e; omega
    · intro e; subst e; omega
theorem order_self (a : Nat) : orderW a a = 0 := by unfold orderW cmpN; simp
theorem order_bd (a b : Nat) : -1 ≤ orderW a b ∧ orderW a b ≤ 1 := by unfold orderW cmpN; split; omega; split <;> omega
theorem order_le {a b : Nat} : orderW a b ≤ 0 ↔ placeW a ≤ placeW b := by
  unfold orderW cmpN
  by_cases h : placeW a < placeW b
  · rw [if_pos h]; omega
  · rw [if_neg h]
    by_cases h' : placeW b < placeW a
    · rw [if_pos h']; omega
    · rw [if_neg h']; omega
theorem order_trans (a b c : Nat) (h : orderW a b ≤ 0) : 0 < orderW b c ∨ (orderW b c ≤ 0 ∧ orderW a c ≤ 0) := by
  by_cases h1 : orderW b c ≤ 0
  · refine .inr ⟨h1, ?_⟩
    rw [order_le] at *; omega
  · exact .inl (by omega)
theorem order_end {a b : Nat} (ha : W64 a) (hb : W64 b) : (eqW a a = false) ∨ (eqW a a = true ∧ eqW b b = false) ∨ (eqW a a = true ∧ eqW b b = true ∧ eqW a 0 = true ∧ eqW b 0 = true) ∨
    (eqW a a = true ∧ eqW b b = true ∧ ((eqW a 0 = false ∧ ltW a b = decide (placeW a < placeW b) ∧ ltW b a = decide (placeW b < placeW a)) ∨ (eqW a 0 = true ∧ eqW b 0 = false ∧ ltW a b = decide (placeW a < placeW b) ∧ ltW b a = decide (placeW b < placeW a)))) := by
  rw [eqW_self, eqW_self, eqW_zero, eqW_zero]
  unfold ltW
  have pa := place_rk ha
  have pb := place_rk hb
  have ra : rk a = if ng a = true then -(mg a : Int) else mg a := rfl
  have rb : rk b = if ng b = true then -(mg b : Int) else mg b := rfl
  cases hna : isN a <;> cases hnb : isN b <;> simp
  by_cases h0 : mg a = 0
  · by_cases h1 : mg b = 0
    · simp [h0, h1]
    · right; simp [h0, h1]
      cases ea : ng a <;> cases eb : ng b <;> simp [ea, eb] at pa pb ra rb <;> omega
  · right; left; simp [h0]
    cases ea : ng a <;> cases eb : ng b <;> simp [ea, eb] at pa pb ra rb <;> omega

theorem le_of_place {a b : Nat} (ha : W64 a) (hb : W64 b) (hna : isN a = false) (hnb : isN b = false) (h : placeW a ≤ placeW b) : leW a b = true := by
  unfold leW
  rw [hna, hnb]
  have pa := place_rk ha
  have pb := place_rk hb
  have ra : rk a = if ng a = true then -(mg a : Int) else mg a := rfl
  have rb : rk b = if ng b = true then -(mg b : Int) else mg b := rfl
  simp
  cases ea : ng a <;> cases eb : ng b <;> simp [ea, eb] at pa pb ra rb <;> omega
theorem maxmin_ways {a b : Nat} (ha : W64 a) (hb : W64 b) : (eqW a a = false ∧ maxW a b = 9221120237041090561 ∧ maxW b a = 9221120237041090561 ∧ minW a b = 9221120237041090561 ∧ minW b a = 9221120237041090561) ∨
    (eqW a a = true ∧ eqW b b = false ∧ maxW a b = 9221120237041090561 ∧ maxW b a = 9221120237041090561 ∧ minW a b = 9221120237041090561 ∧ minW b a = 9221120237041090561) ∨
    (eqW a a = true ∧ eqW b b = true ∧ ((sameB b a = false ∧ maxW a b = b ∧ maxW b a = b ∧ minW a b = a ∧ minW b a = a ∧ (ltW a b || eqW b a) = true ∧ orderW a b ≤ 0) ∨ (maxW a b = a ∧ maxW b a = a ∧ minW a b = b ∧ minW b a = b ∧ (ltW b a || eqW a b) = true ∧ orderW b a ≤ 0))) := by
  rw [eqW_self, eqW_self]
  cases hna : isN a <;> cases hnb : isN b
  · refine .inr (.inr ⟨rfl, rfl, ?_⟩)
    unfold maxW minW
    simp only [hna, hnb, Bool.or_self, Bool.false_eq_true, if_false]
    rcases order_tri ha hb with ⟨h1, h2, h3, h4, h5⟩ | ⟨rfl, h1, h2, h3⟩ | ⟨h1, h2, h3, h4, h5⟩
    · left; rw [h1, h2]
      exact ⟨h4, rfl, rfl, rfl, rfl, by rw [eq_comm', ← le_or]; exact le_of_place ha hb hna hnb (by omega), by omega⟩
    · right; rw [h1]
      exact ⟨rfl, rfl, rfl, rfl, by rw [eq_comm', ← le_or]; exact le_of_place ha ha hna hna (by omega), by omega⟩
    · right; rw [h1, h2]
      exact ⟨rfl, rfl, rfl, rfl, by rw [eq_comm', ← le_or]; exact le_of_place hb ha hnb hna (by omega), by omega⟩
  · refine .inr (.inl ⟨rfl, rfl, ?_⟩); unfold maxW minW; rw [hna, hnb]; exact ⟨rfl, rfl, rfl, rfl⟩
  · refine .inl ⟨rfl, ?_⟩; unfold maxW minW; rw [hna, hnb]; exact ⟨rfl, rfl, rfl, rfl⟩
  · refine .inl ⟨rfl, ?_⟩; unfold maxW minW; rw [hna, hnb]; exact ⟨rfl, rfl, rfl, rfl⟩

theorem order_end_self (a : Nat) : (eqW a a = false) ∨ (eqW a a = true ∧ eqW a 0 = true) ∨ (eqW a a = true ∧ eqW a 0 = false ∧ ltW a a = false) := by
  have h : ltW a a = false := by unfold ltW; simp
  cases h1 : eqW a a
  · exact .inl rfl
  · cases h2 : eqW a 0
    · exact .inr (.inr ⟨rfl, rfl, h⟩)
    · exact .inr (.inl ⟨rfl, rfl⟩)
end TF
/- Products with powers of two, steps between neighbours, quarters of a step. -/
namespace TF
open Ieee

theorem rnd2_Q (n : Nat) : rnd2 (Q * n) = rnd n := by
  refine (near_rnd2 (Q * n)).unique Q_pos ?_
  exact (near_rnd n).ratio (by omega) Q_pos (by rw [Nat.mul_one, Nat.mul_comm])
theorem Q_split (a b : Nat) (h : a + b = T) : Q = 2 ^ a * 2 ^ b := by
  unfold Q; rw [← h, Nat.pow_add]
theorem V_pow {D : Nat} {c : Nat} (h : c = D * 2 ^ 52 + 2 ^ 52) : V c = 2 ^ 52 * 2 ^ D := by rw [h]; exact V_block (by omega) (by omega)

theorem V_pow_up {c D e : Nat} (h : c = D * 2 ^ 52 + 2 ^ 52) (hD : D + 52 = T + e) : V c = 2 ^ e * Q := by
  rw [V_pow h]; unfold Q; rw [← Nat.pow_add, ← Nat.pow_add]; congr 1; omega
theorem V_pow_down {c D e : Nat} (h : c = D * 2 ^ 52 + 2 ^ 52) (hD : D + 52 + e = T) : 2 ^ e * V c = Q := by
  rw [V_pow h]; unfold Q; rw [← Nat.pow_add, ← Nat.pow_add]; congr 1; omega
/-- 2, 0.5, 0.25, 1 as words. -/
theorem V_two : V 4611686018427387904 = 2 * Q := by
  have := V_pow_up (c := 4611686018427387904) (D := 1023) (e := 1) (by omega) rfl
  rw [show (2 : Nat) ^ 1 = 2 from rfl] at this; exact this
theorem V_half : 2 * V 4602678819172646912 = Q := by
  have := V_pow_down (c := 4602678819172646912) (D := 1021) (e := 1) (by omega) rfl
  rw [show (2 : Nat) ^ 1 = 2 from rfl] at this; exact this
theorem V_quarter : 4 * V 4598175219545276416 = Q := by
  have := V_pow_down (c := 4598175219545276416) (D := 1020) (e := 2) (by omega) rfl
  rw [show (2 : Nat) ^ 2 = 4 from rfl] at this; exact this
theorem V_one : V 4607182418800017408 = Q := by
  have := V_pow_up (c := 4607182418800017408) (D := 1022) (e := 0) (by omega) rfl
  simpa using this

/-- Twice a magnitude. -/
theorem rnd2_two (r : Nat) : rnd2 (V 4611686018427387904 * V r) = rnd (2 * V r) := by
  rw [V_two, show 2 * Q * V r = Q * (2 * V r) from by rw [Nat.mul_comm 2 Q, Nat.mul_assoc]]; exact rnd2_Q _
theorem near_zero {n q : Nat} (h : 2 * n ≤ q) : Near n q 0 where
  lo s hs := by omega
  loe s hs := by omega
  hi := by rw [V_zero, show V (0 + 1) = 1 from by decide]; omega
  hie _ := rfl
theorem rnd2_half' {v : Nat} (hv : 2 * v = Q) (k : Nat) : rnd2 (2 ^ k * v) = if k = 0 then 0 else rnd (2 ^ (k - 1)) := by
  by_cases h : k = 0
  · rw [if_pos h]; subst h
    exact (near_rnd2 _).unique Q_pos (near_zero (by omega))
  · rw [if_neg h]
    obtain ⟨j, rfl⟩ : ∃ j, k = j + 1 := ⟨k - 1, by omega⟩
    rw [show j + 1 - 1 = j from rfl, ← rnd2_Q, ← hv, Nat.pow_succ]
    congr 1
    rw [Nat.mul_assoc, Nat.mul_comm (2 * v)]
theorem rnd2_quarter' {v : Nat} (hv : 4 * v = Q) (k : Nat) : rnd2 (2 ^ k * v) = if k < 2 then 0 else rnd (2 ^ (k - 2)) := by
  by_cases h : k < 2
  · rw [if_pos h]
    refine (near_rnd2 _).unique Q_pos (near_zero ?_)
    rcases (show k = 0 ∨ k = 1 by omega) with rfl | rfl <;> omega
  · rw [if_neg h]
    obtain ⟨j, rfl⟩ : ∃ j, k = j + 2 := ⟨k - 2, by omega⟩
    rw [show j + 2 - 2 = j from rfl, ← rnd2_Q, ← hv, Nat.pow_add]
    congr 1
    rw [Nat.mul_assoc, Nat.mul_comm (4 * v)]
/-- Half, and a quarter, of a power of two: the power below it; of the least ones nothing. -/
theorem rnd2_half (k : Nat) : rnd2 (2 ^ k * V 4602678819172646912) = if k = 0 then 0 else rnd (2 ^ (k - 1)) := rnd2_half' V_half k
theorem rnd2_quarter (k : Nat) : rnd2 (2 ^ k * V 4598175219545276416) = if k < 2 then 0 else rnd (2 ^ (k - 2)) := rnd2_quarter' V_quarter k
/-- Between two neighbours one of them is nearest. -/
theorem rnd_between {n r : Nat} (h1 : V r ≤ n) (h2 : n ≤ V (r + 1)) : rnd n = r ∨ rnd n = r + 1 := by
  have := le_rnd_of h1
  have := rnd_le_of h2
  omega
theorem rnd_pow (k : Nat) : V (rnd (2 ^ k)) = 2 ^ k := by
  have := (rep_bits 1 k (by omega)).eq; simpa using this
/-- A quarter of a step more is nothing. -/
theorem rnd_quarter_step {r : Nat} (h : 2 ≤ E r) : rnd (V r + 2 ^ (E r - 2)) = r := by
  refine (near_rnd _).unique (by omega) ?_
  have h1 := V_succ r
  have hp := Nat.two_pow_pos (E r - 2)
  have h2 : 2 ^ E r = 4 * 2 ^ (E r - 2) := by
    rw [show E r = (E r - 2) + 2 from by omega, Nat.pow_add, show E r - 2 + 2 - 2 = E r - 2 from rfl]; omega
  exact ⟨fun s hs => by subst hs; have := V_lt_succ s; omega, fun s hs _ => by subst hs; have := V_lt_succ s; omega, by omega, fun _ => by omega⟩
/-- Twice a normal magnitude. -/
theorem V_double {r : Nat} (h : 2 ^ 52 ≤ r) : 2 * V r = V (r + 2 ^ 52) := by
  unfold V M E
  rw [if_neg (by omega), if_neg (by omega)]
  have e1 : (r + 2 ^ 52) / 2 ^ 52 = r / 2 ^ 52 + 1 := by omega
  have e2 : (r + 2 ^ 52) % 2 ^ 52 = r % 2 ^ 52 := by omega
  have e3 : r / 2 ^ 52 + 1 - 1 = r / 2 ^ 52 - 1 + 1 := by omega
  rw [e1, e2, e3]
  generalize r / 2 ^ 52 - 1 = k
  generalize 2 ^ 52 + r % 2 ^ 52 = m
  rw [Nat.pow_succ, Nat.mul_comm (2 ^ k) 2, Nat.mul_left_comm]
end TF
/- The statements BitsUlp and BitsNeighbours over words. -/
namespace TF
open Ieee Go Go.RowKit

theorem wd_false (r : Nat) : wd false r = r := rfl
theorem rk_pos {r : Nat} (h : r < 2 ^ 63) : rk r = r := rk_small h
theorem rw_pos {z : Bool} {n r : Nat} (h0 : 0 < n) (h : rnd n = r) (hr : r < INF) : rw' z (n : Int) = r := by
  unfold rw'
  rw [if_neg (by omega), Int.natAbs_natCast, h, Nat.min_eq_left (by omega), decide_eq_false (by omega)]; rfl
theorem rw_posI {z : Bool} {n r : Nat} (h0 : 0 < n) (h : rnd n = r) (hr : r ≤ INF) : rw' z (n : Int) = r := by
  unfold rw'
  rw [if_neg (by omega), Int.natAbs_natCast, h, Nat.min_eq_left (by omega), decide_eq_false (by omega)]; rfl
theorem ulpW_op {x : Nat} (h : W64 x) : ulpW (op x) = ulpW x := by unfold ulpW; rw [mg_op h, isN_op h]
theorem ulpW_fin {x : Nat} (h : mg x + 1 < INF) : ulpW x = rnd (2 ^ E (mg x)) := by
  have hI := INF_eq
  unfold ulpW
  rw [isN_false.2 (by omega), if_neg Bool.false_ne_true, if_neg (by omega), (sub_step h).1]; rfl
theorem ltW_zero {x : Nat} (hn : isN x = false) : ltW x 0 = (ng x && decide (mg x ≠ 0)) := by
  unfold ltW; rw [hn, isN_zero, show rk 0 = 0 from by decide]
  unfold rk
  by_cases h0 : mg x = 0
  · rw [h0]; cases ng x <;> rfl
  · cases ng x <;> simp [h0] <;> omega
theorem zero_ltW {x : Nat} (hn : isN x = false) : ltW 0 x = (!ng x && decide (mg x ≠ 0)) := by
  unfold ltW; rw [hn, isN_zero, show rk 0 = 0 from by decide]
  unfold rk
  by_cases h0 : mg x = 0
  · rw [h0]; cases ng x <;> rfl
  · cases ng x <;> simp [h0] <;> omega
theorem iv_of_pos {m r : Nat} (hm : mg m = r) (h : ng m = false ∨ r = 0) : iv m = V r := by
  unfold iv
  rw [hm]
  rcases h with h | h
  · rw [h]; simp
  · subst h; rw [V_zero]; split <;> rfl
theorem rk_of_pos {m r : Nat} (hm : mg m = r) (h : ng m = false ∨ r = 0) : rk m = r := by
  unfold rk
  rw [hm]
  rcases h with h | h
  · rw [h]; simp
  · subst h; split <;> rfl
theorem mul_word {a b : Nat} (ha : mg a < INF) (hb : mg b < INF) : floatBits .mul .f64 a b = some (wd (ng a ^^ ng b) (min (rnd2 (V (mg a) * V (mg b))) INF)) := mul_fin ha hb
theorem add_word' {a b : Nat} (ha : mg a < INF) (hb : mg b < INF) : floatBits .add .f64 a b = some (rw' (ng a && ng b) (iv a + iv b)) := add_word ha hb
theorem sub_word' {a b : Nat} (ha : mg a < INF) (hb' : b < 2 ^ 64) (hb : mg b < INF) : floatBits .sub .f64 a b = some (rw' (ng a && !ng b) (iv a - iv b)) := sub_word ha hb' hb
theorem finB_true {x : Nat} : finB x = true ↔ mg x < INF := by simp [finB]
theorem finB_false {x : Nat} : finB x = false ↔ INF ≤ mg x := by simp [finB]

/-- A magnitude m of rung r, its step u, and a quarter of it. -/
theorem ulp_end' {c : Nat} (hc : mg c < INF) (hcn : ng c = false) (hcq : ∀ k, rnd2 (2 ^ k * V (mg c)) = if k < 2 then 0 else rnd (2 ^ (k - 2))) {m r : Nat} (hm64 : W64 m) (hm : mg m = r) (hs : ng m = false ∨ r = 0) (hr : r + 1 < INF) :
    ∃ s q, ltW 0 (rnd (2 ^ E r)) = true ∧ floatBits .add .f64 m (rnd (2 ^ E r)) = some s ∧ eqW s m = false ∧ eqW (upW m) s = true ∧
      floatBits .mul .f64 (rnd (2 ^ E r)) c = some q ∧ floatBits .add .f64 m q = some r ∧ eqW r m = true := by
  have hI := INF_lt
  have hI' := INF_eq
  obtain ⟨_, u2, u3, u4⟩ := sub_step hr
  generalize hu : rnd (2 ^ E r) = u at *
  have hp := Nat.two_pow_pos (E r)
  have mu : mg u = u := mg_small (by omega)
  have nu : ng u = false := ng_small (by omega)
  have im := iv_of_pos hm hs
  have iu : iv u = V u := iv_small (by omega)
  have rm := rk_of_pos hm hs
  have hn : isN m = false := isN_false.2 (by omega)
  have eqr : ∀ a : Nat, a < INF → eqW a m = decide (a = r) := by
    intro a ha
    unfold eqW
    rw [hn, show isN a = false from isN_false.2 (by rw [mg_small (by omega)]; omega), rk_small (by omega), rm]
    simp; omega
  have hs1 : floatBits .add .f64 m u = some (r + 1) := by
    rw [add_word' (by omega) (by omega), im, iu, u2]
    congr 1
    have := V_succ r
    rw [show ((V r : Nat) : Int) + ((2 ^ E r : Nat) : Int) = ((V (r + 1) : Nat) : Int) from by omega]
    exact rw_pos (by omega) (rnd_V _) (by omega)
  have hup : upW m = r + 1 := by
    have h64 : m < 2 ^ 64 := hm64
    unfold upW
    rw [hn, if_neg Bool.false_ne_true]
    rcases hs with hs | hs
    · rw [ng_false_iff h64] at hs
      have : m = r := by rw [← hm]; exact (mg_small hs).symm
      subst this
      rw [if_neg (by omega), hm]
      split
      · omega
      · rw [if_neg (by omega)]
    · subst hs
      rw [if_neg (by intro e; subst e; revert hm; decide), if_pos hm]
  have hq := hcq (E r)
  have hmq : floatBits .mul .f64 u c = some (if E r < 2 then 0 else rnd (2 ^ (E r - 2))) := by
    rw [mul_word (by omega) hc, mu, u2, hq, nu, hcn]
    congr 1
    split
    · rfl
    · rename_i h2
      have : rnd (2 ^ (E r - 2)) ≤ u := by rw [← hu]; exact rnd_mono (Nat.pow_le_pow_right (by omega) (by omega))
      rw [Nat.min_eq_left (by omega)]; rfl
  refine ⟨r + 1, _, ?_, hs1, ?_, ?_, hmq, ?_, ?_⟩
  · rw [zero_ltW (isN_false.2 (by omega)), nu, mu]; simp; omega
  · rw [eqr _ (by omega)]; simp
  · rw [hup]; exact eqW_self_true (isN_false.2 (by rw [mg_small (by omega)]; omega))
  · by_cases h2 : E r < 2
    · rw [if_pos h2, add_word' (by omega) (by decide), im, show iv 0 = 0 from by decide, show ng 0 = false from rfl, Int.add_zero, Bool.and_false]
      congr 1
      by_cases h0 : r = 0
      · subst h0; decide
      · exact rw_pos (by have := V_lt (show 0 < r by omega); rw [V_zero] at this; omega) (rnd_V _) (by omega)
    · rw [if_neg h2]
      have hle : rnd (2 ^ (E r - 2)) ≤ u := by rw [← hu]; exact rnd_mono (Nat.pow_le_pow_right (by omega) (by omega))
      rw [add_word' (by omega) (by rw [mg_small (by omega)]; omega), im, iv_small (by omega), rnd_pow]
      congr 1
      have hp2 := Nat.two_pow_pos (E r - 2)
      rw [show ((V r : Nat) : Int) + ((2 ^ (E r - 2) : Nat) : Int) = ((V r + 2 ^ (E r - 2) : Nat) : Int) from by omega]
      exact rw_pos (by omega) (rnd_quarter_step (by omega)) (by omega)
  · rw [eqr _ (by omega)]; simp

theorem ulp_end {m r : Nat} (hm64 : W64 m) (hm : mg m = r) (hs : ng m = false ∨ r = 0) (hr : r + 1 < INF) :
    ∃ s q, ltW 0 (rnd (2 ^ E r)) = true ∧ floatBits .add .f64 m (rnd (2 ^ E r)) = some s ∧ eqW s m = false ∧ eqW (upW m) s = true ∧
      floatBits .mul .f64 (rnd (2 ^ E r)) 4598175219545276416 = some q ∧ floatBits .add .f64 m q = some r ∧ eqW r m = true :=
  ulp_end' (c := 4598175219545276416) (by decide) (by decide) (fun k => by rw [show mg 4598175219545276416 = 4598175219545276416 from by decide]; exact rnd2_quarter k) hm64 hm hs hr

theorem ng_up {x : Nat} (h : W64 x) (hn : isN x = false) (h1 : mg x + 1 = INF) : (ng x = false ∧ finB (upW x) = false) ∨ (ng x = true ∧ finB (upW x) = true ∧ finB (downW x) = false) := by
  have h64 : x < 2 ^ 64 := h
  have hI := INF_eq
  have hI' := INF_lt
  have up_pos : ∀ y : Nat, y < 2 ^ 63 → mg y + 1 = INF → upW y = INF := by
    intro y hy h1
    rw [mg_small hy] at h1
    unfold upW
    rw [show isN y = false from isN_false.2 (by rw [mg_small hy]; omega), if_neg Bool.false_ne_true, if_neg (by omega), mg_small hy, if_neg (by omega), if_neg (by omega)]; omega
  cases hg : ng x
  · rw [ng_false_iff h64] at hg
    exact .inl ⟨rfl, by rw [up_pos x hg h1]; decide⟩
  · refine .inr ⟨rfl, ?_, ?_⟩
    · rw [ng_iff h64] at hg
      have hm : mg x = x - 2 ^ 63 := by unfold mg; omega
      unfold upW
      rw [hn, if_neg Bool.false_ne_true, if_neg (by omega), if_neg (by omega), if_pos (by omega), finB_true]
      unfold mg; omega
    · unfold downW
      rw [hn, if_neg Bool.false_ne_true]
      have : op x = mg x := by
        rw [word_split (op_lt h64), mg_op h64, ng_op h64, hg]; rfl
      rw [this, up_pos (mg x) (mg_lt x) (by rw [mg_small (mg_lt x)]; exact h1)]
      decide

theorem double_ways {x : Nat} (hr : mg x + 1 < INF) : ((classW x == 2) = false) ∨ (classW x = 2 ∧ ∃ d, W64 d ∧ floatBits .mul .f64 4611686018427387904 x = some d ∧
    (finB d = false ∨ (finB d = true ∧ (finB (ulpW d) = false ∨ (finB (ulpW d) = true ∧ ∃ e, floatBits .mul .f64 4611686018427387904 (ulpW x) = some e ∧ sameB (ulpW d) e = true))))) := by
  have hI := INF_eq
  have hI' := INF_lt
  by_cases hc : classW x = 2
  · refine .inr ⟨hc, ?_⟩
    have hm : 2 ^ 52 ≤ mg x := by
      unfold classW at hc
      refine Classical.byContradiction fun hlt => ?_
      by_cases h0 : mg x = 0
      · rw [if_pos h0] at hc; omega
      · rw [if_neg h0, if_pos (by omega)] at hc; omega
    have hd : floatBits .mul .f64 4611686018427387904 x = some (wd (ng x) (min (mg x + 2 ^ 52) INF)) := by
      rw [mul_word (by decide) (by omega), show mg 4611686018427387904 = 4611686018427387904 from by decide, rnd2_two, V_double hm, rnd_V, show ng 4611686018427387904 = false from by decide, Bool.false_xor]
    have hmn : min (mg x + 2 ^ 52) INF < 2 ^ 63 := by omega
    refine ⟨_, wd_lt hmn, hd, ?_⟩
    by_cases hf : mg x + 2 ^ 52 < INF
    · refine .inr ⟨by rw [finB_true, mg_wd hmn]; omega, ?_⟩
      have hmin : min (mg x + 2 ^ 52) INF = mg x + 2 ^ 52 := by omega
      rw [hmin]
      by_cases hf2 : mg x + 2 ^ 52 + 1 < INF
      · have hE : E (mg x + 2 ^ 52) = E (mg x) + 1 := by unfold E; omega
        have hu : ulpW (wd (ng x) (mg x + 2 ^ 52)) = rnd (2 ^ (E (mg x) + 1)) := by
          rw [ulpW_fin (by rw [mg_wd (by omega)]; exact hf2), mg_wd (by omega), hE]
        have hlt : rnd (2 ^ (E (mg x) + 1)) < INF := by
          have := sub_step hf2; rw [hE] at this; omega
        refine .inr ⟨by rw [hu, finB_true, mg_small (by omega)]; exact hlt, rnd (2 ^ (E (mg x) + 1)), ?_, by rw [hu]; exact sameB_self _⟩
        have us := sub_step hr
        rw [ulpW_fin hr, mul_word (by decide) (by rw [mg_small (by omega)]; omega), mg_small (r := rnd (2 ^ E (mg x))) (by omega), show mg 4611686018427387904 = 4611686018427387904 from by decide, rnd2_two, us.2.1, show 2 * 2 ^ E (mg x) = 2 ^ (E (mg x) + 1) from by rw [Nat.pow_succ]; omega, Nat.min_eq_left (by omega), show ng 4611686018427387904 = false from by decide, ng_small (r := rnd (2 ^ E (mg x))) (by omega)]
        rfl
      · refine .inl ?_
        have : ulpW (wd (ng x) (mg x + 2 ^ 52)) = 9218868437227405312 := by
          unfold ulpW
          rw [show isN (wd (ng x) (mg x + 2 ^ 52)) = false from isN_false.2 (by rw [mg_wd (by omega)]; omega), if_neg Bool.false_ne_true, mg_wd (by omega), if_pos (by omega)]
        rw [this]; decide
    · exact .inl (by rw [finB_false, mg_wd hmn]; omega)
  · exact .inl (by simp [hc])

theorem ulp_ways {x : Nat} (h : W64 x) : (eqW x x = false ∧ sameB (ulpW x) 9221120237041090561 = true) ∨ (eqW x x = true ∧
    ((finB (ulpW x) = false ∧ (finB x = false ∨ (finB x = true ∧ (finB (upW x) = false ∨ (finB (upW x) = true ∧ finB (downW x) = false))))) ∨
     (finB (ulpW x) = true ∧ mg x + 1 < INF ∧ ∃ m s q, ((ltW x 0 = true ∧ op x = m) ∨ (ltW x 0 = false ∧ m = x)) ∧ W64 m ∧ ltW 0 (ulpW x) = true ∧ floatBits .add .f64 m (ulpW x) = some s ∧ eqW s m = false ∧ eqW (upW m) s = true ∧
      floatBits .mul .f64 (ulpW x) 4598175219545276416 = some q ∧ floatBits .add .f64 m q = some (mg x) ∧ eqW (mg x) m = true))) := by
  have hI := INF_eq
  have h64 : x < 2 ^ 64 := h
  cases hn : isN x
  · refine .inr ⟨eqW_self_true hn, ?_⟩
    have hm := isN_false.1 hn
    by_cases h1 : mg x + 1 < INF
    · refine .inr ⟨?_, h1, ?_⟩
      · rw [ulpW_fin h1, finB_true, mg_small (by have := INF_lt; have := (sub_step h1).2.2.1; omega)]; exact (sub_step h1).2.2.1
      · rw [ulpW_fin h1, ltW_zero hn]
        cases hg : ng x
        · obtain ⟨s, q, e⟩ := ulp_end h rfl (.inl hg) h1
          exact ⟨x, s, q, .inr ⟨rfl, rfl⟩, h, e⟩
        · by_cases h0 : mg x = 0
          · obtain ⟨s, q, e⟩ := ulp_end h rfl (.inr h0) h1
            exact ⟨x, s, q, .inr ⟨by simp [h0], rfl⟩, h, e⟩
          · obtain ⟨s, q, e⟩ := ulp_end (m := op x) h.op (r := mg x) (mg_op h64) (.inl (by rw [ng_op h64, hg]; rfl)) h1
            exact ⟨op x, s, q, .inl ⟨by simp [h0], rfl⟩, h.op, e⟩
    · refine .inl ⟨?_, ?_⟩
      · have : ulpW x = 9218868437227405312 := by unfold ulpW; rw [hn, if_neg Bool.false_ne_true, if_pos (by omega)]
        rw [this]; decide
      · by_cases h2 : mg x = INF
        · exact .inl (by rw [finB_false]; omega)
        · refine .inr ⟨by rw [finB_true]; omega, ?_⟩
          rcases ng_up h hn (by omega) with ⟨_, e⟩ | ⟨_, e⟩
          · exact .inl e
          · exact .inr e
  · exact .inl ⟨eqW_self_false hn, by unfold ulpW; rw [hn, if_pos rfl]; decide⟩
end TF
