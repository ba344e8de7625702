/- The functions of package bits as plain functions of words. -/
import Derived.Test.YtneedadoafcfcaaFloatW
namespace TF
open Ieee Go Go.RowKit

theorem rk_zero {x : Nat} : rk x = rk 0 ↔ mg x = 0 := by
  have : rk 0 = 0 := by decide
  rw [this]; unfold rk; split <;> omega
theorem isN_zero : isN 0 = false := by decide
theorem eqW_self (x : Nat) : eqW x x = !isN x := by unfold eqW; simp
theorem eqW_zero (x : Nat) : eqW x 0 = (!isN x && decide (mg x = 0)) := by
  unfold eqW; rw [isN_zero]; simp [rk_zero]

def canonW (x : Nat) : Nat := if isN x then 9221120237041090561 else if mg x = 0 then 0 else x
def upW (x : Nat) : Nat := if isN x then 9221120237041090561 else if x = 9218868437227405312 then x else if mg x = 0 then 1 else if 9223372036854775808 ≤ x then x - 1 else x + 1
def downW (x : Nat) : Nat := if isN x then 9221120237041090561 else op (upW (op x))
def classW (x : Nat) : Int := if mg x = 0 then 0 else if mg x < 4503599627370496 then 1 else if mg x < 9218868437227405312 then 2 else if mg x = 9218868437227405312 then 3 else 4
def placeW (x : Nat) : Nat := if 9223372036854775808 ≤ x then 18446744073709551615 - x else x + 9223372036854775808
def cmpN (a b : Nat) : Int := if a < b then -1 else if b < a then 1 else 0
def orderW (a b : Nat) : Int := cmpN (placeW a) (placeW b)
def maxW (a b : Nat) : Nat := if isN a || isN b then 9221120237041090561 else if orderW a b < 0 then b else a
def minW (a b : Nat) : Nat := if isN a || isN b then 9221120237041090561 else if 0 < orderW a b then b else a
theorem isN_eq (x : Nat) : isN x = !eqW x x := by rw [eqW_self, Bool.not_not]

theorem not_bits {b : Nat} (h : b < 2 ^ 64) : bits .xor .u64 18446744073709551615 (b : Int) = ((18446744073709551615 - b : Nat) : Int) := by
  have e := u64_xor_nat 18446744073709551615 b (by omega) h
  rw [show ((18446744073709551615 : Nat) : Int) = 18446744073709551615 from rfl] at e
  rw [e]
  congr 1
  have : ∀ c : Nat, c < 2 ^ 64 → (2 ^ 64 - 1) ^^^ c = 2 ^ 64 - 1 - c := by
    intro c hc
    have := (BitVec.allOnes_xor (x := BitVec.ofNat 64 c))
    have h2 := congrArg BitVec.toNat this
    rw [BitVec.toNat_xor, BitVec.toNat_not, BitVec.toNat_ofNat, Nat.mod_eq_of_lt hc] at h2
    simpa using h2
  simpa using this b h
theorem or_bits {b : Nat} (h : b < 2 ^ 63) : bits .or .u64 (b : Int) 9223372036854775808 = ((b + 9223372036854775808 : Nat) : Int) := by
  have e := u64_or_nat b 9223372036854775808 (by omega) (by omega)
  rw [show ((9223372036854775808 : Nat) : Int) = 9223372036854775808 from rfl] at e
  rw [e]
  congr 1
  have := Nat.two_pow_add_eq_or_of_lt (i := 63) (b := b) (by omega) 1
  rw [Nat.or_comm, Nat.add_comm]
  simpa using this.symm

theorem ret_f64 {a b : Nat} (h : a = b) : Ending.returned (.float .f64 a) = .returned (.float .f64 b) := by rw [h]
theorem ret_int' {k : IntKind} {a b : Int} (h : a = b) : Ending.returned (.int k a) = .returned (.int k b) := by rw [h]

theorem class_cases (b : Nat) (n : Int) (hn : n = mg b) : (classW b = 0 ∧ n = 0) ∨ (classW b = 1 ∧ 0 < n ∧ n < 4503599627370496) ∨ (classW b = 2 ∧ 4503599627370496 ≤ n ∧ n < 9218868437227405312) ∨
    (classW b = 3 ∧ n = 9218868437227405312) ∨ (classW b = 4 ∧ 9218868437227405312 < n) := by
  unfold classW
  by_cases h1 : mg b = 0
  · rw [if_pos h1]; exact .inl ⟨rfl, by omega⟩
  · rw [if_neg h1]
    by_cases h2 : mg b < 4503599627370496
    · rw [if_pos h2]; exact .inr (.inl ⟨rfl, by omega, by omega⟩)
    · rw [if_neg h2]
      by_cases h3 : mg b < 9218868437227405312
      · rw [if_pos h3]; exact .inr (.inr (.inl ⟨rfl, by omega, by omega⟩))
      · rw [if_neg h3]
        by_cases h4 : mg b = 9218868437227405312
        · rw [if_pos h4]; exact .inr (.inr (.inr (.inl ⟨rfl, by omega⟩)))
        · rw [if_neg h4]; exact .inr (.inr (.inr (.inr ⟨rfl, by omega⟩)))

theorem up_cases {b : Nat} (hb : b < 2 ^ 64) (n : Int) (hn : n = b) : (upW b = 9221120237041090561 ∧ eqW b b = false) ∨ (eqW b b = true ∧
    ((upW b = b ∧ n = 9218868437227405312) ∨ ((n == 9218868437227405312) = false ∧
      ((upW b = 1 ∧ eqW b 0 = true) ∨ (eqW b 0 = false ∧
        ((9223372036854775808 ≤ n ∧ n ≤ 18446744073709551615 ∧ upW b = n.toNat - 1) ∨ (n < 9223372036854775808 ∧ 0 ≤ n ∧ upW b = (n + 1).toNat))))))) := by
  have hz := eqW_zero b
  rw [← Bool.not_not (isN b), ← eqW_self] at hz
  unfold upW
  rw [isN_eq]
  by_cases h : eqW b b = false
  · rw [h]; exact .inl ⟨rfl, rfl⟩
  · rw [Bool.not_eq_false] at h
    rw [h, Bool.not_true, Bool.not_false, Bool.true_and] at hz
    rw [h, Bool.not_true, if_neg Bool.false_ne_true]
    refine .inr ⟨rfl, ?_⟩
    by_cases h2 : b = 9218868437227405312
    · rw [if_pos h2]; exact .inl ⟨rfl, by omega⟩
    · rw [if_neg h2]
      refine .inr ⟨by simp; omega, ?_⟩
      by_cases h0 : mg b = 0
      · rw [if_pos h0, hz, decide_eq_true h0]; exact .inl ⟨rfl, rfl⟩
      · rw [if_neg h0, hz, decide_eq_false h0]
        refine .inr ⟨rfl, ?_⟩
        by_cases h3 : 9223372036854775808 ≤ b
        · rw [if_pos h3]; exact .inl ⟨by omega, by omega, by omega⟩
        · rw [if_neg h3]; exact .inr ⟨by omega, by omega, by omega⟩
theorem place_cases {b : Nat} (hb : b < 2 ^ 64) (n : Int) (hn : n = b) : (9223372036854775808 ≤ n ∧ bits .xor .u64 IntKind.u64.max n = (placeW b : Nat)) ∨ (n < 9223372036854775808 ∧ bits .or .u64 n 9223372036854775808 = (placeW b : Nat)) := by
  unfold placeW
  subst hn
  by_cases h3 : 9223372036854775808 ≤ b
  · rw [if_pos h3]; exact .inl ⟨by omega, not_bits hb⟩
  · rw [if_neg h3]; exact .inr ⟨by omega, or_bits (by omega)⟩
theorem placeW_lt {b : Nat} (hb : b < 2 ^ 64) : placeW b < 2 ^ 64 := by unfold placeW; split <;> omega

theorem canonW_lt {x : Nat} (h : x < 2 ^ 64) : canonW x < 2 ^ 64 := by unfold canonW; split; omega; split <;> omega
theorem upW_lt {x : Nat} (h : x < 2 ^ 64) : upW x < 2 ^ 64 := by
  unfold upW
  split
  · omega
  · split
    · omega
    · split
      · omega
      · split <;> omega
theorem downW_lt {x : Nat} (h : x < 2 ^ 64) : downW x < 2 ^ 64 := by
  unfold downW
  split
  · omega
  · exact op_lt (upW_lt (op_lt h))
theorem mg_word_lt (x : Nat) : mg x < 2 ^ 64 := by have := mg_lt x; omega

theorem max_cases (a b : Nat) : (maxW a b = 9221120237041090561 ∧ (eqW a a = false ∨ (eqW a a = true ∧ eqW b b = false))) ∨ (eqW a a = true ∧ eqW b b = true ∧ ((maxW a b = b ∧ orderW a b < 0) ∨ (maxW a b = a ∧ ¬ orderW a b < 0))) := by
  unfold maxW
  rw [eqW_self, eqW_self]
  cases isN a <;> cases isN b <;> simp
  by_cases h : orderW a b < 0
  · exact .inl ⟨fun _ => by omega, h⟩
  · exact .inr ⟨fun _ => by omega, by omega⟩
theorem min_cases (a b : Nat) : (minW a b = 9221120237041090561 ∧ (eqW a a = false ∨ (eqW a a = true ∧ eqW b b = false))) ∨ (eqW a a = true ∧ eqW b b = true ∧ ((minW a b = b ∧ 0 < orderW a b) ∨ (minW a b = a ∧ ¬ 0 < orderW a b))) := by
  unfold minW
  rw [eqW_self, eqW_self]
  cases isN a <;> cases isN b <;> simp
  by_cases h : 0 < orderW a b
  · exact .inl ⟨fun _ => by omega, h⟩
  · exact .inr ⟨fun _ => by omega, by omega⟩

/-- The rank as the code reckons it. -/
theorem rank_cases {b : Nat} (n : Int) (hn : n = b) (m : Int) (hm : m = mg b) (hb : b < 2 ^ 64) : 0 ≤ m ∧ m ≤ 9223372036854775807 ∧ ((9223372036854775808 ≤ n ∧ rk b = -m) ∨ (n < 9223372036854775808 ∧ rk b = m)) := by
  have := mg_lt b
  refine ⟨by omega, by omega, ?_⟩
  unfold rk
  by_cases h : ng b = true
  · rw [if_pos h]; rw [ng_iff hb] at h; exact .inl ⟨by omega, by omega⟩
  · rw [if_neg h]; rw [Bool.not_eq_true, ng_false_iff hb] at h; exact .inr ⟨by omega, by omega⟩

/-- Between, as the document has it. -/
def betweenW (a b : Nat) : Int × Bool := if isN a || isN b then (0, false) else if rk b - rk a < -9223372036854775808 ∨ 9223372036854775807 < rk b - rk a then (0, false) else (rk b - rk a, true)

theorem between_cases (a b : Nat) : (betweenW a b = (0, false) ∧ (eqW a a = false ∨ (eqW a a = true ∧ eqW b b = false))) ∨ (eqW a a = true ∧ eqW b b = true ∧
    ((betweenW a b = (rk b - rk a, true) ∧ -9223372036854775808 ≤ rk b - rk a ∧ rk b - rk a ≤ 9223372036854775807) ∨
     (betweenW a b = (0, false) ∧ ∃ d, wrap64 (rk b - rk a) = d ∧ ((d < 0 ∧ rk a < rk b) ∨ (0 < d ∧ rk b ≤ rk a))))) := by
  unfold betweenW
  rw [eqW_self, eqW_self]
  cases isN a <;> cases isN b
  · refine .inr ⟨rfl, rfl, ?_⟩
    by_cases h : rk b - rk a < -9223372036854775808 ∨ 9223372036854775807 < rk b - rk a
    · rw [if_pos h]
      refine .inr ⟨rfl, _, rfl, ?_⟩
      have ha : -9223372036854775808 < rk a ∧ rk a < 9223372036854775808 := by have := mg_lt a; unfold rk; split <;> omega
      have hb : -9223372036854775808 < rk b ∧ rk b < 9223372036854775808 := by have := mg_lt b; unfold rk; split <;> omega
      unfold wrap64
      omega
    · rw [if_neg h]
      exact .inl ⟨rfl, by omega, by omega⟩
  · exact .inl ⟨rfl, .inr ⟨rfl, rfl⟩⟩
  · exact .inl ⟨rfl, .inl rfl⟩
  · exact .inl ⟨rfl, .inl rfl⟩

def ulpW (x : Nat) : Nat := if isN x then 9221120237041090561 else if 9218868437227405311 ≤ mg x then 9218868437227405312 else (double.sub (mg x + 1) (mg x)).getD 0

theorem mg_small {r : Nat} (h : r < 2 ^ 63) : mg r = r := Nat.mod_eq_of_lt h
theorem ng_small {r : Nat} (h : r < 2 ^ 63) : ng r = false := by rw [ng_false_iff (by omega)]; exact h
theorem isN_mg (x : Nat) : isN (mg x) = isN x := by unfold isN; rw [mg_small (mg_lt x)]
theorem rk_small {r : Nat} (h : r < 2 ^ 63) : rk r = r := by unfold rk; rw [ng_small h, mg_small h]; rfl
theorem canonW_pos {r : Nat} (h : r ≤ INF) : canonW r = r := by
  have := INF_lt
  unfold canonW
  rw [show isN r = false from isN_false.2 (by rw [mg_small (by omega)]; omega), mg_small (by omega)]
  simp; omega
theorem canonW_nan {n : Nat} (h : INF < mg n) : canonW n = 9221120237041090561 := by
  unfold canonW; rw [isN_true.2 h]; rfl
theorem iv_small {r : Nat} (h : r < 2 ^ 63) : iv r = V r := by unfold iv; rw [ng_small h, mg_small h]; rfl
theorem pow_E_le (r : Nat) : 2 ^ E r ≤ V (r + 1) := by rw [V_succ]; omega
/-- The step above a finite magnitude, as the machine subtracts. -/
theorem sub_step {r : Nat} (h : r + 1 < INF) : double.sub (r + 1) r = some (rnd (2 ^ E r)) ∧ V (rnd (2 ^ E r)) = 2 ^ E r ∧ rnd (2 ^ E r) < INF ∧ 0 < rnd (2 ^ E r) := by
  have hI := INF_lt
  have hp := Nat.two_pow_pos (E r)
  have h1 : rnd (2 ^ E r) ≤ r + 1 := rnd_le_of (pow_E_le r)
  have h2 : V (rnd (2 ^ E r)) = 2 ^ E r := (rep_bits 1 (E r) (by omega)).eq |> fun e => by simpa using e
  have h3 : 0 < rnd (2 ^ E r) := by
    rcases Nat.eq_zero_or_pos (rnd (2 ^ E r)) with h0 | h0
    · rw [rnd_eq_zero] at h0; omega
    · exact h0
  refine ⟨?_, h2, by omega, h3⟩
  rw [sub_word (by rw [mg_small (by omega)]; omega) (by omega) (by rw [mg_small (by omega)]; omega), iv_small (by omega), iv_small (by omega), V_succ]
  rw [show ((V r + 2 ^ E r : Nat) : Int) - (V r : Int) = ((2 ^ E r : Nat) : Int) from by omega]
  unfold rw'
  rw [if_neg (by omega), Int.natAbs_natCast, Nat.min_eq_left (by omega)]
  simp [wd]
  exact Int.le_of_lt (Int.pow_pos (by decide))
theorem ulp_cases {x : Nat} : (ulpW x = 9221120237041090561 ∧ ltW 9218868437227405311 (mg x) = false ∧ isN x = true) ∨
    (ulpW x = mg x ∧ ltW 9218868437227405311 (mg x) = true) ∨
    (ltW 9218868437227405311 (mg x) = false ∧ ∃ r, upW (mg x) = mg x + 1 ∧ floatBits .sub .f64 (mg x + 1) (mg x) = some r ∧ ulpW x = r ∧ canonW r = r) := by
  have hI : INF = 9218868437227405312 := by decide
  have hm := mg_lt x
  by_cases hn : isN x = true
  · refine .inl ⟨by unfold ulpW; rw [if_pos hn], ?_, hn⟩
    unfold ltW; rw [isN_mg, hn]; simp
  · rw [Bool.not_eq_true] at hn
    have hn' := isN_false.1 hn
    by_cases h1 : mg x = INF
    · refine .inr (.inl ⟨by unfold ulpW; rw [hn, if_neg Bool.false_ne_true, if_pos (by omega)]; omega, ?_⟩)
      unfold ltW; rw [isN_mg, hn, rk_small hm, rk_small (by omega), show isN 9218868437227405311 = false from by decide]
      simp; omega
    · refine .inr (.inr ⟨?_, ?_⟩)
      · unfold ltW; rw [isN_mg, hn, rk_small hm, rk_small (by omega)]
        simp; omega
      · have hup : upW (mg x) = mg x + 1 := by
          unfold upW
          rw [isN_mg, hn, if_neg Bool.false_ne_true, if_neg (by omega), mg_small hm]
          split
          · omega
          · rw [if_neg (by omega)]
        by_cases h2 : mg x + 1 = INF
        · refine ⟨INF, hup, ?_, ?_, canonW_pos (Nat.le_refl _)⟩
          · show double.sub _ _ = _
            rw [sub_eq (by omega), add_inf_fin (by rw [h2]; decide) (by rw [mg_op (by omega), mg_small hm]; omega), h2]
            decide
          · unfold ulpW; rw [hn, if_neg Bool.false_ne_true, if_pos (by omega)]; omega
        · obtain ⟨s1, s2, s3, s4⟩ := sub_step (show mg x + 1 < INF by omega)
          refine ⟨_, hup, s1, ?_, canonW_pos (by omega)⟩
          unfold ulpW; rw [hn, if_neg Bool.false_ne_true, if_neg (by omega), s1]; rfl

/-- A word of 64 bits (kept from the walk's eyes). -/
def W64 (x : Nat) : Prop := x < 2 ^ 64
theorem W64.op {x : Nat} (h : W64 x) : W64 (TF.op x) := op_lt h
theorem W64.up {x : Nat} (h : W64 x) : W64 (upW x) := upW_lt h
theorem W64.down {x : Nat} (h : W64 x) : W64 (downW x) := downW_lt h
theorem W64.canon {x : Nat} (h : W64 x) : W64 (canonW x) := canonW_lt h
theorem W64.mg (x : Nat) : W64 (mg x) := mg_word_lt x
theorem W64.max {x y : Nat} (h : W64 x) (h' : W64 y) : W64 (maxW x y) := by
  unfold W64 maxW at *
  split
  · omega
  · split <;> assumption
theorem W64.min {x y : Nat} (h : W64 x) (h' : W64 y) : W64 (minW x y) := by
  unfold W64 minW at *
  split
  · omega
  · split <;> assumption
theorem W64.of_wf {x : Nat} (h : (Lit.float .f64 x).wf = true) : W64 x := by simpa [Lit.wf, W64] using h
theorem ulpW_lt (x : Nat) : ulpW x < 2 ^ 64 := by
  rcases ulp_cases (x := x) with ⟨e, _⟩ | ⟨e, _⟩ | ⟨_, r, _, h, e, _⟩
  · rw [e]; omega
  · rw [e]; exact mg_word_lt x
  · rw [e]
    have := Ieee.Format.sub_lt double h
    exact this
theorem W64.ulp (x : Nat) : W64 (ulpW x) := ulpW_lt x
/-- Whether two words are the same. -/
def sameB (a b : Nat) : Bool := a == b
theorem sameB_self (a : Nat) : sameB a a = true := by simp [sameB]
theorem sameB_true {a b : Nat} : sameB a b = true ↔ a = b := by simp [sameB]
theorem sameB_false {a b : Nat} : sameB a b = false ↔ a ≠ b := by simp [sameB]

theorem ret_bool' {a b : Bool} (h : a = b) : Ending.returned (.bool a) = .returned (.bool b) := by rw [h]
theorem cast_beq (a b : Nat) : ((a : Int) == (b : Int)) = sameB a b := by
  unfold sameB
  rw [Bool.eq_iff_iff]; simp; omega
end TF
