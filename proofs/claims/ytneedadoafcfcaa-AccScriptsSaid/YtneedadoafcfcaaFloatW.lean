/- The walk's words for floats of 64 bits: comparisons by ranks, opposites, bits, operations that are valid or not. -/
import Derived.Test.YtneedadoafcfcaaFloatC
import Derived.WalkKit
import Derived.WalkLawsBesides
import Derived.Laws.BitsAllLaws
import Derived.Lib.Hide
namespace TF
open Ieee Go

theorem f64 : FloatKind.f64.format = double := rfl

/-- Is the word a NaN? -/
def isN (x : Nat) : Bool := decide (INF < mg x)
theorem isN_true {x : Nat} : isN x = true ↔ INF < mg x := by simp [isN]
theorem isN_false {x : Nat} : isN x = false ↔ mg x ≤ INF := by simp [isN]

theorem ord_nan_left {a : Nat} (b : Nat) (h : INF < mg a) : FloatKind.f64.format.order a b = none := by rw [f64]; exact order_nan_left h
theorem ord_nan_right (a : Nat) {b : Nat} (h : INF < mg b) : FloatKind.f64.format.order a b = none := by rw [f64]; exact order_nan_right h
theorem ord_rk {a b : Nat} (ha : mg a ≤ INF) (hb : mg b ≤ INF) : FloatKind.f64.format.order a b = some (compare (rk a) (rk b)) := by rw [f64]; exact order_rk ha hb
theorem ord_lt {a b : Nat} (ha : mg a ≤ INF) (hb : mg b ≤ INF) (h : rk a < rk b) : FloatKind.f64.format.order a b = some .lt := by rw [ord_rk ha hb, Int.compare_eq_lt.2 h]
theorem ord_gt {a b : Nat} (ha : mg a ≤ INF) (hb : mg b ≤ INF) (h : rk b < rk a) : FloatKind.f64.format.order a b = some .gt := by rw [ord_rk ha hb, Int.compare_eq_gt.2 h]
theorem ord_eq {a b : Nat} (ha : mg a ≤ INF) (hb : mg b ≤ INF) (h : rk a = rk b) : FloatKind.f64.format.order a b = some .eq := by rw [ord_rk ha hb, Int.compare_eq_eq.2 h]

/-- a == b, a < b of words. -/
def eqW (a b : Nat) : Bool := !isN a && !isN b && decide (rk a = rk b)
def ltW (a b : Nat) : Bool := !isN a && !isN b && decide (rk a < rk b)
def leW (a b : Nat) : Bool := !isN a && !isN b && decide (rk a ≤ rk b)

theorem ord_cases (a b : Nat) : (FloatKind.f64.format.order a b = none ∧ (isN a = true ∨ isN b = true)) ∨
    (isN a = false ∧ isN b = false ∧ ((FloatKind.f64.format.order a b = some .lt ∧ rk a < rk b) ∨ (FloatKind.f64.format.order a b = some .eq ∧ rk a = rk b) ∨ (FloatKind.f64.format.order a b = some .gt ∧ rk b < rk a))) := by
  by_cases ha : INF < mg a
  · exact .inl ⟨ord_nan_left b ha, .inl (isN_true.2 ha)⟩
  · by_cases hb : INF < mg b
    · exact .inl ⟨ord_nan_right a hb, .inr (isN_true.2 hb)⟩
    · refine .inr ⟨isN_false.2 (by omega), isN_false.2 (by omega), ?_⟩
      rcases Int.lt_trichotomy (rk a) (rk b) with h | h | h
      · exact .inl ⟨ord_lt (by omega) (by omega) h, h⟩
      · exact .inr (.inl ⟨ord_eq (by omega) (by omega) h, h⟩)
      · exact .inr (.inr ⟨ord_gt (by omega) (by omega) h, h⟩)

theorem cmp_eq (a b : Nat) : (FloatKind.f64.format.order a b == some .eq) = eqW a b := by
  unfold eqW
  rcases ord_cases a b with ⟨h, h1 | h1⟩ | ⟨h1, h2, ⟨h, h3⟩ | ⟨h, h3⟩ | ⟨h, h3⟩⟩
  · rw [h, h1]; rfl
  · rw [h, h1]; simp
  · rw [h, h1, h2, decide_eq_false (by omega)]; rfl
  · rw [h, h1, h2, decide_eq_true h3]; rfl
  · rw [h, h1, h2, decide_eq_false (by omega)]; rfl
theorem cmp_ne (a b : Nat) : (FloatKind.f64.format.order a b != some .eq) = !eqW a b := by rw [← cmp_eq]; rfl
theorem cmp_lt (a b : Nat) : (FloatKind.f64.format.order a b == some .lt) = ltW a b := by
  unfold ltW
  rcases ord_cases a b with ⟨h, h1 | h1⟩ | ⟨h1, h2, ⟨h, h3⟩ | ⟨h, h3⟩ | ⟨h, h3⟩⟩
  · rw [h, h1]; rfl
  · rw [h, h1]; simp
  · rw [h, h1, h2, decide_eq_true h3]; rfl
  · rw [h, h1, h2, decide_eq_false (by omega)]; rfl
  · rw [h, h1, h2, decide_eq_false (by omega)]; rfl
theorem cmp_gt (a b : Nat) : (FloatKind.f64.format.order a b == some .gt) = ltW b a := by
  unfold ltW
  rcases ord_cases a b with ⟨h, h1 | h1⟩ | ⟨h1, h2, ⟨h, h3⟩ | ⟨h, h3⟩ | ⟨h, h3⟩⟩
  · rw [h, h1]; simp
  · rw [h, h1]; rfl
  · rw [h, h1, h2, decide_eq_false (by omega)]; rfl
  · rw [h, h1, h2, decide_eq_false (by omega)]; rfl
  · rw [h, h1, h2, decide_eq_true h3]; rfl
theorem le_or (a b : Nat) : leW a b = (ltW a b || eqW a b) := by
  unfold leW ltW eqW
  cases isN a <;> cases isN b <;> simp
  by_cases h : rk a ≤ rk b
  · rw [decide_eq_true h]
    by_cases h' : rk a < rk b
    · rw [decide_eq_true h']; rfl
    · rw [decide_eq_true (show rk a = rk b by omega)]; simp
  · rw [decide_eq_false h, decide_eq_false (by omega), decide_eq_false (by omega)]; rfl
theorem eq_comm' (a b : Nat) : eqW a b = eqW b a := by
  unfold eqW
  rw [Bool.and_comm (!isN a), show decide (rk a = rk b) = decide (rk b = rk a) from by congr 1; exact propext ⟨Eq.symm, Eq.symm⟩]
theorem cmp_le (a b : Nat) : (FloatKind.f64.format.order a b == some .lt || FloatKind.f64.format.order a b == some .eq) = leW a b := by rw [cmp_lt, cmp_eq, le_or]
theorem cmp_ge (a b : Nat) : (FloatKind.f64.format.order a b == some .gt || FloatKind.f64.format.order a b == some .eq) = leW b a := by rw [cmp_gt, cmp_eq, le_or, eq_comm']

theorem negFloat_eq {b : Nat} (h : b < 2 ^ 64) : Op.negFloat .f64 b = op b := by
  unfold Op.negFloat op
  rw [f64, show double.exponentBits + double.fractionBits = 63 from rfl]
  by_cases e : ng b = true
  · rw [if_pos e]
    rw [ng_iff h] at e
    have h1 : b = 2 ^ 63 + (b - 2 ^ 63) := by omega
    generalize b - 2 ^ 63 = c at *
    subst h1
    rw [show 2 ^ 63 + c = 2 ^ 63 ||| c from by
      have := Nat.two_pow_add_eq_or_of_lt (i := 63) (b := c) (by omega) 1
      simpa using this]
    apply Nat.eq_of_testBit_eq
    intro i
    rw [Nat.testBit_xor, Nat.testBit_or, Nat.testBit_two_pow]
    by_cases hi : 63 = i
    · subst hi
      have : c.testBit 63 = false := Nat.testBit_lt_two_pow (by omega)
      simp [this]
    · simp [hi]
  · rw [if_neg e]
    rw [Bool.not_eq_true, ng_false_iff h] at e
    rw [Nat.add_comm]
    rw [show 2 ^ 63 + b = 2 ^ 63 ||| b from by
      have := Nat.two_pow_add_eq_or_of_lt (i := 63) (b := b) (by omega) 1
      simpa using this]
    apply Nat.eq_of_testBit_eq
    intro i
    rw [Nat.testBit_xor, Nat.testBit_or, Nat.testBit_two_pow]
    by_cases hi : 63 = i
    · subst hi
      have : b.testBit 63 = false := Nat.testBit_lt_two_pow (by omega)
      simp [this]
    · simp [hi]

theorem andNot_eq {b : Nat} (h : b < 2 ^ 64) : bits .andNot .u64 (b : Int) 9223372036854775808 = ((mg b : Nat) : Int) := by
  have e := u64_andNot_nat b 9223372036854775808 h (by omega)
  rw [show ((9223372036854775808 : Nat) : Int) = 9223372036854775808 from rfl] at e
  rw [e]
  have : b &&& (18446744073709551615 - 9223372036854775808) = b % 2 ^ 63 := Nat.and_two_pow_sub_one_eq_mod b 63
  rw [this]; rfl

theorem run_neg (P : Program) {b : Nat} (h : b < 2 ^ 64) (w : World) : (Op.unary .neg (.float .f64 b)).run P w = .ok (.float .f64 (op b)) w := by
  rw [← negFloat_eq h]; rfl

/-- An operation that is valid. -/
theorem run_valid {P : Program} {o : BinOp} (t : TypeId) {x y r : Nat} (h : floatBits o .f64 x y = some r) (w : World) : (binOp o t (.float .f64 x) (.float .f64 y)).run P w = .ok (.float .f64 r) w :=
  run_float_arith w o t .f64 x y r h

/-- One that isn't: a NaN, whose bits the tape tells. -/
theorem run_invalid {P : Program} {o : BinOp} (t : TypeId) {x y : Nat} (ho : o = .add ∨ o = .sub ∨ o = .mul ∨ o = .quo) (h : floatBits o .f64 x y = none) (w : World) :
    ∃ n, n < 2 ^ 64 ∧ INF < mg n ∧ (binOp o t (.float .f64 x) (.float .f64 y)).run P w = .ok (.float .f64 n) w.drew := by
  have key : ∀ v : Nat, (v % 2) * 2 ^ 63 + 0x7ff0000000000000 + 1 + (v / 2) % (2 ^ 52 - 1) < 2 ^ 64 ∧ INF < mg ((v % 2) * 2 ^ 63 + 0x7ff0000000000000 + 1 + (v / 2) % (2 ^ 52 - 1)) := by
    intro v
    unfold mg INF
    have h2 : (v / 2) % (2 ^ 52 - 1) < 2 ^ 52 - 1 := Nat.mod_lt _ (by omega)
    generalize (v / 2) % (2 ^ 52 - 1) = m at *
    rcases (show v % 2 = 0 ∨ v % 2 = 1 by omega) with h1 | h1 <;> rw [h1] <;> omega
  obtain ⟨k1, k2⟩ := key (w.tape w.drawn (.nanBits .f64 x y))
  refine ⟨_, k1, k2, ?_⟩
  unfold floatBits at h
  rcases ho with rfl | rfl | rfl | rfl
  all_goals
    simp only at h
    simp only [binOp, Op.floatArith, h]
    rfl
end TF
