/- Words of binary64: what they read as, their order, sums and products as whole numbers of units, rounded once. -/
import Derived.Test.YtneedadoafcfcaaFloatA
namespace TF
open Ieee

/-- The magnitude's rung. -/
def mg (w : Nat) : Nat := w % 2 ^ 63
/-- The sign bit. -/
def ng (w : Nat) : Bool := w / 2 ^ 63 % 2 == 1
/-- The word of a sign and a rung. -/
def wd (s : Bool) (r : Nat) : Nat := if s then 2 ^ 63 + r else r
/-- A finite word's value, in units of 2^-1074. -/
def iv (w : Nat) : Int := if ng w then -(V (mg w) : Int) else V (mg w)
/-- A word's rank. -/
def rk (w : Nat) : Int := if ng w then -(mg w : Int) else mg w
/-- The rung nearest to n units. -/
def rnd (n : Nat) : Nat := rung n (-1074)
/-- The rung nearest to n units of 2^-2148. -/
def rnd2 (n : Nat) : Nat := rung n (-2148)

theorem word_eq (s : Bool) (r : Nat) : double.word s r = wd s r := by
  unfold Format.word wd
  rw [show double.signWeight = 2 ^ 63 from by decide]

theorem near_rnd (n : Nat) : Near n 1 (rnd n) := by
  have := near_rung (mag := n) (-1074)
  simpa [rnd] using this

def T : Nat := 1074
/-- So many units of 2^-2148 are one of 2^-1074. -/
def Q : Nat := 2 ^ T
theorem Q_pos : 0 < Q := Nat.two_pow_pos T
theorem T_int : (T : Int) = 1074 := rfl

theorem near_rnd2 (n : Nat) : Near n Q (rnd2 n) := by
  have := near_rung (mag := n) (-2148)
  rw [show ((-2148 : Int) + 1074).toNat = 0 from rfl, show (-((-2148 : Int) + 1074)).toNat = T from rfl, Nat.pow_zero, Nat.mul_one] at this
  exact this

theorem read_fin {w : Nat} (h : mg w < INF) : double.read w = .number (ng w) (M (mg w)) (-1074 + (E (mg w) : Int)) := by
  unfold Format.read
  have e1 : double.leastPlace = -1074 := by decide
  have e2 : double.binade = 2 ^ 52 := by decide
  have e3 : double.infRung = INF := by decide
  have e4 : double.signWeight = 2 ^ 63 := by decide
  simp only [e1, e2, e3, e4]
  unfold mg ng at *
  by_cases hs : w % 2 ^ 63 < 2 ^ 52
  · rw [if_pos hs]
    have : E (w % 2 ^ 63) = 0 := by unfold E; rw [Nat.div_eq_of_lt hs]
    rw [this]; unfold M; rw [if_pos hs]; rfl
  · rw [if_neg hs, if_pos h]
    unfold M E; rw [if_neg hs]

theorem read_inf {w : Nat} (h : mg w = INF) : double.read w = .infinity (ng w) := by
  unfold Format.read
  have e1 : double.leastPlace = -1074 := by decide
  have e2 : double.binade = 2 ^ 52 := by decide
  have e3 : double.infRung = INF := by decide
  have e4 : double.signWeight = 2 ^ 63 := by decide
  simp only [e1, e2, e3, e4]
  unfold mg ng at *
  rw [if_neg (by rw [h]; decide), if_neg (by omega), if_pos h]

theorem read_nan {w : Nat} (h : INF < mg w) : double.read w = .nan (ng w) (mg w - INF) := by
  unfold Format.read
  have e1 : double.leastPlace = -1074 := by decide
  have e2 : double.binade = 2 ^ 52 := by decide
  have e3 : double.infRung = INF := by decide
  have e4 : double.signWeight = 2 ^ 63 := by decide
  simp only [e1, e2, e3, e4]
  unfold mg ng at *
  rw [if_neg (by unfold INF at h; omega), if_neg (by omega), if_neg (by omega)]

theorem signed_eq (s : Bool) (m k : Nat) : signed s m k = if s then -((m * 2 ^ k : Nat) : Int) else ((m * 2 ^ k : Nat) : Int) := by
  unfold signed; rw [Nat.shiftLeft_eq]

/-- A finite word's value, out of its reading over a lower place. -/
theorem iv_signed {w : Nat} (base : Int) (hb : -1074 ≤ base) (h : base ≤ -1074 + (E (mg w) : Int)) :
    iv w = signed (ng w) (M (mg w)) (-1074 + (E (mg w) : Int) - base).toNat * (2 ^ (base + 1074).toNat : Nat) := by
  have e : V (mg w) = M (mg w) * 2 ^ (-1074 + (E (mg w) : Int) - base).toNat * 2 ^ (base + 1074).toNat := by
    unfold V
    rw [Nat.mul_assoc, ← Nat.pow_add]
    congr 2; omega
  unfold iv
  rw [e, signed_eq]
  cases ng w <;> simp [Int.neg_mul]

theorem order_fin {a b : Nat} (ha : mg a < INF) (hb : mg b < INF) : double.order a b = some (compare (iv a) (iv b)) := by
  unfold Format.order
  rw [read_fin ha, read_fin hb]
  show some (compare _ _) = _
  have h1 := iv_signed (w := a) (min (-1074 + (E (mg a) : Int)) (-1074 + (E (mg b) : Int))) (by omega) (by omega)
  have h2 := iv_signed (w := b) (min (-1074 + (E (mg a) : Int)) (-1074 + (E (mg b) : Int))) (by omega) (by omega)
  rw [h1, h2]
  have hp : (0 : Int) < (2 ^ (min (-1074 + (E (mg a) : Int)) (-1074 + (E (mg b) : Int)) + 1074).toNat : Nat) := by
    have := Nat.two_pow_pos (min (-1074 + (E (mg a) : Int)) (-1074 + (E (mg b) : Int)) + 1074).toNat
    omega
  congr 1
  generalize signed (ng a) (M (mg a)) _ = x
  generalize signed (ng b) (M (mg b)) _ = y
  generalize ((2 ^ (min (-1074 + (E (mg a) : Int)) (-1074 + (E (mg b) : Int)) + 1074).toNat : Nat) : Int) = c at *
  simp only [compare, compareOfLessAndEq]
  have i1 : x * c < y * c ↔ x < y := Int.mul_lt_mul_right hp
  have i2 : x * c = y * c ↔ x = y := by
    constructor
    · intro h; exact Int.eq_of_mul_eq_mul_right (by omega) h
    · intro h; rw [h]
  simp only [i1, i2]

theorem rk_lt_of {a b : Nat} : iv a < iv b ↔ rk a < rk b := by
  unfold iv rk
  have h1 := @V_lt_iff (mg a) (mg b)
  have h2 := @V_lt_iff (mg b) (mg a)
  have h3 := @V_eq_zero (mg a)
  have h4 := @V_eq_zero (mg b)
  cases ng a <;> cases ng b <;> simp <;> omega

theorem rk_eq_of {a b : Nat} : iv a = iv b ↔ rk a = rk b := by
  have h1 := @rk_lt_of a b
  have h2 := @rk_lt_of b a
  omega

/-- The order of all words but NaNs is that of their ranks. -/
theorem order_rk {a b : Nat} (ha : mg a ≤ INF) (hb : mg b ≤ INF) : double.order a b = some (compare (rk a) (rk b)) := by
  by_cases ha' : mg a = INF
  · unfold Format.order
    rw [read_inf ha']
    by_cases hb' : mg b = INF
    · rw [read_inf hb']
      unfold rk; rw [ha', hb']
      cases ng a <;> cases ng b <;> decide
    · rw [read_fin (by omega)]
      show some (if ng a then Ordering.lt else .gt) = _
      unfold rk; rw [ha']
      have : (0 : Int) < INF := by decide
      cases ng a
      · have : compare (INF : Int) (if ng b = true then -(mg b : Int) else (mg b : Int)) = .gt := by
          rw [Int.compare_eq_gt]; split <;> omega
        simpa using this.symm
      · have : compare (-INF : Int) (if ng b = true then -(mg b : Int) else (mg b : Int)) = .lt := by
          rw [Int.compare_eq_lt]; split <;> omega
        simpa using this.symm
  · by_cases hb' : mg b = INF
    · unfold Format.order
      rw [read_inf hb', read_fin (by omega)]
      show some (if ng b then Ordering.gt else .lt) = _
      unfold rk; rw [hb']
      have : (0 : Int) < INF := by decide
      cases ng b
      · have : compare (if ng a = true then -(mg a : Int) else (mg a : Int)) (INF : Int) = .lt := by
          rw [Int.compare_eq_lt]; split <;> omega
        simpa using this.symm
      · have : compare (if ng a = true then -(mg a : Int) else (mg a : Int)) (-INF : Int) = .gt := by
          rw [Int.compare_eq_gt]; split <;> omega
        simpa using this.symm
    · rw [order_fin (by omega) (by omega)]
      congr 1
      simp only [compare, compareOfLessAndEq]
      simp only [rk_lt_of, rk_eq_of]

theorem order_nan_left {a b : Nat} (h : INF < mg a) : double.order a b = none := by
  unfold Format.order; rw [read_nan h]; rfl
theorem order_nan_right {a b : Nat} (h : INF < mg b) : double.order a b = none := by
  unfold Format.order; rw [read_nan h]
  cases double.read a <;> rfl

/-- The sum of two finite words. -/
theorem add_fin {a b : Nat} (ha : mg a < INF) (hb : mg b < INF) :
    double.add a b = some (wd (if iv a + iv b = 0 then ng a && ng b else iv a + iv b < 0) (min (rnd (iv a + iv b).natAbs) INF)) := by
  unfold Format.add
  rw [read_fin ha, read_fin hb]
  show some (double.nearest _ _ _) = _
  rw [nearest_eq, word_eq]
  have h1 := iv_signed (w := a) (min (-1074 + (E (mg a) : Int)) (-1074 + (E (mg b) : Int))) (by omega) (by omega)
  have h2 := iv_signed (w := b) (min (-1074 + (E (mg a) : Int)) (-1074 + (E (mg b) : Int))) (by omega) (by omega)
  rw [h1, h2]
  have hbase : -1074 ≤ min (-1074 + (E (mg a) : Int)) (-1074 + (E (mg b) : Int)) := by omega
  generalize min (-1074 + (E (mg a) : Int)) (-1074 + (E (mg b) : Int)) = base at *
  have hp : (0 : Int) < (2 ^ (base + 1074).toNat : Nat) := by
    have := Nat.two_pow_pos (base + 1074).toNat
    omega
  generalize signed (ng a) (M (mg a)) _ = x
  generalize signed (ng b) (M (mg b)) _ = y
  have hr : rung (x + y).natAbs base = rnd (x * (2 ^ (base + 1074).toNat : Nat) + y * (2 ^ (base + 1074).toNat : Nat)).natAbs := by
    refine Near.unique' (n := (x + y).natAbs * 2 ^ (base + 1074).toNat) (q := 2 ^ (-(base + 1074)).toNat) (n' := (x * (2 ^ (base + 1074).toNat : Nat) + y * (2 ^ (base + 1074).toNat : Nat)).natAbs) (q' := 1) (Nat.two_pow_pos _) (by omega) (near_rung base) (near_rnd _) ?_
    rw [← Int.add_mul, Int.natAbs_mul, Int.natAbs_natCast, show (-(base + 1074)).toNat = 0 from by omega]
  rw [hr, ← Int.add_mul]
  generalize ((2 ^ (base + 1074).toNat : Nat) : Int) = c at *
  have i1 : (x + y) * c = 0 ↔ x + y = 0 := by
    rw [Int.mul_eq_zero]; omega
  have i2 : (x + y) * c < 0 ↔ x + y < 0 := by
    have : (x + y) * c < 0 * c ↔ x + y < 0 := Int.mul_lt_mul_right hp
    rw [Int.zero_mul] at this; exact this
  simp only [i1, i2]

/-- The product of two finite words. -/
theorem mul_fin {a b : Nat} (ha : mg a < INF) (hb : mg b < INF) :
    double.mul a b = some (wd (ng a ^^ ng b) (min (rnd2 (V (mg a) * V (mg b))) INF)) := by
  unfold Format.mul
  rw [read_fin ha, read_fin hb]
  show some (double.nearest _ _ _) = _
  rw [nearest_eq, word_eq]
  have hr : rung (M (mg a) * M (mg b)) (-1074 + (E (mg a) : Int) + (-1074 + (E (mg b) : Int))) = rnd2 (V (mg a) * V (mg b)) := by
    refine Near.unique' (Nat.two_pow_pos _) Q_pos (near_rung _) (near_rnd2 _) ?_
    unfold V
    rw [show M (mg a) * 2 ^ E (mg a) * (M (mg b) * 2 ^ E (mg b)) = M (mg a) * M (mg b) * (2 ^ E (mg a) * 2 ^ E (mg b)) from by grind]
    unfold Q
    generalize M (mg a) * M (mg b) = m
    rw [Nat.mul_assoc, Nat.mul_assoc, ← Nat.pow_add, ← Nat.pow_add, ← Nat.pow_add]
    have := T_int
    congr 2; omega
  rw [hr]
end TF
