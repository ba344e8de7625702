/- What a sum stands for; what put is given. -/
import Derived.Test.YtneedadoafcfcaaAccW
import Derived.Test.YtneedadoafcfcaaLevI
import Derived.Laws.BitsAllLaws
namespace TF
open Ieee Go Go.RowKit

theorem or_add {h0 l1 : Int} {sh : Nat} (a0 : 0 ≤ h0) (a1 : h0 < 18446744073709551616) (b0 : 0 ≤ l1) (b1 : l1 < 2 ^ sh) (hs : sh < 64) (hd : h0 % 2 ^ sh = 0) : bits .or .u64 h0 l1 = h0 + l1 := by
  have hp : (2 : Int) ^ sh ≤ 9223372036854775808 := by
    have h := Nat.pow_le_pow_right (n := 2) (by omega) (show sh ≤ 63 by omega)
    have h2 : (2 : Int) ^ sh = ((2 ^ sh : Nat) : Int) := by simp
    rw [h2]; omega
  obtain ⟨a, rfl⟩ := Int.eq_ofNat_of_zero_le a0
  obtain ⟨b, rfl⟩ := Int.eq_ofNat_of_zero_le b0
  have h2 : (2 : Int) ^ sh = ((2 ^ sh : Nat) : Int) := by simp
  rw [h2] at b1 hd
  have e := u64_or_nat a b (by omega) (by omega)
  rw [e]
  have hd' : a % 2 ^ sh = 0 := by
    have : ((a % 2 ^ sh : Nat) : Int) = 0 := by rw [Int.natCast_emod]; exact hd
    omega
  have ha : a = 2 ^ sh * (a / 2 ^ sh) := by
    have := Nat.div_add_mod a (2 ^ sh); omega
  have := Nat.two_pow_add_eq_or_of_lt (i := sh) (b := b) (by omega) (a / 2 ^ sh)
  rw [← ha] at this
  omega
/-- 2^1102: units of a float in units of a sum. -/
def TA : Nat := 1102
def KA : Int := 2 ^ TA
theorem KA_pos : 0 < KA := Int.pow_pos (by decide)

structure AccG where
  X : Int
  cnt : Int
  nz : Int
  up : Bool
  dn : Bool
  nn : Bool
/-- so great one number may be. -/
def DB : Nat := 4224
def BIG : Int := ((2 ^ DB : Nat) : Int)
theorem BIG_pos : 0 ≤ BIG := Int.natCast_nonneg _
structure GOk (g : AccG) : Prop where
  c0 : 0 ≤ g.cnt
  c9 : g.cnt ≤ 1048576
  z0 : 0 ≤ g.nz
  z9 : g.nz ≤ g.cnt
  lo : -(g.cnt * BIG) ≤ g.X
  hi : g.X ≤ g.cnt * BIG
/-- the sum at block b stands for g. -/
def AccIs (w : World) (b : Nat) (g : AccG) : Prop := ∃ d, Is d g.X ∧ AccAt w b ⟨d, g.cnt, g.nz, g.up, g.dn, g.nn⟩
theorem AccIs.cong {w w' : World} {b : Nat} {g : AccG} (h : AccIs w b g) (e : w'.heap[b]? = w.heap[b]?) : AccIs w' b g := by
  obtain ⟨d, h1, h2⟩ := h; exact ⟨d, h1, h2.cong e⟩
theorem AccIs.lt {w : World} {b : Nat} {g : AccG} (h : AccIs w b g) : b < w.heap.size := by
  obtain ⟨d, h1, h2⟩ := h; exact h2.lt
theorem AccIs.drewN {w : World} {b : Nat} {g : AccG} (h : AccIs w b g) (n : Nat) : AccIs (w.drewN n) b g := by
  obtain ⟨d, h1, h2⟩ := h; exact ⟨d, h1, h2.drewN n⟩
def newG : AccG := ⟨0, 0, 0, false, false, false⟩
theorem new_ok : GOk newG := ⟨by decide, by decide, by decide, by decide, by unfold newG; simp, by unfold newG; simp⟩
/-- one float more. -/
def addG (g : AccG) (x : Nat) : AccG :=
  if isN x then { g with cnt := g.cnt + 1, nn := true }
  else if mg x = INF then (if ng x then { g with cnt := g.cnt + 1, dn := true } else { g with cnt := g.cnt + 1, up := true })
  else { g with cnt := g.cnt + 1, X := g.X + iv x * KA, nz := g.nz + if mg x = 0 ∧ ng x = true then 1 else 0 }
/-- one product more. -/
def mulG (g : AccG) (x y : Nat) : AccG :=
  if mg x < INF ∧ mg y < INF then { g with cnt := g.cnt + 1, X := g.X + iv x * iv y * 268435456, nz := g.nz + if (mg x = 0 ∨ mg y = 0) ∧ (ng x ^^ ng y) = true then 1 else 0 }
  else if isN x ∨ isN y ∨ mg x = 0 ∨ mg y = 0 then { g with cnt := g.cnt + 1, nn := true }
  else if ng x ^^ ng y then { g with cnt := g.cnt + 1, dn := true } else { g with cnt := g.cnt + 1, up := true }
def mergeG (g h : AccG) : AccG := ⟨g.X + h.X, g.cnt + h.cnt, g.nz + h.nz, g.up || h.up, g.dn || h.dn, g.nn || h.nn⟩
/-- the sum, rounded once. -/
def valG (g : AccG) : Nat :=
  if g.cnt = 0 then 0 else if g.nn || (g.up && g.dn) then 9221120237041090561 else if g.up then 9218868437227405312 else if g.dn then 18442240474082181120
  else if g.nz = g.cnt then 9223372036854775808
  else if g.X < 0 ∧ min (rung g.X.natAbs (-2176)) INF ≠ 0 then wd true (min (rung g.X.natAbs (-2176)) INF) else min (rung g.X.natAbs (-2176)) INF

theorem V_fin {r : Nat} (h : r < INF) : V r < 2 ^ 53 * 2 ^ 2045 := by rw [← V_INF]; exact V_lt h
theorem iv_fin {x : Nat} (h : mg x < INF) : (iv x).natAbs ≤ 2 ^ 53 * 2 ^ 2045 := by
  rw [iv_natAbs]; exact Nat.le_of_lt (V_fin h)
theorem KA_nat : KA = ((2 ^ TA : Nat) : Int) := by unfold KA; simp
theorem one_big {x : Nat} (h : mg x < INF) : -BIG ≤ iv x * KA ∧ iv x * KA ≤ BIG := by
  obtain ⟨c, hc, hv⟩ : ∃ c : Nat, c = 2045 ∧ (iv x).natAbs ≤ 2 ^ 53 * 2 ^ c := ⟨2045, rfl, iv_fin h⟩
  have hT : TA = 1102 := rfl
  have hD : DB = 4224 := rfl
  have hB : BIG = ((2 ^ DB : Nat) : Int) := rfl
  have e : 2 ^ 53 * 2 ^ c * 2 ^ TA ≤ 2 ^ DB := by
    rw [← Nat.pow_add, ← Nat.pow_add]
    exact Nat.pow_le_pow_right (by omega) (by omega)
  have hn : (iv x * KA).natAbs = (iv x).natAbs * 2 ^ TA := by rw [KA_nat, Int.natAbs_mul, Int.natAbs_natCast]
  have h2 : (iv x * KA).natAbs ≤ 2 ^ DB := by
    rw [hn]
    exact Nat.le_trans (Nat.mul_le_mul_right _ hv) e
  rw [hB]
  clear hn e hv hB
  generalize iv x * KA = z at *
  generalize 2 ^ DB = q at *
  omega
theorem two_big {x y : Nat} (h : mg x < INF) (h' : mg y < INF) : -BIG ≤ iv x * iv y * 268435456 ∧ iv x * iv y * 268435456 ≤ BIG := by
  obtain ⟨c, hc, hv⟩ : ∃ c : Nat, c = 2045 ∧ (iv x).natAbs ≤ 2 ^ 53 * 2 ^ c := ⟨2045, rfl, iv_fin h⟩
  have hv' : (iv y).natAbs ≤ 2 ^ 53 * 2 ^ c := by rw [hc]; exact iv_fin h'
  have hD : DB = 4224 := rfl
  have hB : BIG = ((2 ^ DB : Nat) : Int) := rfl
  have hm := Nat.mul_le_mul hv hv'
  have hn : (iv x * iv y).natAbs = (iv x).natAbs * (iv y).natAbs := Int.natAbs_mul _ _
  have e : 2 ^ 53 * 2 ^ c * (2 ^ 53 * 2 ^ c) * 2 ^ 28 ≤ 2 ^ DB := by
    rw [← Nat.pow_add, ← Nat.pow_add, ← Nat.pow_add]
    exact Nat.pow_le_pow_right (by omega) (by omega)
  have h2 : (iv x * iv y).natAbs * 268435456 ≤ 2 ^ DB := by
    rw [hn]
    exact Nat.le_trans (Nat.mul_le_mul_right _ hm) e
  rw [hB]
  clear hn hm e hv hv' hB
  generalize iv x * iv y = z at *
  generalize 2 ^ DB = q at *
  omega
theorem add_ok {g : AccG} (h : GOk g) (hc : g.cnt < 1048576) (x : Nat) : GOk (addG g x) := by
  obtain ⟨c0, c9, z0, z9, lo, hi⟩ := h
  have hB : 0 ≤ BIG := BIG_pos
  have e : (g.cnt + 1) * BIG = g.cnt * BIG + BIG := by rw [Int.add_mul, Int.one_mul]
  unfold addG
  split
  · exact ⟨by dsimp only; omega, by dsimp only; omega, z0, by dsimp only; omega, by dsimp only; omega, by dsimp only; omega⟩
  · rename_i hn
    split
    · split <;> exact ⟨by dsimp only; omega, by dsimp only; omega, z0, by dsimp only; omega, by dsimp only; omega, by dsimp only; omega⟩
    · rename_i hi'
      have hm := isN_false.1 (by simpa using hn)
      obtain ⟨b1, b2⟩ := one_big (x := x) (by omega)
      generalize iv x * KA = y at *
      refine ⟨by dsimp only; omega, by dsimp only; omega, ?_, ?_, by dsimp only; omega, by dsimp only; omega⟩
      · dsimp only; split <;> omega
      · dsimp only; split <;> omega
theorem mul_ok {g : AccG} (h : GOk g) (hc : g.cnt < 1048576) (x y : Nat) : GOk (mulG g x y) := by
  obtain ⟨c0, c9, z0, z9, lo, hi⟩ := h
  have hB : 0 ≤ BIG := BIG_pos
  have e : (g.cnt + 1) * BIG = g.cnt * BIG + BIG := by rw [Int.add_mul, Int.one_mul]
  unfold mulG
  split
  · rename_i hf
    obtain ⟨b1, b2⟩ := two_big hf.1 hf.2
    generalize iv x * iv y * 268435456 = y at *
    refine ⟨by dsimp only; omega, by dsimp only; omega, ?_, ?_, by dsimp only; omega, by dsimp only; omega⟩
    · dsimp only; split <;> omega
    · dsimp only; split <;> omega
  · split
    · exact ⟨by dsimp only; omega, by dsimp only; omega, z0, by dsimp only; omega, by dsimp only; omega, by dsimp only; omega⟩
    · split <;> exact ⟨by dsimp only; omega, by dsimp only; omega, z0, by dsimp only; omega, by dsimp only; omega, by dsimp only; omega⟩
theorem merge_ok {g h : AccG} (h1 : GOk g) (h2 : GOk h) (hc : g.cnt + h.cnt ≤ 1048576) : GOk (mergeG g h) := by
  obtain ⟨c0, c9, z0, z9, lo, hi⟩ := h1
  obtain ⟨c0', c9', z0', z9', lo', hi'⟩ := h2
  have e : (g.cnt + h.cnt) * BIG = g.cnt * BIG + h.cnt * BIG := Int.add_mul _ _ _
  unfold mergeG
  exact ⟨by dsimp only; omega, hc, by dsimp only; omega, by dsimp only; omega, by dsimp only; omega, by dsimp only; omega⟩
end TF
