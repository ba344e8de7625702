/- Numbers and their opposites leave what was there. -/
import Derived.Test.YtneedadoafcfcaaAccTw
import Derived.Test.YtneedadoafcfcaaBitsL
namespace TF
open Ieee Go Go.RowKit

/-- a sum of finite numbers, one of which isn't -0. -/
structure CanG (g : AccG) (X : Int) (n : Int) : Prop where
  ok : GOk g
  X : g.X = X
  cnt : g.cnt = n
  nz : g.nz < g.cnt
  up : g.up = false
  dn : g.dn = false
  nn : g.nn = false
theorem fin_isN {x : Nat} (h : mg x < INF) : isN x = false := isN_false.2 (by omega)
theorem can_start {x : Nat} (h : mg x < INF) (h0 : mg x ≠ 0) : CanG (addG newG x) (iv x * KA) 1 := by
  have e := addG_fin newG h
  refine ⟨add_ok new_ok (by decide) x, ?_, ?_, ?_, ?_, ?_, ?_⟩
  all_goals rw [e]
  · show 0 + iv x * KA = _; omega
  · rfl
  · show 0 + (if mg x = 0 ∧ ng x = true then 1 else 0) < (0 + 1 : Int)
    rw [if_neg (fun k => h0 k.1)]; decide
  · rfl
  · rfl
  · rfl
theorem CanG.add {g : AccG} {X n : Int} (h : CanG g X n) {x : Nat} (hx : mg x < INF) (hc : n < 1048576) : CanG (addG g x) (X + iv x * KA) (n + 1) := by
  have e := addG_fin g hx
  have h1 := h.nz
  refine ⟨add_ok h.ok (by rw [h.cnt]; exact hc) x, ?_, ?_, ?_, ?_, ?_, ?_⟩
  all_goals rw [e]
  · show g.X + iv x * KA = _; rw [h.X]
  · show g.cnt + 1 = _; rw [h.cnt]
  · show g.nz + (if mg x = 0 ∧ ng x = true then 1 else 0) < g.cnt + 1
    split <;> omega
  · exact h.up
  · exact h.dn
  · exact h.nn
theorem mulG_fin (g : AccG) {x y : Nat} (h : mg x < INF) (h' : mg y < INF) : mulG g x y = { g with cnt := g.cnt + 1, X := g.X + iv x * iv y * 268435456, nz := g.nz + if (mg x = 0 ∨ mg y = 0) ∧ (ng x ^^ ng y) = true then 1 else 0 } := by
  unfold mulG
  rw [if_pos ⟨h, h'⟩]
theorem CanG.mul {g : AccG} {X n : Int} (h : CanG g X n) {x y : Nat} (hx : mg x < INF) (hy : mg y < INF) (hc : n < 1048576) : CanG (mulG g x y) (X + iv x * iv y * 268435456) (n + 1) := by
  have e := mulG_fin g hx hy
  have h1 := h.nz
  refine ⟨mul_ok h.ok (by rw [h.cnt]; exact hc) x y, ?_, ?_, ?_, ?_, ?_, ?_⟩
  all_goals rw [e]
  · show g.X + iv x * iv y * 268435456 = _; rw [h.X]
  · show g.cnt + 1 = _; rw [h.cnt]
  · show g.nz + (if (mg x = 0 ∨ mg y = 0) ∧ (ng x ^^ ng y) = true then 1 else 0) < g.cnt + 1
    split <;> omega
  · exact h.up
  · exact h.dn
  · exact h.nn
theorem CanG.val {g : AccG} {x : Nat} {n : Int} (h : CanG g (iv x * KA) n) (hx : W64 x) (hf : mg x < INF) (h0 : mg x ≠ 0) : valG g = x := by
  have hx' : x < 2 ^ 64 := hx
  have hz := h.nz
  have z0 := h.ok.z0
  rw [valG_KA (by omega) h.nn h.up h.dn (by omega) h.X, iv_natAbs, rnd_V, Nat.min_eq_left (by omega)]
  have p1 : 0 < V (mg x) := Nat.pos_of_ne_zero (fun h => h0 (V_eq_zero.1 h))
  have hs : decide (iv x < 0) = ng x := by
    unfold iv
    cases ng x
    · rw [if_neg (by decide)]; exact decide_eq_false (by omega)
    · rw [if_pos rfl]; exact decide_eq_true (by omega)
  rw [hs]
  exact (word_split hx').symm
/-- which of the numbers count; how many they are; what they come to. -/
def cT (xs Y : Nat → Nat) (i : Nat) : Bool := decide (mg (xs i) < INF ∧ mg (Y i) < INF)
def cN (xs Y : Nat → Nat) : Nat → Nat
  | 0 => 0
  | k + 1 => cN xs Y k + if cT xs Y k then 1 else 0
def cP (xs Y : Nat → Nat) : Nat → Int
  | 0 => 0
  | k + 1 => cP xs Y k + if cT xs Y k then iv (xs k) * KA + iv (xs k) * iv (Y k) * 268435456 else 0
theorem cN_le (xs Y : Nat → Nat) : ∀ k, cN xs Y k ≤ k := by
  intro k
  induction k with
  | zero => exact Nat.le_refl _
  | succ k ih => unfold cN; split <;> omega
def orOne (ys : Nat → Nat) (ly i : Nat) : Nat := if i < ly then ys i else 4607182418800017408
theorem one_fin : mg 4607182418800017408 < INF := by decide
/-- what the walk sees of a number. -/
theorem fin_see {x : Nat} (h : W64 x) : (¬ mg x < INF ∧ floatBits .sub .f64 x x = none) ∨ (mg x < INF ∧ floatBits .sub .f64 x x = some 0) := by
  rcases fin_ways h with ⟨h1, h2⟩ | ⟨h1, h2⟩
  · exact .inr ⟨by simpa [finB] using h1, h2⟩
  · exact .inl ⟨by simpa [finB] using h1, h2⟩
end TF
