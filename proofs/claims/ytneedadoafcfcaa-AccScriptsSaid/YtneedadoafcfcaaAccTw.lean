/- Sums of two: as the machine adds and multiplies. -/
import Derived.Test.YtneedadoafcfcaaAccZ
namespace TF
open Ieee Go Go.RowKit

def QN : Nat := 9221120237041090561
theorem rung_KA (n : Nat) : rung (n * 2 ^ TA) (-2176) = rnd n := by
  have hT : TA = 1102 := rfl
  have h := near_rung (mag := n * 2 ^ TA) (-2176)
  rw [show ((-2176 : Int) + 1074).toNat = 0 by omega, show (-((-2176 : Int) + 1074)).toNat = TA by omega, Nat.pow_zero, Nat.mul_one] at h
  exact h.unique' (Nat.two_pow_pos _) (by omega) (near_rnd n) (Nat.mul_one _)
theorem rung_two (n : Nat) : rung (n * 268435456) (-2176) = rnd2 n := by
  have hT : TA = 1102 := rfl
  have hQ0 : T = TA - 28 := rfl
  have hQ : Q = 2 ^ (TA - 28) := by rw [← hQ0]; rfl
  have h := near_rung (mag := n * 268435456) (-2176)
  rw [show ((-2176 : Int) + 1074).toNat = 0 by omega, show (-((-2176 : Int) + 1074)).toNat = TA by omega, Nat.pow_zero, Nat.mul_one] at h
  refine h.unique' (Nat.two_pow_pos _) (by rw [hQ]; exact Nat.two_pow_pos _) (near_rnd2 n) ?_
  have : 2 ^ TA = 268435456 * 2 ^ (TA - 28) := by
    rw [show (268435456 : Nat) = 2 ^ 28 from rfl, ← Nat.pow_add]; congr 1
  rw [hQ, this, Nat.mul_assoc]
theorem rnd2_eq_zero (n : Nat) (h : n = 0) : rnd2 n = 0 := by subst h; simp [rnd2, rung]
/-- what the fields of a sum come to. -/
theorem addG_nn (g : AccG) (x : Nat) : (addG g x).nn = (g.nn || isN x) := by
  unfold addG; split
  · rename_i h; rw [h, Bool.or_true]
  · rename_i h; rw [Bool.not_eq_true] at h; rw [h, Bool.or_false]; split
    · split <;> rfl
    · rfl
theorem addG_up (g : AccG) (x : Nat) : (addG g x).up = (g.up || decide (mg x = INF ∧ ng x = false)) := by
  unfold addG; split
  · rename_i h; have := isN_true.1 h; rw [decide_eq_false (by omega), Bool.or_false]
  · split
    · rename_i h; split
      · rename_i h2; rw [decide_eq_false (by rw [h2]; simp), Bool.or_false]
      · rename_i h2; rw [Bool.not_eq_true] at h2; rw [decide_eq_true ⟨h, h2⟩, Bool.or_true]
    · rename_i h; rw [decide_eq_false (fun k => h k.1), Bool.or_false]
theorem addG_dn (g : AccG) (x : Nat) : (addG g x).dn = (g.dn || decide (mg x = INF ∧ ng x = true)) := by
  unfold addG; split
  · rename_i h; have := isN_true.1 h; rw [decide_eq_false (by omega), Bool.or_false]
  · split
    · rename_i h; split
      · rename_i h2; rw [decide_eq_true ⟨h, h2⟩, Bool.or_true]
      · rename_i h2; rw [decide_eq_false (fun k => h2 k.2), Bool.or_false]
    · rename_i h; rw [decide_eq_false (fun k => h k.1), Bool.or_false]
theorem addG_fin (g : AccG) {x : Nat} (h : mg x < INF) : addG g x = { g with cnt := g.cnt + 1, X := g.X + iv x * KA, nz := g.nz + if mg x = 0 ∧ ng x = true then 1 else 0 } := by
  unfold addG
  rw [if_neg (by rw [Bool.not_eq_true]; exact isN_false.2 (by omega)), if_neg (by omega)]
theorem valG_nn {g : AccG} (h0 : g.cnt ≠ 0) (h : g.nn = true) : valG g = QN := by unfold valG; rw [if_neg h0, h, Bool.true_or, if_pos rfl]; rfl
theorem valG_both {g : AccG} (h0 : g.cnt ≠ 0) (h : g.up = true) (h' : g.dn = true) : valG g = QN := by unfold valG; rw [if_neg h0, h, h', if_pos (by simp)]; rfl
theorem valG_up {g : AccG} (h0 : g.cnt ≠ 0) (hn : g.nn = false) (h : g.up = true) (h' : g.dn = false) : valG g = INF := by
  unfold valG; rw [if_neg h0, h, h', hn, if_neg (by decide), if_pos rfl, INF_eq]
theorem valG_dn {g : AccG} (h0 : g.cnt ≠ 0) (hn : g.nn = false) (h : g.up = false) (h' : g.dn = true) : valG g = wd true INF := by
  unfold valG; rw [if_neg h0, h, h', hn, if_neg (by decide), if_neg (by decide), if_pos rfl]; rfl
theorem valG_nz {g : AccG} (h0 : g.cnt ≠ 0) (hn : g.nn = false) (h : g.up = false) (h' : g.dn = false) (hz : g.nz = g.cnt) : valG g = wd true 0 := by
  unfold valG; rw [if_neg h0, h, h', hn, if_neg (by decide), if_neg (by decide), if_neg (by decide), if_pos hz]; rfl
theorem valG_fin {g : AccG} (h0 : g.cnt ≠ 0) (hn : g.nn = false) (h : g.up = false) (h' : g.dn = false) (hz : g.nz ≠ g.cnt) :
    valG g = if g.X < 0 ∧ min (rung g.X.natAbs (-2176)) INF ≠ 0 then wd true (min (rung g.X.natAbs (-2176)) INF) else min (rung g.X.natAbs (-2176)) INF := by
  unfold valG; rw [if_neg h0, h, h', hn, if_neg (by decide), if_neg (by decide), if_neg (by decide), if_neg hz]
theorem KA_abs (n : Int) : (n * KA).natAbs = n.natAbs * 2 ^ TA := by rw [Int.natAbs_mul, KA_nat, Int.natAbs_natCast]
theorem valG_KA {g : AccG} (h0 : g.cnt ≠ 0) (hn : g.nn = false) (h : g.up = false) (h' : g.dn = false) (hz : g.nz ≠ g.cnt) {n : Int} (hX : g.X = n * KA) :
    valG g = wd (decide (n < 0)) (min (rnd n.natAbs) INF) := by
  rw [valG_fin h0 hn h h' hz, hX, KA_abs, rung_KA]
  have hs : n * KA < 0 ↔ n < 0 := by
    have hp := KA_pos
    constructor
    · intro h
      rcases Int.lt_or_le n 0 with h1 | h1
      · exact h1
      · have := Int.mul_nonneg h1 (Int.le_of_lt hp); omega
    · intro h; exact Int.mul_neg_of_neg_of_pos h hp
  by_cases hn : n < 0
  · have hr : rnd n.natAbs ≠ 0 := fun h => by have := rnd_eq_zero.1 h; omega
    have hI := INF_eq
    rw [if_pos ⟨hs.2 hn, by omega⟩, decide_eq_true hn]
  · rw [if_neg (fun k => hn (hs.1 k.1)), decide_eq_false hn]; rfl
/-- two floats: as the machine adds them. -/
theorem sum_two {x y : Nat} :
    (double.add x y = none ∧ valG (addG (addG newG x) y) = QN) ∨ (∃ r, double.add x y = some r ∧ r < 2 ^ 64 ∧ isN r = false ∧ valG (addG (addG newG x) y) = r) := by
  have hc : (addG (addG newG x) y).cnt ≠ 0 := by
    have e : ∀ g z, (addG g z).cnt = g.cnt + 1 := by
      intro g z; unfold addG; split
      · rfl
      · split
        · split <;> rfl
        · rfl
    rw [e, e]; decide
  have e1 : (addG (addG newG x) y).nn = (isN x || isN y) := by rw [addG_nn, addG_nn]; rfl
  have e2 : (addG (addG newG x) y).up = (decide (mg x = INF ∧ ng x = false) || decide (mg y = INF ∧ ng y = false)) := by rw [addG_up, addG_up]; rfl
  have e3 : (addG (addG newG x) y).dn = (decide (mg x = INF ∧ ng x = true) || decide (mg y = INF ∧ ng y = true)) := by rw [addG_dn, addG_dn]; rfl
  have wI : ∀ s, wd s INF < 2 ^ 64 ∧ isN (wd s INF) = false := fun s => ⟨wd_lt INF_lt, by cases s <;> kernel_rfl⟩
  by_cases hx : isN x = true
  · exact .inl ⟨add_nan_left (isN_true.1 hx), valG_nn hc (by rw [e1, hx]; rfl)⟩
  by_cases hy : isN y = true
  · exact .inl ⟨add_nan_right (isN_true.1 hy), valG_nn hc (by rw [e1, hy, Bool.or_true])⟩
  rw [Bool.not_eq_true] at hx hy
  have ix := isN_false.1 hx
  have iy := isN_false.1 hy
  have n0 : (addG (addG newG x) y).nn = false := by rw [e1, hx, hy]; rfl
  by_cases fx : mg x = INF
  · by_cases fy : mg y = INF
    · by_cases hs : ng x = ng y
      · refine .inr ⟨_, add_inf_inf fx fy hs, (wI _).1, (wI _).2, ?_⟩
        cases h : ng x
        · rw [h] at hs e2 e3
          rw [← hs] at e2 e3
          rw [valG_up hc n0 (by rw [e2, fx]; simp) (by rw [e3]; simp)]; rfl
        · rw [h] at hs e2 e3
          rw [← hs] at e2 e3
          rw [valG_dn hc n0 (by rw [e2]; simp) (by rw [e3, fx]; simp)]
      · refine .inl ⟨add_inf_opp fx fy hs, ?_⟩
        cases h : ng x
        · have h2 : ng y = true := by cases h3 : ng y <;> simp_all
          exact valG_both hc (by rw [e2, fx, h]; simp) (by rw [e3, fy, h2]; simp)
        · have h2 : ng y = false := by cases h3 : ng y <;> simp_all
          exact valG_both hc (by rw [e2, fy, h2]; simp) (by rw [e3, fx, h]; simp)
    · have fy2 : mg y < INF := by omega
      refine .inr ⟨_, add_inf_fin fx fy2, (wI _).1, (wI _).2, ?_⟩
      rw [show decide (mg y = INF ∧ ng y = false) = false from decide_eq_false (fun h => fy h.1), Bool.or_false] at e2
      rw [show decide (mg y = INF ∧ ng y = true) = false from decide_eq_false (fun h => fy h.1), Bool.or_false] at e3
      cases h : ng x
      · rw [h] at e2 e3
        rw [valG_up hc n0 (by rw [e2, fx]; simp) (by rw [e3]; simp)]; rfl
      · rw [h] at e2 e3
        rw [valG_dn hc n0 (by rw [e2]; simp) (by rw [e3, fx]; simp)]
  · have fx2 : mg x < INF := by omega
    rw [show decide (mg x = INF ∧ ng x = false) = false from decide_eq_false (fun h => fx h.1), Bool.false_or] at e2
    rw [show decide (mg x = INF ∧ ng x = true) = false from decide_eq_false (fun h => fx h.1), Bool.false_or] at e3
    by_cases fy : mg y = INF
    · refine .inr ⟨_, add_fin_inf fx2 fy, (wI _).1, (wI _).2, ?_⟩
      cases h : ng y
      · rw [h] at e2 e3
        rw [valG_up hc n0 (by rw [e2, fy]; simp) (by rw [e3]; simp)]; rfl
      · rw [h] at e2 e3
        rw [valG_dn hc n0 (by rw [e2]; simp) (by rw [e3, fy]; simp)]
    · have fy2 : mg y < INF := by omega
      rw [show decide (mg y = INF ∧ ng y = false) = false from decide_eq_false (fun h => fy h.1)] at e2
      rw [show decide (mg y = INF ∧ ng y = true) = false from decide_eq_false (fun h => fy h.1)] at e3
      have hle : min (rnd (iv x + iv y).natAbs) INF < 2 ^ 63 := Nat.lt_of_le_of_lt (Nat.min_le_right _ _) INF_lt
      refine .inr ⟨_, add_fin fx2 fy2, wd_lt hle, isN_false.2 (by rw [mg_wd hle]; exact Nat.min_le_right _ _), ?_⟩
      have eX : (addG (addG newG x) y).X = (iv x + iv y) * KA := by
        rw [addG_fin _ fy2, addG_fin _ fx2]
        show (0 + iv x * KA) + iv y * KA = _
        rw [Int.add_mul]; omega
      have eN : (addG (addG newG x) y).nz = (0 + if mg x = 0 ∧ ng x = true then 1 else 0) + if mg y = 0 ∧ ng y = true then 1 else 0 := by
        rw [addG_fin _ fy2, addG_fin _ fx2]; rfl
      have eC : (addG (addG newG x) y).cnt = 2 := by
        rw [addG_fin _ fy2, addG_fin _ fx2]; rfl
      by_cases hz : (mg x = 0 ∧ ng x = true) ∧ (mg y = 0 ∧ ng y = true)
      · obtain ⟨⟨z1, z2⟩, z3, z4⟩ := hz
        rw [valG_nz hc n0 e2 e3 (by rw [eN, eC, if_pos ⟨z1, z2⟩, if_pos ⟨z3, z4⟩]; rfl)]
        have i1 : iv x = 0 := by have := iv_natAbs x; rw [z1, V_zero] at this; omega
        have i2 : iv y = 0 := by have := iv_natAbs y; rw [z3, V_zero] at this; omega
        rw [i1, i2, if_pos (by omega), z2, z4]
        show wd true 0 = wd true (min (rnd 0) INF)
        rw [rnd_zero, Nat.zero_min]
      · have hnz : (addG (addG newG x) y).nz ≠ (addG (addG newG x) y).cnt := by
          rw [eN, eC]
          intro h
          refine hz ?_
          by_cases a : mg x = 0 ∧ ng x = true
          · by_cases b : mg y = 0 ∧ ng y = true
            · exact ⟨a, b⟩
            · rw [if_pos a, if_neg b] at h; omega
          · by_cases b : mg y = 0 ∧ ng y = true
            · rw [if_neg a, if_pos b] at h; omega
            · rw [if_neg a, if_neg b] at h; omega
        rw [valG_KA hc n0 e2 e3 hnz eX]
        by_cases h0 : iv x + iv y = 0
        · rw [if_pos h0, h0, show decide ((0 : Int) < 0) = false from rfl]
          show wd false (min (rnd 0) INF) = wd _ (min (rnd 0) INF)
          rw [rnd_zero, Nat.zero_min]
          cases h1 : ng x
          · rfl
          · cases h2 : ng y
            · rfl
            · exfalso
              have j1 : iv x ≤ 0 := by unfold iv; rw [h1]; simp
              have j2 : iv y ≤ 0 := by unfold iv; rw [h2]; simp
              have k1 := iv_natAbs x
              have k2 := iv_natAbs y
              exact hz ⟨⟨V_eq_zero.1 (by omega), h1⟩, V_eq_zero.1 (by omega), h2⟩
        · rw [if_neg h0]
end TF
