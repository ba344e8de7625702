/- A sum doubled. -/
import Derived.Test.YtneedadoafcfcaaAccTw
namespace TF
open Ieee Go Go.RowKit

/-- doubled k times. -/
def dbl (g : AccG) : Nat → AccG
  | 0 => g
  | k + 1 => mergeG (dbl g k) (dbl g k)
theorem dbl_eq (g : AccG) : ∀ k, dbl g k = ⟨g.X * 2 ^ k, g.cnt * 2 ^ k, g.nz * 2 ^ k, g.up, g.dn, g.nn⟩ := by
  intro k
  induction k with
  | zero => simp [dbl]
  | succ k ih =>
    have e : ∀ z : Int, z * 2 ^ (k + 1) = z * 2 ^ k + z * 2 ^ k := by intro z; rw [Int.pow_succ, ← Int.mul_assoc]; omega
    show mergeG (dbl g k) (dbl g k) = _
    rw [ih, e, e, e]
    unfold mergeG
    simp
theorem dbl_ok {g : AccG} (h : GOk g) (hc : g.cnt = 1) : ∀ k, k ≤ 20 → GOk (dbl g k) ∧ (dbl g k).cnt = 2 ^ k := by
  intro k
  induction k with
  | zero => intro _; exact ⟨h, hc⟩
  | succ k ih =>
    intro hk
    obtain ⟨h1, h2⟩ := ih (by omega)
    have hp : (2 : Int) ^ k ≤ 524288 := by
      have := Nat.pow_le_pow_right (n := 2) (by omega) (show k ≤ 19 by omega)
      have e : (2 : Int) ^ k = ((2 ^ k : Nat) : Int) := by simp
      rw [e]; omega
    refine ⟨merge_ok h1 h1 (by omega), ?_⟩
    show (dbl g k).cnt + (dbl g k).cnt = _
    rw [h2, Int.pow_succ]; omega
def MIL : Nat := 4697254411347427328
theorem V_million : V MIL = 1048576 * Q := by
  obtain ⟨D, hD⟩ : ∃ D : Nat, D = 1042 := ⟨_, rfl⟩
  have h := V_block (D := D) (k := 2 ^ 52) (by omega) (by omega)
  have hT : T = D + 32 := by rw [hD]; rfl
  have e : D * 2 ^ 52 + 2 ^ 52 = MIL := by rw [hD]; rfl
  rw [e] at h
  have hQ : Q = 2 ^ T := rfl
  rw [h, hQ, hT, Nat.pow_add, show (2 : Nat) ^ 52 = 1048576 * 2 ^ 32 from rfl, Nat.mul_comm (2 ^ D), Nat.mul_assoc]
theorem MIL_lt : MIL < 2 ^ 63 := by decide
theorem MIL_mg : mg MIL = MIL := Nat.mod_eq_of_lt MIL_lt
theorem MIL_ng : ng MIL = false := by decide
theorem MIL_fin : mg MIL < INF := by rw [MIL_mg]; decide
theorem MIL_zero : mg MIL ≠ 0 := by rw [MIL_mg]; decide
theorem rnd2_million (n : Nat) : rnd2 (n * (1048576 * Q)) = rnd (n * 1048576) := by
  have hq : 0 < Q := Nat.two_pow_pos T
  refine (near_rnd2 _).unique' hq (by omega) (near_rnd _) ?_
  rw [Nat.mul_one, Nat.mul_assoc]
/-- so many times x: as the machine multiplies. -/
theorem dbl_val {x : Nat} :
    (double.mul x MIL = none ∧ valG (dbl (addG newG x) 20) = QN) ∨ (∃ r, double.mul x MIL = some r ∧ r < 2 ^ 64 ∧ isN r = false ∧ valG (dbl (addG newG x) 20) = r) := by
  have wI : ∀ s, wd s INF < 2 ^ 64 ∧ isN (wd s INF) = false := fun s => ⟨wd_lt INF_lt, by cases s <;> kernel_rfl⟩
  have ec : (addG newG x).cnt = 1 := by
    unfold addG; split
    · rfl
    · split
      · split <;> rfl
      · rfl
  have hc : (dbl (addG newG x) 20).cnt ≠ 0 := by rw [dbl_eq]; show (addG newG x).cnt * 2 ^ 20 ≠ 0; rw [ec]; decide
  have e1 : (dbl (addG newG x) 20).nn = isN x := by rw [dbl_eq]; show (addG newG x).nn = _; rw [addG_nn]; rfl
  have e2 : (dbl (addG newG x) 20).up = decide (mg x = INF ∧ ng x = false) := by rw [dbl_eq]; show (addG newG x).up = _; rw [addG_up]; rfl
  have e3 : (dbl (addG newG x) 20).dn = decide (mg x = INF ∧ ng x = true) := by rw [dbl_eq]; show (addG newG x).dn = _; rw [addG_dn]; rfl
  by_cases hx : isN x = true
  · exact .inl ⟨mul_nan_left (isN_true.1 hx), valG_nn hc (by rw [e1, hx])⟩
  rw [Bool.not_eq_true] at hx
  have ix := isN_false.1 hx
  have n0 := e1.trans hx
  by_cases fx : mg x = INF
  · have hm := mul_inf_fin (a := x) (b := MIL) fx MIL_fin
    rw [if_neg MIL_zero, MIL_ng, Bool.xor_false] at hm
    refine .inr ⟨_, hm, (wI _).1, (wI _).2, ?_⟩
    cases h : ng x
    · rw [h] at e2 e3
      rw [valG_up hc n0 (by rw [e2, fx]; simp) (by rw [e3]; simp)]; rfl
    · rw [h] at e2 e3
      rw [valG_dn hc n0 (by rw [e2]; simp) (by rw [e3, fx]; simp)]
  · have fx2 : mg x < INF := by omega
    rw [decide_eq_false (fun h => fx h.1)] at e2 e3
    have hle : min (rnd (V (mg x) * 1048576)) INF < 2 ^ 63 := Nat.lt_of_le_of_lt (Nat.min_le_right _ _) INF_lt
    have hm := mul_fin (a := x) (b := MIL) fx2 MIL_fin
    rw [MIL_mg, V_million, rnd2_million, MIL_ng, Bool.xor_false] at hm
    refine .inr ⟨_, hm, wd_lt hle, isN_false.2 (by rw [mg_wd hle]; exact Nat.min_le_right _ _), ?_⟩
    have eX : (dbl (addG newG x) 20).X = (iv x * 1048576) * KA := by
      rw [dbl_eq, addG_fin _ fx2]
      show (0 + iv x * KA) * 2 ^ 20 = _
      rw [Int.zero_add, show (2 : Int) ^ 20 = 1048576 from rfl, Int.mul_assoc, Int.mul_comm KA, ← Int.mul_assoc]
    have eN : (dbl (addG newG x) 20).nz = (if mg x = 0 ∧ ng x = true then 1 else 0) * 1048576 := by
      rw [dbl_eq, addG_fin _ fx2]
      show (0 + _) * 2 ^ 20 = _
      rw [Int.zero_add]; rfl
    have eC : (dbl (addG newG x) 20).cnt = 1048576 := by rw [dbl_eq]; show (addG newG x).cnt * 2 ^ 20 = _; rw [ec]; rfl
    by_cases hz : mg x = 0 ∧ ng x = true
    · rw [valG_nz hc n0 e2 e3 (by rw [eN, eC, if_pos hz]; rfl), hz.1, hz.2, V_zero, Nat.zero_mul, rnd_zero, Nat.zero_min]
    · rw [valG_KA hc n0 e2 e3 (by rw [eN, eC, if_neg hz]; decide) eX]
      have ha : (iv x * 1048576).natAbs = V (mg x) * 1048576 := by rw [Int.natAbs_mul, iv_natAbs]; rfl
      rw [ha]
      by_cases h0 : mg x = 0
      · have hs : ng x = false := by
          cases h : ng x
          · rfl
          · exact absurd ⟨h0, h⟩ hz
        have i0 : iv x = 0 := by have := iv_natAbs x; rw [h0, V_zero] at this; omega
        rw [i0, hs]; rfl
      · have p1 : 0 < V (mg x) := Nat.pos_of_ne_zero (fun h => h0 (V_eq_zero.1 h))
        congr 1
        unfold iv
        cases ng x
        · rw [if_neg (by decide)]; exact decide_eq_false (by omega)
        · rw [if_pos rfl]; exact decide_eq_true (by omega)
end TF
