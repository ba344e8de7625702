/- twin.Product as a plain function, and its ways. -/
import Derived.Test.YtkkikcfolinkfaaTwinX
namespace TF
open Ieee Go Go.RowKit

def prodIn (a b p : Nat) : Prop := mg p < INF ∧ mg a ≤ 9092767647661031424 ∧ mg b ≤ 9092767647661031424 ∧ 243194379878006784 ≤ mg p ∧ mg p ≤ 9200854038717923328
instance (a b p : Nat) : Decidable (prodIn a b p) := by unfold prodIn; infer_instance
def prodW (a b : Nat) : Nat × Nat :=
  match floatBits .mul .f64 a b with
  | none => (9221120237041090561, 0)
  | some p => if prodIn a b p then (canonW p, rw' false (iv a * iv b / Q - iv p)) else (canonW p, 0)
theorem prodW_none {a b : Nat} (h : floatBits .mul .f64 a b = none) : prodW a b = (9221120237041090561, 0) := by unfold prodW; rw [h]
theorem prodW_out {a b p : Nat} (h : floatBits .mul .f64 a b = some p) (h' : ¬ prodIn a b p) : prodW a b = (canonW p, 0) := by unfold prodW; rw [h]; simp only; rw [if_neg h']
theorem prodW_in {a b p : Nat} (h : floatBits .mul .f64 a b = some p) (h' : prodIn a b p) {n : Int} (e : iv a * iv b = Q * n) : prodW a b = (canonW p, rw' false (n - iv p)) := by
  unfold prodW; rw [h]; simp only; rw [if_pos h', e, Int.mul_ediv_cancel_left _ (by have := Q_pos; omega)]
theorem prodW_lt (a b : Nat) : W64 (prodW a b).1 ∧ W64 (prodW a b).2 := by
  unfold prodW
  split
  · exact ⟨show (9221120237041090561 : Nat) < 2 ^ 64 by decide, show (0 : Nat) < 2 ^ 64 by decide⟩
  · rename_i p h
    have hp : W64 p := floatBits_lt h
    split
    · exact ⟨hp.canon, rw_lt _ _⟩
    · exact ⟨hp.canon, show (0 : Nat) < 2 ^ 64 by decide⟩

theorem mul_fin_of {a b p : Nat} (h : floatBits .mul .f64 a b = some p) (hp : mg p < INF) : mg a < INF ∧ mg b < INF := by
  have hI := INF_lt
  have e : floatBits .mul .f64 a b = double.mul a b := rfl
  rw [e] at h
  by_cases ha : mg a < INF
  · by_cases hb : mg b < INF
    · exact ⟨ha, hb⟩
    · exfalso
      by_cases hb' : mg b = INF
      · rw [mul_fin_inf ha hb'] at h
        split at h
        · cases h
        · have : p = _ := (Option.some.inj h).symm
          rw [this, mg_wd hI] at hp; omega
      · rw [mul_nan_right (by omega)] at h; cases h
  · exfalso
    by_cases ha' : mg a = INF
    · by_cases hb : mg b < INF
      · rw [mul_inf_fin ha' hb] at h
        split at h
        · cases h
        · have : p = _ := (Option.some.inj h).symm
          rw [this, mg_wd hI] at hp; omega
      · by_cases hb' : mg b = INF
        · rw [mul_inf_inf ha' hb'] at h
          have : p = _ := (Option.some.inj h).symm
          rw [this, mg_wd hI] at hp; omega
        · rw [mul_nan_right (by omega)] at h; cases h
    · rw [mul_nan_left (by omega)] at h; cases h

theorem ltW_small {x y : Nat} (hx : x < INF) (hy : y < INF) : ltW x y = decide (x < y) := by
  have hI := INF_lt
  unfold ltW
  rw [isN_false.2 (by rw [mg_small (by omega)]; omega), isN_false.2 (by rw [mg_small (by omega)]; omega), rk_small (by omega), rk_small (by omega)]
  simp
theorem V_le996 {a : Nat} (h : mg a ≤ 9092767647661031424) : V (mg a) ≤ 33554432 * G := by rw [← V_p996]; exact V_le h

theorem prod_ways {a b : Nat} (ha : W64 a) (hb : W64 b) : (floatBits .mul .f64 a b = none ∧ prodW a b = (9221120237041090561, 0)) ∨
    (∃ p, floatBits .mul .f64 a b = some p ∧ finB p = false ∧ prodW a b = (canonW p, 0)) ∨
    (∃ p, floatBits .mul .f64 a b = some p ∧ finB p = true ∧ prodW a b = (canonW p, 0) ∧ (ltW 9092767647661031424 (mg a) = true ∨ (ltW 9092767647661031424 (mg a) = false ∧ ltW 9092767647661031424 (mg b) = true) ∨
      (ltW 9092767647661031424 (mg a) = false ∧ ltW 9092767647661031424 (mg b) = false ∧ ltW (mg p) 243194379878006784 = true) ∨
      (ltW 9092767647661031424 (mg a) = false ∧ ltW 9092767647661031424 (mg b) = false ∧ ltW (mg p) 243194379878006784 = false ∧ ltW 9200854038717923328 (mg p) = true))) ∨
    (∃ p e, floatBits .mul .f64 a b = some p ∧ finB p = true ∧ prodW a b = (canonW p, canonW e) ∧ ltW 9092767647661031424 (mg a) = false ∧ ltW 9092767647661031424 (mg b) = false ∧ ltW (mg p) 243194379878006784 = false ∧ ltW 9200854038717923328 (mg p) = false ∧
      ∃ ah al bh bl q1 e1 q2 e2 q3 e3 q4 : Nat, (∃ c d, floatBits .mul .f64 4728779608772575232 a = some c ∧ floatBits .sub .f64 c a = some d ∧ floatBits .sub .f64 c d = some ah ∧ floatBits .sub .f64 a ah = some al) ∧
      (∃ c d, floatBits .mul .f64 4728779608772575232 b = some c ∧ floatBits .sub .f64 c b = some d ∧ floatBits .sub .f64 c d = some bh ∧ floatBits .sub .f64 b bh = some bl) ∧
      (floatBits .mul .f64 ah bh = some q1 ∧ floatBits .sub .f64 q1 p = some e1 ∧ floatBits .mul .f64 ah bl = some q2 ∧ floatBits .add .f64 e1 q2 = some e2 ∧
        floatBits .mul .f64 al bh = some q3 ∧ floatBits .add .f64 e2 q3 = some e3 ∧ floatBits .mul .f64 al bl = some q4 ∧ floatBits .add .f64 e3 q4 = some e)) := by
  have hI := INF_eq
  cases h : floatBits .mul .f64 a b with
  | none => left; exact ⟨rfl, prodW_none h⟩
  | some p =>
    right
    by_cases hp : mg p < INF
    · right
      obtain ⟨fa, fb⟩ := mul_fin_of h hp
      have l1 := ltW_small (x := 9092767647661031424) (by omega) fa
      have l2 := ltW_small (x := 9092767647661031424) (by omega) fb
      have l3 := ltW_small (y := 243194379878006784) hp (by omega)
      have l4 := ltW_small (x := 9200854038717923328) (by omega) hp
      by_cases hin : prodIn a b p
      · right
        obtain ⟨_, i1, i2, i3, i4⟩ := hin
        obtain ⟨ah, al, bh, bl, q1, e1, q2, e2, q3, e3, q4, e, ca, cb, st, A, B, P, K, hK, ia, ib, ip, _, hc, _⟩ := way_word ha hb (V_le996 i1) (V_le996 i2) h i3 i4
        refine ⟨p, e, rfl, finB_true.2 hp, ?_, by rw [l1]; simp; omega, by rw [l2]; simp; omega, by rw [l3]; simp; omega, by rw [l4]; simp; omega, ah, al, bh, bl, q1, e1, q2, e2, q3, e3, q4, ca, cb, st⟩
        have : ((2 ^ E (mg a) : Nat) : Int) * (2 ^ E (mg b) : Nat) = Q * (2 ^ K : Nat) := by
          rw [← Int.natCast_mul, ← Nat.pow_add, hK, Nat.pow_add, Int.natCast_mul]; rfl
        rw [prodW_in h ⟨hp, i1, i2, i3, i4⟩ (n := A * B * (2 ^ K : Nat)) (by rw [ia, ib]; exact four this), hc, ip, Int.sub_mul]
      · left
        refine ⟨p, rfl, finB_true.2 hp, prodW_out h hin, ?_⟩
        rw [l1, l2, l3, l4]
        unfold prodIn at hin
        simp only [decide_eq_true_eq, decide_eq_false_iff_not]
        omega
    · left
      exact ⟨p, rfl, finB_false.2 (by omega), prodW_out h (fun hin => hp hin.1)⟩

/-- The reference: out of the bounds. -/
theorem rprod_out {a b : Nat} : (∃ p, floatBits .mul .f64 a b = some p ∧ ¬ prodIn a b p ∧ prodW a b = (canonW p, 0)) ∨ (floatBits .mul .f64 a b = none ∧ prodW a b = (9221120237041090561, 0)) ∨ (∃ p, floatBits .mul .f64 a b = some p ∧ prodIn a b p) := by
  cases h : floatBits .mul .f64 a b with
  | none => right; left; exact ⟨rfl, prodW_none h⟩
  | some p =>
    by_cases hin : prodIn a b p
    · right; right; exact ⟨p, rfl, hin⟩
    · left; exact ⟨p, rfl, hin, prodW_out h hin⟩

theorem natAbs_part {x : Nat} {A : Int} (h : iv x = A * (2 ^ E (mg x) : Nat)) : A.natAbs = M (mg x) := by
  have := congrArg Int.natAbs h
  rw [iv_natAbs, Int.natAbs_mul, Int.natAbs_natCast] at this
  unfold V at this
  exact (Nat.eq_of_mul_eq_mul_right (Nat.two_pow_pos _) this).symm
theorem G_log {K : Nat} (h : 2 ^ K ≤ 562949953421313 * G) : K ≤ 2097 := by
  have : 2 ^ K < 2 ^ (50 + GE) := by
    rw [Nat.pow_add]
    refine Nat.lt_of_le_of_lt h ?_
    have := G_pos
    unfold G at this ⊢
    exact Nat.mul_lt_mul_of_pos_right (by omega) this
  have := (Nat.pow_lt_pow_iff_right (a := 2) (by omega)).1 this
  unfold GE at this
  omega

/-- The reference, within the bounds: its whole numbers. -/
theorem rprod_in {a b p : Nat} (ha : W64 a) (hb : W64 b) (h : floatBits .mul .f64 a b = some p) (hin : prodIn a b p) (ma ea mb eb mp ep : Int) (hma : ma = M (mg a)) (hea : ea = E (mg a)) (hmb : mb = M (mg b)) (heb : eb = E (mg b)) (hmp : mp = M (mg p)) (hep : ep = E (mg p)) :
    ∃ (X : Int) (K : Nat), K ≤ 2097 ∧ ea - 1074 + (eb - 1074) = (K : Int) - 1074 ∧ -4503599627370496 ≤ X ∧ X ≤ 4503599627370496 ∧ 0 ≤ ep ∧ ep ≤ 2045 ∧ ((0 ≤ ep - K ∧ wrap64 (IntKind.u64.wrap (IntKind.u64.wrap (ma * mb) - shW mp (ep - K) false)) = X) ∨ (ep - K < 0 ∧ X = 0)) ∧
      prodW a b = (canonW p, rw' false ((if ng p = true then -X else X) * (2 ^ K : Nat))) := by
  have hI := INF_eq
  obtain ⟨hp, i1, i2, i3, i4⟩ := hin
  obtain ⟨ah, al, bh, bl, q1, e1, q2, e2, q3, e3, q4, e, _, _, _, A, B, P, K, hK, ia, ib, ip, near, _, hpi, hpm, hps, hsz⟩ := way_word ha hb (V_le996 i1) (V_le996 i2) h i3 i4
  have hQ : ((2 ^ E (mg a) : Nat) : Int) * (2 ^ E (mg b) : Nat) = Q * (2 ^ K : Nat) := by
    rw [← Int.natCast_mul, ← Nat.pow_add, hK, Nat.pow_add, Int.natCast_mul]; rfl
  have hW := prodW_in h ⟨hp, i1, i2, i3, i4⟩ (n := A * B * (2 ^ K : Nat)) (by rw [ia, ib]; exact four hQ)
  have nA := natAbs_part ia
  have nB := natAbs_part ib
  have nZ : (A * B).natAbs = M (mg a) * M (mg b) := by rw [Int.natAbs_mul, nA, nB]
  have hKp := Nat.two_pow_pos K
  have hT : (T : Int) = 1074 := T_int
  -- the signs
  have hPn : P.natAbs * 2 ^ K = V (mg p) := by rw [← iv_natAbs, ip, Int.natAbs_mul, Int.natAbs_natCast]
  have sP : ng p = true → P ≤ 0 := by
    intro hs
    have : iv p ≤ 0 := by unfold iv; rw [hs, if_pos rfl]; omega
    rw [ip] at this
    rcases Int.lt_or_le 0 P with h0 | h0
    · have := Int.mul_pos h0 (show (0 : Int) < (2 ^ K : Nat) by omega); omega
    · exact h0
  have sP' : ng p = false → 0 ≤ P := by
    intro hs
    have : 0 ≤ iv p := by unfold iv; rw [hs]; simp
    rw [ip] at this
    rcases Int.lt_or_le P 0 with h0 | h0
    · have := Int.mul_neg_of_neg_of_pos h0 (show (0 : Int) < (2 ^ K : Nat) by omega); omega
    · exact h0
  have hP0 : P ≠ 0 := by
    intro h0
    rw [h0] at hPn; simp at hPn
    have : mg p = 0 := V_eq_zero.1 hPn.symm
    omega
  have rmono0 : rI 0 = 0 := rI_rep ⟨0, V_zero⟩
  have sZ : (0 < P → 0 < A * B) ∧ (P < 0 → A * B < 0) := by
    constructor
    · intro h0
      rcases Int.lt_or_le 0 (A * B) with h1 | h1
      · exact h1
      · exfalso
        have h2 : A * B * (2 ^ K : Nat) ≤ 0 := Int.mul_nonpos_of_nonpos_of_nonneg h1 (by omega)
        have h3 := rI_mono h2
        rw [rmono0, ← hpi, ip] at h3
        have := Int.mul_pos h0 (show (0 : Int) < (2 ^ K : Nat) by omega); omega
    · intro h0
      rcases Int.lt_or_le (A * B) 0 with h1 | h1
      · exact h1
      · exfalso
        have h2 : 0 ≤ A * B * (2 ^ K : Nat) := Int.mul_nonneg h1 (by omega)
        have h3 := rI_mono h2
        rw [rmono0, ← hpi, ip] at h3
        have := Int.mul_neg_of_neg_of_pos h0 (show (0 : Int) < (2 ^ K : Nat) by omega); omega
  have hKb : K ≤ 2097 := by
    refine G_log (Nat.le_trans ?_ hsz)
    rw [Int.natAbs_mul, Int.natAbs_natCast]
    have : 1 * 2 ^ K ≤ (A * B).natAbs * 2 ^ K := Nat.mul_le_mul_right _ (by omega)
    omega
  have hEb : E (mg p) ≤ 2045 := by unfold E; omega
  refine ⟨(A * B).natAbs - P.natAbs, K, hKb, by omega, by omega, by omega, by omega, by omega, ?_, ?_⟩
  · by_cases hge : K ≤ E (mg p)
    · left
      refine ⟨by omega, ?_⟩
      have hPm : P.natAbs = M (mg p) * 2 ^ (E (mg p) - K) := by
        refine Nat.eq_of_mul_eq_mul_right hKp ?_
        rw [hPn, Nat.mul_assoc, ← Nat.pow_add, Nat.sub_add_cancel hge]; rfl
      have e1 : ma * mb = ((A * B).natAbs : Int) := by rw [nZ, hma, hmb, Int.natCast_mul]
      have e2 : shW mp (ep - K) false = (P.natAbs : Int) % 18446744073709551616 := by
        unfold shW
        rw [if_neg Bool.false_ne_true, hPm, hmp, show (ep - (K : Int)).toNat = E (mg p) - K from by omega]
        simp
      rw [e1, e2, u64w, u64w]
      unfold wrap64
      omega
    · right
      refine ⟨by omega, ?_⟩
      have hx : V (rnd (A * B * (2 ^ K : Nat)).natAbs) = (A * B * (2 ^ K : Nat)).natAbs := by
        refine rnd_exact (k := K) ?_ (by rw [← hpm]; omega)
        rw [Int.natAbs_mul, Int.natAbs_natCast]; exact Nat.dvd_mul_left _ _
      rw [← hpm, ← hPn, Int.natAbs_mul, Int.natAbs_natCast] at hx
      have := Nat.eq_of_mul_eq_mul_right hKp hx
      omega
  · rw [hW, ip, ← Int.sub_mul]
    congr 3
    cases hs : ng p
    · have := sP' hs; have := sZ.1 (by omega); simp; omega
    · have := sP hs; have := sZ.2 (by omega); simp; omega
end TF
