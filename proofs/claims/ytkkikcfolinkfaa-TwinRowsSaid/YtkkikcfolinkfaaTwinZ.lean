/- The reference's scaled; Split as a plain function. -/
import Derived.Test.YtkkikcfolinkfaaTwinY
namespace TF
open Ieee Go Go.RowKit

theorem scaled_word {x : Int} {K : Nat} (h0 : 0 ≤ x) : canonW (wd false (min (rnd (x.natAbs * 2 ^ K)) INF)) = rw' false (x * (2 ^ K : Nat)) ∧ (0 < x → canonW (op (wd false (min (rnd (x.natAbs * 2 ^ K)) INF))) = rw' false (-x * (2 ^ K : Nat))) := by
  have hI := INF_lt
  have hK := Nat.two_pow_pos K
  have e : ((x.natAbs * 2 ^ K : Nat) : Int) = x * (2 ^ K : Nat) := by rw [Int.natCast_mul]; congr 1; omega
  constructor
  · rw [canon_wd (by simp), if_neg Bool.false_ne_true, e]
  · intro h1
    rw [op_wd (by omega), Bool.not_false, canon_wd (by intro _ hz; rcases Nat.mul_eq_zero.1 hz with hz | hz <;> omega), if_pos rfl, e, Int.neg_mul]
theorem scaled_near {x : Int} {K : Nat} (h0 : 0 ≤ x) (h : x ≤ 4503599627370496) (hK : K ≤ 2097) :
    ∃ r, floatBits .mul .f64 (floatOfInt .f64 x) (pw K) = some r ∧ W64 r ∧ canonW r = rw' false (x * (2 ^ K : Nat)) ∧ (0 < x → canonW (op r) = rw' false (-x * (2 ^ K : Nat))) := by
  have hI := INF_lt
  obtain ⟨h1, h2⟩ := scaled_word (K := K) h0
  refine ⟨_, mul_pw (by omega) hK, ?_, ?_, ?_⟩
  · exact wd_lt (by omega)
  · rw [decide_eq_false (by omega)]; exact h1
  · rw [decide_eq_false (by omega)]; exact h2
theorem scaled_low {x : Int} {K : Nat} (h0 : 0 ≤ x) (h : x ≤ 4503599627370496) (hK : K < 52) :
    ∃ y r, floatBits .mul .f64 (floatOfInt .f64 x) (pw 1022) = some y ∧ floatBits .mul .f64 y (pw (K + 52)) = some r ∧ W64 r ∧ canonW r = rw' false (x * (2 ^ K : Nat)) ∧ (0 < x → canonW (op r) = rw' false (-x * (2 ^ K : Nat))) := by
  have hI := INF_lt
  obtain ⟨h1, h2⟩ := scaled_word (K := K) h0
  have hrep : Rep (x.natAbs * 2 ^ 1022) := rep_bits x.natAbs 1022 (by omega)
  have hfin : rnd (x.natAbs * 2 ^ 1022) < INF := by
    refine rnd_fin ?_
    have e := G_split 1023 1022 (by decide)
    have h1 := Nat.two_pow_pos 1023
    rw [e]
    generalize 2 ^ 1022 = k at *
    generalize 2 ^ 1023 = g at *
    rw [← Nat.mul_assoc]
    exact Nat.mul_le_mul_right k (by omega)
  have hy : floatBits .mul .f64 (floatOfInt .f64 x) (pw 1022) = some (wd false (rnd (x.natAbs * 2 ^ 1022))) := by
    have := mul_pw (n := x) (k := 1022) (by omega) (by omega)
    rw [decide_eq_false (by omega), Nat.min_eq_left (by omega)] at this
    exact this
  have hp := pw_lt (k := K + 52) (by omega)
  have e1 : mg (wd false (rnd (x.natAbs * 2 ^ 1022))) = rnd (x.natAbs * 2 ^ 1022) := mg_wd (by omega)
  have e2 : ng (wd false (rnd (x.natAbs * 2 ^ 1022))) = false := ng_wd (by omega)
  have hr : floatBits .mul .f64 (wd false (rnd (x.natAbs * 2 ^ 1022))) (pw (K + 52)) = some (wd false (min (rnd (x.natAbs * 2 ^ K)) INF)) := by
    show double.mul _ _ = _
    rw [mul_fin (by rw [e1]; exact hfin) (by rw [mg_small (by omega)]; exact hp), e2, ng_small (by omega), e1, mg_small (by omega), V_pw, hrep.eq]
    have : x.natAbs * 2 ^ 1022 * 2 ^ (K + 52) = Q * (x.natAbs * 2 ^ K) := by
      rw [Q_split 1022 52 (by decide), Nat.pow_add]
      generalize 2 ^ 1022 = g
      generalize 2 ^ 52 = k
      ac_rfl
    rw [this, rnd2_Q]; rfl
  exact ⟨_, _, hy, hr, wd_lt (by omega), h1, h2⟩

def cutH (x : Nat) : Nat :=
  let c := (floatBits .mul .f64 4728779608772575232 x).getD 0
  (floatBits .sub .f64 c ((floatBits .sub .f64 c x).getD 0)).getD 0
def cutL (x : Nat) : Nat := (floatBits .sub .f64 x (cutH x)).getD 0
theorem cut_unique {x c d h l : Nat} (k : floatBits .mul .f64 4728779608772575232 x = some c ∧ floatBits .sub .f64 c x = some d ∧ floatBits .sub .f64 c d = some h ∧ floatBits .sub .f64 x h = some l) : cutH x = h ∧ cutL x = l := by
  obtain ⟨k1, k2, k3, k4⟩ := k
  have e : cutH x = h := by unfold cutH; simp only [k1, k2, k3, Option.getD_some]
  exact ⟨e, by unfold cutL; rw [e, k4]; rfl⟩
def splitW (x : Nat) : Nat × Nat := if mg x ≤ 9092767647661031424 then (canonW (cutH x), canonW (cutL x)) else (canonW x, 0)
theorem split_ways {x : Nat} (hx : W64 x) : (finB x = false ∧ splitW x = (canonW x, 0)) ∨ (finB x = true ∧ ltW 9092767647661031424 (mg x) = true ∧ splitW x = (canonW x, 0)) ∨
    (finB x = true ∧ ltW 9092767647661031424 (mg x) = false ∧ ∃ h l, (∃ c d, floatBits .mul .f64 4728779608772575232 x = some c ∧ floatBits .sub .f64 c x = some d ∧ floatBits .sub .f64 c d = some h ∧ floatBits .sub .f64 x h = some l) ∧ splitW x = (canonW h, canonW l)) := by
  have hI := INF_eq
  by_cases hf : mg x < INF
  · right
    have l1 := ltW_small (x := 9092767647661031424) (by omega) hf
    by_cases hs : mg x ≤ 9092767647661031424
    · right
      obtain ⟨c, d, h, l, A, Ah, Al, k, st, _⟩ := cut_word hx (V_le996 hs)
      obtain ⟨e1, e2⟩ := cut_unique st
      exact ⟨finB_true.2 hf, by rw [l1]; simp; omega, h, l, ⟨c, d, st⟩, by unfold splitW; rw [if_pos hs, e1, e2]⟩
    · left
      exact ⟨finB_true.2 hf, by rw [l1]; simp; omega, by unfold splitW; rw [if_neg hs]⟩
  · left
    exact ⟨finB_false.2 (by omega), by unfold splitW; rw [if_neg (by omega)]⟩
theorem rsplit_ways {x : Nat} (hx : W64 x) (n : Int) (hn : n = mg x) : (9092767647661031424 < n ∧ splitW x = (canonW x, 0)) ∨
    (n ≤ 9092767647661031424 ∧ ∃ h l c d, floatBits .mul .f64 4728779608772575232 x = some c ∧ floatBits .sub .f64 c x = some d ∧ floatBits .sub .f64 c d = some h ∧ floatBits .sub .f64 x h = some l ∧ splitW x = (canonW h, canonW l)) := by
  by_cases hs : mg x ≤ 9092767647661031424
  · right
    obtain ⟨c, d, h, l, A, Ah, Al, k, st, _⟩ := cut_word hx (V_le996 hs)
    obtain ⟨e1, e2⟩ := cut_unique st
    exact ⟨by omega, h, l, c, d, st.1, st.2.1, st.2.2.1, st.2.2.2, by unfold splitW; rw [if_pos hs, e1, e2]⟩
  · left
    exact ⟨by omega, by unfold splitW; rw [if_neg hs]⟩
theorem splitW_lt (x : Nat) (hx : W64 x) : W64 (splitW x).1 ∧ W64 (splitW x).2 := by
  rcases split_ways hx with ⟨_, e⟩ | ⟨_, _, e⟩ | ⟨_, _, h, l, ⟨c, d, k1, k2, k3, k4⟩, e⟩
  · rw [e]; exact ⟨hx.canon, show (0 : Nat) < 2 ^ 64 by decide⟩
  · rw [e]; exact ⟨hx.canon, show (0 : Nat) < 2 ^ 64 by decide⟩
  · rw [e]; exact ⟨(floatBits_lt k3).canon, (floatBits_lt k4).canon⟩
end TF
