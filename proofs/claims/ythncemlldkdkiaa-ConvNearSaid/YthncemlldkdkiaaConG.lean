/- Whole numbers come back. -/
import Derived.Test.YthncemlldkdkiaaConF
namespace TF
open Ieee Go Go.RowKit

theorem fint_back {i : Int} (h1 : -9007199254740992 ≤ i) (h2 : i ≤ 9007199254740992) : ∃ f : Nat, floatOfInt .f64 i = f ∧ W64 f ∧ roundI f = (i, true) ∧ floorI f = (i, true) := by
  have hI := INF_eq
  have hQ := Q_pos
  have hrep : Rep (i.natAbs * Q) := rep_Q (by omega)
  have hV := hrep.eq
  have hr : rnd (i.natAbs * Q) < 4890909195324358656 := by
    refine V_lt_iff.1 ?_
    rw [hV, V_two63']
    exact Nat.mul_lt_mul_of_pos_right (by omega) hQ
  have he := fi_eq i
  rw [Nat.min_eq_left (by omega)] at he
  refine ⟨_, he, wd_lt (by omega), ?_, ?_⟩
  all_goals
    generalize rnd (i.natAbs * Q) = r at *
    have hm : mg (wd (decide (i < 0)) r) = r := mg_wd (by omega)
    have hn : ng (wd (decide (i < 0)) r) = decide (i < 0) := ng_wd (by omega)
    have hf : fits (wd (decide (i < 0)) r) = true := by
      unfold fits rk
      rw [isN_false.2 (by rw [hm]; omega), hm, hn]
      by_cases hi : i < 0 <;> simp [hi] <;> omega
    have hnr : nr (V r) = i.natAbs := by
      rw [hV, nr_whole (Nat.mul_mod_left _ _), Nat.mul_div_cancel _ hQ]
  · rw [round_is, hf, if_pos rfl]
    refine Prod.ext ?_ rfl
    show rdI _ = i
    unfold rdI sg
    rw [hm, hn]
    dsimp only
    rw [hnr]
    by_cases hi : i < 0
    · rw [decide_eq_true hi, if_pos rfl]; omega
    · rw [decide_eq_false hi, if_neg Bool.false_ne_true]; omega
  · rw [floor_is, hf, if_pos rfl]
    refine Prod.ext ?_ rfl
    show dnI _ = i
    unfold dnI iv
    rw [hm, hn, hV]
    have hQ2 : (Q : Int) ≠ 0 := by omega
    by_cases hi : i < 0
    · rw [decide_eq_true hi, if_pos rfl, Int.natCast_mul, ← Int.neg_mul, Int.mul_ediv_cancel _ hQ2]; omega
    · rw [decide_eq_false hi, if_neg Bool.false_ne_true, Int.natCast_mul, Int.mul_ediv_cancel _ hQ2]; omega
end TF
