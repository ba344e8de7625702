/- The laws of layer 2 about values: order, opposites, what comes back. -/
import Derived.Test.YthncemlldkdkiaaConD
namespace TF
open Ieee Go Go.RowKit

/-- a function of the magnitude, with the sign. -/
def sg (φ : Nat → Nat) (x : Nat) : Int := if ng x then -(φ (mg x) : Int) else (φ (mg x) : Int)
theorem sg_mono {φ : Nat → Nat} (h0 : φ 0 = 0) {x y : Nat} (hm : ∀ a b, a ≤ b → a ≤ max (mg x) (mg y) → b ≤ max (mg x) (mg y) → φ a ≤ φ b) (h : rk x ≤ rk y) : sg φ x ≤ sg φ y := by
  unfold rk at h; unfold sg
  cases hx : ng x <;> cases hy : ng y <;> rw [hx, hy] at h <;> simp only [if_true, Bool.false_eq_true, if_false] at h ⊢
  · have := hm (mg x) (mg y) (by omega) (by omega) (by omega); omega
  · have e1 : mg x = 0 := by omega
    have e2 : mg y = 0 := by omega
    rw [e1, e2, h0]; omega
  · omega
  · have := hm (mg y) (mg x) (by omega) (by omega) (by omega); omega
theorem rk_of_le {x y : Nat} (h : leW x y = true) : isN x = false ∧ isN y = false ∧ rk x ≤ rk y := by
  unfold leW at h
  simp only [Bool.and_eq_true, Bool.not_eq_true', decide_eq_true_eq] at h
  exact ⟨h.1.1, h.1.2, h.2⟩
theorem nr_zero : nr 0 = 0 := by unfold nr; simp

/-- the signed whole numbers. -/
def rdI (x : Nat) : Int := sg (fun m => nr (V m)) x
def dnI (x : Nat) : Int := iv x / (Q : Int)
def fits (x : Nat) : Bool := !isN x && decide (-4890909195324358656 ≤ rk x) && decide (rk x < 4890909195324358656)
theorem flK_div (x : Nat) : (if ng x then -(flK (ng x) (V (mg x)) : Int) else (flK (ng x) (V (mg x)) : Int)) = dnI x := by
  have hQ : (0 : Int) < Q := by have := Q_pos; omega
  unfold dnI iv flK
  cases ng x
  · simp
  · simp only [if_true, true_and]
    have h := Int.mul_ediv_add_emod (V (mg x) : Int) Q
    have h2 := Nat.div_add_mod (V (mg x)) Q
    have h3 := Nat.mod_lt (V (mg x)) Q_pos
    generalize V (mg x) = v at *
    rw [eq_comm]
    by_cases hz : v % Q = 0
    · rw [if_neg (by simp [hz])]
      refine Int.ediv_eq_of_eq_mul_left (by omega) ?_
      rw [hz, Nat.add_zero] at h2
      have : (v : Int) = (v / Q : Nat) * (Q : Int) := by rw [← Int.natCast_mul, Nat.mul_comm, h2]
      rw [Int.neg_mul, Nat.add_zero]; omega
    · rw [if_pos hz]
      have e : -(v : Int) = ((Q : Int) - (v % Q : Nat)) + (-((v / Q : Nat) + 1 : Int)) * (Q : Int) := by
        have : (v : Int) = (v / Q : Nat) * (Q : Int) + (v % Q : Nat) := by rw [← Int.natCast_mul, Nat.mul_comm, ← Int.natCast_add, h2]
        rw [Int.neg_mul, Int.add_mul]; omega
      rw [e, Int.add_mul_ediv_right _ _ (by omega), Int.ediv_eq_zero_of_lt (by omega) (by omega)]
      simp
theorem dn_mono {x y : Nat} (h : rk x ≤ rk y) : dnI x ≤ dnI y := Int.ediv_le_ediv (by have := Q_pos; omega) (iv_le h)
theorem rd_mono {x y : Nat} (h : rk x ≤ rk y) : rdI x ≤ rdI y :=
  sg_mono (by show nr (V 0) = 0; rw [V_zero, nr_zero]) (fun a b hab _ _ => nr_mono (V_le hab)) h
/-- what Round and Floor answer. -/
theorem round_is (x : Nat) : roundI x = if fits x then (rdI x, true) else (0, false) := by
  have hI := INF_eq
  unfold fits roundI rdI sg
  rcases Nat.lt_or_ge (mg x) INF with h | h
  · rw [if_pos h, isN_false.2 (by omega)]
    unfold whI rk
    rcases Nat.lt_trichotomy (mg x) 4890909195324358656 with hl | hl | hl
    · obtain ⟨r, k, h1, h2, h3, h4, h5⟩ := near_ways hl
      cases ng x
      · rw [if_neg Bool.false_ne_true, if_neg Bool.false_ne_true, if_neg Bool.false_ne_true, if_pos (by omega), if_pos (by simp; omega)]
      · rw [if_pos rfl, if_pos rfl, if_pos rfl, if_pos (by omega), if_pos (by simp; omega)]
    all_goals
      obtain ⟨v1, v2, v3, v4⟩ := V_ge_two63 (r := mg x) (by omega)
      have hw := nr_whole v1
      rw [hw]
    · have := v4 hl
      cases ng x
      · rw [if_neg Bool.false_ne_true, if_neg Bool.false_ne_true, if_neg (by omega), if_neg (by simp; omega)]
      · rw [if_pos rfl, if_pos rfl, if_pos rfl, if_pos (by omega), if_pos (by simp; omega)]
        dsimp only; rw [hw]
    · have := v3 (by omega)
      cases ng x
      · rw [if_neg Bool.false_ne_true, if_neg Bool.false_ne_true, if_neg (by omega), if_neg (by simp; omega)]
      · rw [if_pos rfl, if_pos rfl, if_neg (by omega), if_neg (by simp; omega)]
  · rw [if_neg (by omega), if_neg]
    unfold rk
    cases ng x <;> simp <;> omega
theorem floor_is (x : Nat) : floorI x = if fits x then (dnI x, true) else (0, false) := by
  have hI := INF_eq
  rw [← flK_div]
  unfold fits floorI
  rcases Nat.lt_or_ge (mg x) INF with h | h
  · rw [if_pos h, isN_false.2 (by omega)]
    obtain ⟨r1, r2⟩ := flw_rk h
    unfold whI rk
    have hk1 : mg x ≤ 4890909195324358656 → flK (ng x) (V (mg x)) ≤ 9223372036854775808 := by
      intro hc
      have hv := V_le hc
      rw [V_two63'] at hv
      have hQ := Q_pos
      unfold flK
      by_cases hz : V (mg x) % Q = 0
      · rw [if_neg (by simp [hz]), Nat.add_zero]
        exact (Nat.div_le_iff_le_mul_add_pred hQ).2 (by rw [Nat.mul_comm]; omega)
      · have h3 : V (mg x) < 9223372036854775808 * Q := by
          rcases Nat.lt_or_eq_of_le hv with h | h
          · exact h
          · rw [h, Nat.mul_mod_left] at hz; exact absurd rfl hz
        have := (Nat.div_lt_iff_lt_mul hQ).2 h3
        split <;> omega
    have hk2 : mg x < 4890909195324358656 → V (mg x) / Q < 9223372036854775808 := by
      intro hc
      have hv := V_lt hc
      rw [V_two63'] at hv
      exact (Nat.div_lt_iff_lt_mul Q_pos).2 hv
    have hk3 : 4890909195324358656 ≤ mg x → 9223372036854775808 ≤ V (mg x) / Q := fun hc => (V_ge_two63 hc).2.1
    have hk4 : 4890909195324358656 < mg x → 9223372036854775808 < V (mg x) / Q := fun hc => (V_ge_two63 (by omega)).2.2.1 (by omega)
    cases hg : ng x
    · rw [hg] at hk1
      have hf : flK false (V (mg x)) = V (mg x) / Q := by unfold flK; simp
      rw [hf] at hk1 ⊢
      rw [if_neg Bool.false_ne_true, if_neg Bool.false_ne_true, if_neg Bool.false_ne_true]
      by_cases hc : mg x < 4890909195324358656
      · have := hk2 hc
        rw [if_pos (by omega), if_pos (by simp; omega)]
      · have := hk3 (by omega)
        rw [if_neg (by omega), if_neg (by simp; omega)]
    · rw [hg] at hk1
      have hf : V (mg x) / Q ≤ flK true (V (mg x)) := by unfold flK; omega
      rw [if_pos rfl, if_pos rfl, if_pos rfl]
      by_cases hc : mg x ≤ 4890909195324358656
      · have := hk1 hc
        rw [if_pos (by omega), if_pos (by simp; omega)]
      · have := hk4 (by omega)
        rw [if_neg (by omega), if_neg (by simp; omega)]
  · rw [if_neg (by omega), if_neg]
    unfold rk
    cases ng x <;> simp <;> omega
theorem clamp_is {x : Nat} (most : Int) (h : isN x = false) : clampI x most = sg (fun m => min (max most 0).toNat (nr (V m))) x := by
  rw [clampI_sign most h]
  unfold sg
  dsimp only
  split <;> omega
theorem clamp_mono {x y : Nat} (most : Int) (h : leW x y = true) : clampI x most ≤ clampI y most := by
  obtain ⟨hx, hy, hr⟩ := rk_of_le h
  rw [clamp_is most hx, clamp_is most hy]
  refine sg_mono ?_ (fun a b hab _ _ => ?_) hr
  · show min _ (nr (V 0)) = 0; rw [V_zero, nr_zero]; omega
  · have := nr_mono (V_le hab); show min _ _ ≤ min _ _; omega
end TF
