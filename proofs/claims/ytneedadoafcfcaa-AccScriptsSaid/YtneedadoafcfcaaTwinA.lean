/- The rounded sum of two floats and its exact rest, by three rounded operations, none of which loses anything but the first. -/
import Derived.Test.YtneedadoafcfcaaFloatC
namespace TF

theorem rI_nonneg {n : Int} (h : 0 ≤ n) : 0 ≤ rI n := by unfold rI; rw [if_neg (by omega)]; omega
theorem rI_nonpos {n : Int} (h : n ≤ 0) : rI n ≤ 0 := by
  unfold rI
  by_cases h0 : n < 0
  · rw [if_pos h0]; omega
  · obtain rfl : n = 0 := by omega
    decide

theorem dvd_int {d : Nat} {x : Int} : d ∣ x.natAbs ↔ (d : Int) ∣ x := by
  rw [← Int.natAbs_dvd_natAbs, Int.natAbs_natCast]
theorem dvd_rI {k : Nat} {n : Int} (h : k ≤ E (rnd n.natAbs)) : ((2 ^ k : Nat) : Int) ∣ rI n := by
  rw [← dvd_int, rI_natAbs]; exact V_dvd h
theorem rI_exact {n : Int} {k : Nat} (h : ((2 ^ k : Nat) : Int) ∣ n) (he : E (rnd n.natAbs) ≤ k) : rI n = n := by
  rw [← dvd_int] at h
  have := rnd_exact h he
  unfold rI; rw [this]; split <;> omega

theorem near_even (k : Nat) (c : Int) (h : c.natAbs ≤ 2 ^ 54) : ∃ x : Int, Rep x.natAbs ∧ (x - (2 ^ k : Nat) * c).natAbs ≤ 2 ^ k := by
  refine ⟨(2 ^ (k + 1) : Nat) * (c / 2), ?_, ?_⟩
  · rw [Int.natAbs_mul, Int.natAbs_natCast, Nat.mul_comm]
    exact rep_bits _ _ (by omega)
  · have e : ((2 ^ (k + 1) : Nat) : Int) * (c / 2) - (2 ^ k : Nat) * c = (2 ^ k : Nat) * (2 * (c / 2) - c) := by
      rw [Nat.pow_succ, Int.natCast_mul]; grind
    rw [e, Int.natAbs_mul, Int.natAbs_natCast]
    have : (2 * (c / 2) - c).natAbs ≤ 1 := by omega
    exact Nat.le_trans (Nat.mul_le_mul_left _ this) (by omega)

theorem fast_two_sum {A B : Int} {ra rb : Nat} (hA : A.natAbs = V ra) (hB : B.natAbs = V rb) (h : rb ≤ ra) :
    Rep (rI (A + B) - A).natAbs ∧ Rep (A + B - rI (A + B)).natAbs ∧ (rI (A + B) - A).natAbs ≤ max A.natAbs (rI (A + B)).natAbs ∧ (A + B - rI (A + B)).natAbs ≤ B.natAbs := by
  have hAB : B.natAbs ≤ A.natAbs := by rw [hA, hB]; exact V_le h
  have hbest : (rI (A + B) - (A + B)).natAbs ≤ (A - (A + B)).natAbs := rI_best (A + B) A ⟨ra, hA.symm⟩
  have herr : (A + B - rI (A + B)).natAbs ≤ B.natAbs := by omega
  have hbd : (rI (A + B) - A).natAbs ≤ max A.natAbs (rI (A + B)).natAbs := by
    by_cases h0 : 0 ≤ A
    · have := rI_nonneg (show 0 ≤ A + B by omega); omega
    · have := rI_nonpos (show A + B ≤ 0 by omega); omega
  have hdA : ((2 ^ E ra : Nat) : Int) ∣ A := by rw [← dvd_int, hA]; exact V_dvd (Nat.le_refl _)
  have hdB : ((2 ^ E rb : Nat) : Int) ∣ B := by rw [← dvd_int, hB]; exact V_dvd (Nat.le_refl _)
  have hk := E_mono h
  have hdA' : ((2 ^ E rb : Nat) : Int) ∣ A := Int.dvd_trans (by rw [← dvd_int, Int.natAbs_natCast]; exact Nat.pow_dvd_pow 2 hk) hdA
  have hdn : ((2 ^ E rb : Nat) : Int) ∣ A + B := Int.dvd_add hdA' hdB
  refine ⟨?_, ?_, hbd, herr⟩
  · by_cases he : E (rnd (A + B).natAbs) ≤ E rb
    · rw [rI_exact hdn he, show A + B - A = B from by omega]; exact ⟨rb, hB.symm⟩
    · have hS : ((2 ^ (E rb + 1) : Nat) : Int) ∣ rI (A + B) := dvd_rI (by omega)
      have hVb := V_lt_E rb
      have hp : 2 ^ (E rb + 1) = 2 * 2 ^ E rb := by rw [Nat.pow_succ, Nat.mul_comm]
      by_cases hka : E rb + 1 ≤ E ra
      · refine rep_dvd (D := E rb + 1) ?_ ?_
        · rw [dvd_int]
          exact Int.dvd_sub hS (Int.dvd_trans (by rw [← dvd_int, Int.natAbs_natCast]; exact Nat.pow_dvd_pow 2 hka) hdA)
        · rw [hp]; omega
      · have hkk : E ra = E rb := by omega
        have hMb := M_lt rb
        have hVa := V_lt_E ra
        rw [hkk] at hVa
        have hVb' : V rb = M rb * 2 ^ E rb := rfl
        obtain ⟨c, hc⟩ := hdn
        have hpos := Nat.two_pow_pos (E rb)
        have hone : (rI (A + B) - (A + B)).natAbs ≤ 2 ^ E rb := by
          have hcb : c.natAbs ≤ 2 ^ 54 := by
            have e : (A + B).natAbs = 2 ^ E rb * c.natAbs := by rw [hc, Int.natAbs_mul, Int.natAbs_natCast]
            have e' : 2 ^ E rb * c.natAbs ≤ 2 ^ E rb * 2 ^ 54 := by omega
            exact Nat.le_of_mul_le_mul_left e' hpos
          obtain ⟨x, hx, hxb⟩ := near_even (E rb) c hcb
          rw [← hc] at hxb
          exact Nat.le_trans (rI_best (A + B) x hx) hxb
        refine rep_dvd (D := E rb) ?_ ?_
        · rw [dvd_int]
          exact Int.dvd_sub (Int.dvd_trans (by rw [← dvd_int, Int.natAbs_natCast]; exact Nat.pow_dvd_pow 2 (by omega)) hS) hdA'
        · have : M rb * 2 ^ E rb + 2 ^ E rb ≤ 2 ^ 53 * 2 ^ E rb := by
            rw [← Nat.succ_mul]; exact Nat.mul_le_mul_right _ hMb
          omega
  · by_cases he : E (rnd (A + B).natAbs) ≤ E rb
    · rw [rI_exact hdn he, show A + B - (A + B) = 0 from by omega]; exact ⟨0, V_zero⟩
    · have hS : ((2 ^ E rb : Nat) : Int) ∣ rI (A + B) := dvd_rI (by omega)
      refine rep_dvd (D := E rb) ?_ ?_
      · rw [dvd_int]; exact Int.dvd_sub hdn hS
      · have := V_lt_E rb; omega
end TF
