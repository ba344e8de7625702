/- One product: as the machine multiplies. -/
import Derived.Test.YtneedadoafcfcaaAccM
import Derived.Test.YtneedadoafcfcaaAccTw
namespace Go.Proofs.Ytneedadoafcfcaa
open Go Go.RowKit TF

theorem prod_two {x y : Nat} :
    (Ieee.double.mul x y = none ∧ valG (mulG newG x y) = QN) ∨ (∃ r, Ieee.double.mul x y = some r ∧ r < 2 ^ 64 ∧ isN r = false ∧ (mg r = 0 ∧ mg x ≠ 0 ∧ mg y ≠ 0 → valG (mulG newG x y) = 0) ∧ (¬ (mg r = 0 ∧ mg x ≠ 0 ∧ mg y ≠ 0) → valG (mulG newG x y) = r)) := by
  have hI := INF_eq
  have wI : ∀ s, wd s INF < 2 ^ 64 ∧ isN (wd s INF) = false ∧ mg (wd s INF) ≠ 0 := fun s => ⟨wd_lt INF_lt, by cases s <;> kernel_rfl, by rw [mg_wd INF_lt, hI]; decide⟩
  by_cases hf : mg x < INF ∧ mg y < INF
  · obtain ⟨fx, fy⟩ := hf
    have em : mulG newG x y = ⟨iv x * iv y * 268435456, 1, if (mg x = 0 ∨ mg y = 0) ∧ (ng x ^^ ng y) = true then 1 else 0, false, false, false⟩ := by
      unfold mulG
      rw [if_pos ⟨fx, fy⟩]
      show AccG.mk (0 + _) (0 + 1) (0 + _) false false false = _
      rw [Int.zero_add, Int.zero_add, Int.zero_add]
    have hle : min (rnd2 (V (mg x) * V (mg y))) INF < 2 ^ 63 := Nat.lt_of_le_of_lt (Nat.min_le_right _ _) INF_lt
    refine .inr ⟨_, mul_fin fx fy, wd_lt hle, isN_false.2 (by rw [mg_wd hle]; exact Nat.min_le_right _ _), ?_⟩
    rw [mg_wd hle]
    have hc : (mulG newG x y).cnt ≠ 0 := by rw [em]; show (1 : Int) ≠ 0; decide
    have habs : (mulG newG x y).X.natAbs = V (mg x) * V (mg y) * 268435456 := by
      rw [em]; show (iv x * iv y * 268435456).natAbs = _
      rw [Int.natAbs_mul, Int.natAbs_mul, iv_natAbs, iv_natAbs]; rfl
    by_cases h0 : mg x = 0 ∨ mg y = 0
    · have hv : V (mg x) * V (mg y) = 0 := by rcases h0 with h | h <;> rw [h, V_zero] <;> simp
      refine ⟨fun k => h0.elim (fun h => absurd h k.2.1) (fun h => absurd h k.2.2), fun _ => ?_⟩
      rw [hv, rnd2_eq_zero 0 rfl, Nat.zero_min]
      cases hs : (ng x ^^ ng y)
      · rw [valG_fin hc (by rw [em]) (by rw [em]) (by rw [em]) (by rw [em, hs]; simp), habs, hv, Nat.zero_mul, show rung 0 (-2176) = 0 by simp [rung], Nat.zero_min, if_neg (fun h => h.2 rfl)]; rfl
      · rw [valG_nz hc (by rw [em]) (by rw [em]) (by rw [em]) (by rw [em, hs]; show (if _ then (1 : Int) else 0) = 1; rw [if_pos ⟨h0, rfl⟩])]
    · have hx0 : mg x ≠ 0 := fun h => h0 (.inl h)
      have hy0 : mg y ≠ 0 := fun h => h0 (.inr h)
      have hval := valG_fin hc (by rw [em]) (by rw [em]) (by rw [em]) (by rw [em]; show (if _ then (1 : Int) else 0) ≠ 1; rw [if_neg (fun h => h0 h.1)]; decide)
      rw [habs, rung_two] at hval
      rw [hval]
      generalize min (rnd2 (V (mg x) * V (mg y))) INF = R
      constructor
      · rintro ⟨rfl, -, -⟩; rw [if_neg (fun h => h.2 rfl)]
      · intro hk
        have hR : R ≠ 0 := fun h => hk ⟨h, hx0, hy0⟩
        have p1 : 0 < V (mg x) := Nat.pos_of_ne_zero (fun h => hx0 (V_eq_zero.1 h))
        have p2 : 0 < V (mg y) := Nat.pos_of_ne_zero (fun h => hy0 (V_eq_zero.1 h))
        have p3 : (0 : Int) < (V (mg x) : Int) * (V (mg y) : Int) := Int.mul_pos (by omega) (by omega)
        have eX : (mulG newG x y).X = iv x * iv y * 268435456 := by rw [em]
        rw [eX]
        unfold iv
        cases ng x <;> cases ng y <;> simp only [Bool.xor_false, Bool.xor_true, Bool.not_true, Bool.not_false, if_true, Bool.false_eq_true, if_false, Int.neg_mul, Int.mul_neg, Int.neg_neg]
        · rw [if_neg (by omega)]; rfl
        · rw [if_pos ⟨by omega, hR⟩]
        · rw [if_pos ⟨by omega, hR⟩]
        · rw [if_neg (by omega)]; rfl
  · have hc : ∀ g : AccG, g.cnt = 1 → g.cnt ≠ 0 := fun g h => by omega
    rcases mul_odd hf with ⟨h1, h2⟩ | ⟨h1, h2⟩
    · refine .inl ⟨h2, ?_⟩
      unfold mulG
      rw [if_neg hf, if_pos h1]
      exact valG_nn (by decide) rfl
    · refine .inr ⟨_, h2, (wI _).1, (wI _).2.1, fun h => absurd h.1 (wI _).2.2, fun _ => ?_⟩
      unfold mulG
      rw [if_neg hf, if_neg h1]
      cases (ng x ^^ ng y)
      · rw [if_neg (by decide)]; exact (valG_up (by decide) rfl rfl rfl).trans rfl
      · rw [if_pos rfl]; exact valG_dn (by decide) rfl rfl rfl
end Go.Proofs.Ytneedadoafcfcaa
