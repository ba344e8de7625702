/- Quotients: the rung nearest to the exact quotient. -/
import Derived.Test.YtneedadoafcfcaaFloatC
namespace TF
open Ieee

theorem sticky {D n : Nat} (hn : 0 < n) (Y : Nat) :
    (2 * Y ≤ 2 * (D / n) + (if D % n = 0 then 0 else 1) ↔ n * Y ≤ D) ∧ (2 * Y = 2 * (D / n) + (if D % n = 0 then 0 else 1) ↔ n * Y = D) ∧ (2 * (D / n) + (if D % n = 0 then 0 else 1) ≤ 2 * Y ↔ D ≤ n * Y) := by
  have e := Nat.div_add_mod D n
  have l := Nat.mod_lt D hn
  generalize D / n = f at *
  generalize D % n = m at *
  have k1 : Y ≤ f → n * Y ≤ n * f := fun h => Nat.mul_le_mul_left _ h
  have k2 : f + 1 ≤ Y → n * f + n ≤ n * Y := fun h => by have := Nat.mul_le_mul_left n h; rwa [Nat.mul_succ] at this
  have k3 : Y = f → n * Y = n * f := fun h => by rw [h]
  have k4 : Y + 1 ≤ f → n * Y + n ≤ n * f := fun h => by have := Nat.mul_le_mul_left n h; rwa [Nat.mul_succ] at this
  rcases Nat.lt_trichotomy Y f with h | h | h
  · have := k4 h
    refine ⟨⟨fun _ => by omega, fun _ => by split <;> omega⟩, ⟨fun h' => by split at h' <;> omega, fun h' => by omega⟩, ⟨fun h' => by split at h' <;> omega, fun h' => by omega⟩⟩
  · have := k3 h
    refine ⟨⟨fun _ => by omega, fun _ => by split <;> omega⟩, ⟨fun h' => by split at h' <;> omega, fun h' => by split <;> omega⟩, ⟨fun h' => by split at h' <;> omega, fun h' => by split <;> omega⟩⟩
  · have := k2 h
    refine ⟨⟨fun h' => by split at h' <;> omega, fun h' => by omega⟩, ⟨fun h' => by split at h' <;> omega, fun h' => by omega⟩, ⟨fun h' => by omega, fun h' => by split <;> omega⟩⟩

theorem V_succ_le (s : Nat) : V (s + 1) ≤ 2 ^ 53 * 2 ^ E s := by
  have h1 := V_succ s
  have h2 := M_lt s
  have : V s ≤ (2 ^ 53 - 1) * 2 ^ E s := Nat.mul_le_mul_right _ (by omega)
  have h3 : (2 ^ 53 - 1) * 2 ^ E s + 2 ^ E s = 2 ^ 53 * 2 ^ E s := by rw [← Nat.succ_mul]
  omega

theorem near_sticky {D n a b r : Nat} (hn : 0 < n) (hf : 2 ^ 53 ≤ D / n) (h : Near ((2 * (D / n) + (if D % n = 0 then 0 else 1)) * 2 ^ a) (2 ^ b) r) : Near (D * (2 * 2 ^ a)) (n * 2 ^ b) r := by
  have hA := Nat.two_pow_pos a
  have hB := Nat.two_pow_pos b
  have st := sticky (D := D) hn
  have hD : n * 2 ^ 53 ≤ D := Nat.le_trans (Nat.mul_le_mul_left n hf) (Nat.mul_div_le D n)
  -- a middle between s and s + 1: a whole number of units, or far below
  have mid : ∀ s, (∃ Y, 2 ^ b * (V s + V (s + 1)) = 4 * 2 ^ a * Y) ∨ (2 ^ b * (V s + V (s + 1)) < 2 * (2 ^ 54 * 2 ^ a)) := by
    intro s
    by_cases hc : a + 2 ≤ E s + b
    · left
      have d1 : 2 ^ E s ∣ V s := V_dvd (Nat.le_refl _)
      have d2 : 2 ^ E s ∣ V (s + 1) := by rw [V_succ]; exact Nat.dvd_add d1 (Nat.dvd_refl _)
      have d3 : 2 ^ b * 2 ^ E s ∣ 2 ^ b * (V s + V (s + 1)) := Nat.mul_dvd_mul_left _ (Nat.dvd_add d1 d2)
      have d4 : 4 * 2 ^ a ∣ 2 ^ b * 2 ^ E s := by
        rw [← Nat.pow_add, show 4 * 2 ^ a = 2 ^ (a + 2) from by rw [Nat.pow_add]; omega]
        exact Nat.pow_dvd_pow 2 (by omega)
      exact Nat.dvd_trans d4 d3
    · right
      have h1 := V_succ_le s
      have h2 := V_lt_succ s
      have h3 : 2 ^ b * (V s + V (s + 1)) < 2 ^ b * (2 * (2 ^ 53 * 2 ^ E s)) := Nat.mul_lt_mul_of_pos_left (by omega) hB
      have h4 : 2 ^ b * 2 ^ E s ≤ 2 * 2 ^ a := by
        rw [← Nat.pow_add, show 2 * 2 ^ a = 2 ^ (a + 1) from by rw [Nat.pow_succ, Nat.mul_comm]]
        exact Nat.pow_le_pow_right (by omega) (by omega)
      have h5 : 2 ^ b * (2 * (2 ^ 53 * 2 ^ E s)) = 2 ^ 54 * (2 ^ b * 2 ^ E s) := by
        rw [show (2 : Nat) ^ 54 = 2 * 2 ^ 53 from rfl]; ac_rfl
      omega
  generalize hσ : (if D % n = 0 then 0 else 1) = σ at *
  generalize hm : 2 * (D / n) + σ = m at *
  have hm54 : 2 ^ 54 ≤ m := by omega
  have e4 : 2 * (D * (2 * 2 ^ a)) = 4 * 2 ^ a * D := by rw [show 4 * 2 ^ a * D = (2 * 2) * 2 ^ a * D from rfl]; ac_rfl
  have e5 : 2 * (m * 2 ^ a) = 2 ^ a * (2 * m) := by ac_rfl
  have e6 : ∀ Y, 4 * 2 ^ a * Y = 2 ^ a * (2 * (2 * Y)) := fun Y => by rw [show 4 * 2 ^ a * Y = (2 * 2) * 2 ^ a * Y from rfl]; ac_rfl
  have e7 : ∀ x Y : Nat, 2 ^ b * x = 4 * 2 ^ a * Y → n * 2 ^ b * x = 4 * 2 ^ a * (n * Y) := by
    intro x Y hx
    rw [Nat.mul_assoc, hx]; ac_rfl
  have far : ∀ x : Nat, 2 ^ b * x < 2 * (2 ^ 54 * 2 ^ a) → n * 2 ^ b * x < 4 * 2 ^ a * D ∧ 2 ^ b * x < 2 * (m * 2 ^ a) := by
    intro x hx
    constructor
    · rw [Nat.mul_assoc]
      refine Nat.lt_of_lt_of_le (Nat.mul_lt_mul_of_pos_left hx hn) ?_
      have : 4 * 2 ^ a * (n * 2 ^ 53) ≤ 4 * 2 ^ a * D := Nat.mul_le_mul_left _ hD
      have e : n * (2 * (2 ^ 54 * 2 ^ a)) = 4 * 2 ^ a * (n * 2 ^ 53) := by
        rw [show (2 : Nat) ^ 54 = 2 * 2 ^ 53 from rfl, show 4 * 2 ^ a = (2 * 2) * 2 ^ a from rfl]; ac_rfl
      omega
    · refine Nat.lt_of_lt_of_le hx ?_
      have : 2 ^ 54 * 2 ^ a ≤ m * 2 ^ a := Nat.mul_le_mul_right _ hm54
      omega
  refine ⟨?_, ?_, ?_, ?_⟩
  · intro s hs
    subst hs
    have h1 := h.lo s rfl
    rw [e4]
    rcases mid s with ⟨Y, hY⟩ | hlt
    · rw [hY, e5, e6] at h1
      have := Nat.le_of_mul_le_mul_left h1 hA
      rw [e7 _ Y hY]
      exact Nat.mul_le_mul_left _ ((st Y).1.1 (by omega))
    · exact Nat.le_of_lt (far _ hlt).1
  · intro s hs heq
    subst hs
    rw [e4] at heq
    rcases mid s with ⟨Y, hY⟩ | hlt
    · rw [e7 _ Y hY] at heq
      have h2 := Nat.eq_of_mul_eq_mul_left (Nat.mul_pos (by omega) hA) heq
      refine h.loe s rfl ?_
      rw [hY, e5, e6, (st Y).2.1.2 h2]
    · have := (far _ hlt).1; omega
  · have h1 := h.hi
    rw [e4]
    rcases mid r with ⟨Y, hY⟩ | hlt
    · rw [hY, e5, e6] at h1
      have := Nat.le_of_mul_le_mul_left h1 hA
      rw [e7 _ Y hY]
      exact Nat.mul_le_mul_left _ ((st Y).2.2.1 (by omega))
    · have := (far _ hlt).2; omega
  · intro heq
    rw [e4] at heq
    rcases mid r with ⟨Y, hY⟩ | hlt
    · rw [e7 _ Y hY] at heq
      have h2 := Nat.eq_of_mul_eq_mul_left (Nat.mul_pos (by omega) hA) heq
      refine h.hie ?_
      rw [hY, e5, e6, (st Y).2.1.2 h2.symm]
    · have := (far _ hlt).1; omega

theorem ac_one (m n k x e : Nat) : m * k * x * (n * e) = m * n * (k * x * e) := by ac_rfl
theorem ac_two (m n e q y : Nat) : m * e * q * (n * y) = m * n * (e * q * y) := by ac_rfl
/-- The quotient of two finite words. -/
theorem div_fin {a b : Nat} (ha : mg a < INF) (hb : mg b < INF) (hb0 : mg b ≠ 0) :
    ∃ r, double.div a b = some (wd (ng a ^^ ng b) (min r INF)) ∧ Near (V (mg a) * Q) (V (mg b)) r := by
  have hM : M (mg b) ≠ 0 := fun h => hb0 (M_eq_zero.1 h)
  have hVb : 0 < V (mg b) := by unfold V; exact Nat.mul_pos (by omega) (Nat.two_pow_pos _)
  unfold Format.div
  rw [read_fin ha, read_fin hb]
  have e : (Datum.number (ng a) (M (mg a)) (-1074 + (E (mg a) : Int))).quotient 54 (Datum.number (ng b) (M (mg b)) (-1074 + (E (mg b) : Int))) =
      some (Datum.number (ng a ^^ ng b) (2 * (M (mg a) <<< (54 + (M (mg b)).log2 - (M (mg a)).log2) / M (mg b)) + (M (mg a) <<< (54 + (M (mg b)).log2 - (M (mg a)).log2) % M (mg b) != 0).toNat)
        (-1074 + (E (mg a) : Int) - (-1074 + (E (mg b) : Int)) - ((54 + (M (mg b)).log2 - (M (mg a)).log2 : Nat) : Int) - 1)) := by
    unfold Datum.quotient
    simp only
    rw [if_neg hM]
  refine ⟨rung (2 * (M (mg a) <<< (54 + (M (mg b)).log2 - (M (mg a)).log2) / M (mg b)) + (M (mg a) <<< (54 + (M (mg b)).log2 - (M (mg a)).log2) % M (mg b) != 0).toNat)
        (-1074 + (E (mg a) : Int) - (-1074 + (E (mg b) : Int)) - ((54 + (M (mg b)).log2 - (M (mg a)).log2 : Nat) : Int) - 1), ?_, ?_⟩
  · show (Datum.quotient 54 _ _).map double.write = _
    rw [e]
    show some (double.nearest _ _ _) = _
    rw [nearest_eq, word_eq]
  · by_cases h0 : M (mg a) = 0
    · have hVa : V (mg a) = 0 := by unfold V; rw [h0, Nat.zero_mul]
      rw [h0, hVa]
      simp only [Nat.zero_shiftLeft, Nat.zero_div, Nat.zero_mod, Nat.mul_zero, Nat.zero_mul]
      have : rung (0 + ((0 : Nat) != 0).toNat) (-1074 + (E (mg a) : Int) - (-1074 + (E (mg b) : Int)) - ((54 + (M (mg b)).log2 - Nat.log2 0 : Nat) : Int) - 1) = 0 := by unfold rung; rw [if_pos (by decide)]
      rw [this]
      exact ⟨fun s hs => by omega, fun s hs => by omega, Nat.le_trans (Nat.le_of_eq (Nat.mul_zero 2)) (Nat.zero_le _), fun _ => rfl⟩
    · generalize hmore : 54 + (M (mg b)).log2 - (M (mg a)).log2 = more
      have hlm := Nat.log2_self_le h0
      have hln : M (mg b) < 2 ^ ((M (mg b)).log2 + 1) := Nat.lt_log2_self
      have hn0 : 0 < M (mg b) := by omega
      have hσ : (M (mg a) <<< more % M (mg b) != 0).toNat = if M (mg a) <<< more % M (mg b) = 0 then 0 else 1 := by
        by_cases hz : M (mg a) <<< more % M (mg b) = 0 <;> simp [hz]
      rw [hσ]
      have hD : 2 ^ 53 ≤ M (mg a) <<< more / M (mg b) := by
        rw [Nat.le_div_iff_mul_le hn0, Nat.shiftLeft_eq]
        have h1 : 2 ^ 53 * M (mg b) ≤ 2 ^ (54 + (M (mg b)).log2) := by
          rw [show 54 + (M (mg b)).log2 = 53 + ((M (mg b)).log2 + 1) from by omega, Nat.pow_add]
          exact Nat.mul_le_mul_left _ (by omega)
        have h2 : 2 ^ (54 + (M (mg b)).log2) ≤ 2 ^ ((M (mg a)).log2 + more) := Nat.pow_le_pow_right (by omega) (by omega)
        have h3 : 2 ^ ((M (mg a)).log2 + more) ≤ M (mg a) * 2 ^ more := by rw [Nat.pow_add]; exact Nat.mul_le_mul_right _ hlm
        omega
      have hr := near_sticky hn0 hD (near_rung (-1074 + (E (mg a) : Int) - (-1074 + (E (mg b) : Int)) - (more : Int) - 1))
      generalize rung _ _ = r at hr ⊢
      have hT := T_int
      generalize hx : (-1074 + (E (mg a) : Int) - (-1074 + (E (mg b) : Int)) - (more : Int) - 1 + 1074).toNat = x at hr
      generalize hy : (-(-1074 + (E (mg a) : Int) - (-1074 + (E (mg b) : Int)) - (more : Int) - 1 + 1074)).toNat = y at hr
      refine hr.ratio (Nat.mul_pos hn0 (Nat.two_pow_pos _)) hVb ?_
      have hexp : more + (x + 1) + E (mg b) = E (mg a) + T + y := by omega
      have : 2 ^ more * (2 * 2 ^ x) * 2 ^ E (mg b) = 2 ^ E (mg a) * Q * 2 ^ y := by
        rw [show 2 * 2 ^ x = 2 ^ (x + 1) from by rw [Nat.pow_succ, Nat.mul_comm]]
        unfold Q
        rw [← Nat.pow_add, ← Nat.pow_add, ← Nat.pow_add, ← Nat.pow_add, hexp]
      rw [Nat.shiftLeft_eq]
      unfold V
      calc M (mg a) * 2 ^ more * (2 * 2 ^ x) * (M (mg b) * 2 ^ E (mg b)) = M (mg a) * M (mg b) * (2 ^ more * (2 * 2 ^ x) * 2 ^ E (mg b)) := ac_one _ _ _ _ _
        _ = M (mg a) * M (mg b) * (2 ^ E (mg a) * Q * 2 ^ y) := by rw [this]
        _ = M (mg a) * 2 ^ E (mg a) * Q * (M (mg b) * 2 ^ y) := (ac_two _ _ _ _ _).symm
end TF
