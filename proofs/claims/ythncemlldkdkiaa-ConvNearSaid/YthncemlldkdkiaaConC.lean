/- Floats of 16 bits: what the code's products and whole numbers give. -/
import Derived.Test.YthncemlldkdkiaaConA
import Derived.Test.YthncemlldkdkiaaConB
namespace TF
open Ieee Go Go.RowKit

/-- the word of 2^e. -/
def powW (e : Int) : Nat := ((e + 1023) * 4503599627370496).toNat
/-- the exponent of a normal magnitude. -/
def expoI (a : Nat) : Int := (a / 4503599627370496 : Nat) - 1023
theorem powW_V {e : Int} {D : Nat} (h : e + 1022 = D) : V (powW e) = 2 ^ 52 * 2 ^ D := by
  refine V_pow (D := D) ?_
  unfold powW; omega
theorem powW_lt {e : Int} (h1 : -60 ≤ e) (h2 : e ≤ 60) : mg (powW e) = powW e ∧ ng (powW e) = false ∧ powW e < INF := by
  have hI := INF_eq
  have : powW e < 2 ^ 63 := by unfold powW; omega
  refine ⟨mg_small this, ng_small this, ?_⟩
  unfold powW; omega
/-- the exponent, found by comparisons. -/
theorem expo_lt {a : Nat} {e : Int} (ha : a ≤ INF) (h1 : -60 ≤ e) (h2 : e ≤ 60) : ltW a (powW e) = decide (expoI a < e) := by
  have hI := INF_eq
  obtain ⟨p1, p2, p3⟩ := powW_lt h1 h2
  rw [lt_words ha (by omega), Bool.eq_iff_iff]
  simp only [decide_eq_true_eq]
  unfold powW expoI; omega

theorem V_least16 : V 4544132024016830464 = 1024 * U16 := by
  have hT := T16_eq
  obtain ⟨c, hc⟩ : ∃ c : Nat, c = 1008 := ⟨_, rfl⟩
  have h : V 4544132024016830464 = 2 ^ 52 * 2 ^ c := V_pow (by omega)
  rw [h, show (1024 : Nat) = 2 ^ 10 from rfl]
  unfold U16
  rw [← Nat.pow_add, ← Nat.pow_add]
  exact congrArg (2 ^ ·) (by omega)
theorem Q_U16 : Q = 2 ^ 24 * U16 := by
  have hT := T16_eq
  have hT2 : T = 1074 := rfl
  unfold Q U16
  rw [← Nat.pow_add]
  exact congrArg (2 ^ ·) (by omega)
theorem V_steps : V 4715268809856909312 = 2 ^ 24 * Q := V_pow_up (D := 1046) (e := 24) (by omega) (by unfold T; omega)
theorem far16_V : U16 * (TF16.V (31744 - 1) + TF16.V 31744) = 2 * V 4679237813814689792 := by
  have e1 : TF16.M (31744 - 1) = 2047 := by decide
  have e2 : TF16.E (31744 - 1) = 29 := by decide
  have e3 : TF16.M 31744 = 1024 := by decide
  have e4 : TF16.E 31744 = 30 := by decide
  have e5 : M 4679237813814689792 = 9005000231485440 := by decide
  have e6 : E 4679237813814689792 = 1037 := by decide
  obtain ⟨c, hc⟩ : ∃ a : Nat, a = 1037 := ⟨_, rfl⟩
  have hT := T16_eq
  have h1 : U16 * 2 ^ 29 = 2 ^ 42 * 2 ^ c := by
    unfold U16; rw [← Nat.pow_add, ← Nat.pow_add]; exact congrArg (2 ^ ·) (by omega)
  unfold TF16.V V
  rw [e1, e2, e3, e4, e5, e6, ← hc, show (2 : Nat) ^ 30 = 2 * 2 ^ 29 from rfl]
  clear e1 e2 e3 e4 e5 e6 hT hc
  generalize 2 ^ c = z at *
  generalize U16 = u at *
  generalize (2 : Nat) ^ 29 = y at *
  have h2 : u * (2047 * y + 1024 * (2 * y)) = 4095 * (u * y) := by grind
  rw [h2, h1]; omega
theorem n16_far {x : Nat} : 31744 ≤ n16 x ↔ 4679237813814689792 ≤ mg x := by
  rw [n16_inf, far16_V]
  constructor
  · intro h; exact V_le_iff.1 (by omega)
  · intro h; have := V_le h; omega

theorem nrs_of (m a b : Nat) (h : a + b = T) : nr (m * 2 ^ a) = nrs m b := by
  have hQ : Q = 2 ^ a * 2 ^ b := Q_split _ _ h
  have hp := Nat.two_pow_pos a
  unfold nr nrs
  rw [hQ, Nat.mul_comm m, Nat.mul_mod_mul_left, Nat.mul_div_mul_left _ _ hp]
  generalize m % 2 ^ b = c
  generalize m / 2 ^ b = d
  generalize 2 ^ b = y
  generalize 2 ^ a = z at *
  have c1 : (z * y < 2 * (z * c)) ↔ (y < 2 * c) := by
    rw [Nat.mul_left_comm]; exact ⟨fun h => Nat.lt_of_mul_lt_mul_left h, fun h => Nat.mul_lt_mul_of_pos_left h hp⟩
  have c2 : (2 * (z * c) = z * y) ↔ (2 * c = y) := by
    rw [Nat.mul_left_comm]; exact ⟨fun h => Nat.eq_of_mul_eq_mul_left hp h, fun h => by rw [h]⟩
  simp only [c1, c2]

/-- below the least normal one: so many of the least. -/
theorem n16_low {x : Nat} (h : mg x < 4544132024016830464) : n16 x = nr (2 ^ 24 * V (mg x)) ∧ n16 x ≤ 1024 := by
  have hT : T = 1074 := rfl
  have hM := M_lt (mg x)
  have hE : E (mg x) ≤ 1007 := by unfold E; omega
  have key : n16 x = nr (2 ^ 24 * V (mg x)) := by
    have e1 : 2 ^ 24 * V (mg x) = M (mg x) * 2 ^ (E (mg x) + 24) := by
      unfold V; rw [Nat.mul_left_comm, ← Nat.pow_add]; congr 2; omega
    rw [e1, nrs_of (M (mg x)) (E (mg x) + 24) (1050 - E (mg x)) (by omega)]
    unfold n16 TF16.rung
    by_cases h0 : M (mg x) = 0
    · rw [if_pos h0, h0]; unfold nrs; simp
    · have hl : (M (mg x)).log2 < 53 := (Nat.log2_lt h0).2 hM
      have hl2 : (E (mg x) : Int) - 1074 + ((M (mg x)).log2 : Int) - 10 ≤ -24 := by
        by_cases hs : mg x < 2 ^ 52
        · have : E (mg x) = 0 := by unfold E; omega
          omega
        · by_cases he : E (mg x) ≤ 1007
          · omega
          · omega
      rw [if_neg h0, cut_nrs, show max ((E (mg x) : Int) - 1074 + ((M (mg x)).log2 : Int) - 10) (-24) = -24 from by omega]
      rw [show ((E (mg x) : Int) - 1074 - -24).toNat = 0 from by omega, show (-24 - ((E (mg x) : Int) - 1074)).toNat = 1050 - E (mg x) from by omega]
      simp
  refine ⟨key, ?_⟩
  rw [key]
  have hv := V_lt h
  rw [V_least16] at hv
  have hQ := Q_U16
  have h2 : 2 ^ 24 * V (mg x) < 1024 * Q := by rw [hQ]; omega
  have h3 : 2 ^ 24 * V (mg x) / Q < 1024 := (Nat.div_lt_iff_lt_mul Q_pos).2 h2
  unfold nr; split <;> omega
theorem M_normal {r : Nat} (h : 2 ^ 52 ≤ r) : 2 ^ 52 ≤ M r := by unfold M; rw [if_neg (by omega)]; omega
/-- at and above it. -/
theorem n16_high {x : Nat} (h1 : 4544132024016830464 ≤ mg x) (h2 : mg x < 4679237813814689792) :
    -14 ≤ expoI (mg x) ∧ expoI (mg x) ≤ 15 ∧ (n16 x : Int) = (expoI (mg x) + 14) * 1024 + nr (M (mg x) * 2 ^ 1032) ∧ 1024 ≤ nr (M (mg x) * 2 ^ 1032) ∧ nr (M (mg x) * 2 ^ 1032) ≤ 2048 := by
  have hT : T = 1074 := rfl
  have hM := M_lt (mg x)
  have hM2 := M_normal (r := mg x) (by omega)
  have hE : E (mg x) = mg x / 4503599627370496 - 1 := rfl
  obtain ⟨c, hc⟩ : ∃ a : Nat, a = 1032 := ⟨_, rfl⟩
  rw [← hc, nrs_of (M (mg x)) c 42 (by omega)]
  have hk : 1024 ≤ nrs (M (mg x)) 42 ∧ nrs (M (mg x)) 42 ≤ 2048 := by unfold nrs; split <;> omega
  have hx : expoI (mg x) = (E (mg x) : Int) - 1022 := by unfold expoI; omega
  refine ⟨by unfold expoI; omega, by unfold expoI; omega, ?_, hk⟩
  have h0 : ¬ M (mg x) = 0 := by omega
  have hl : (M (mg x)).log2 = 52 := by
    have a1 := (Nat.le_log2 h0).2 hM2
    have a2 := (Nat.log2_lt h0).2 hM
    omega
  have hE1 : 1008 ≤ E (mg x) ∧ E (mg x) ≤ 1037 := by omega
  unfold n16 TF16.rung
  rw [if_neg h0, cut_nrs, hl]
  rw [show max ((E (mg x) : Int) - 1074 + ((52 : Nat) : Int) - 10) (-24) = (E (mg x) : Int) - 1032 from by omega]
  rw [show ((E (mg x) : Int) - 1074 - ((E (mg x) : Int) - 1032)).toNat = 0 from by omega, show ((E (mg x) : Int) - 1032 - ((E (mg x) : Int) - 1074)).toNat = 42 from by omega, Nat.shiftLeft_zero]
  rw [hx]
  generalize nrs (M (mg x)) 42 = k at *
  omega

/-- the code's products are exact. -/
theorem mul_exact {a b n : Nat} (ha : a < INF) (hb : b < INF) (hI : rnd n < INF) (h : V a * V b = Q * n) : floatBits .mul .f64 a b = some (rnd n) := by
  have hI2 := INF_lt
  show double.mul a b = _
  rw [mul_fin (by rw [mg_small (by omega)]; exact ha) (by rw [mg_small (by omega)]; exact hb), mg_small (by omega), mg_small (by omega), ng_small (by omega), ng_small (by omega), h, rnd2_Q, Nat.min_eq_left (by omega)]
  rfl
theorem lt63 {n : Nat} (h : n < 9223372036854775808 * Q) : rnd n ≤ 4890909195324358656 := by
  refine rnd_le_of ?_
  rw [V_two63']; omega

theorem to16_ways (x : Nat) :
    (eqW x x = false ∧ to16 x = 32256) ∨
    (eqW x x = true ∧ (ltW 4679237813814689792 (mg x) || eqW (mg x) 4679237813814689792) = true ∧ to16 x = wd16 (ng x) 31744) ∨
    (eqW x x = true ∧ (ltW 4679237813814689792 (mg x) || eqW (mg x) 4679237813814689792) = false ∧ ltW (mg x) 4544132024016830464 = true ∧
      ∃ p k : Nat, floatBits .mul .f64 (mg x) 4715268809856909312 = some p ∧ p < 4890909195324358656 ∧ nr (V p) = k ∧ k ≤ 1024 ∧ to16 x = wd16 (ng x) k) ∨
    (eqW x x = true ∧ (ltW 4679237813814689792 (mg x) || eqW (mg x) 4679237813814689792) = false ∧ ltW (mg x) 4544132024016830464 = false ∧
      ∃ (e : Int) (p k : Nat), expoI (mg x) = e ∧ -14 ≤ e ∧ e ≤ 15 ∧ mg x < INF ∧ floatBits .mul .f64 (mg x) (powW (10 - e)) = some p ∧ p < 4890909195324358656 ∧ nr (V p) = k ∧ 1024 ≤ k ∧ k ≤ 2048 ∧ (e + 14) * 1024 + k < 31744 + 1 ∧ to16 x = wd16 (ng x) ((e + 14) * 1024 + k).toNat) := by
  have hI := INF_eq
  by_cases hN : isN x = true
  · refine .inl ⟨by rw [eqW_self, hN]; rfl, ?_⟩
    unfold to16; rw [if_pos hN]
  · rw [Bool.not_eq_true] at hN
    have hm := isN_false.1 hN
    have he : eqW x x = true := by rw [eqW_self, hN]; rfl
    have ht : to16 x = wd16 (ng x) (if mg x = INF then 31744 else min (n16 x) 31744) := by
      unfold to16; rw [hN]; rfl
    rw [ge_words hm (by omega), lt_words hm (by omega)]
    by_cases hf : 4679237813814689792 ≤ mg x
    · refine .inr (.inl ⟨he, decide_eq_true hf, ?_⟩)
      rw [ht]
      split
      · rfl
      · rw [Nat.min_eq_right (n16_far.2 hf)]
    · have hn : n16 x < 31744 := by
        rcases Nat.lt_or_ge (n16 x) 31744 with h | h
        · exact h
        · exact absurd (n16_far.1 h) hf
      have ht2 : to16 x = wd16 (ng x) (n16 x) := by rw [ht, if_neg (by omega), Nat.min_eq_left (by omega)]
      by_cases hl : mg x < 4544132024016830464
      · obtain ⟨g1, g2⟩ := n16_low hl
        have hv := V_lt hl
        rw [V_least16] at hv
        have hQ := Q_U16
        have h2 : 2 ^ 24 * V (mg x) < 1024 * Q := by rw [hQ]; omega
        have hrep : Rep (2 ^ 24 * V (mg x)) := by
          have := M_lt (mg x)
          have e1 : 2 ^ 24 * V (mg x) = M (mg x) * 2 ^ (E (mg x) + 24) := by
            unfold V; rw [Nat.mul_left_comm, ← Nat.pow_add, Nat.add_comm]
          rw [e1]; exact rep_bits _ _ (by omega)
        have hp : rnd (2 ^ 24 * V (mg x)) < 4890909195324358656 := by
          refine V_lt_iff.1 ?_
          rw [hrep.eq, V_two63']; omega
        refine .inr (.inr (.inl ⟨he, decide_eq_false hf, decide_eq_true hl, rnd (2 ^ 24 * V (mg x)), n16 x, ?_, hp, ?_, g2, ht2⟩))
        · refine mul_exact (by omega) (by omega) (by omega) ?_
          rw [V_steps]; generalize V (mg x) = v; generalize Q = q; grind
        · rw [hrep.eq, g1]
      · obtain ⟨g1, g2, g3, g4, g5⟩ := n16_high (x := x) (by omega) (by omega)
        obtain ⟨e, hee⟩ : ∃ e, e = expoI (mg x) := ⟨_, rfl⟩
        rw [← hee] at g1 g2 g3
        obtain ⟨c, hc⟩ : ∃ a : Nat, a = 1032 := ⟨_, rfl⟩
        rw [← hc] at g3 g4 g5
        have hrep : Rep (M (mg x) * 2 ^ c) := rep_bits _ _ (by have := M_lt (mg x); omega)
        have hT : T = 1074 := rfl
        have hp : rnd (M (mg x) * 2 ^ c) < 4890909195324358656 := by
          refine V_lt_iff.1 ?_
          rw [hrep.eq, V_two63']
          have := M_lt (mg x)
          have hq : Q = 2 ^ c * 2 ^ 42 := Q_split _ _ (by omega)
          have hp := Nat.two_pow_pos c
          rw [hq]
          generalize 2 ^ c = z at *
          have := Nat.mul_lt_mul_of_pos_right this hp
          omega
        obtain ⟨p1, p2, p3⟩ := powW_lt (e := 10 - e) (by omega) (by omega)
        refine .inr (.inr (.inr ⟨he, decide_eq_false hf, decide_eq_false hl, e, rnd (M (mg x) * 2 ^ c), nr (M (mg x) * 2 ^ c), hee.symm, g1, g2, by omega, ?_, hp, ?_, g4, g5, by omega, ?_⟩))
        · refine mul_exact (by omega) p3 (by omega) ?_
          have hx : (E (mg x) : Int) = e + 1022 := by
            have hE : E (mg x) = mg x / 4503599627370496 - 1 := rfl
            unfold expoI at hee; omega
          obtain ⟨D, hD⟩ : ∃ D : Nat, (10 - e) + 1022 = D := ⟨((10 - e) + 1022).toNat, by omega⟩
          rw [powW_V hD]
          unfold V Q
          have e1 : 2 ^ E (mg x) * (2 ^ 52 * 2 ^ D) = 2 ^ T * 2 ^ c := by
            rw [← Nat.pow_add, ← Nat.pow_add, ← Nat.pow_add]; congr 1; omega
          rw [Nat.mul_assoc, e1, Nat.mul_left_comm]
        · rw [hrep.eq]
        · rw [ht2, ← g3]; rfl
end TF
