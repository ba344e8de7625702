/- Depths and levels in words: whole numbers as floats, floats cut to whole numbers, the nearest whole number. -/
import Derived.Test.YtneedadoafcfcaaTwinR
import Derived.Test.YtneedadoafcfcaaFloatQ
namespace TF
open Ieee Go Go.RowKit

/-- cut down. -/
theorem cut_down (neg : Bool) (n drop : Nat) : Toward.down.cut neg n drop = n / 2 ^ drop + (if neg = true ∧ n % 2 ^ drop ≠ 0 then 1 else 0) := by
  have key : (n / (1 <<< min drop (n.log2 + 2)) = n / 2 ^ drop) ∧ (n % (1 <<< min drop (n.log2 + 2)) = 0 ↔ n % 2 ^ drop = 0) := by
    rw [Nat.shiftLeft_eq, Nat.one_mul]
    by_cases h : drop ≤ n.log2 + 2
    · rw [Nat.min_eq_left h]; exact ⟨rfl, Iff.rfl⟩
    · rw [Nat.min_eq_right (by omega)]
      have h1 : n < 2 ^ (n.log2 + 2) := Nat.lt_of_lt_of_le Nat.lt_log2_self (Nat.pow_le_pow_right (by omega) (by omega))
      have h2 : n < 2 ^ drop := Nat.lt_of_lt_of_le h1 (Nat.pow_le_pow_right (by omega) (by omega))
      rw [Nat.div_eq_of_lt h1, Nat.div_eq_of_lt h2, Nat.mod_eq_of_lt h1, Nat.mod_eq_of_lt h2]
      exact ⟨rfl, Iff.rfl⟩
  unfold Toward.cut
  simp only [key.1]
  congr 1
  by_cases h : n % 2 ^ drop = 0
  · rw [if_neg (by simp [h])]
    have := key.2.2 h
    simp [this]
  · have h' : ¬ n % (1 <<< min drop (n.log2 + 2)) = 0 := fun h2 => h (key.2.1 h2)
    cases neg
    · simp
    · rw [if_pos ⟨rfl, h⟩]
      have : (n % (1 <<< min drop (n.log2 + 2)) != 0) = true := by simp [h']
      simp only [Bool.true_and, this]; rfl
theorem cut_zero (neg : Bool) (n drop : Nat) : Toward.zero.cut neg n drop = n / 2 ^ drop := by
  unfold Toward.cut
  rw [Nat.shiftLeft_eq, Nat.one_mul]
  simp only [Bool.toNat_false, Nat.add_zero]
  by_cases h : drop ≤ n.log2 + 2
  · rw [Nat.min_eq_left h]
  · rw [Nat.min_eq_right (by omega)]
    have h1 : n < 2 ^ (n.log2 + 2) := Nat.lt_of_lt_of_le Nat.lt_log2_self (Nat.pow_le_pow_right (by omega) (by omega))
    have h2 : n < 2 ^ drop := Nat.lt_of_lt_of_le h1 (Nat.pow_le_pow_right (by omega) (by omega))
    rw [Nat.div_eq_of_lt h1, Nat.div_eq_of_lt h2]

/-- a word's units in whole ones and what is left. -/
theorem whole_part (r : Nat) : (M r <<< (-1074 + (E r : Int)).toNat) / 2 ^ (-(-1074 + (E r : Int))).toNat = V r / Q ∧
    ((M r <<< (-1074 + (E r : Int)).toNat) % 2 ^ (-(-1074 + (E r : Int))).toNat = 0 ↔ V r % Q = 0) := by
  have hT := T_int
  rw [Nat.shiftLeft_eq]
  by_cases h : T ≤ E r
  · obtain ⟨x, hx⟩ : ∃ x, E r = x + T := ⟨E r - T, by omega⟩
    have e1 : (-1074 + (E r : Int)).toNat = x := by omega
    have e2 : (-(-1074 + (E r : Int))).toNat = 0 := by omega
    have e3 : V r = M r * 2 ^ x * Q := by unfold V Q; rw [hx, Nat.pow_add, Nat.mul_assoc]
    rw [e1, e2, e3, Nat.mul_div_cancel _ Q_pos, Nat.mul_mod_left]
    simp only [Nat.pow_zero, Nat.div_one, Nat.mod_one, true_and]
  · obtain ⟨x, hx⟩ : ∃ x, T = x + E r := ⟨T - E r, by omega⟩
    have e1 : (-1074 + (E r : Int)).toNat = 0 := by omega
    have e2 : (-(-1074 + (E r : Int))).toNat = x := by omega
    have e3 : Q = 2 ^ x * 2 ^ E r := by unfold Q; rw [hx, Nat.pow_add]
    rw [e1, e2, e3, Nat.pow_zero, Nat.mul_one]
    unfold V
    rw [Nat.mul_div_mul_right _ _ (Nat.two_pow_pos _), Nat.mul_mod_mul_right]
    refine ⟨rfl, ?_⟩
    have := Nat.two_pow_pos (E r)
    constructor
    · intro h; rw [h, Nat.zero_mul]
    · intro h
      rcases Nat.mul_eq_zero.1 h with h | h
      · exact h
      · omega

/-- rung of whole ones. -/
theorem rung_whole (k : Nat) : rung k 0 = rnd (k * Q) := by
  have h := near_rung (mag := k) 0
  rw [show ((0 : Int) + 1074).toNat = T from rfl, show (-((0 : Int) + 1074)).toNat = 0 from rfl, Nat.pow_zero] at h
  have h' := near_rnd (k * Q)
  unfold Q at h' ⊢
  exact h.unique (by omega) h'

/-- the whole number below (of a magnitude with its sign: away from nought where it lies below it). -/
def flK (s : Bool) (v : Nat) : Nat := v / Q + (if s = true ∧ v % Q ≠ 0 then 1 else 0)
def flW (x : Nat) : Nat := wd (ng x) (min (rnd (flK (ng x) (V (mg x)) * Q)) INF)

theorem integral_down {x : Nat} (h : mg x < INF) : FloatKind.f64.encode ((FloatKind.f64.decode x).integral .down) = flW x := by
  show double.write ((double.read x).integral .down) = _
  rw [read_fin h]
  show double.nearest (ng x) (Toward.down.cut _ _ _) 0 = _
  rw [nearest_eq, word_eq, cut_down, rung_whole]
  obtain ⟨h1, h2⟩ := whole_part (mg x)
  unfold flW flK
  rw [h1]
  by_cases h3 : V (mg x) % Q = 0
  · rw [if_neg (fun hc => hc.2 (h2.2 h3)), if_neg (fun hc => hc.2 h3)]
  · by_cases h4 : ng x = true
    · rw [if_pos ⟨h4, fun hc => h3 (h2.1 hc)⟩, if_pos ⟨h4, h3⟩]
    · rw [if_neg (fun hc => h4 hc.1), if_neg (fun hc => h4 hc.1)]
theorem toInt_zero {x : Nat} (h : mg x < INF) : (FloatKind.f64.decode x).toInt .zero = some (if ng x then -((V (mg x) / Q : Nat) : Int) else ((V (mg x) / Q : Nat) : Int)) := by
  show (double.read x).toInt .zero = _
  rw [read_fin h]
  show some (signed (ng x) (Toward.zero.cut _ _ _) 0) = _
  rw [cut_zero, (whole_part (mg x)).1, signed_eq]
  simp only [Nat.pow_zero, Nat.mul_one]

/-- a float of 2^52 or more is whole. -/
theorem whole_of_great {r : Nat} (h : 2 ^ 52 * Q ≤ V r) : V r % Q = 0 := by
  have h1 : V (T * 2 ^ 52 + 2 ^ 52) = 2 ^ 52 * Q := by
    unfold Q; exact V_block (D := T) (k := 2 ^ 52) (Nat.le_refl _) (by omega)
  have h2 : T * 2 ^ 52 + 2 ^ 52 ≤ r := by rw [← V_le_iff, h1]; exact h
  have h3 : T ≤ E r := by
    unfold E
    revert h2
    generalize T = t
    intro h2; omega
  exact Nat.mod_eq_zero_of_dvd (V_dvd h3)
theorem rep_rest (r : Nat) : Rep (V r % Q) := by
  by_cases h : T ≤ E r
  · have := V_dvd h
    rw [show V r % Q = 0 from Nat.mod_eq_zero_of_dvd this]
    exact ⟨0, V_zero⟩
  · obtain ⟨x, hx⟩ : ∃ x, T = x + E r := ⟨T - E r, by omega⟩
    have e3 : Q = 2 ^ x * 2 ^ E r := by unfold Q; rw [hx, Nat.pow_add]
    unfold V
    rw [e3, Nat.mul_mod_mul_right]
    refine rep_bits _ _ ?_
    have := M_lt r
    have := Nat.mod_le (M r) (2 ^ x)
    omega
theorem rep_fl (s : Bool) (r : Nat) : Rep (flK s (V r) * Q) := by
  have hd := Nat.div_add_mod (V r) Q
  rw [Nat.mul_comm] at hd
  unfold flK
  by_cases h : 2 ^ 52 * Q ≤ V r
  · have h0 := whole_of_great h
    rw [if_neg (by simp [h0]), Nat.add_zero]
    rw [h0, Nat.add_zero] at hd
    rw [hd]; exact rep_V r
  · have : V r / Q < 2 ^ 52 := by rw [Nat.div_lt_iff_lt_mul Q_pos]; omega
    exact rep_Q (by split <;> omega)
/-- the value of the whole number below, where there is no sign. -/
theorem fl_pos {x : Nat} (h : mg x < INF) (hn : ng x = false) : mg (flW x) ≤ mg x ∧ ng (flW x) = false ∧ flW x = mg (flW x) ∧ V (mg (flW x)) = V (mg x) / Q * Q := by
  have hI := INF_lt
  have hr := (rep_fl (ng x) (mg x)).eq
  have e : flK (ng x) (V (mg x)) = V (mg x) / Q := by unfold flK; rw [if_neg (by simp [hn])]; rfl
  rw [e] at hr
  have hle : rnd (V (mg x) / Q * Q) ≤ mg x := rnd_le_of (Nat.div_mul_le_self _ _)
  have e2 : flW x = wd false (rnd (V (mg x) / Q * Q)) := by unfold flW; rw [e, hn, Nat.min_eq_left (by omega)]
  have e3 : mg (flW x) = rnd (V (mg x) / Q * Q) := by rw [e2, mg_wd (by omega)]
  refine ⟨by rw [e3]; exact hle, by rw [e2, ng_wd (by omega)], by rw [e3, e2]; exact if_neg Bool.false_ne_true, by rw [e3]; exact hr⟩

/-- the nearest whole number, ties to the even one. -/
def nr (v : Nat) : Nat := if Q < 2 * (v % Q) ∨ (2 * (v % Q) = Q ∧ v / Q % 2 = 1) then v / Q + 1 else v / Q

theorem nr_great {r : Nat} (h : 2 ^ 52 * Q ≤ V r) : nr (V r) = V r / Q := by
  have h0 := whole_of_great h
  have := Q_pos
  unfold nr
  rw [h0]
  generalize V r / Q = y
  generalize Q = q at *
  rw [if_neg (by omega)]
theorem nr_lt {r b : Nat} (hb : 2 ^ 52 < b) (h : V r < b * Q) : nr (V r) < b := by
  have h1 : V r / Q < b := (Nat.div_lt_iff_lt_mul Q_pos).2 h
  clear h
  rcases Nat.lt_or_ge (V r) (2 ^ 52 * Q) with h2 | h2
  · have h3 : V r / Q < 2 ^ 52 := (Nat.div_lt_iff_lt_mul Q_pos).2 h2
    clear h2
    have h4 : nr (V r) ≤ V r / Q + 1 := by
      unfold nr
      split
      · exact Nat.le_refl _
      · exact Nat.le_succ _
    revert h3 h4
    generalize V r / Q = y
    intro h3 h4; omega
  · rw [nr_great h2]; exact h1
theorem nr_mono {u v : Nat} (h : u ≤ v) : nr u ≤ nr v := by
  have hu := Nat.div_add_mod u Q
  have hv := Nat.div_add_mod v Q
  have lu := Nat.mod_lt u Q_pos
  have lv := Nat.mod_lt v Q_pos
  have hd : u / Q ≤ v / Q := Nat.div_le_div_right h
  unfold nr
  generalize u / Q = a at *
  generalize v / Q = b at *
  generalize u % Q = c at *
  generalize v % Q = d at *
  generalize Q = q at *
  by_cases he : a = b
  · rw [he] at hu ⊢
    have : c ≤ d := by omega
    split <;> split <;> omega
  · split <;> split <;> omega
end TF
