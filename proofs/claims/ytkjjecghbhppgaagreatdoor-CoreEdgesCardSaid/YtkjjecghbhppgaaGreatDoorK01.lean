/- Laid together: FloatA, FloatB, FloatC, FloatW. -/
import Ieee.Arith
import Derived.WalkKit
import Derived.WalkLawsBesides
import Derived.Laws.BitsAllLaws
import Derived.Lib.Hide
/- Plain facts on binary64: a word's magnitude is a rung, V gives its value in units of 2^-1074; what Ieee's rounding gives is the nearest rung, and that is unique. -/
namespace TF
open Ieee

/-- The exponent of the step above a rung. -/
def E (r : Nat) : Nat := r / 2 ^ 52 - 1
/-- The significand of a rung. -/
def M (r : Nat) : Nat := if r < 2 ^ 52 then r else 2 ^ 52 + r % 2 ^ 52
/-- The value of a rung in units of 2^-1074. -/
def V (r : Nat) : Nat := M r * 2 ^ E r

theorem M_lt (r : Nat) : M r < 2 ^ 53 := by unfold M; split <;> omega

theorem V_succ (r : Nat) : V (r + 1) = V r + 2 ^ E r := by
  unfold V M E
  by_cases h : r + 1 < 2 ^ 52
  · have e1 : r / 2 ^ 52 = 0 := Nat.div_eq_of_lt (by omega)
    have e2 : (r + 1) / 2 ^ 52 = 0 := Nat.div_eq_of_lt h
    rw [if_pos h, if_pos (by omega), e1, e2]; simp
  · rw [if_neg h]
    by_cases h0 : r < 2 ^ 52
    · have : r = 2 ^ 52 - 1 := by omega
      subst this; decide
    · rw [if_neg h0]
      by_cases hm : r % 2 ^ 52 + 1 = 2 ^ 52
      · have e2 : (r + 1) / 2 ^ 52 = r / 2 ^ 52 + 1 := by omega
        have e3 : (r + 1) % 2 ^ 52 = 0 := by omega
        obtain ⟨k, hk⟩ : ∃ k, r / 2 ^ 52 = k + 1 := ⟨r / 2 ^ 52 - 1, by omega⟩
        have e4 : r % 2 ^ 52 = 2 ^ 52 - 1 := by omega
        rw [e2, e3, hk, e4]
        simp only [Nat.add_sub_cancel, Nat.pow_succ, Nat.add_zero]
        omega
      · have e2 : (r + 1) / 2 ^ 52 = r / 2 ^ 52 := by omega
        have e3 : (r + 1) % 2 ^ 52 = r % 2 ^ 52 + 1 := by omega
        rw [e2, e3, ← Nat.add_assoc, Nat.add_mul, Nat.one_mul]

theorem V_lt_succ (r : Nat) : V r < V (r + 1) := by
  rw [V_succ]; have := Nat.two_pow_pos (E r); omega

theorem V_lt {r s : Nat} (h : r < s) : V r < V s := by
  induction s with
  | zero => omega
  | succ s ih =>
    by_cases e : r = s
    · subst e; exact V_lt_succ r
    · exact Nat.lt_trans (ih (by omega)) (V_lt_succ s)

theorem V_le {r s : Nat} (h : r ≤ s) : V r ≤ V s := by
  by_cases e : r = s
  · subst e; exact Nat.le_refl _
  · exact Nat.le_of_lt (V_lt (by omega))

theorem V_lt_iff {r s : Nat} : V r < V s ↔ r < s :=
  ⟨fun h => by by_cases e : s ≤ r; (have := V_le e; omega); omega, V_lt⟩
theorem V_le_iff {r s : Nat} : V r ≤ V s ↔ r ≤ s :=
  ⟨fun h => by by_cases e : s < r; (have := V_lt e; omega); omega, V_le⟩
theorem V_inj {r s : Nat} (h : V r = V s) : r = s := by
  have h1 := V_le_iff.1 (Nat.le_of_eq h)
  have h2 := V_le_iff.1 (Nat.le_of_eq h.symm)
  omega
theorem V_zero : V 0 = 0 := by decide
theorem V_eq_zero {r : Nat} : V r = 0 ↔ r = 0 :=
  ⟨fun h => V_inj (by rw [h, V_zero]), fun h => by subst h; exact V_zero⟩
theorem V_small {r : Nat} (h : r ≤ 2 ^ 53) : V r = r := by
  by_cases e : r = 2 ^ 53
  · subst e; decide
  · unfold V M E
    by_cases h0 : r < 2 ^ 52
    · have : r / 2 ^ 52 = 0 := Nat.div_eq_of_lt h0
      rw [if_pos h0, this]; simp
    · rw [if_neg h0, show r / 2 ^ 52 = 1 from by omega]; simp; omega

/-- r is the rung nearest to n / q units of 2^-1074; of two equally near ones the even one. -/
structure Near (n q r : Nat) : Prop where
  lo : ∀ s, r = s + 1 → q * (V s + V r) ≤ 2 * n
  loe : ∀ s, r = s + 1 → q * (V s + V r) = 2 * n → r % 2 = 0
  hi : 2 * n ≤ q * (V r + V (r + 1))
  hie : 2 * n = q * (V r + V (r + 1)) → r % 2 = 0

theorem Near.le_of {n q n' q' r s : Nat} (hq : 0 < q) (hq' : 0 < q') (h : Near n q r) (h' : Near n' q' s) (hn : n * q' ≤ n' * q) : r ≤ s := by
  refine Classical.byContradiction fun hc => ?_
  obtain ⟨t, rfl⟩ : ∃ t, r = t + 1 := ⟨r - 1, by omega⟩
  have hst : s ≤ t := by omega
  have a := h.lo t rfl
  have b := h'.hi
  have c : V s + V (s + 1) ≤ V t + V (t + 1) := Nat.add_le_add (V_le hst) (V_le (by omega))
  have a' : q' * (q * (V t + V (t + 1))) ≤ 2 * (n * q') := by
    have := Nat.mul_le_mul_left q' a
    rw [Nat.mul_comm n q', Nat.mul_left_comm 2]; exact this
  have b' : 2 * (n' * q) ≤ q * (q' * (V s + V (s + 1))) := by
    have := Nat.mul_le_mul_left q b
    rw [Nat.mul_comm n' q, Nat.mul_left_comm 2]; exact this
  have c' : q * (q' * (V s + V (s + 1))) ≤ q * (q' * (V t + V (t + 1))) := Nat.mul_le_mul_left q (Nat.mul_le_mul_left q' c)
  have d : q' * (q * (V t + V (t + 1))) = q * (q' * (V t + V (t + 1))) := Nat.mul_left_comm ..
  have e1 : q * (q' * (V s + V (s + 1))) = q * (q' * (V t + V (t + 1))) := by omega
  have e2 : V s + V (s + 1) = V t + V (t + 1) := Nat.eq_of_mul_eq_mul_left hq' (Nat.eq_of_mul_eq_mul_left hq e1)
  have hs : s = t := by
    by_cases hlt : s < t
    · have := V_lt hlt; have := V_lt (show s + 1 < t + 1 by omega); omega
    · omega
  subst hs
  have f1 : 2 * n' = q' * (V s + V (s + 1)) := Nat.eq_of_mul_eq_mul_left hq (by rw [Nat.mul_left_comm, Nat.mul_comm q n']; omega)
  have f2 : q * (V s + V (s + 1)) = 2 * n := Nat.eq_of_mul_eq_mul_left hq' (by rw [Nat.mul_left_comm q' 2 n, Nat.mul_comm q' n]; omega)
  have g1 := h'.hie f1
  have g2 := h.loe s rfl f2
  omega

theorem Near.unique {n q r s : Nat} (hq : 0 < q) (h : Near n q r) (h' : Near n q s) : r = s :=
  Nat.le_antisymm (h.le_of hq hq h' (Nat.le_refl _)) (h'.le_of hq hq h (Nat.le_refl _))

theorem Near.unique' {n q n' q' r s : Nat} (hq : 0 < q) (hq' : 0 < q') (h : Near n q r) (h' : Near n' q' s) (e : n * q' = n' * q) : r = s :=
  Nat.le_antisymm (h.le_of hq hq' h' (Nat.le_of_eq e)) (h'.le_of hq' hq h (Nat.le_of_eq e.symm))

/-- A value that is a rung's own. -/
theorem near_self {r q : Nat} (hq : 0 < q) : Near (q * V r) q r where
  lo s e := by subst e; have := V_lt_succ s; rw [Nat.mul_left_comm 2]; exact Nat.mul_le_mul_left q (by omega)
  loe s e h := by
    subst e
    have := V_lt_succ s
    rw [Nat.mul_left_comm 2] at h
    have := Nat.eq_of_mul_eq_mul_left hq h
    omega
  hi := by have := V_lt_succ r; rw [Nat.mul_left_comm 2]; exact Nat.mul_le_mul_left q (by omega)
  hie h := by
    have := V_lt_succ r
    rw [Nat.mul_left_comm 2] at h
    have := Nat.eq_of_mul_eq_mul_left hq h
    omega

/-- What Ieee's cut to even gives: the nearest whole number. -/
theorem cut_even (neg : Bool) (n drop : Nat) :
    2 * n ≤ (2 * Toward.even.cut neg n drop + 1) * 2 ^ drop ∧ (2 * n = (2 * Toward.even.cut neg n drop + 1) * 2 ^ drop → Toward.even.cut neg n drop % 2 = 0) ∧
    (Toward.even.cut neg n drop ≠ 0 → (2 * Toward.even.cut neg n drop - 1) * 2 ^ drop ≤ 2 * n) ∧ (Toward.even.cut neg n drop ≠ 0 → (2 * Toward.even.cut neg n drop - 1) * 2 ^ drop = 2 * n → Toward.even.cut neg n drop % 2 = 0) := by
  by_cases hd : drop ≤ n.log2 + 2
  · have hg : (1 <<< min drop (n.log2 + 2)) = 2 ^ drop := by rw [Nat.min_eq_left hd, Nat.shiftLeft_eq, Nat.one_mul]
    unfold Toward.cut
    simp only [hg]
    have hpos := Nat.two_pow_pos drop
    generalize 2 ^ drop = g at *
    have hdm := Nat.div_add_mod n g
    have hlt := Nat.mod_lt n hpos
    generalize n / g = q at *
    generalize n % g = m at *
    subst hdm
    by_cases h1 : g < 2 * m
    · simp only [h1, decide_true, Bool.true_or, Bool.toNat_true]
      refine ⟨?_, ?_, ?_, ?_⟩
      · grind
      · grind
      · intro _; rw [show 2 * (q + 1) - 1 = 2 * q + 1 by omega]; grind
      · intro _; rw [show 2 * (q + 1) - 1 = 2 * q + 1 by omega]; grind
    · by_cases h2 : g = 2 * m
      · by_cases h3 : q % 2 = 1
        · have : (decide (g < 2 * m) || (g == 2 * m && q % 2 == 1)) = true := by simp [h2, h3]
          simp only [this, Bool.toNat_true]
          refine ⟨?_, ?_, ?_, ?_⟩
          · grind
          · grind
          · intro _; rw [show 2 * (q + 1) - 1 = 2 * q + 1 by omega]; grind
          · intro _; rw [show 2 * (q + 1) - 1 = 2 * q + 1 by omega]; grind
        · have : (decide (g < 2 * m) || (g == 2 * m && q % 2 == 1)) = false := by simp [h2, h3]
          simp only [this, Bool.toNat_false, Nat.add_zero]
          refine ⟨?_, ?_, ?_, ?_⟩
          · grind
          · grind
          · intro hq; obtain ⟨k, rfl⟩ : ∃ k, q = k + 1 := ⟨q - 1, by omega⟩
            rw [show 2 * (k + 1) - 1 = 2 * k + 1 by omega]; grind
          · intro hq; obtain ⟨k, rfl⟩ : ∃ k, q = k + 1 := ⟨q - 1, by omega⟩
            rw [show 2 * (k + 1) - 1 = 2 * k + 1 by omega]; grind
      · have : (decide (g < 2 * m) || (g == 2 * m && q % 2 == 1)) = false := by simp [h1, h2]
        simp only [this, Bool.toNat_false, Nat.add_zero]
        refine ⟨?_, ?_, ?_, ?_⟩
        · grind
        · grind
        · intro hq; obtain ⟨k, rfl⟩ : ∃ k, q = k + 1 := ⟨q - 1, by omega⟩
          rw [show 2 * (k + 1) - 1 = 2 * k + 1 by omega]; grind
        · intro hq; obtain ⟨k, rfl⟩ : ∃ k, q = k + 1 := ⟨q - 1, by omega⟩
          rw [show 2 * (k + 1) - 1 = 2 * k + 1 by omega]; grind
  · have hn : n < 2 ^ (n.log2 + 1) := Nat.lt_log2_self
    have h0 : Toward.even.cut neg n drop = 0 := by
      unfold Toward.cut
      have hg : (1 <<< min drop (n.log2 + 2)) = 2 * 2 ^ (n.log2 + 1) := by
        rw [Nat.min_eq_right (by omega), Nat.shiftLeft_eq, Nat.one_mul, Nat.pow_succ, Nat.mul_comm]
      simp only [hg]
      rw [Nat.div_eq_of_lt (by omega), Nat.mod_eq_of_lt (by omega)]
      have e : (decide (2 * 2 ^ (n.log2 + 1) < 2 * n) || (2 * 2 ^ (n.log2 + 1) == 2 * n && 0 % 2 == 1)) = false := by
        simp; omega
      rw [e]; rfl
    rw [h0]
    have hp : 2 ^ (n.log2 + 1) * 2 ≤ 2 ^ drop := by
      rw [← Nat.pow_succ]; exact Nat.pow_le_pow_right (by omega) (by omega)
    refine ⟨by omega, by omega, fun h => absurd rfl h, fun h => absurd rfl h⟩

theorem Near.ratio {n q n' q' r : Nat} (hq : 0 < q) (hq' : 0 < q') (h : Near n q r) (e : n * q' = n' * q) : Near n' q' r where
  lo s hs := by
    refine Nat.le_of_mul_le_mul_left ?_ hq
    have := Nat.mul_le_mul_left q' (h.lo s hs)
    rw [Nat.mul_left_comm q q', Nat.mul_left_comm q 2, Nat.mul_comm q n', ← e, Nat.mul_comm n q', Nat.mul_left_comm 2]; exact this
  loe s hs hh := by
    refine h.loe s hs (Nat.eq_of_mul_eq_mul_left hq' ?_)
    rw [Nat.mul_left_comm q' q, hh, Nat.mul_left_comm q 2, Nat.mul_comm q n', ← e, Nat.mul_comm n q', Nat.mul_left_comm 2]
  hi := by
    refine Nat.le_of_mul_le_mul_left ?_ hq
    have := Nat.mul_le_mul_left q' h.hi
    rw [Nat.mul_left_comm q q', Nat.mul_left_comm q 2, Nat.mul_comm q n', ← e, Nat.mul_comm n q', Nat.mul_left_comm 2]; exact this
  hie hh := by
    refine h.hie (Nat.eq_of_mul_eq_mul_left hq' ?_)
    rw [Nat.mul_left_comm q' q, ← hh, Nat.mul_left_comm q 2, Nat.mul_comm q n', ← e, Nat.mul_comm n q', Nat.mul_left_comm 2]


def rung (mag : Nat) (place : Int) : Nat :=
  if mag = 0 then 0 else
  (max (place + mag.log2 - 52) (-1074) + 1074).toNat * 2 ^ 52 + Toward.even.cut false (mag <<< (place - max (place + mag.log2 - 52) (-1074)).toNat) (max (place + mag.log2 - 52) (-1074) - place).toNat

/-- The rung of the infinity. -/
def INF : Nat := 2047 * 2 ^ 52

theorem nearest_eq (neg : Bool) (mag : Nat) (place : Int) : double.nearest neg mag place = double.word neg (min (rung mag place) INF) := by
  have e1 : double.leastPlace = -1074 := by decide
  have e2 : double.binade = 2 ^ 52 := by decide
  have e3 : double.infRung = INF := by decide
  have e4 : double.fractionBits = 52 := rfl
  have e5 : ∀ n d, Toward.even.cut neg n d = Toward.even.cut false n d := fun n d => rfl
  unfold Format.nearest rung
  by_cases h : mag = 0
  · rw [if_pos h, if_pos h]; simp
  · rw [if_neg h, if_neg h]
    simp only [e1, e2, e3, e4, e5]
    rfl

theorem V_block {D k : Nat} (h1 : 2 ^ 52 ≤ k) (h2 : k ≤ 2 ^ 53) : V (D * 2 ^ 52 + k) = k * 2 ^ D := by
  by_cases hk : k = 2 ^ 53
  · have e1 : (D * 2 ^ 52 + k) / 2 ^ 52 = D + 2 := by omega
    have e2 : (D * 2 ^ 52 + k) % 2 ^ 52 = 0 := by omega
    unfold V M E
    rw [if_neg (by omega), e1, e2, show D + 2 - 1 = D + 1 from by omega, Nat.pow_succ, hk]
    omega
  · have e1 : (D * 2 ^ 52 + k) / 2 ^ 52 = D + 1 := by omega
    have e2 : (D * 2 ^ 52 + k) % 2 ^ 52 = k - 2 ^ 52 := by omega
    unfold V M E
    rw [if_neg (by omega), e1, e2, show D + 1 - 1 = D from by omega, show 2 ^ 52 + (k - 2 ^ 52) = k from by omega]

theorem near_rung {mag : Nat} (place : Int) : Near (mag * 2 ^ (place + 1074).toNat) (2 ^ (-(place + 1074)).toNat) (rung mag place) := by
  by_cases h0 : mag = 0
  · subst h0
    have : rung 0 place = 0 := by simp [rung]
    rw [this]
    exact ⟨fun s hs => by omega, fun s hs => by omega, by simp, fun _ => rfl⟩
  have hlo := Nat.log2_self_le h0
  have hhi : mag < 2 ^ (mag.log2 + 1) := Nat.lt_log2_self
  unfold rung
  rw [if_neg h0]
  generalize mag.log2 = l at *
  by_cases hc : place + l - 52 ≤ -1074
  · rw [show max (place + (l : Int) - 52) (-1074) = -1074 from by omega]
    simp only [show ((-1074 : Int) + 1074).toNat = 0 from rfl, Nat.zero_mul, Nat.zero_add, Nat.shiftLeft_eq]
    obtain ⟨h1, h2, h3, h4⟩ := cut_even false (mag * 2 ^ (place - -1074).toNat) (-1074 - place).toNat
    generalize Toward.even.cut false (mag * 2 ^ (place - -1074).toNat) (-1074 - place).toNat = k at *
    rw [show (-(place + 1074)).toNat = (-1074 - place).toNat from by omega, show (place + 1074).toNat = (place - -1074).toNat from by omega]
    have hn : mag * 2 ^ (place - -1074).toNat < 2 ^ 53 * 2 ^ (-1074 - place).toNat := by
      have a : mag * 2 ^ (place - -1074).toNat < 2 ^ (l + 1) * 2 ^ (place - -1074).toNat := Nat.mul_lt_mul_of_pos_right hhi (Nat.two_pow_pos _)
      rw [← Nat.pow_add] at a ⊢
      exact Nat.lt_of_lt_of_le a (Nat.pow_le_pow_right (by omega) (by omega))
    generalize mag * 2 ^ (place - -1074).toNat = n at *
    have hq := Nat.two_pow_pos (-1074 - place).toNat
    generalize 2 ^ (-1074 - place).toNat = q at *
    have hk : k ≤ 2 ^ 53 := by
      refine Classical.byContradiction fun hcc => ?_
      have h3' := h3 (by omega)
      have : 2 ^ 54 * q ≤ (2 * k - 1) * q := Nat.mul_le_mul_right q (by omega)
      omega
    have hV := V_small hk
    have hV' : k + 1 ≤ V (k + 1) := by have := V_lt_succ k; omega
    refine ⟨fun s hs => ?_, fun s hs hh => ?_, ?_, fun hh => ?_⟩
    · have := h3 (by omega)
      rw [hV, V_small (by omega : s ≤ 2 ^ 53), Nat.mul_comm, show s + k = 2 * k - 1 from by omega]; exact this
    · refine h4 (by omega) ?_
      rw [hV, V_small (by omega : s ≤ 2 ^ 53), Nat.mul_comm, show s + k = 2 * k - 1 from by omega] at hh; exact hh
    · rw [hV, Nat.mul_comm q]
      exact Nat.le_trans h1 (Nat.mul_le_mul_right q (by omega))
    · rw [hV, Nat.mul_comm q] at hh
      have : (2 * k + 1) * q ≤ (k + V (k + 1)) * q := Nat.mul_le_mul_right q (by omega)
      exact h2 (by omega)
  · rw [show max (place + (l : Int) - 52) (-1074) = place + l - 52 from by omega]
    obtain ⟨D, hD⟩ : ∃ D : Nat, place + l - 52 + 1074 = D := ⟨(place + l - 52 + 1074).toNat, by omega⟩
    rw [hD, show (place - (place + (l : Int) - 52)).toNat = 52 - l from by omega, show (place + (l : Int) - 52 - place).toNat = l - 52 from by omega, Nat.shiftLeft_eq]
    simp only [Int.toNat_natCast]
    obtain ⟨h1, h2, h3, h4⟩ := cut_even false (mag * 2 ^ (52 - l)) (l - 52)
    generalize Toward.even.cut false (mag * 2 ^ (52 - l)) (l - 52) = k at *
    have hn : mag * 2 ^ (52 - l) < 2 ^ 53 * 2 ^ (l - 52) := by
      have a : mag * 2 ^ (52 - l) < 2 ^ (l + 1) * 2 ^ (52 - l) := Nat.mul_lt_mul_of_pos_right hhi (Nat.two_pow_pos _)
      rw [← Nat.pow_add] at a ⊢
      exact Nat.lt_of_lt_of_le a (Nat.pow_le_pow_right (by omega) (by omega))
    have hn' : 2 ^ 52 * 2 ^ (l - 52) ≤ mag * 2 ^ (52 - l) := by
      have a : 2 ^ l * 2 ^ (52 - l) ≤ mag * 2 ^ (52 - l) := Nat.mul_le_mul_right _ hlo
      rw [← Nat.pow_add] at a ⊢
      exact Nat.le_trans (Nat.pow_le_pow_right (by omega) (by omega)) a
    have hratio : mag * 2 ^ (52 - l) * 2 ^ D * 2 ^ (-(place + 1074)).toNat = mag * 2 ^ (place + 1074).toNat * 2 ^ (l - 52) := by
      rw [Nat.mul_assoc, Nat.mul_assoc, Nat.mul_assoc, ← Nat.pow_add, ← Nat.pow_add, ← Nat.pow_add]
      congr 2
      omega
    refine Near.ratio (n := mag * 2 ^ (52 - l) * 2 ^ D) (q := 2 ^ (l - 52)) (Nat.two_pow_pos _) (Nat.two_pow_pos _) ?_ hratio
    generalize mag * 2 ^ (52 - l) = n at *
    have hq := Nat.two_pow_pos (l - 52)
    generalize 2 ^ (l - 52) = q at *
    have hk : k ≤ 2 ^ 53 := by
      refine Classical.byContradiction fun hcc => ?_
      have h3' := h3 (by omega)
      have : 2 ^ 54 * q ≤ (2 * k - 1) * q := Nat.mul_le_mul_right q (by omega)
      omega
    have hk' : 2 ^ 52 ≤ k := by
      refine Classical.byContradiction fun hcc => ?_
      have : (2 * k + 1) * q ≤ (2 ^ 53 - 1) * q := Nat.mul_le_mul_right q (by omega)
      omega
    have hV := V_block (D := D) hk' hk
    have hVs := V_succ (D * 2 ^ 52 + k)
    have hE : D ≤ E (D * 2 ^ 52 + k) := by unfold E; omega
    have hE' := Nat.pow_le_pow_right (show 0 < 2 by omega) hE
    refine ⟨fun s hs => ?_, fun s hs hh => ?_, ?_, fun hh => ?_⟩
    · by_cases hk0 : k = 2 ^ 52
      · have hlt := V_lt (show s < D * 2 ^ 52 + k by omega)
        rw [hV] at hlt ⊢
        have a : q * (V s + k * 2 ^ D) ≤ q * (2 * (k * 2 ^ D)) := Nat.mul_le_mul_left q (by omega)
        have b : 2 ^ 52 * q * 2 ^ D ≤ n * 2 ^ D := Nat.mul_le_mul_right _ hn'
        subst hk0
        have c : q * (2 * (2 ^ 52 * 2 ^ D)) = 2 * (2 ^ 52 * q * 2 ^ D) := by grind
        omega
      · have hVs' : V s = (k - 1) * 2 ^ D := by
          rw [show s = D * 2 ^ 52 + (k - 1) from by omega]; exact V_block (by omega) (by omega)
        rw [hV, hVs', ← Nat.add_mul, show k - 1 + k = 2 * k - 1 from by omega]
        have := Nat.mul_le_mul_right (2 ^ D) (h3 (by omega))
        have c : q * ((2 * k - 1) * 2 ^ D) = (2 * k - 1) * q * 2 ^ D := by grind
        rw [c, ← Nat.mul_assoc]; exact this
    · by_cases hk0 : k = 2 ^ 52
      · omega
      · have hVs' : V s = (k - 1) * 2 ^ D := by
          rw [show s = D * 2 ^ 52 + (k - 1) from by omega]; exact V_block (by omega) (by omega)
        rw [hV, hVs', ← Nat.add_mul, show k - 1 + k = 2 * k - 1 from by omega, show q * ((2 * k - 1) * 2 ^ D) = (2 * k - 1) * q * 2 ^ D by grind, ← Nat.mul_assoc] at hh
        have := h4 (by omega) (Nat.eq_of_mul_eq_mul_right (Nat.two_pow_pos D) hh)
        omega
    · rw [hVs, hV]
      have a := Nat.mul_le_mul_right (2 ^ D) h1
      have b : q * ((2 * k + 1) * 2 ^ D) ≤ q * (k * 2 ^ D + (k * 2 ^ D + 2 ^ E (D * 2 ^ 52 + k))) := Nat.mul_le_mul_left q (by grind)
      have c : q * ((2 * k + 1) * 2 ^ D) = (2 * k + 1) * q * 2 ^ D := by grind
      rw [← Nat.mul_assoc]; omega
    · rw [hVs, hV] at hh
      have a := Nat.mul_le_mul_right (2 ^ D) h1
      have b : q * ((2 * k + 1) * 2 ^ D) ≤ q * (k * 2 ^ D + (k * 2 ^ D + 2 ^ E (D * 2 ^ 52 + k))) := Nat.mul_le_mul_left q (by grind)
      have c : q * ((2 * k + 1) * 2 ^ D) = (2 * k + 1) * q * 2 ^ D := by grind
      have d : 2 * n * 2 ^ D = (2 * k + 1) * q * 2 ^ D := by rw [← Nat.mul_assoc] at hh; omega
      have := h2 (Nat.eq_of_mul_eq_mul_right (Nat.two_pow_pos D) d)
      omega
end TF
/- Words of binary64: what they read as, their order, sums and products as whole numbers of units, rounded once. -/
namespace TF
open Ieee

/-- The magnitude's rung. -/
def mg (w : Nat) : Nat := w % 2 ^ 63
/-- The sign bit. -/
def ng (w : Nat) : Bool := w / 2 ^ 63 % 2 == 1
/-- The word of a sign and a rung. -/
def wd (s : Bool) (r : Nat) : Nat := if s then 2 ^ 63 + r else r
/-- A finite word's value, in units of 2^-1074. -/
def iv (w : Nat) : Int := if ng w then -(V (mg w) : Int) else V (mg w)
/-- A word's rank. -/
def rk (w : Nat) : Int := if ng w then -(mg w : Int) else mg w
/-- The rung nearest to n units. -/
def rnd (n : Nat) : Nat := rung n (-1074)
/-- The rung nearest to n units of 2^-2148. -/
def rnd2 (n : Nat) : Nat := rung n (-2148)

theorem word_eq (s : Bool) (r : Nat) : double.word s r = wd s r := by
  unfold Format.word wd
  rw [show double.signWeight = 2 ^ 63 from by decide]

theorem near_rnd (n : Nat) : Near n 1 (rnd n) := by
  have := near_rung (mag := n) (-1074)
  simpa [rnd] using this

def T : Nat := 1074
/-- So many units of 2^-2148 are one of 2^-1074. -/
def Q : Nat := 2 ^ T
theorem Q_pos : 0 < Q := Nat.two_pow_pos T
theorem T_int : (T : Int) = 1074 := rfl

theorem near_rnd2 (n : Nat) : Near n Q (rnd2 n) := by
  have := near_rung (mag := n) (-2148)
  rw [show ((-2148 : Int) + 1074).toNat = 0 from rfl, show (-((-2148 : Int) + 1074)).toNat = T from rfl, Nat.pow_zero, Nat.mul_one] at this
  exact this

theorem read_fin {w : Nat} (h : mg w < INF) : double.read w = .number (ng w) (M (mg w)) (-1074 + (E (mg w) : Int)) := by
  unfold Format.read
  have e1 : double.leastPlace = -1074 := by decide
  have e2 : double.binade = 2 ^ 52 := by decide
  have e3 : double.infRung = INF := by decide
  have e4 : double.signWeight = 2 ^ 63 := by decide
  simp only [e1, e2, e3, e4]
  unfold mg ng at *
  by_cases hs : w % 2 ^ 63 < 2 ^ 52
  · rw [if_pos hs]
    have : E (w % 2 ^ 63) = 0 := by unfold E; rw [Nat.div_eq_of_lt hs]
    rw [this]; unfold M; rw [if_pos hs]; rfl
  · rw [if_neg hs, if_pos h]
    unfold M E; rw [if_neg hs]

theorem read_inf {w : Nat} (h : mg w = INF) : double.read w = .infinity (ng w) := by
  unfold Format.read
  have e1 : double.leastPlace = -1074 := by decide
  have e2 : double.binade = 2 ^ 52 := by decide
  have e3 : double.infRung = INF := by decide
  have e4 : double.signWeight = 2 ^ 63 := by decide
  simp only [e1, e2, e3, e4]
  unfold mg ng at *
  rw [if_neg (by rw [h]; decide), if_neg (by omega), if_pos h]

theorem read_nan {w : Nat} (h : INF < mg w) : double.read w = .nan (ng w) (mg w - INF) := by
  unfold Format.read
  have e1 : double.leastPlace = -1074 := by decide
  have e2 : double.binade = 2 ^ 52 := by decide
  have e3 : double.infRung = INF := by decide
  have e4 : double.signWeight = 2 ^ 63 := by decide
  simp only [e1, e2, e3, e4]
  unfold mg ng at *
  rw [if_neg (by unfold INF at h; omega), if_neg (by omega), if_neg (by omega)]

theorem signed_eq (s : Bool) (m k : Nat) : signed s m k = if s then -((m * 2 ^ k : Nat) : Int) else ((m * 2 ^ k : Nat) : Int) := by
  unfold signed; rw [Nat.shiftLeft_eq]

/-- A finite word's value, out of its reading over a lower place. -/
theorem iv_signed {w : Nat} (base : Int) (hb : -1074 ≤ base) (h : base ≤ -1074 + (E (mg w) : Int)) :
    iv w = signed (ng w) (M (mg w)) (-1074 + (E (mg w) : Int) - base).toNat * (2 ^ (base + 1074).toNat : Nat) := by
  have e : V (mg w) = M (mg w) * 2 ^ (-1074 + (E (mg w) : Int) - base).toNat * 2 ^ (base + 1074).toNat := by
    unfold V
    rw [Nat.mul_assoc, ← Nat.pow_add]
    congr 2; omega
  unfold iv
  rw [e, signed_eq]
  cases ng w <;> simp [Int.neg_mul]

theorem order_fin {a b : Nat} (ha : mg a < INF) (hb : mg b < INF) : double.order a b = some (compare (iv a) (iv b)) := by
  unfold Format.order
  rw [read_fin ha, read_fin hb]
  show some (compare _ _) = _
  have h1 := iv_signed (w := a) (min (-1074 + (E (mg a) : Int)) (-1074 + (E (mg b) : Int))) (by omega) (by omega)
  have h2 := iv_signed (w := b) (min (-1074 + (E (mg a) : Int)) (-1074 + (E (mg b) : Int))) (by omega) (by omega)
  rw [h1, h2]
  have hp : (0 : Int) < (2 ^ (min (-1074 + (E (mg a) : Int)) (-1074 + (E (mg b) : Int)) + 1074).toNat : Nat) := by
    have := Nat.two_pow_pos (min (-1074 + (E (mg a) : Int)) (-1074 + (E (mg b) : Int)) + 1074).toNat
    omega
  congr 1
  generalize signed (ng a) (M (mg a)) _ = x
  generalize signed (ng b) (M (mg b)) _ = y
  generalize ((2 ^ (min (-1074 + (E (mg a) : Int)) (-1074 + (E (mg b) : Int)) + 1074).toNat : Nat) : Int) = c at *
  simp only [compare, compareOfLessAndEq]
  have i1 : x * c < y * c ↔ x < y := Int.mul_lt_mul_right hp
  have i2 : x * c = y * c ↔ x = y := by
    constructor
    · intro h; exact Int.eq_of_mul_eq_mul_right (by omega) h
    · intro h; rw [h]
  simp only [i1, i2]

theorem rk_lt_of {a b : Nat} : iv a < iv b ↔ rk a < rk b := by
  unfold iv rk
  have h1 := @V_lt_iff (mg a) (mg b)
  have h2 := @V_lt_iff (mg b) (mg a)
  have h3 := @V_eq_zero (mg a)
  have h4 := @V_eq_zero (mg b)
  cases ng a <;> cases ng b <;> simp <;> omega

theorem rk_eq_of {a b : Nat} : iv a = iv b ↔ rk a = rk b := by
  have h1 := @rk_lt_of a b
  have h2 := @rk_lt_of b a
  omega

/-- The order of all words but NaNs is that of their ranks. -/
theorem order_rk {a b : Nat} (ha : mg a ≤ INF) (hb : mg b ≤ INF) : double.order a b = some (compare (rk a) (rk b)) := by
  by_cases ha' : mg a = INF
  · unfold Format.order
    rw [read_inf ha']
    by_cases hb' : mg b = INF
    · rw [read_inf hb']
      unfold rk; rw [ha', hb']
      cases ng a <;> cases ng b <;> decide
    · rw [read_fin (by omega)]
      show some (if ng a then Ordering.lt else .gt) = _
      unfold rk; rw [ha']
      have : (0 : Int) < INF := by decide
      cases ng a
      · have : compare (INF : Int) (if ng b = true then -(mg b : Int) else (mg b : Int)) = .gt := by
          rw [Int.compare_eq_gt]; split <;> omega
        simpa using this.symm
      · have : compare (-INF : Int) (if ng b = true then -(mg b : Int) else (mg b : Int)) = .lt := by
          rw [Int.compare_eq_lt]; split <;> omega
        simpa using this.symm
  · by_cases hb' : mg b = INF
    · unfold Format.order
      rw [read_inf hb', read_fin (by omega)]
      show some (if ng b then Ordering.gt else .lt) = _
      unfold rk; rw [hb']
      have : (0 : Int) < INF := by decide
      cases ng b
      · have : compare (if ng a = true then -(mg a : Int) else (mg a : Int)) (INF : Int) = .lt := by
          rw [Int.compare_eq_lt]; split <;> omega
        simpa using this.symm
      · have : compare (if ng a = true then -(mg a : Int) else (mg a : Int)) (-INF : Int) = .gt := by
          rw [Int.compare_eq_gt]; split <;> omega
        simpa using this.symm
    · rw [order_fin (by omega) (by omega)]
      congr 1
      simp only [compare, compareOfLessAndEq]
      simp only [rk_lt_of, rk_eq_of]

theorem order_nan_left {a b : Nat} (h : INF < mg a) : double.order a b = none := by
  unfold Format.order; rw [read_nan h]; rfl
theorem order_nan_right {a b : Nat} (h : INF < mg b) : double.order a b = none := by
  unfold Format.order; rw [read_nan h]
  cases double.read a <;> rfl

/-- The sum of two finite words. -/
theorem add_fin {a b : Nat} (ha : mg a < INF) (hb : mg b < INF) :
    double.add a b = some (wd (if iv a + iv b = 0 then ng a && ng b else iv a + iv b < 0) (min (rnd (iv a + iv b).natAbs) INF)) := by
  unfold Format.add
  rw [read_fin ha, read_fin hb]
  show some (double.nearest _ _ _) = _
  rw [nearest_eq, word_eq]
  have h1 := iv_signed (w := a) (min (-1074 + (E (mg a) : Int)) (-1074 + (E (mg b) : Int))) (by omega) (by omega)
  have h2 := iv_signed (w := b) (min (-1074 + (E (mg a) : Int)) (-1074 + (E (mg b) : Int))) (by omega) (by omega)
  rw [h1, h2]
  have hbase : -1074 ≤ min (-1074 + (E (mg a) : Int)) (-1074 + (E (mg b) : Int)) := by omega
  generalize min (-1074 + (E (mg a) : Int)) (-1074 + (E (mg b) : Int)) = base at *
  have hp : (0 : Int) < (2 ^ (base + 1074).toNat : Nat) := by
    have := Nat.two_pow_pos (base + 1074).toNat
    omega
  generalize signed (ng a) (M (mg a)) _ = x
  generalize signed (ng b) (M (mg b)) _ = y
  have hr : rung (x + y).natAbs base = rnd (x * (2 ^ (base + 1074).toNat : Nat) + y * (2 ^ (base + 1074).toNat : Nat)).natAbs := by
    refine Near.unique' (n := (x + y).natAbs * 2 ^ (base + 1074).toNat) (q := 2 ^ (-(base + 1074)).toNat) (n' := (x * (2 ^ (base + 1074).toNat : Nat) + y * (2 ^ (base + 1074).toNat : Nat)).natAbs) (q' := 1) (Nat.two_pow_pos _) (by omega) (near_rung base) (near_rnd _) ?_
    rw [← Int.add_mul, Int.natAbs_mul, Int.natAbs_natCast, show (-(base + 1074)).toNat = 0 from by omega]
  rw [hr, ← Int.add_mul]
  generalize ((2 ^ (base + 1074).toNat : Nat) : Int) = c at *
  have i1 : (x + y) * c = 0 ↔ x + y = 0 := by
    rw [Int.mul_eq_zero]; omega
  have i2 : (x + y) * c < 0 ↔ x + y < 0 := by
    have : (x + y) * c < 0 * c ↔ x + y < 0 := Int.mul_lt_mul_right hp
    rw [Int.zero_mul] at this; exact this
  simp only [i1, i2]

/-- The product of two finite words. -/
theorem mul_fin {a b : Nat} (ha : mg a < INF) (hb : mg b < INF) :
    double.mul a b = some (wd (ng a ^^ ng b) (min (rnd2 (V (mg a) * V (mg b))) INF)) := by
  unfold Format.mul
  rw [read_fin ha, read_fin hb]
  show some (double.nearest _ _ _) = _
  rw [nearest_eq, word_eq]
  have hr : rung (M (mg a) * M (mg b)) (-1074 + (E (mg a) : Int) + (-1074 + (E (mg b) : Int))) = rnd2 (V (mg a) * V (mg b)) := by
    refine Near.unique' (Nat.two_pow_pos _) Q_pos (near_rung _) (near_rnd2 _) ?_
    unfold V
    rw [show M (mg a) * 2 ^ E (mg a) * (M (mg b) * 2 ^ E (mg b)) = M (mg a) * M (mg b) * (2 ^ E (mg a) * 2 ^ E (mg b)) from by grind]
    unfold Q
    generalize M (mg a) * M (mg b) = m
    rw [Nat.mul_assoc, Nat.mul_assoc, ← Nat.pow_add, ← Nat.pow_add, ← Nat.pow_add]
    have := T_int
    congr 2; omega
  rw [hr]
end TF
/- More on words of binary64: opposites and differences; signed values; what is representable; bounds of one rounding. -/
namespace TF
open Ieee

/-- The word with the other sign. -/
def op (w : Nat) : Nat := if ng w then w - 2 ^ 63 else w + 2 ^ 63

theorem mg_lt (w : Nat) : mg w < 2 ^ 63 := Nat.mod_lt _ (by omega)
theorem ng_iff {w : Nat} (h : w < 2 ^ 64) : ng w = true ↔ 2 ^ 63 ≤ w := by
  unfold ng; simp; omega
theorem ng_false_iff {w : Nat} (h : w < 2 ^ 64) : ng w = false ↔ w < 2 ^ 63 := by
  unfold ng; simp; omega
theorem word_split {w : Nat} (h : w < 2 ^ 64) : w = wd (ng w) (mg w) := by
  unfold wd mg
  by_cases e : ng w = true
  · rw [if_pos e]; rw [ng_iff h] at e; omega
  · rw [if_neg e]; rw [Bool.not_eq_true, ng_false_iff h] at e; omega
theorem mg_wd {s : Bool} {r : Nat} (h : r < 2 ^ 63) : mg (wd s r) = r := by
  unfold mg wd; cases s <;> simp <;> omega
theorem ng_wd {s : Bool} {r : Nat} (h : r < 2 ^ 63) : ng (wd s r) = s := by
  unfold ng wd
  cases s
  · have : r / 2 ^ 63 % 2 = 0 := by omega
    simp; omega
  · simp; omega
theorem wd_lt {s : Bool} {r : Nat} (h : r < 2 ^ 63) : wd s r < 2 ^ 64 := by
  unfold wd; cases s <;> simp <;> omega
theorem mg_op {w : Nat} (h : w < 2 ^ 64) : mg (op w) = mg w := by
  unfold op mg
  by_cases e : ng w = true
  · rw [if_pos e]; rw [ng_iff h] at e; omega
  · rw [if_neg e]; rw [Bool.not_eq_true, ng_false_iff h] at e; omega
theorem ng_op {w : Nat} (h : w < 2 ^ 64) : ng (op w) = !ng w := by
  unfold op
  by_cases e : ng w = true
  · rw [if_pos e, e]; rw [ng_iff h] at e; unfold ng; simp; omega
  · rw [if_neg e]; rw [Bool.not_eq_true] at e; rw [e]; rw [ng_false_iff h] at e; unfold ng; simp; omega
theorem op_lt {w : Nat} (h : w < 2 ^ 64) : op w < 2 ^ 64 := by
  unfold op
  by_cases e : ng w = true
  · rw [if_pos e]; omega
  · rw [if_neg e]; rw [Bool.not_eq_true, ng_false_iff h] at e; omega
theorem op_op {w : Nat} (h : w < 2 ^ 64) : op (op w) = w := by
  have h1 := op_lt h
  have e : op (op w) = wd (ng w) (mg w) := by
    rw [word_split (op_lt h1), mg_op h1, ng_op h1, mg_op h, ng_op h, Bool.not_not]
  rw [e, ← word_split h]
theorem iv_op {w : Nat} (h : w < 2 ^ 64) : iv (op w) = -iv w := by
  unfold iv; rw [mg_op h, ng_op h]; cases ng w <;> simp
theorem rk_op {w : Nat} (h : w < 2 ^ 64) : rk (op w) = -rk w := by
  unfold rk; rw [mg_op h, ng_op h]; cases ng w <;> simp
theorem read_op {w : Nat} (h : w < 2 ^ 64) : double.read (op w) = (double.read w).opposite := by
  by_cases h1 : mg w < INF
  · rw [read_fin h1, read_fin (by rw [mg_op h]; exact h1), mg_op h, ng_op h]; rfl
  · by_cases h2 : mg w = INF
    · rw [read_inf h2, read_inf (by rw [mg_op h]; exact h2), ng_op h]; rfl
    · rw [read_nan (by omega : INF < mg w), read_nan (by rw [mg_op h]; omega), mg_op h, ng_op h]; rfl
theorem sub_eq {a b : Nat} (hb : b < 2 ^ 64) : double.sub a b = double.add a (op b) := by
  unfold Format.sub Format.add; rw [read_op hb]

/-- The word of a whole number of units, rounded; of nought that with the sign z. -/
def rw' (z : Bool) (n : Int) : Nat := wd (if n = 0 then z else n < 0) (min (rnd n.natAbs) INF)

theorem add_word {a b : Nat} (ha : mg a < INF) (hb : mg b < INF) : double.add a b = some (rw' (ng a && ng b) (iv a + iv b)) := by
  rw [add_fin ha hb]; rfl
theorem sub_word {a b : Nat} (ha : mg a < INF) (hb' : b < 2 ^ 64) (hb : mg b < INF) : double.sub a b = some (rw' (ng a && !ng b) (iv a - iv b)) := by
  rw [sub_eq hb', add_word ha (by rw [mg_op hb']; exact hb), ng_op hb', iv_op hb', Int.sub_eq_add_neg]

theorem INF_lt : INF < 2 ^ 63 := by decide
theorem mg_rw (z : Bool) (n : Int) : mg (rw' z n) = min (rnd n.natAbs) INF := mg_wd (Nat.lt_of_le_of_lt (Nat.min_le_right ..) INF_lt)
theorem ng_rw (z : Bool) (n : Int) : ng (rw' z n) = if n = 0 then z else n < 0 := by
  unfold rw'; rw [ng_wd (Nat.lt_of_le_of_lt (Nat.min_le_right ..) INF_lt)]
theorem rw_lt (z : Bool) (n : Int) : rw' z n < 2 ^ 64 := wd_lt (Nat.lt_of_le_of_lt (Nat.min_le_right ..) INF_lt)

theorem rnd_V (r : Nat) : rnd (V r) = r :=
  (near_rnd (V r)).unique (by omega) (by have := near_self (r := r) (q := 1) (by omega); rwa [Nat.one_mul] at this)
theorem rnd_mono {m n : Nat} (h : m ≤ n) : rnd m ≤ rnd n :=
  (near_rnd m).le_of (by omega) (by omega) (near_rnd n) (by omega)
theorem rnd_le_of {n r : Nat} (h : n ≤ V r) : rnd n ≤ r := by have := rnd_mono h; rwa [rnd_V] at this
theorem le_rnd_of {n r : Nat} (h : V r ≤ n) : r ≤ rnd n := by have := rnd_mono h; rwa [rnd_V] at this
theorem rnd_zero : rnd 0 = 0 := by have := rnd_V 0; rwa [V_zero] at this
theorem rnd_eq_zero {n : Nat} : rnd n = 0 ↔ n = 0 := by
  constructor
  · intro h
    refine Classical.byContradiction fun hn => ?_
    have := le_rnd_of (n := n) (r := 1) (by rw [V_small (by omega)]; omega)
    omega
  · intro h; subst h; exact rnd_zero

/-- A whole number of units that is a rung's value. -/
def Rep (n : Nat) : Prop := ∃ r, V r = n
theorem rep_V (r : Nat) : Rep (V r) := ⟨r, rfl⟩
theorem Rep.eq {n : Nat} (h : Rep n) : V (rnd n) = n := by obtain ⟨r, rfl⟩ := h; rw [rnd_V]

theorem rep_block {k D : Nat} (h1 : 2 ^ 52 ≤ k) (h2 : k ≤ 2 ^ 53) : Rep (k * 2 ^ D) := ⟨D * 2 ^ 52 + k, V_block h1 h2⟩
/-- At most 53 bits, at whatever place. -/
theorem rep_bits (k D : Nat) (h : k ≤ 2 ^ 53) : Rep (k * 2 ^ D) := by
  induction D generalizing k with
  | zero => exact ⟨k, by rw [V_small h]; simp⟩
  | succ D ih =>
    by_cases h1 : 2 ^ 52 ≤ k
    · exact rep_block h1 h
    · have := ih (k * 2) (by omega)
      rwa [Nat.mul_assoc, ← Nat.pow_succ'] at this
theorem rep_dvd {n D : Nat} (h : 2 ^ D ∣ n) (hn : n ≤ 2 ^ 53 * 2 ^ D) : Rep n := by
  obtain ⟨k, rfl⟩ := h
  rw [Nat.mul_comm]
  refine rep_bits k D ?_
  rw [Nat.mul_comm] at hn
  exact Nat.le_of_mul_le_mul_right hn (Nat.two_pow_pos D)
theorem V_dvd {r k : Nat} (h : k ≤ E r) : 2 ^ k ∣ V r := by
  unfold V
  exact Nat.dvd_trans (Nat.pow_dvd_pow 2 h) ⟨M r, Nat.mul_comm ..⟩
theorem E_mono {r s : Nat} (h : r ≤ s) : E r ≤ E s := by
  unfold E; have := Nat.div_le_div_right (c := 2 ^ 52) h; omega
theorem V_lt_E (r : Nat) : V r < 2 ^ 53 * 2 ^ E r := by
  unfold V; exact Nat.mul_lt_mul_of_pos_right (M_lt r) (Nat.two_pow_pos _)

/-- No rung's value is nearer. -/
theorem near_best (n t : Nat) : ((V (rnd n) : Int) - n).natAbs ≤ ((V t : Int) - n).natAbs := by
  have h := near_rnd n
  generalize rnd n = r at *
  have hi := h.hi
  rcases Nat.lt_trichotomy t r with ht | ht | ht
  · obtain ⟨s, rfl⟩ : ∃ s, r = s + 1 := ⟨r - 1, by omega⟩
    have lo := h.lo s rfl
    have := V_le (show t ≤ s by omega)
    have := V_lt_succ s
    omega
  · subst ht; exact Nat.le_refl _
  · have := V_le (show r + 1 ≤ t by omega)
    have := V_lt_succ r
    omega
theorem near_best' (n : Nat) {m : Nat} (h : Rep m) : ((V (rnd n) : Int) - n).natAbs ≤ ((m : Int) - n).natAbs := by
  obtain ⟨t, rfl⟩ := h; exact near_best n t

/-- Where the step is fine enough nothing is rounded. -/
theorem rnd_exact {n k : Nat} (h : 2 ^ k ∣ n) (he : E (rnd n) ≤ k) : V (rnd n) = n := by
  have hr := near_rnd n
  generalize rnd n = r at *
  have hi := hr.hi
  rcases Nat.lt_trichotomy (V r) n with hlt | heq | hgt
  · exfalso
    have h1 := V_succ r
    have hlt2 : n < V (r + 1) := by have := V_lt_succ r; omega
    obtain ⟨c, hc⟩ := Nat.dvd_trans (Nat.pow_dvd_pow 2 he) h
    have hv : V r = 2 ^ E r * M r := by unfold V; exact Nat.mul_comm ..
    rw [h1, hv] at hlt2
    rw [hv] at hlt
    subst hc
    have a := Nat.lt_of_mul_lt_mul_left hlt
    rw [show 2 ^ E r * M r + 2 ^ E r = 2 ^ E r * (M r + 1) from by rw [Nat.mul_add, Nat.mul_one]] at hlt2
    have b := Nat.lt_of_mul_lt_mul_left hlt2
    omega
  · exact heq
  · exfalso
    obtain ⟨s, rfl⟩ : ∃ s, r = s + 1 := ⟨r - 1, by
      by_cases h0 : r = 0
      · subst h0; rw [V_zero] at hgt; omega
      · omega⟩
    have lo := hr.lo s rfl
    have h1 := V_succ s
    have hlt2 : V s < n := by have := V_lt_succ s; omega
    obtain ⟨c, hc⟩ := Nat.dvd_trans (Nat.pow_dvd_pow 2 (Nat.le_trans (E_mono (show s ≤ s + 1 by omega)) he)) h
    have hv : V s = 2 ^ E s * M s := by unfold V; exact Nat.mul_comm ..
    rw [h1, hv] at hgt
    rw [hv] at hlt2
    subst hc
    have a := Nat.lt_of_mul_lt_mul_left hlt2
    rw [show 2 ^ E s * M s + 2 ^ E s = 2 ^ E s * (M s + 1) from by rw [Nat.mul_add, Nat.mul_one]] at hgt
    have b := Nat.lt_of_mul_lt_mul_left hgt
    omega

/-- The signed value of what a whole number of units is rounded to (where it doesn't overflow). -/
def rI (n : Int) : Int := if n < 0 then -(V (rnd n.natAbs) : Int) else V (rnd n.natAbs)

theorem iv_rw {z : Bool} {n : Int} (h : rnd n.natAbs < INF) : iv (rw' z n) = rI n := by
  unfold iv rI
  rw [mg_rw, ng_rw, Nat.min_eq_left (by omega)]
  by_cases h0 : n = 0
  · subst h0
    have : V (rnd 0) = 0 := by decide
    simp [this]
  · rw [if_neg h0]; simp

theorem rI_rep {n : Int} (h : Rep n.natAbs) : rI n = n := by
  unfold rI; rw [h.eq]; split <;> omega
theorem rI_neg (n : Int) : rI (-n) = -rI n := by
  unfold rI
  rw [Int.natAbs_neg]
  by_cases h0 : n = 0
  · subst h0; decide
  · by_cases h1 : n < 0
    · rw [if_pos h1, if_neg (by omega)]; omega
    · rw [if_neg h1, if_pos (by omega)]
theorem rI_natAbs (n : Int) : (rI n).natAbs = V (rnd n.natAbs) := by
  unfold rI; split <;> omega
theorem rI_best (n x : Int) (h : Rep x.natAbs) : (rI n - n).natAbs ≤ (x - n).natAbs := by
  have h1 := near_best' n.natAbs h
  have h2 := near_best n.natAbs 0
  rw [V_zero] at h2
  unfold rI
  by_cases hn : n < 0
  · rw [if_pos hn]
    by_cases hx : 0 ≤ x
    · omega
    · omega
  · rw [if_neg hn]
    by_cases hx : x < 0
    · omega
    · omega
theorem rI_mono {m n : Int} (h : m ≤ n) : rI m ≤ rI n := by
  unfold rI
  by_cases h1 : m < 0
  · rw [if_pos h1]
    by_cases h2 : n < 0
    · rw [if_pos h2]
      have := V_le (rnd_mono (show n.natAbs ≤ m.natAbs by omega))
      omega
    · rw [if_neg h2]; omega
  · rw [if_neg h1, if_neg (by omega)]
    have := V_le (rnd_mono (show m.natAbs ≤ n.natAbs by omega))
    omega
theorem rep_iv (w : Nat) : Rep (iv w).natAbs := by
  unfold iv; refine ⟨mg w, ?_⟩; split <;> omega
theorem iv_natAbs (w : Nat) : (iv w).natAbs = V (mg w) := by
  unfold iv; split <;> omega

theorem write_inf (s : Bool) : double.write (.infinity s) = wd s INF := by
  show double.word s double.infRung = _
  rw [word_eq, show double.infRung = INF from by decide]
theorem add_inf_fin {a b : Nat} (ha : mg a = INF) (hb : mg b < INF) : double.add a b = some (wd (ng a) INF) := by
  unfold Format.add; rw [read_inf ha, read_fin hb]
  show some (double.write (.infinity _)) = _
  rw [write_inf]
theorem add_fin_inf {a b : Nat} (ha : mg a < INF) (hb : mg b = INF) : double.add a b = some (wd (ng b) INF) := by
  unfold Format.add; rw [read_fin ha, read_inf hb]
  show some (double.write (.infinity _)) = _
  rw [write_inf]
theorem add_inf_inf {a b : Nat} (ha : mg a = INF) (hb : mg b = INF) (h : ng a = ng b) : double.add a b = some (wd (ng a) INF) := by
  unfold Format.add; rw [read_inf ha, read_inf hb]
  show (if ng a = ng b then some (Datum.infinity (ng a)) else none).map double.write = _
  rw [if_pos h]
  show some (double.write (.infinity _)) = _
  rw [write_inf]
theorem add_inf_opp {a b : Nat} (ha : mg a = INF) (hb : mg b = INF) (h : ng a ≠ ng b) : double.add a b = none := by
  unfold Format.add; rw [read_inf ha, read_inf hb]
  show (if ng a = ng b then some (Datum.infinity (ng a)) else none).map double.write = _
  rw [if_neg h]; rfl
theorem add_nan_left {a b : Nat} (h : INF < mg a) : double.add a b = none := by
  unfold Format.add; rw [read_nan h]; rfl
theorem add_nan_right {a b : Nat} (h : INF < mg b) : double.add a b = none := by
  unfold Format.add; rw [read_nan h]; cases double.read a <;> rfl
theorem mul_inf_inf {a b : Nat} (ha : mg a = INF) (hb : mg b = INF) : double.mul a b = some (wd (ng a ^^ ng b) INF) := by
  unfold Format.mul; rw [read_inf ha, read_inf hb]
  show some (double.write (.infinity _)) = _
  rw [write_inf]
theorem M_eq_zero {r : Nat} : M r = 0 ↔ r = 0 := by unfold M; split <;> omega
theorem mul_inf_fin {a b : Nat} (ha : mg a = INF) (hb : mg b < INF) : double.mul a b = if mg b = 0 then none else some (wd (ng a ^^ ng b) INF) := by
  unfold Format.mul; rw [read_inf ha, read_fin hb]
  show (if M (mg b) = 0 then none else some (Datum.infinity (ng a ^^ ng b))).map double.write = _
  simp only [M_eq_zero]
  split
  · rfl
  · show some (double.write (.infinity _)) = _
    rw [write_inf]
theorem mul_fin_inf {a b : Nat} (ha : mg a < INF) (hb : mg b = INF) : double.mul a b = if mg a = 0 then none else some (wd (ng b ^^ ng a) INF) := by
  unfold Format.mul; rw [read_inf hb, read_fin ha]
  show (if M (mg a) = 0 then none else some (Datum.infinity (ng b ^^ ng a))).map double.write = _
  simp only [M_eq_zero]
  split
  · rfl
  · show some (double.write (.infinity _)) = _
    rw [write_inf]
theorem mul_nan_left {a b : Nat} (h : INF < mg a) : double.mul a b = none := by
  unfold Format.mul; rw [read_nan h]; rfl
theorem mul_nan_right {a b : Nat} (h : INF < mg b) : double.mul a b = none := by
  unfold Format.mul; rw [read_nan h]; cases double.read a <;> rfl
theorem V_INF : V INF = 2 ^ 53 * 2 ^ 2045 := by
  have := V_block (D := 2045) (k := 2 ^ 53) (by omega) (by omega)
  exact this
end TF
/- The walk's words for floats of 64 bits: comparisons by ranks, opposites, bits, operations that are valid or not. -/
namespace TF
open Ieee Go

theorem f64 : FloatKind.f64.format = double := rfl

/-- Is the word a NaN? -/
def isN (x : Nat) : Bool := decide (INF < mg x)
theorem isN_true {x : Nat} : isN x = true ↔ INF < mg x := by simp [isN]
theorem isN_false {x : Nat} : isN x = false ↔ mg x ≤ INF := by simp [isN]

theorem ord_nan_left {a : Nat} (b : Nat) (h : INF < mg a) : FloatKind.f64.format.order a b = none := by rw [f64]; exact order_nan_left h
theorem ord_nan_right (a : Nat) {b : Nat} (h : INF < mg b) : FloatKind.f64.format.order a b = none := by rw [f64]; exact order_nan_right h
theorem ord_rk {a b : Nat} (ha : mg a ≤ INF) (hb : mg b ≤ INF) : FloatKind.f64.format.order a b = some (compare (rk a) (rk b)) := by rw [f64]; exact order_rk ha hb
theorem ord_lt {a b : Nat} (ha : mg a ≤ INF) (hb : mg b ≤ INF) (h : rk a < rk b) : FloatKind.f64.format.order a b = some .lt := by rw [ord_rk ha hb, Int.compare_eq_lt.2 h]
theorem ord_gt {a b : Nat} (ha : mg a ≤ INF) (hb : mg b ≤ INF) (h : rk b < rk a) : FloatKind.f64.format.order a b = some .gt := by rw [ord_rk ha hb, Int.compare_eq_gt.2 h]
theorem ord_eq {a b : Nat} (ha : mg a ≤ INF) (hb : mg b ≤ INF) (h : rk a = rk b) : FloatKind.f64.format.order a b = some .eq := by rw [ord_rk ha hb, Int.compare_eq_eq.2 h]

/-- a == b, a < b of words. -/
def eqW (a b : Nat) : Bool := !isN a && !isN b && decide (rk a = rk b)
def ltW (a b : Nat) : Bool := !isN a && !isN b && decide (rk a < rk b)
def leW (a b : Nat) : Bool := !isN a && !isN b && decide (rk a ≤ rk b)

theorem ord_cases (a b : Nat) : (FloatKind.f64.format.order a b = none ∧ (isN a = true ∨ isN b = true)) ∨
    (isN a = false ∧ isN b = false ∧ ((FloatKind.f64.format.order a b = some .lt ∧ rk a < rk b) ∨ (FloatKind.f64.format.order a b = some .eq ∧ rk a = rk b) ∨ (FloatKind.f64.format.order a b = some .gt ∧ rk b < rk a))) := by
  by_cases ha : INF < mg a
  · exact .inl ⟨ord_nan_left b ha, .inl (isN_true.2 ha)⟩
  · by_cases hb : INF < mg b
    · exact .inl ⟨ord_nan_right a hb, .inr (isN_true.2 hb)⟩
    · refine .inr ⟨isN_false.2 (by omega), isN_false.2 (by omega), ?_⟩
      rcases Int.lt_trichotomy (rk a) (rk b) with h | h | h
      · exact .inl ⟨ord_lt (by omega) (by omega) h, h⟩
      · exact .inr (.inl ⟨ord_eq (by omega) (by omega) h, h⟩)
      · exact .inr (.inr ⟨ord_gt (by omega) (by omega) h, h⟩)

theorem cmp_eq (a b : Nat) : (FloatKind.f64.format.order a b == some .eq) = eqW a b := by
  unfold eqW
  rcases ord_cases a b with ⟨h, h1 | h1⟩ | ⟨h1, h2, ⟨h, h3⟩ | ⟨h, h3⟩ | ⟨h, h3⟩⟩
  · rw [h, h1]; rfl
  · rw [h, h1]; simp
  · rw [h, h1, h2, decide_eq_false (by omega)]; rfl
  · rw [h, h1, h2, decide_eq_true h3]; rfl
  · rw [h, h1, h2, decide_eq_false (by omega)]; rfl
theorem cmp_ne (a b : Nat) : (FloatKind.f64.format.order a b != some .eq) = !eqW a b := by rw [← cmp_eq]; rfl
theorem cmp_lt (a b : Nat) : (FloatKind.f64.format.order a b == some .lt) = ltW a b := by
  unfold ltW
  rcases ord_cases a b with ⟨h, h1 | h1⟩ | ⟨h1, h2, ⟨h, h3⟩ | ⟨h, h3⟩ | ⟨h, h3⟩⟩
  · rw [h, h1]; rfl
  · rw [h, h1]; simp
  · rw [h, h1, h2, decide_eq_true h3]; rfl
  · rw [h, h1, h2, decide_eq_false (by omega)]; rfl
  · rw [h, h1, h2, decide_eq_false (by omega)]; rfl
theorem cmp_gt (a b : Nat) : (FloatKind.f64.format.order a b == some .gt) = ltW b a := by
  unfold ltW
  rcases ord_cases a b with ⟨h, h1 | h1⟩ | ⟨h1, h2, ⟨h, h3⟩ | ⟨h, h3⟩ | ⟨h, h3⟩⟩
  · rw [h, h1]; simp
  · rw [h, h1]; rfl
  · rw [h, h1, h2, decide_eq_false (by omega)]; rfl
  · rw [h, h1, h2, decide_eq_false (by omega)]; rfl
  · rw [h, h1, h2, decide_eq_true h3]; rfl
theorem le_or (a b : Nat) : leW a b = (ltW a b || eqW a b) := by
  unfold leW ltW eqW
  cases isN a <;> cases isN b <;> simp
  by_cases h : rk a ≤ rk b
  · rw [decide_eq_true h]
    by_cases h' : rk a < rk b
    · rw [decide_eq_true h']; rfl
    · rw [decide_eq_true (show rk a = rk b by omega)]; simp
  · rw [decide_eq_false h, decide_eq_false (by omega), decide_eq_false (by omega)]; rfl
theorem eq_comm' (a b : Nat) : eqW a b = eqW b a := by
  unfold eqW
  rw [Bool.and_comm (!isN a), show decide (rk a = rk b) = decide (rk b = rk a) from by congr 1; exact propext ⟨Eq.symm, Eq.symm⟩]
theorem cmp_le (a b : Nat) : (FloatKind.f64.format.order a b == some .lt || FloatKind.f64.format.order a b == some .eq) = leW a b := by rw [cmp_lt, cmp_eq, le_or]
theorem cmp_ge (a b : Nat) : (FloatKind.f64.format.order a b == some .gt || FloatKind.f64.format.order a b == some .eq) = leW b a := by rw [cmp_gt, cmp_eq, le_or, eq_comm']

theorem negFloat_eq {b : Nat} (h : b < 2 ^ 64) : Op.negFloat .f64 b = op b := by
  unfold Op.negFloat op
  rw [f64, show double.exponentBits + double.fractionBits = 63 from rfl]
  by_cases e : ng b = true
  · rw [if_pos e]
    rw [ng_iff h] at e
    have h1 : b = 2 ^ 63 + (b - 2 ^ 63) := by omega
    generalize b - 2 ^ 63 = c at *
    subst h1
    rw [show 2 ^ 63 + c = 2 ^ 63 ||| c from by
      have := Nat.two_pow_add_eq_or_of_lt (i := 63) (b := c) (by omega) 1
      simpa using this]
    apply Nat.eq_of_testBit_eq
    intro i
    rw [Nat.testBit_xor, Nat.testBit_or, Nat.testBit_two_pow]
    by_cases hi : 63 = i
    · subst hi
      have : c.testBit 63 = false := Nat.testBit_lt_two_pow (by omega)
      simp [this]
    · simp [hi]
  · rw [if_neg e]
    rw [Bool.not_eq_true, ng_false_iff h] at e
    rw [Nat.add_comm]
    rw [show 2 ^ 63 + b = 2 ^ 63 ||| b from by
      have := Nat.two_pow_add_eq_or_of_lt (i := 63) (b := b) (by omega) 1
      simpa using this]
    apply Nat.eq_of_testBit_eq
    intro i
    rw [Nat.testBit_xor, Nat.testBit_or, Nat.testBit_two_pow]
    by_cases hi : 63 = i
    · subst hi
      have : b.testBit 63 = false := Nat.testBit_lt_two_pow (by omega)
      simp [this]
    · simp [hi]

theorem andNot_eq {b : Nat} (h : b < 2 ^ 64) : bits .andNot .u64 (b : Int) 9223372036854775808 = ((mg b : Nat) : Int) := by
  have e := u64_andNot_nat b 9223372036854775808 h (by omega)
  rw [show ((9223372036854775808 : Nat) : Int) = 9223372036854775808 from rfl] at e
  rw [e]
  have : b &&& (18446744073709551615 - 9223372036854775808) = b % 2 ^ 63 := Nat.and_two_pow_sub_one_eq_mod b 63
  rw [this]; rfl

theorem run_neg (P : Program) {b : Nat} (h : b < 2 ^ 64) (w : World) : (Op.unary .neg (.float .f64 b)).run P w = .ok (.float .f64 (op b)) w := by
  rw [← negFloat_eq h]; rfl

/-- An operation that is valid. -/
theorem run_valid {P : Program} {o : BinOp} (t : TypeId) {x y r : Nat} (h : floatBits o .f64 x y = some r) (w : World) : (binOp o t (.float .f64 x) (.float .f64 y)).run P w = .ok (.float .f64 r) w :=
  run_float_arith w o t .f64 x y r h

/-- One that isn't: a NaN, whose bits the tape tells. -/
theorem run_invalid {P : Program} {o : BinOp} (t : TypeId) {x y : Nat} (ho : o = .add ∨ o = .sub ∨ o = .mul ∨ o = .quo) (h : floatBits o .f64 x y = none) (w : World) :
    ∃ n, n < 2 ^ 64 ∧ INF < mg n ∧ (binOp o t (.float .f64 x) (.float .f64 y)).run P w = .ok (.float .f64 n) w.drew := by
  have key : ∀ v : Nat, (v % 2) * 2 ^ 63 + 0x7ff0000000000000 + 1 + (v / 2) % (2 ^ 52 - 1) < 2 ^ 64 ∧ INF < mg ((v % 2) * 2 ^ 63 + 0x7ff0000000000000 + 1 + (v / 2) % (2 ^ 52 - 1)) := by
    intro v
    unfold mg INF
    have h2 : (v / 2) % (2 ^ 52 - 1) < 2 ^ 52 - 1 := Nat.mod_lt _ (by omega)
    generalize (v / 2) % (2 ^ 52 - 1) = m at *
    rcases (show v % 2 = 0 ∨ v % 2 = 1 by omega) with h1 | h1 <;> rw [h1] <;> omega
  obtain ⟨k1, k2⟩ := key (w.tape w.drawn (.nanBits .f64 x y))
  refine ⟨_, k1, k2, ?_⟩
  unfold floatBits at h
  rcases ho with rfl | rfl | rfl | rfl
  all_goals
    simp only at h
    simp only [binOp, Op.floatArith, h]
    rfl
end TF
