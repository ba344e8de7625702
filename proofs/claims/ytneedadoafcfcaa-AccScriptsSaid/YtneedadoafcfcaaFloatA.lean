/- Plain facts on binary64: a word's magnitude is a rung, V gives its value in units of 2^-1074; what Ieee's rounding gives is the nearest rung, and that is unique. -/
import Ieee.Arith
namespace TF
open Ieee

/-- The exponent of the step above a rung. -/
def E (r : Nat) : Nat := r / 2 ^ 52 - 1
/-- The significand of a rung. -/
def M (r : Nat) : Nat := if r < 2 ^ 52 then r else 2 ^ 52 + r % 2 ^ 52
/-- The value of a rung in units of 2^-1074. -/
def V (r : Nat) : Nat := M r * 2 ^ E r

theorem M_lt (r : Nat) : M r < 2 ^ 53 := by unfold M; split <;> omega

theorem V_succ (r : Nat) : V (r + 1) = V r + 2 ^ E r := by
  unfold V M E
  by_cases h : r + 1 < 2 ^ 52
  · have e1 : r / 2 ^ 52 = 0 := Nat.div_eq_of_lt (by omega)
    have e2 : (r + 1) / 2 ^ 52 = 0 := Nat.div_eq_of_lt h
    rw [if_pos h, if_pos (by omega), e1, e2]; simp
  · rw [if_neg h]
    by_cases h0 : r < 2 ^ 52
    · have : r = 2 ^ 52 - 1 := by omega
      subst this; decide
    · rw [if_neg h0]
      by_cases hm : r % 2 ^ 52 + 1 = 2 ^ 52
      · have e2 : (r + 1) / 2 ^ 52 = r / 2 ^ 52 + 1 := by omega
        have e3 : (r + 1) % 2 ^ 52 = 0 := by omega
        obtain ⟨k, hk⟩ : ∃ k, r / 2 ^ 52 = k + 1 := ⟨r / 2 ^ 52 - 1, by omega⟩
        have e4 : r % 2 ^ 52 = 2 ^ 52 - 1 := by omega
        rw [e2, e3, hk, e4]
        simp only [Nat.add_sub_cancel, Nat.pow_succ, Nat.add_zero]
        omega
      · have e2 : (r + 1) / 2 ^ 52 = r / 2 ^ 52 := by omega
        have e3 : (r + 1) % 2 ^ 52 = r % 2 ^ 52 + 1 := by omega
        rw [e2, e3, ← Nat.add_assoc, Nat.add_mul, Nat.one_mul]

theorem V_lt_succ (r : Nat) : V r < V (r + 1) := by
  rw [V_succ]; have := Nat.two_pow_pos (E r); omega

theorem V_lt {r s : Nat} (h : r < s) : V r < V s := by
  induction s with
  | zero => omega
  | succ s ih =>
    by_cases e : r = s
    · subst e; exact V_lt_succ r
    · exact Nat.lt_trans (ih (by omega)) (V_lt_succ s)

theorem V_le {r s : Nat} (h : r ≤ s) : V r ≤ V s := by
  by_cases e : r = s
  · subst e; exact Nat.le_refl _
  · exact Nat.le_of_lt (V_lt (by omega))

theorem V_lt_iff {r s : Nat} : V r < V s ↔ r < s :=
  ⟨fun h => by by_cases e : s ≤ r; (have := V_le e; omega); omega, V_lt⟩
theorem V_le_iff {r s : Nat} : V r ≤ V s ↔ r ≤ s :=
  ⟨fun h => by by_cases e : s < r; (have := V_lt e; omega); omega, V_le⟩
theorem V_inj {r s : Nat} (h : V r = V s) : r = s := by
  have h1 := V_le_iff.1 (Nat.le_of_eq h)
  have h2 := V_le_iff.1 (Nat.le_of_eq h.symm)
  omega
theorem V_zero : V 0 = 0 := by decide
theorem V_eq_zero {r : Nat} : V r = 0 ↔ r = 0 :=
  ⟨fun h => V_inj (by rw [h, V_zero]), fun h => by subst h; exact V_zero⟩
theorem V_small {r : Nat} (h : r ≤ 2 ^ 53) : V r = r := by
  by_cases e : r = 2 ^ 53
  · subst e; decide
  · unfold V M E
    by_cases h0 : r < 2 ^ 52
    · have : r / 2 ^ 52 = 0 := Nat.div_eq_of_lt h0
      rw [if_pos h0, this]; simp
    · rw [if_neg h0, show r / 2 ^ 52 = 1 from by omega]; simp; omega

/-- r is the rung nearest to n / q units of 2^-1074; of two equally near ones the even one. -/
structure Near (n q r : Nat) : Prop where
  lo : ∀ s, r = s + 1 → q * (V s + V r) ≤ 2 * n
  loe : ∀ s, r = s + 1 → q * (V s + V r) = 2 * n → r % 2 = 0
  hi : 2 * n ≤ q * (V r + V (r + 1))
  hie : 2 * n = q * (V r + V (r + 1)) → r % 2 = 0

theorem Near.le_of {n q n' q' r s : Nat} (hq : 0 < q) (hq' : 0 < q') (h : Near n q r) (h' : Near n' q' s) (hn : n * q' ≤ n' * q) : r ≤ s := by
  refine Classical.byContradiction fun hc => ?_
  obtain ⟨t, rfl⟩ : ∃ t, r = t + 1 := ⟨r - 1, by omega⟩
  have hst : s ≤ t := by omega
  have a := h.lo t rfl
  have b := h'.hi
  have c : V s + V (s + 1) ≤ V t + V (t + 1) := Nat.add_le_add (V_le hst) (V_le (by omega))
  have a' : q' * (q * (V t + V (t + 1))) ≤ 2 * (n * q') := by
    have := Nat.mul_le_mul_left q' a
    rw [Nat.mul_comm n q', Nat.mul_left_comm 2]; exact this
  have b' : 2 * (n' * q) ≤ q * (q' * (V s + V (s + 1))) := by
    have := Nat.mul_le_mul_left q b
    rw [Nat.mul_comm n' q, Nat.mul_left_comm 2]; exact this
  have c' : q * (q' * (V s + V (s + 1))) ≤ q * (q' * (V t + V (t + 1))) := Nat.mul_le_mul_left q (Nat.mul_le_mul_left q' c)
  have d : q' * (q * (V t + V (t + 1))) = q * (q' * (V t + V (t + 1))) := Nat.mul_left_comm ..
  have e1 : q * (q' * (V s + V (s + 1))) = q * (q' * (V t + V (t + 1))) := by omega
  have e2 : V s + V (s + 1) = V t + V (t + 1) := Nat.eq_of_mul_eq_mul_left hq' (Nat.eq_of_mul_eq_mul_left hq e1)
  have hs : s = t := by
    by_cases hlt : s < t
    · have := V_lt hlt; have := V_lt (show s + 1 < t + 1 by omega); omega
    · omega
  subst hs
  have f1 : 2 * n' = q' * (V s + V (s + 1)) := Nat.eq_of_mul_eq_mul_left hq (by rw [Nat.mul_left_comm, Nat.mul_comm q n']; omega)
  have f2 : q * (V s + V (s + 1)) = 2 * n := Nat.eq_of_mul_eq_mul_left hq' (by rw [Nat.mul_left_comm q' 2 n, Nat.mul_comm q' n]; omega)
  have g1 := h'.hie f1
  have g2 := h.loe s rfl f2
  omega

theorem Near.unique {n q r s : Nat} (hq : 0 < q) (h : Near n q r) (h' : Near n q s) : r = s :=
  Nat.le_antisymm (h.le_of hq hq h' (Nat.le_refl _)) (h'.le_of hq hq h (Nat.le_refl _))

theorem Near.unique' {n q n' q' r s : Nat} (hq : 0 < q) (hq' : 0 < q') (h : Near n q r) (h' : Near n' q' s) (e : n * q' = n' * q) : r = s :=
  Nat.le_antisymm (h.le_of hq hq' h' (Nat.le_of_eq e)) (h'.le_of hq' hq h (Nat.le_of_eq e.symm))

/-- A value that is a rung's own. -/
theorem near_self {r q : Nat} (hq : 0 < q) : Near (q * V r) q r where
  lo s e := by subst e; have := V_lt_succ s; rw [Nat.mul_left_comm 2]; exact Nat.mul_le_mul_left q (by omega)
  loe s e h := by
    subst e
    have := V_lt_succ s
    rw [Nat.mul_left_comm 2] at h
    have := Nat.eq_of_mul_eq_mul_left hq h
    omega
  hi := by have := V_lt_succ r; rw [Nat.mul_left_comm 2]; exact Nat.mul_le_mul_left q (by omega)
  hie h := by
    have := V_lt_succ r
    rw [Nat.mul_left_comm 2] at h
    have := Nat.eq_of_mul_eq_mul_left hq h
    omega

/-- What Ieee's cut to even gives: the nearest whole number. -/
theorem cut_even (neg : Bool) (n drop : Nat) :
    2 * n ≤ (2 * Toward.even.cut neg n drop + 1) * 2 ^ drop ∧ (2 * n = (2 * Toward.even.cut neg n drop + 1) * 2 ^ drop → Toward.even.cut neg n drop % 2 = 0) ∧
    (Toward.even.cut neg n drop ≠ 0 → (2 * Toward.even.cut neg n drop - 1) * 2 ^ drop ≤ 2 * n) ∧ (Toward.even.cut neg n drop ≠ 0 → (2 * Toward.even.cut neg n drop - 1) * 2 ^ drop = 2 * n → Toward.even.cut neg n drop % 2 = 0) := by
  by_cases hd : drop ≤ n.log2 + 2
  · have hg : (1 <<< min drop (n.log2 + 2)) = 2 ^ drop := by rw [Nat.min_eq_left hd, Nat.shiftLeft_eq, Nat.one_mul]
    unfold Toward.cut
    simp only [hg]
    have hpos := Nat.two_pow_pos drop
    generalize 2 ^ drop = g at *
    have hdm := Nat.div_add_mod n g
    have hlt := Nat.mod_lt n hpos
    generalize n / g = q at *
    generalize n % g = m at *
    subst hdm
    by_cases h1 : g < 2 * m
    · simp only [h1, decide_true, Bool.true_or, Bool.toNat_true]
      refine ⟨?_, ?_, ?_, ?_⟩
      · grind
      · grind
      · intro _; rw [show 2 * (q + 1) - 1 = 2 * q + 1 by omega]; grind
      · intro _; rw [show 2 * (q + 1) - 1 = 2 * q + 1 by omega]; grind
    · by_cases h2 : g = 2 * m
      · by_cases h3 : q % 2 = 1
        · have : (decide (g < 2 * m) || (g == 2 * m && q % 2 == 1)) = true := by simp [h2, h3]
          simp only [this, Bool.toNat_true]
          refine ⟨?_, ?_, ?_, ?_⟩
          · grind
          · grind
          · intro _; rw [show 2 * (q + 1) - 1 = 2 * q + 1 by omega]; grind
          · intro _; rw [show 2 * (q + 1) - 1 = 2 * q + 1 by omega]; grind
        · have : (decide (g < 2 * m) || (g == 2 * m && q % 2 == 1)) = false := by simp [h2, h3]
          simp only [this, Bool.toNat_false, Nat.add_zero]
          refine ⟨?_, ?_, ?_, ?_⟩
          · grind
          · grind
          · intro hq; obtain ⟨k, rfl⟩ : ∃ k, q = k + 1 := ⟨q - 1, by omega⟩
            rw [show 2 * (k + 1) - 1 = 2 * k + 1 by omega]; grind
          · intro hq; obtain ⟨k, rfl⟩ : ∃ k, q = k + 1 := ⟨q - 1, by omega⟩
            rw [show 2 * (k + 1) - 1 = 2 * k + 1 by omega]; grind
      · have : (decide (g < 2 * m) || (g == 2 * m && q % 2 == 1)) = false := by simp [h1, h2]
        simp only [this, Bool.toNat_false, Nat.add_zero]
        refine ⟨?_, ?_, ?_, ?_⟩
        · grind
        · grind
        · intro hq; obtain ⟨k, rfl⟩ : ∃ k, q = k + 1 := ⟨q - 1, by omega⟩
          rw [show 2 * (k + 1) - 1 = 2 * k + 1 by omega]; grind
        · intro hq; obtain ⟨k, rfl⟩ : ∃ k, q = k + 1 := ⟨q - 1, by omega⟩
          rw [show 2 * (k + 1) - 1 = 2 * k + 1 by omega]; grind
  · have hn : n < 2 ^ (n.log2 + 1) := Nat.lt_log2_self
    have h0 : Toward.even.cut neg n drop = 0 := by
      unfold Toward.cut
      have hg : (1 <<< min drop (n.log2 + 2)) = 2 * 2 ^ (n.log2 + 1) := by
        rw [Nat.min_eq_right (by omega), Nat.shiftLeft_eq, Nat.one_mul, Nat.pow_succ, Nat.mul_comm]
      simp only [hg]
      rw [Nat.div_eq_of_lt (by omega), Nat.mod_eq_of_lt (by omega)]
      have e : (decide (2 * 2 ^ (n.log2 + 1) < 2 * n) || (2 * 2 ^ (n.log2 + 1) == 2 * n && 0 % 2 == 1)) = false := by
        simp; omega
      rw [e]; rfl
    rw [h0]
    have hp : 2 ^ (n.log2 + 1) * 2 ≤ 2 ^ drop := by
      rw [← Nat.pow_succ]; exact Nat.pow_le_pow_right (by omega) (by omega)
    refine ⟨by omega, by omega, fun h => absurd rfl h, fun h => absurd rfl h⟩

theorem Near.ratio {n q n' q' r : Nat} (hq : 0 < q) (hq' : 0 < q') (h : Near n q r) (e : n * q' = n' * q) : Near n' q' r where
  lo s hs := by
    refine Nat.le_of_mul_le_mul_left ?_ hq
    have := Nat.mul_le_mul_left q' (h.lo s hs)
    rw [Nat.mul_left_comm q q', Nat.mul_left_comm q 2, Nat.mul_comm q n', ← e, Nat.mul_comm n q', Nat.mul_left_comm 2]; exact this
  loe s hs hh := by
    refine h.loe s hs (Nat.eq_of_mul_eq_mul_left hq' ?_)
    rw [Nat.mul_left_comm q' q, hh, Nat.mul_left_comm q 2, Nat.mul_comm q n', ← e, Nat.mul_comm n q', Nat.mul_left_comm 2]
  hi := by
    refine Nat.le_of_mul_le_mul_left ?_ hq
    have := Nat.mul_le_mul_left q' h.hi
    rw [Nat.mul_left_comm q q', Nat.mul_left_comm q 2, Nat.mul_comm q n', ← e, Nat.mul_comm n q', Nat.mul_left_comm 2]; exact this
  hie hh := by
    refine h.hie (Nat.eq_of_mul_eq_mul_left hq' ?_)
    rw [Nat.mul_left_comm q' q, ← hh, Nat.mul_left_comm q 2, Nat.mul_comm q n', ← e, Nat.mul_comm n q', Nat.mul_left_comm 2]


def rung (mag : Nat) (place : Int) : Nat :=
  if mag = 0 then 0 else
  (max (place + mag.log2 - 52) (-1074) + 1074).toNat * 2 ^ 52 + Toward.even.cut false (mag <<< (place - max (place + mag.log2 - 52) (-1074)).toNat) (max (place + mag.log2 - 52) (-1074) - place).toNat

/-- The rung of the infinity. -/
def INF : Nat := 2047 * 2 ^ 52

theorem nearest_eq (neg : Bool) (mag : Nat) (place : Int) : double.nearest neg mag place = double.word neg (min (rung mag place) INF) := by
  have e1 : double.leastPlace = -1074 := by decide
  have e2 : double.binade = 2 ^ 52 := by decide
  have e3 : double.infRung = INF := by decide
  have e4 : double.fractionBits = 52 := rfl
  have e5 : ∀ n d, Toward.even.cut neg n d = Toward.even.cut false n d := fun n d => rfl
  unfold Format.nearest rung
  by_cases h : mag = 0
  · rw [if_pos h, if_pos h]; simp
  · rw [if_neg h, if_neg h]
    simp only [e1, e2, e3, e4, e5]
    rfl

theorem V_block {D k : Nat} (h1 : 2 ^ 52 ≤ k) (h2 : k ≤ 2 ^ 53) : V (D * 2 ^ 52 + k) = k * 2 ^ D := by
  by_cases hk : k = 2 ^ 53
  · have e1 : (D * 2 ^ 52 + k) / 2 ^ 52 = D + 2 := by omega
    have e2 : (D * 2 ^ 52 + k) % 2 ^ 52 = 0 := by omega
    unfold V M E
    rw [if_neg (by omega), e1, e2, show D + 2 - 1 = D + 1 from by omega, Nat.pow_succ, hk]
    omega
  · have e1 : (D * 2 ^ 52 + k) / 2 ^ 52 = D + 1 := by omega
    have e2 : (D * 2 ^ 52 + k) % 2 ^ 52 = k - 2 ^ 52 := by omega
    unfold V M E
    rw [if_neg (by omega), e1, e2, show D + 1 - 1 = D from by omega, show 2 ^ 52 + (k - 2 ^ 52) = k from by omega]

theorem near_rung {mag : Nat} (place : Int) : Near (mag * 2 ^ (place + 1074).toNat) (2 ^ (-(place + 1074)).toNat) (rung mag place) := by
  by_cases h0 : mag = 0
  · subst h0
    have : rung 0 place = 0 := by simp [rung]
    rw [this]
    exact ⟨fun s hs => by omega, fun s hs => by omega, by simp, fun _ => rfl⟩
  have hlo := Nat.log2_self_le h0
  have hhi : mag < 2 ^ (mag.log2 + 1) := Nat.lt_log2_self
  unfold rung
  rw [if_neg h0]
  generalize mag.log2 = l at *
  by_cases hc : place + l - 52 ≤ -1074
  · rw [show max (place + (l : Int) - 52) (-1074) = -1074 from by omega]
    simp only [show ((-1074 : Int) + 1074).toNat = 0 from rfl, Nat.zero_mul, Nat.zero_add, Nat.shiftLeft_eq]
    obtain ⟨h1, h2, h3, h4⟩ := cut_even false (mag * 2 ^ (place - -1074).toNat) (-1074 - place).toNat
    generalize Toward.even.cut false (mag * 2 ^ (place - -1074).toNat) (-1074 - place).toNat = k at *
    rw [show (-(place + 1074)).toNat = (-1074 - place).toNat from by omega, show (place + 1074).toNat = (place - -1074).toNat from by omega]
    have hn : mag * 2 ^ (place - -1074).toNat < 2 ^ 53 * 2 ^ (-1074 - place).toNat := by
      have a : mag * 2 ^ (place - -1074).toNat < 2 ^ (l + 1) * 2 ^ (place - -1074).toNat := Nat.mul_lt_mul_of_pos_right hhi (Nat.two_pow_pos _)
      rw [← Nat.pow_add] at a ⊢
      exact Nat.lt_of_lt_of_le a (Nat.pow_le_pow_right (by omega) (by omega))
    generalize mag * 2 ^ (place - -1074).toNat = n at *
    have hq := Nat.two_pow_pos (-1074 - place).toNat
    generalize 2 ^ (-1074 - place).toNat = q at *
    have hk : k ≤ 2 ^ 53 := by
      refine Classical.byContradiction fun hcc => ?_
      have h3' := h3 (by omega)
      have : 2 ^ 54 * q ≤ (2 * k - 1) * q := Nat.mul_le_mul_right q (by omega)
      omega
    have hV := V_small hk
    have hV' : k + 1 ≤ V (k + 1) := by have := V_lt_succ k; omega
    refine ⟨fun s hs => ?_, fun s hs hh => ?_, ?_, fun hh => ?_⟩
    · have := h3 (by omega)
      rw [hV, V_small (by omega : s ≤ 2 ^ 53), Nat.mul_comm, show s + k = 2 * k - 1 from by omega]; exact this
    · refine h4 (by omega) ?_
      rw [hV, V_small (by omega : s ≤ 2 ^ 53), Nat.mul_comm, show s + k = 2 * k - 1 from by omega] at hh; exact hh
    · rw [hV, Nat.mul_comm q]
      exact Nat.le_trans h1 (Nat.mul_le_mul_right q (by omega))
    · rw [hV, Nat.mul_comm q] at hh
      have : (2 * k + 1) * q ≤ (k + V (k + 1)) * q := Nat.mul_le_mul_right q (by omega)
      exact h2 (by omega)
  · rw [show max (place + (l : Int) - 52) (-1074) = place + l - 52 from by omega]
    obtain ⟨D, hD⟩ : ∃ D : Nat, place + l - 52 + 1074 = D := ⟨(place + l - 52 + 1074).toNat, by omega⟩
    rw [hD, show (place - (place + (l : Int) - 52)).toNat = 52 - l from by omega, show (place + (l : Int) - 52 - place).toNat = l - 52 from by omega, Nat.shiftLeft_eq]
    simp only [Int.toNat_natCast]
    obtain ⟨h1, h2, h3, h4⟩ := cut_even false (mag * 2 ^ (52 - l)) (l - 52)
    generalize Toward.even.cut false (mag * 2 ^ (52 - l)) (l - 52) = k at *
    have hn : mag * 2 ^ (52 - l) < 2 ^ 53 * 2 ^ (l - 52) := by
      have a : mag * 2 ^ (52 - l) < 2 ^ (l + 1) * 2 ^ (52 - l) := Nat.mul_lt_mul_of_pos_right hhi (Nat.two_pow_pos _)
      rw [← Nat.pow_add] at a ⊢
      exact Nat.lt_of_lt_of_le a (Nat.pow_le_pow_right (by omega) (by omega))
    have hn' : 2 ^ 52 * 2 ^ (l - 52) ≤ mag * 2 ^ (52 - l) := by
      have a : 2 ^ l * 2 ^ (52 - l) ≤ mag * 2 ^ (52 - l) := Nat.mul_le_mul_right _ hlo
      rw [← Nat.pow_add] at a ⊢
      exact Nat.le_trans (Nat.pow_le_pow_right (by omega) (by omega)) a
    have hratio : mag * 2 ^ (52 - l) * 2 ^ D * 2 ^ (-(place + 1074)).toNat = mag * 2 ^ (place + 1074).toNat * 2 ^ (l - 52) := by
      rw [Nat.mul_assoc, Nat.mul_assoc, Nat.mul_assoc, ← Nat.pow_add, ← Nat.pow_add, ← Nat.pow_add]
      congr 2
      omega
    refine Near.ratio (n := mag * 2 ^ (52 - l) * 2 ^ D) (q := 2 ^ (l - 52)) (Nat.two_pow_pos _) (Nat.two_pow_pos _) ?_ hratio
    generalize mag * 2 ^ (52 - l) = n at *
    have hq := Nat.two_pow_pos (l - 52)
    generalize 2 ^ (l - 52) = q at *
    have hk : k ≤ 2 ^ 53 := by
      refine Classical.byContradiction fun hcc => ?_
      have h3' := h3 (by omega)
      have : 2 ^ 54 * q ≤ (2 * k - 1) * q := Nat.mul_le_mul_right q (by omega)
      omega
    have hk' : 2 ^ 52 ≤ k := by
      refine Classical.byContradiction fun hcc => ?_
      have : (2 * k + 1) * q ≤ (2 ^ 53 - 1) * q := Nat.mul_le_mul_right q (by omega)
      omega
    have hV := V_block (D := D) hk' hk
    have hVs := V_succ (D * 2 ^ 52 + k)
    have hE : D ≤ E (D * 2 ^ 52 + k) := by unfold E; omega
    have hE' := Nat.pow_le_pow_right (show 0 < 2 by omega) hE
    refine ⟨fun s hs => ?_, fun s hs hh => ?_, ?_, fun hh => ?_⟩
    · by_cases hk0 : k = 2 ^ 52
      · have hlt := V_lt (show s < D * 2 ^ 52 + k by omega)
        rw [hV] at hlt ⊢
        have a : q * (V s + k * 2 ^ D) ≤ q * (2 * (k * 2 ^ D)) := Nat.mul_le_mul_left q (by omega)
        have b : 2 ^ 52 * q * 2 ^ D ≤ n * 2 ^ D := Nat.mul_le_mul_right _ hn'
        subst hk0
        have c : q * (2 * (2 ^ 52 * 2 ^ D)) = 2 * (2 ^ 52 * q * 2 ^ D) := by grind
        omega
      · have hVs' : V s = (k - 1) * 2 ^ D := by
          rw [show s = D * 2 ^ 52 + (k - 1) from by omega]; exact V_block (by omega) (by omega)
        rw [hV, hVs', ← Nat.add_mul, show k - 1 + k = 2 * k - 1 from by omega]
        have := Nat.mul_le_mul_right (2 ^ D) (h3 (by omega))
        have c : q * ((2 * k - 1) * 2 ^ D) = (2 * k - 1) * q * 2 ^ D := by grind
        rw [c, ← Nat.mul_assoc]; exact this
    · by_cases hk0 : k = 2 ^ 52
      · omega
      · have hVs' : V s = (k - 1) * 2 ^ D := by
          rw [show s = D * 2 ^ 52 + (k - 1) from by omega]; exact V_block (by omega) (by omega)
        rw [hV, hVs', ← Nat.add_mul, show k - 1 + k = 2 * k - 1 from by omega, show q * ((2 * k - 1) * 2 ^ D) = (2 * k - 1) * q * 2 ^ D by grind, ← Nat.mul_assoc] at hh
        have := h4 (by omega) (Nat.eq_of_mul_eq_mul_right (Nat.two_pow_pos D) hh)
        omega
    · rw [hVs, hV]
      have a := Nat.mul_le_mul_right (2 ^ D) h1
      have b : q * ((2 * k + 1) * 2 ^ D) ≤ q * (k * 2 ^ D + (k * 2 ^ D + 2 ^ E (D * 2 ^ 52 + k))) := Nat.mul_le_mul_left q (by grind)
      have c : q * ((2 * k + 1) * 2 ^ D) = (2 * k + 1) * q * 2 ^ D := by grind
      rw [← Nat.mul_assoc]; omega
    · rw [hVs, hV] at hh
      have a := Nat.mul_le_mul_right (2 ^ D) h1
      have b : q * ((2 * k + 1) * 2 ^ D) ≤ q * (k * 2 ^ D + (k * 2 ^ D + 2 ^ E (D * 2 ^ 52 + k))) := Nat.mul_le_mul_left q (by grind)
      have c : q * ((2 * k + 1) * 2 ^ D) = (2 * k + 1) * q * 2 ^ D := by grind
      have d : 2 * n * 2 ^ D = (2 * k + 1) * q * 2 ^ D := by rw [← Nat.mul_assoc] at hh; omega
      have := h2 (Nat.eq_of_mul_eq_mul_right (Nat.two_pow_pos D) d)
      omega
end TF
