/- A float cut into two halves (Veltkamp): what each rounded operation gives, in whole numbers of units. -/
import Derived.Test.YtneedadoafcfcaaTwinA
namespace TF

/-- One rounding loses at most half a step. -/
theorem rI_close {n : Int} {p : Nat} (h : n.natAbs ≤ 2 ^ 53 * 2 ^ p) : 2 * (rI n - n).natAbs ≤ 2 ^ p := by
  have hg := Nat.two_pow_pos p
  have key : ∃ x : Int, Rep x.natAbs ∧ 2 * (x - n).natAbs ≤ 2 ^ p := by
    generalize hgg : 2 ^ p = g at *
    have hgI : (0 : Int) < g := by omega
    have e1 := Int.mul_ediv_add_emod (2 * n + g) (2 * g)
    have e2 := Int.emod_nonneg (2 * n + g) (show (2 * (g : Int)) ≠ 0 by omega)
    have e3 := Int.emod_lt_of_pos (2 * n + g) (show 0 < 2 * (g : Int) by omega)
    generalize (2 * n + g) / (2 * (g : Int)) = d at *
    generalize (2 * n + g) % (2 * (g : Int)) = m at *
    have e4 : 2 * ((g : Int) * d) + m = 2 * n + g := by rw [← e1, Int.mul_assoc]
    refine ⟨g * d, ?_, ?_⟩
    · rw [Int.natAbs_mul, Int.natAbs_natCast, Nat.mul_comm, ← hgg]
      refine rep_bits _ _ ?_
      have hu : d ≤ 2 ^ 53 := by
        refine Classical.byContradiction fun hc => ?_
        have : (g : Int) * (2 ^ 53 + 1) ≤ g * d := Int.mul_le_mul_of_nonneg_left (by omega) (by omega)
        omega
      have hl : -2 ^ 53 ≤ d := by
        refine Classical.byContradiction fun hc => ?_
        have : (g : Int) * d ≤ g * (-2 ^ 53 - 1) := Int.mul_le_mul_of_nonneg_left (by omega) (by omega)
        omega
      omega
    · generalize (g : Int) * d = y at *
      omega
  obtain ⟨x, hx, hb⟩ := key
  have := rI_best n x hx
  omega

theorem E_of_le {n p : Nat} (h : 2 ^ 52 * 2 ^ p ≤ n) : p ≤ E (rnd n) := by
  have hv : V (p * 2 ^ 52 + 2 ^ 52) ≤ n := by rw [V_block (by omega) (by omega)]; exact h
  have := le_rnd_of hv
  have := E_mono this
  unfold E at this ⊢
  omega
theorem rI_dvd {n : Int} {p : Nat} (h : 2 ^ 52 * 2 ^ p ≤ n.natAbs) : ((2 ^ p : Nat) : Int) ∣ rI n := dvd_rI (E_of_le h)

theorem rep_int {x : Int} {D : Nat} (h : ((2 ^ D : Nat) : Int) ∣ x) (hn : x.natAbs ≤ 2 ^ 53 * 2 ^ D) : Rep x.natAbs := rep_dvd (dvd_int.2 h) hn
theorem rI_int {x : Int} {D : Nat} (h : ((2 ^ D : Nat) : Int) ∣ x) (hn : x.natAbs ≤ 2 ^ 53 * 2 ^ D) : rI x = x := rI_rep (rep_int h hn)
theorem rI_small {x : Int} (hn : x.natAbs ≤ 2 ^ 53) : rI x = x := rI_int (D := 0) (by simp) (by simpa using hn)

theorem dvd_pow {a b : Nat} (h : a ≤ b) {x : Int} (hx : ((2 ^ b : Nat) : Int) ∣ x) : ((2 ^ a : Nat) : Int) ∣ x :=
  Int.dvd_trans (by rw [← dvd_int, Int.natAbs_natCast]; exact Nat.pow_dvd_pow 2 h) hx

/-- A float of at most 26 bits that are counted from its unit is its own first half. -/
theorem cut_small {X : Int} (h : X.natAbs < 2 ^ 26) :
    rI (134217729 * X) = 134217729 * X ∧ rI (134217729 * X - X) = 134217729 * X - X ∧ rI (134217729 * X - (134217729 * X - X)) = X ∧ rI (X - X) = 0 := by
  refine ⟨rI_small (by omega), ?_, ?_, ?_⟩
  · refine rI_int (D := 27) ⟨X, by omega⟩ (by omega)
  · rw [show 134217729 * X - (134217729 * X - X) = X from by omega]; exact rI_small (by omega)
  · rw [Int.sub_self]; decide

/-- Else: its first half is a multiple of 2^(t + 1), the second one at most 2^t. -/
theorem cut_great {X : Int} {r t : Nat} (hX : X = V r) (h1 : 2 ^ 26 * 2 ^ t ≤ V r) (h2 : V r < 2 ^ 27 * 2 ^ t) :
    ∃ c d h : Int, rI (134217729 * X) = c ∧ rI (c - X) = d ∧ rI (c - d) = h ∧ c - d = h ∧ rI (X - h) = X - h ∧
      ((2 ^ (t + 1) : Nat) : Int) ∣ h ∧ 0 ≤ h ∧ h ≤ 2 ^ 27 * (2 ^ t : Nat) ∧ (X - h).natAbs ≤ 2 ^ t ∧ ((2 ^ E r : Nat) : Int) ∣ X - h ∧ c ≤ 2 ^ 55 * (2 ^ t : Nat) ∧ 0 ≤ c ∧ 0 ≤ d ∧ d ≤ 2 ^ 54 * (2 ^ t : Nat) := by
  have hg := Nat.two_pow_pos t
  have hp1 : 2 ^ (t + 1) = 2 * 2 ^ t := by rw [Nat.pow_succ, Nat.mul_comm]
  have hp2 : 2 ^ (t + 2) = 4 * 2 ^ t := by rw [Nat.pow_succ, hp1]; omega
  -- the step of X, and how far X is from the ends
  have hEt : E r ≤ t := by
    have a : V r < V (t * 2 ^ 52 + 2 ^ 52) := by rw [V_block (by omega) (by omega)]; omega
    have a' := V_lt_iff.1 a
    unfold E; omega
  have hstep : 2 ^ 27 * 2 ^ E r ≥ 2 * 2 ^ t := by
    by_cases h0 : r < 2 ^ 52
    · have hVr : V r = r := V_small (by omega)
      have : E r = 0 := by unfold E; rw [Nat.div_eq_of_lt h0]
      rw [this]
      have : 2 ^ t < 2 ^ 26 := by omega
      omega
    · have hM : 2 ^ 52 ≤ M r := by unfold M; rw [if_neg h0]; omega
      have : 2 ^ 52 * 2 ^ E r ≤ V r := Nat.mul_le_mul_right _ hM
      have : 2 ^ 25 * 2 ^ E r < 2 ^ t := by omega
      have hlt : E r + 25 < t := by
        refine (Nat.pow_lt_pow_iff_right (a := 2) (by omega)).1 ?_
        rw [Nat.pow_add, Nat.mul_comm]; exact this
      have hge : 2 ^ t < 2 ^ (E r + 27) := by
        have hM' := M_lt r
        have : V r < 2 ^ 53 * 2 ^ E r := V_lt_E r
        rw [Nat.pow_add, Nat.mul_comm]; omega
      have : t + 1 ≤ E r + 27 := by
        have := (Nat.pow_lt_pow_iff_right (a := 2) (by omega)).1 hge
        omega
      have := Nat.pow_le_pow_right (show 0 < 2 by omega) this
      rw [Nat.pow_succ, Nat.pow_add] at this
      omega
  have hdX : ((2 ^ E r : Nat) : Int) ∣ X := by rw [hX, ← dvd_int, Int.natAbs_natCast]; exact V_dvd (Nat.le_refl _)
  have hdN : 2 ^ E r ∣ V r := V_dvd (Nat.le_refl _)
  have hup : V r + 2 ^ E r ≤ 2 ^ 27 * 2 ^ t := by
    obtain ⟨j, hj⟩ := Nat.pow_dvd_pow 2 hEt
    obtain ⟨i, hi⟩ := hdN
    rw [hi, hj] at h2 ⊢
    rw [show 2 ^ 27 * (2 ^ E r * j) = 2 ^ E r * (2 ^ 27 * j) from by rw [Nat.mul_left_comm]] at h2 ⊢
    have := Nat.lt_of_mul_lt_mul_left h2
    rw [← Nat.mul_succ]
    exact Nat.mul_le_mul_left _ this
  have hlow : V r = 2 ^ 26 * 2 ^ t ∨ 2 ^ 26 * 2 ^ t + 2 ^ E r ≤ V r := by
    rcases Nat.lt_or_eq_of_le h1 with hlt | heq
    · right
      obtain ⟨j, hj⟩ := Nat.pow_dvd_pow 2 hEt
      obtain ⟨i, hi⟩ := hdN
      rw [hi, hj] at hlt ⊢
      rw [show 2 ^ 26 * (2 ^ E r * j) = 2 ^ E r * (2 ^ 26 * j) from by rw [Nat.mul_left_comm]] at hlt ⊢
      have := Nat.lt_of_mul_lt_mul_left hlt
      rw [← Nat.mul_succ]
      exact Nat.mul_le_mul_left _ this
    · left; exact heq.symm
  -- c
  have c1 := rI_close (n := 134217729 * X) (p := t + 2) (by omega)
  have c2 := rI_dvd (n := 134217729 * X) (p := t + 1) (by omega)
  have c3 : V r = 2 ^ 26 * 2 ^ t → rI (134217729 * X) = 134217729 * X := by
    intro he
    have e26 : 2 ^ (t + 26) = 2 ^ 26 * 2 ^ t := by rw [Nat.pow_add, Nat.mul_comm]
    refine rI_int (D := t + 26) ⟨134217729, ?_⟩ (by omega)
    rw [hX, he, e26]; exact Int.mul_comm ..
  have c4 := rI_nonneg (show 0 ≤ 134217729 * X by omega)
  generalize hc : rI (134217729 * X) = c at c1 c2 c3 c4
  -- d
  have lo : 2 ^ 52 * (2 * 2 ^ t) ≤ (c - X).natAbs := by
    rcases hlow with he | he
    · have := c3 he; omega
    · omega
  have hi : (c - X).natAbs ≤ 2 ^ 53 * (2 * 2 ^ t) := by omega
  have d1 := rI_close (n := c - X) (p := t + 1) (by rw [hp1]; exact hi)
  have d2 := rI_dvd (n := c - X) (p := t + 1) (by rw [hp1]; exact lo)
  have d3 := rI_nonneg (show 0 ≤ c - X by omega)
  have d4 : rI (c - X) ≤ 2 ^ 54 * (2 ^ t : Nat) := by
    have a := rI_mono (show c - X ≤ 2 ^ 54 * (2 ^ t : Nat) by omega)
    rwa [rI_int (x := 2 ^ 54 * ((2 ^ t : Nat) : Int)) (D := t + 1) ⟨2 ^ 53, by rw [hp1]; omega⟩ (by rw [hp1]; omega)] at a
  generalize hd : rI (c - X) = d at d1 d2 d3 d4
  have hcd : ((2 ^ (t + 1) : Nat) : Int) ∣ c - d := Int.dvd_sub c2 d2
  have hh : rI (c - d) = c - d := rI_int hcd (by omega)
  have hhu : c - d ≤ 2 ^ 27 * (2 ^ t : Nat) := by
    obtain ⟨j, hj⟩ := hcd
    rw [hj, hp1]
    have : j ≤ 2 ^ 26 := by
      refine Classical.byContradiction fun hc => ?_
      have : ((2 ^ (t + 1) : Nat) : Int) * (2 ^ 26 + 1) ≤ (2 ^ (t + 1) : Nat) * j := Int.mul_le_mul_of_nonneg_left (by omega) (by omega)
      rw [← hj, hp1] at this
      omega
    have := Int.mul_le_mul_of_nonneg_left this (show (0 : Int) ≤ (2 * 2 ^ t : Nat) by omega)
    omega
  have hl : ((2 ^ E r : Nat) : Int) ∣ X - (c - d) := Int.dvd_sub hdX (dvd_pow (by omega) hcd)
  have hlb : (X - (c - d)).natAbs ≤ 2 ^ t := by omega
  refine ⟨c, d, c - d, rfl, hd, hh, rfl, rI_int hl ?_, hcd, by omega, hhu, hlb, hl, by omega, by omega, by omega, ?_⟩
  · have := Nat.two_pow_pos (E r); omega
  · omega
end TF
