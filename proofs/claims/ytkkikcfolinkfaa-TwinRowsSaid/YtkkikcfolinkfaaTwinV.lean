/- Product's rest is exact (Dekker), in whole numbers. -/
import Derived.Test.YtkkikcfolinkfaaTwinQ
namespace TF
open Ieee Go Go.RowKit

/-- n is a whole number of 53 bits, times a power of two. -/
def Fits (n : Int) : Prop := ∃ D : Nat, ((2 ^ D : Nat) : Int) ∣ n ∧ n.natAbs ≤ 2 ^ 53 * 2 ^ D
theorem Fits.rI {n : Int} (h : Fits n) (K : Nat) : rI (n * (2 ^ K : Nat)) = n * (2 ^ K : Nat) := by
  obtain ⟨D, ⟨x, hx⟩, h2⟩ := h
  refine rI_int (D := D + K) ⟨x, ?_⟩ ?_
  · rw [hx, Nat.pow_add, Int.natCast_mul, Int.mul_right_comm]
  · rw [Int.natAbs_mul, Int.natAbs_natCast, Nat.pow_add, ← Nat.mul_assoc]
    exact Nat.mul_le_mul_right _ h2
theorem fits_one {n : Int} (h : n.natAbs ≤ 2 ^ 53) : Fits n := ⟨0, by simp, by simpa using h⟩

theorem Split26.less {A Ah Al : Int} {c : Nat} (h : Split26 A Ah Al c) : Al.natAbs ≤ A.natAbs ∧ Ah.natAbs ≤ 2 * A.natAbs := by
  have h1 := h.sum
  have h2 := h.low
  rcases h.down with h0 | h0
  · subst h0; simp at h2; omega
  · omega
theorem Split26.zero {A Ah Al : Int} (h : Split26 A Ah Al 0) : Al = 0 ∧ Ah = A ∧ A.natAbs < 2 ^ 26 := by
  have h1 := h.sum
  have h2 := h.low
  have h3 := h.up
  simp at h2 h3
  omega

/-- What rounding to 53 bits leaves. -/
structure Round53 (Z P : Int) (s : Nat) : Prop where
  dvd : ((2 ^ s : Nat) : Int) ∣ P
  near : 2 * (Z - P).natAbs ≤ 2 ^ s
  most : Z.natAbs ≤ 2 ^ 53 * 2 ^ s
  least : s = 0 ∨ 2 ^ 52 * 2 ^ s ≤ Z.natAbs

theorem round53 (Z : Int) (K : Nat) : ∃ P : Int, ∃ s : Nat, rI (Z * (2 ^ K : Nat)) = P * (2 ^ K : Nat) ∧ Round53 Z P s := by
  by_cases h : Z.natAbs ≤ 2 ^ 53
  · refine ⟨Z, 0, (fits_one h).rI K, by simp, by simp, by simpa using h, .inl rfl⟩
  · have hne : Z.natAbs ≠ 0 := by omega
    have g1 := Nat.log2_self_le hne
    have g2 : Z.natAbs < 2 ^ (Z.natAbs.log2 + 1) := Nat.lt_log2_self
    have g3 : 53 ≤ Z.natAbs.log2 := by
      refine Nat.le_of_lt_succ ((Nat.pow_lt_pow_iff_right (a := 2) (by omega)).1 (Nat.lt_of_le_of_lt ?_ g2))
      omega
    obtain ⟨s, hs⟩ : ∃ s, Z.natAbs.log2 = 52 + s := ⟨Z.natAbs.log2 - 52, by omega⟩
    rw [hs, Nat.pow_add] at g1
    rw [hs, show 52 + s + 1 = 53 + s from by omega, Nat.pow_add] at g2
    have hg := Nat.two_pow_pos K
    have hn : (Z * (2 ^ K : Nat)).natAbs = Z.natAbs * 2 ^ K := by rw [Int.natAbs_mul, Int.natAbs_natCast]
    have c1 := rI_close (n := Z * (2 ^ K : Nat)) (p := s + K) (by rw [hn, Nat.pow_add, ← Nat.mul_assoc]; exact Nat.mul_le_mul_right _ (by omega))
    obtain ⟨y, hy⟩ := rI_dvd (n := Z * (2 ^ K : Nat)) (p := s + K) (by rw [hn, Nat.pow_add, ← Nat.mul_assoc]; exact Nat.mul_le_mul_right _ (by omega))
    have e : rI (Z * (2 ^ K : Nat)) = ((2 ^ s : Nat) : Int) * y * (2 ^ K : Nat) := by rw [hy, Nat.pow_add, Int.natCast_mul, Int.mul_right_comm]
    refine ⟨((2 ^ s : Nat) : Int) * y, s, e, ⟨y, rfl⟩, ?_, by omega, .inr g1⟩
    rw [e, ← Int.sub_mul, Int.natAbs_mul, Int.natAbs_natCast, Nat.pow_add, ← Nat.mul_assoc] at c1
    have := Nat.le_of_mul_le_mul_right c1 hg
    omega

set_option maxHeartbeats 2000000 in
theorem dekker {A Ah Al B Bh Bl P : Int} {c d s : Nat} (SA : Split26 A Ah Al c) (SB : Split26 B Bh Bl d) (R : Round53 (A * B) P s) :
    Fits (Ah * Bh) ∧ Fits (Ah * Bl) ∧ Fits (Al * Bh) ∧ Fits (Al * Bl) ∧ Fits (Ah * Bh - P) ∧ Fits (Ah * Bh - P + Ah * Bl) ∧ Fits (Ah * Bh - P + Ah * Bl + Al * Bh) ∧ Fits (Ah * Bh - P + Ah * Bl + Al * Bh + Al * Bl) ∧
      Ah * Bh - P + Ah * Bl + Al * Bh + Al * Bl = A * B - P ∧ (A * B - P).natAbs ≤ 2 ^ 52 ∧
      (Ah * Bh).natAbs ≤ 6 * (A * B).natAbs ∧ (Ah * Bl).natAbs ≤ 6 * (A * B).natAbs ∧ (Al * Bh).natAbs ≤ 6 * (A * B).natAbs ∧ (Al * Bl).natAbs ≤ 6 * (A * B).natAbs ∧ (Ah * Bh - P).natAbs ≤ 6 * (A * B).natAbs ∧ (Ah * Bh - P + Ah * Bl).natAbs ≤ 6 * (A * B).natAbs ∧
      (Ah * Bh - P + Ah * Bl + Al * Bh).natAbs ≤ 6 * (A * B).natAbs ∧ (Ah * Bh - P + Ah * Bl + Al * Bh + Al * Bl).natAbs ≤ 6 * (A * B).natAbs := by
  obtain ⟨la, ha⟩ := SA.less
  obtain ⟨lb, hb⟩ := SB.less
  obtain ⟨x, hx, hx2⟩ := SA.high
  obtain ⟨y, hy, hy2⟩ := SB.high
  have hZ : A * B = Ah * Bh + Ah * Bl + Al * Bh + Al * Bl := by rw [SA.sum, SB.sum, Int.add_mul, Int.mul_add, Int.mul_add]; omega
  -- the sizes against the product
  have b1 : (Ah * Bh).natAbs ≤ 4 * (A * B).natAbs := by
    rw [Int.natAbs_mul, Int.natAbs_mul]
    calc Ah.natAbs * Bh.natAbs ≤ (2 * A.natAbs) * (2 * B.natAbs) := Nat.mul_le_mul ha hb
      _ = 4 * (A.natAbs * B.natAbs) := by rw [Nat.mul_mul_mul_comm]
  have b2 : (Ah * Bl).natAbs ≤ 2 * (A * B).natAbs := by
    rw [Int.natAbs_mul, Int.natAbs_mul]
    calc Ah.natAbs * Bl.natAbs ≤ (2 * A.natAbs) * B.natAbs := Nat.mul_le_mul ha lb
      _ = 2 * (A.natAbs * B.natAbs) := Nat.mul_assoc ..
  have b3 : (Al * Bh).natAbs ≤ 2 * (A * B).natAbs := by
    rw [Int.natAbs_mul, Int.natAbs_mul]
    calc Al.natAbs * Bh.natAbs ≤ A.natAbs * (2 * B.natAbs) := Nat.mul_le_mul la hb
      _ = 2 * (A.natAbs * B.natAbs) := Nat.mul_left_comm ..
  have b4 : (Al * Bl).natAbs ≤ (A * B).natAbs := by
    rw [Int.natAbs_mul, Int.natAbs_mul]; exact Nat.mul_le_mul la lb
  -- the sizes against the powers
  have q1 := Nat.two_pow_pos c
  have w1 := Nat.two_pow_pos d
  have hq27 : 2 ^ c ≤ 2 ^ 27 := Nat.pow_le_pow_right (by omega) SA.le
  have hw27 : 2 ^ d ≤ 2 ^ 27 := Nat.pow_le_pow_right (by omega) SB.le
  have hqw : 2 ^ c * 2 ^ d ≤ 2 ^ 27 * 2 ^ 27 := Nat.mul_le_mul hq27 hw27
  have hqw2 : 2 ^ c * 2 ^ d ≤ 2 ^ c * 2 ^ 27 := Nat.mul_le_mul_left _ hw27
  have hz : (A * B).natAbs < 2 ^ 52 * (2 ^ c * 2 ^ d) := by
    rw [Int.natAbs_mul]
    calc A.natAbs * B.natAbs < (2 ^ 26 * 2 ^ c) * (2 ^ 26 * 2 ^ d) := Nat.mul_lt_mul_of_lt_of_le SA.up (Nat.le_of_lt SB.up) (by have := SB.up; omega)
      _ = 2 ^ 52 * (2 ^ c * 2 ^ d) := by rw [Nat.mul_mul_mul_comm]
  have hnx : Ah.natAbs ≤ 2 ^ c * 2 ^ 26 := by rw [hx, Int.natAbs_mul]; simp only [Int.natAbs_pow]; exact Nat.mul_le_mul_left _ hx2
  have hny : Bh.natAbs ≤ 2 ^ d * 2 ^ 26 := by rw [hy, Int.natAbs_mul]; simp only [Int.natAbs_pow]; exact Nat.mul_le_mul_left _ hy2
  have p2 : 2 * (Ah * Bl).natAbs ≤ 2 ^ 26 * (2 ^ c * 2 ^ d) := by
    rw [Int.natAbs_mul]
    calc 2 * (Ah.natAbs * Bl.natAbs) = Ah.natAbs * (2 * Bl.natAbs) := Nat.mul_left_comm ..
      _ ≤ (2 ^ c * 2 ^ 26) * 2 ^ d := Nat.mul_le_mul hnx SB.low
      _ = 2 ^ 26 * (2 ^ c * 2 ^ d) := by rw [Nat.mul_right_comm, Nat.mul_comm]
  have p3 : 2 * (Al * Bh).natAbs ≤ 2 ^ 26 * (2 ^ c * 2 ^ d) := by
    rw [Int.natAbs_mul]
    calc 2 * (Al.natAbs * Bh.natAbs) = (2 * Al.natAbs) * Bh.natAbs := (Nat.mul_assoc ..).symm
      _ ≤ 2 ^ c * (2 ^ d * 2 ^ 26) := Nat.mul_le_mul SA.low hny
      _ = 2 ^ 26 * (2 ^ c * 2 ^ d) := by rw [← Nat.mul_assoc, Nat.mul_comm]
  have p4 : 4 * (Al * Bl).natAbs ≤ 2 ^ c * 2 ^ d := by
    rw [Int.natAbs_mul]
    calc 4 * (Al.natAbs * Bl.natAbs) = (2 * Al.natAbs) * (2 * Bl.natAbs) := by rw [Nat.mul_mul_mul_comm]
      _ ≤ 2 ^ c * 2 ^ d := Nat.mul_le_mul SA.low SB.low
  -- the step of P
  have hS := Nat.two_pow_pos s
  have hs0 : s = 0 → A * B = P := by
    intro h0
    have := R.near
    subst h0; simp at this; omega
  have hsl : s = 0 ∨ (s < c + d ∧ 2 * 2 ^ s ≤ 2 ^ c * 2 ^ d) := by
    rcases R.least with h0 | h0
    · left; exact h0
    · right
      have h1 : 2 ^ s < 2 ^ (c + d) := by rw [Nat.pow_add]; omega
      have h2 : s < c + d := (Nat.pow_lt_pow_iff_right (a := 2) (by omega)).1 h1
      refine ⟨h2, ?_⟩
      have := Nat.pow_le_pow_right (show 0 < 2 by omega) (show s + 1 ≤ c + d from h2)
      rwa [Nat.pow_succ, Nat.pow_add, Nat.mul_comm] at this
  have hdP := R.dvd
  have near := R.near
  have hdel : 4 * (A * B - P).natAbs ≤ 2 ^ c * 2 ^ d := by
    rcases hsl with h0 | ⟨_, h0⟩
    · have := hs0 h0; omega
    · omega
  have hdel2 : (A * B - P).natAbs ≤ (A * B).natAbs := by
    rcases R.least with h0 | h0
    · have := hs0 h0; omega
    · omega
  have e1 : Ah * Bh - P = (A * B - P) - Ah * Bl - Al * Bh - Al * Bl := by omega
  have e2 : Ah * Bh - P + Ah * Bl = (A * B - P) - Al * Bh - Al * Bl := by omega
  have e3 : Ah * Bh - P + Ah * Bl + Al * Bh = (A * B - P) - Al * Bl := by omega
  have e4 : Ah * Bh - P + Ah * Bl + Al * Bh + Al * Bl = A * B - P := by omega
  -- divisibility
  have dc : ((2 ^ c : Nat) : Int) ∣ Ah := ⟨x, by rw [hx]; simp⟩
  have dd : ((2 ^ d : Nat) : Int) ∣ Bh := ⟨y, by rw [hy]; simp⟩
  have dcd : ((2 ^ (c + d) : Nat) : Int) ∣ Ah * Bh := by rw [Nat.pow_add, Int.natCast_mul]; exact Int.mul_dvd_mul dc dd
  have dS : ((2 ^ s : Nat) : Int) ∣ Ah * Bh := by
    rcases hsl with h0 | ⟨h0, _⟩
    · rw [h0]; simp
    · exact dvd_pow (by omega) dcd
  have dE1 : ((2 ^ s : Nat) : Int) ∣ Ah * Bh - P := Int.dvd_sub dS hdP
  have dAB : ((2 ^ c : Nat) : Int) ∣ Ah * Bl := Int.dvd_trans dc (Int.dvd_mul_right _ _)
  have dBA : ((2 ^ d : Nat) : Int) ∣ Al * Bh := Int.dvd_trans dd (Int.dvd_mul_left _ _)
  -- the first rest
  have f5 : (A * B - P).natAbs + (Ah * Bl).natAbs + (Al * Bh).natAbs + (Al * Bl).natAbs ≤ 2 ^ 53 * 2 ^ s := by
    rcases SA.down with c0 | c0
    · subst c0
      obtain ⟨z1, z2, z3⟩ := SA.zero
      have : (Ah * Bl).natAbs ≤ 2 ^ 26 * 2 ^ 26 := by rw [Int.natAbs_mul]; exact Nat.mul_le_mul (by omega) (by have := SB.low; omega)
      rw [z1, Int.zero_mul, Int.zero_mul]; simp only [Int.natAbs_zero]; omega
    · rcases SB.down with d0 | d0
      · subst d0
        obtain ⟨z1, z2, z3⟩ := SB.zero
        have : (Al * Bh).natAbs ≤ 2 ^ 26 * 2 ^ 26 := by rw [Int.natAbs_mul]; exact Nat.mul_le_mul (by have := SA.low; omega) (by omega)
        rw [z1, Int.mul_zero, Int.mul_zero]; simp only [Int.natAbs_zero]; omega
      · have h0 : 2 ^ 50 * (2 ^ c * 2 ^ d) ≤ (A * B).natAbs := by
          rw [Int.natAbs_mul]
          calc 2 ^ 50 * (2 ^ c * 2 ^ d) = (2 ^ 25 * 2 ^ c) * (2 ^ 25 * 2 ^ d) := by rw [Nat.mul_mul_mul_comm]
            _ ≤ A.natAbs * B.natAbs := Nat.mul_le_mul c0 d0
        have := R.most
        omega
  refine ⟨⟨c + d, dcd, ?_⟩, ⟨c, dAB, ?_⟩, ⟨d, dBA, ?_⟩, fits_one (by omega), ⟨s, dE1, by omega⟩, ?_, fits_one (by omega), fits_one (by omega), e4, by omega, by omega, by omega, by omega, by omega, by omega, by omega, by omega, by omega⟩
  · rw [Int.natAbs_mul, Nat.pow_add]
    have : Ah.natAbs * Bh.natAbs ≤ (2 ^ c * 2 ^ 26) * (2 ^ d * 2 ^ 26) := Nat.mul_le_mul hnx hny
    rw [Nat.mul_mul_mul_comm] at this
    omega
  · have : (Ah * Bl).natAbs ≤ (2 ^ c * 2 ^ 26) * 2 ^ 26 := by rw [Int.natAbs_mul]; exact Nat.mul_le_mul hnx (by have := SB.low; omega)
    omega
  · have : (Al * Bh).natAbs ≤ 2 ^ 26 * (2 ^ d * 2 ^ 26) := by rw [Int.natAbs_mul]; exact Nat.mul_le_mul (by have := SA.low; omega) hny
    omega
  · by_cases hsc : s ≤ c
    · exact ⟨s, Int.dvd_add dE1 (dvd_pow hsc dAB), by omega⟩
    · refine ⟨c, Int.dvd_add (dvd_pow (by omega) dE1) dAB, ?_⟩
      omega
end TF
