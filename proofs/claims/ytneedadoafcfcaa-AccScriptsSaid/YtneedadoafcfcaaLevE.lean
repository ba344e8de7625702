/- The reference's roundings: a magnitude cut at a place. -/
import Derived.Test.YtneedadoafcfcaaLevH
import Derived.Test.YtneedadoafcfcaaTwinS
namespace TF
open Ieee Go Go.RowKit

def downQ (m s : Int) : Int := m / 2 ^ s.toNat
def downC (m s : Int) : Int := if m % 2 ^ s.toNat = 0 then 0 else if m % 2 ^ s.toNat < 2 ^ (s.toNat - 1) then 1 else if m % 2 ^ s.toNat = 2 ^ (s.toNat - 1) then 2 else 3
theorem down_rest {m s : Int} (h1 : 1 ≤ s) (h2 : s ≤ 63) (h3 : 0 ≤ m) (h4 : m < 18446744073709551616) :
    IntKind.u64.wrap (m - IntKind.u64.wrap (m / 2 ^ s.toNat * 2 ^ s.toNat)) = m % 2 ^ s.toNat ∧ IntKind.u64.wrap (2 ^ (s.toNat - 1)) = 2 ^ (s.toNat - 1) ∧ 0 ≤ m % 2 ^ s.toNat := by
  have hp : (0 : Int) < 2 ^ s.toNat := Int.pow_pos (by omega)
  have hd := Int.mul_ediv_add_emod m (2 ^ s.toNat)
  have hm := Int.emod_nonneg m (Int.ne_of_gt hp)
  have hl := Int.emod_lt_of_pos m hp
  rw [Int.mul_comm] at hd
  have hq : 0 ≤ m / 2 ^ s.toNat * 2 ^ s.toNat := Int.mul_nonneg (Int.ediv_nonneg h3 (Int.le_of_lt hp)) (Int.le_of_lt hp)
  have e1 : IntKind.u64.wrap (m / 2 ^ s.toNat * 2 ^ s.toNat) = m / 2 ^ s.toNat * 2 ^ s.toNat := by
    rw [u64w]; omega
  refine ⟨?_, ?_, hm⟩
  · rw [e1, u64w]; omega
  · have hb : (2 : Int) ^ (s.toNat - 1) ≤ 2 ^ 62 := by
      have := Nat.pow_le_pow_right (show 0 < 2 by omega) (show s.toNat - 1 ≤ 62 by omega)
      exact_mod_cast this
    have hb0 : (0 : Int) < 2 ^ (s.toNat - 1) := Int.pow_pos (by omega)
    rw [u64w]; omega
theorem down_far {m s : Int} (h2 : 63 < s) (h3 : 0 ≤ m) (h4 : m < 9223372036854775808) : downQ m s = 0 ∧ downC m s = if m = 0 then 0 else 1 := by
  have hb : (2 : Int) ^ 63 ≤ 2 ^ (s.toNat - 1) := by
    have := Nat.pow_le_pow_right (show 0 < 2 by omega) (show 63 ≤ s.toNat - 1 by omega)
    exact_mod_cast this
  have hc : (2 : Int) ^ (s.toNat - 1) ≤ 2 ^ s.toNat := by
    have := Nat.pow_le_pow_right (show 0 < 2 by omega) (show s.toNat - 1 ≤ s.toNat by omega)
    exact_mod_cast this
  unfold downQ downC
  have hmod : m % 2 ^ s.toNat = m := Int.emod_eq_of_lt h3 (by omega)
  rw [hmod]
  refine ⟨Int.ediv_eq_zero_of_lt h3 (by omega), ?_⟩
  by_cases h0 : m = 0
  · rw [if_pos h0, if_pos h0]
  · rw [if_neg h0, if_neg h0, if_pos (by omega)]

theorem down_bound {m s : Int} (h1 : 1 ≤ s) (h3 : 0 ≤ m) (h4 : m < 18446744073709551616) : 0 ≤ downQ m s ∧ downQ m s < 9223372036854775808 := by
  have hp : (0 : Int) < 2 ^ s.toNat := Int.pow_pos (by omega)
  have h2 : (2 : Int) ≤ 2 ^ s.toNat := by
    have := Nat.pow_le_pow_right (show 0 < 2 by omega) (show 1 ≤ s.toNat by omega)
    exact_mod_cast this
  unfold downQ
  refine ⟨Int.ediv_nonneg h3 (Int.le_of_lt hp), Int.ediv_lt_of_lt_mul hp ?_⟩
  have := Int.mul_le_mul_of_nonneg_left h2 (show (0 : Int) ≤ 9223372036854775808 by omega)
  omega
/-- the nearest, ties to even. -/
def nearI (m s : Int) : Int := if downC m s = 3 ∨ (downC m s = 2 ∧ downQ m s % 2 = 1) then downQ m s + 1 else downQ m s
def nrs (m s : Nat) : Nat := if 2 ^ s < 2 * (m % 2 ^ s) ∨ (2 * (m % 2 ^ s) = 2 ^ s ∧ m / 2 ^ s % 2 = 1) then m / 2 ^ s + 1 else m / 2 ^ s
theorem nearI_nrs {m s : Nat} (h : 1 ≤ s) : nearI m s = nrs m s := by
  obtain ⟨t, rfl⟩ : ∃ t, s = t + 1 := ⟨s - 1, by omega⟩
  have e1 : ((t + 1 : Nat) : Int).toNat = t + 1 := by omega
  unfold nearI downC downQ nrs
  rw [e1, Nat.add_sub_cancel]
  have e2 : (2 : Int) ^ (t + 1) = ((2 ^ (t + 1) : Nat) : Int) := by simp
  have e3 : (2 : Int) ^ t = ((2 ^ t : Nat) : Int) := by simp
  rw [e2, e3, ← Int.natCast_ediv, ← Int.natCast_emod, Nat.pow_succ]
  have hp := Nat.two_pow_pos t
  generalize 2 ^ t = p at *
  generalize m % (p * 2) = r at *
  generalize m / (p * 2) = q at *
  repeat' split
  all_goals omega
theorem cut_nrs (neg : Bool) (n drop : Nat) : Toward.even.cut neg n drop = nrs n drop := by
  have key : ∀ g : Nat, Toward.even.cut neg n drop = n / (1 <<< min drop (n.log2 + 2)) + (decide (1 <<< min drop (n.log2 + 2) < 2 * (n % (1 <<< min drop (n.log2 + 2)))) || ((1 <<< min drop (n.log2 + 2)) == 2 * (n % (1 <<< min drop (n.log2 + 2))) && n / (1 <<< min drop (n.log2 + 2)) % 2 == 1)).toNat := fun _ => rfl
  rw [key 0]
  unfold nrs
  rw [Nat.shiftLeft_eq, Nat.one_mul]
  by_cases h : drop ≤ n.log2 + 2
  · rw [Nat.min_eq_left h]
    generalize 2 ^ drop = g
    generalize n / g = q
    generalize n % g = r
    by_cases h1 : g < 2 * r
    · rw [if_pos (.inl h1), decide_eq_true h1]; rfl
    · rw [decide_eq_false h1, Bool.false_or]
      by_cases h2 : 2 * r = g ∧ q % 2 = 1
      · rw [if_pos (.inr h2)]
        have : (g == 2 * r && q % 2 == 1) = true := by simp [h2.1, h2.2]
        rw [this]; rfl
      · rw [if_neg (by intro hc; rcases hc with hc | hc; exact h1 hc; exact h2 hc)]
        have : (g == 2 * r && q % 2 == 1) = false := by
          rw [Bool.and_eq_false_iff]
          by_cases h3 : 2 * r = g
          · right; simp; have : ¬ q % 2 = 1 := fun hc => h2 ⟨h3, hc⟩
            omega
          · left; simp; omega
        rw [this]; rfl
  · rw [Nat.min_eq_right (by omega)]
    have h1 : 2 * n < 2 ^ (n.log2 + 2) := by
      have : n < 2 ^ (n.log2 + 1) := Nat.lt_log2_self
      rw [Nat.pow_succ]; omega
    have h2 : 2 ^ (n.log2 + 2) ≤ 2 ^ drop := Nat.pow_le_pow_right (by omega) (by omega)
    have e1 : n / 2 ^ (n.log2 + 2) = 0 := Nat.div_eq_of_lt (by omega)
    have e2 : n % 2 ^ (n.log2 + 2) = n := Nat.mod_eq_of_lt (by omega)
    have e3 : n / 2 ^ drop = 0 := Nat.div_eq_of_lt (by omega)
    have e4 : n % 2 ^ drop = n := Nat.mod_eq_of_lt (by omega)
    rw [e1, e2, e3, e4, if_neg (by omega), decide_eq_false (by omega)]
    simp

/-- how many bits. -/
def lenN (m : Nat) : Nat := if m = 0 then 0 else m.log2 + 1
theorem lenN_step {m : Nat} (h : m ≠ 0) : lenN m = lenN (m / 2) + 1 := by
  unfold lenN
  rw [if_neg h]
  by_cases h2 : m / 2 = 0
  · have : m = 1 := by omega
    subst this; decide
  · rw [if_neg h2]
    have hl := Nat.log2_self_le h2
    have hh : m / 2 < 2 ^ ((m / 2).log2 + 1) := Nat.lt_log2_self
    have : m.log2 = (m / 2).log2 + 1 := by
      have a1 : 2 ^ ((m / 2).log2 + 1) ≤ m := by rw [Nat.pow_succ]; omega
      have a2 : m < 2 ^ ((m / 2).log2 + 1 + 1) := by rw [Nat.pow_succ]; omega
      have b1 := (Nat.le_log2 h).2 a1
      have b2 := (Nat.log2_lt h).2 a2
      omega
    omega

theorem lenN_le {m : Nat} (h : m < 18446744073709551616) : lenN m ≤ 64 := by
  unfold lenN
  split
  · omega
  · rename_i h0
    have := (Nat.log2_lt h0).2 (show m < 2 ^ 64 by omega)
    omega
theorem lenN_hi (m : Nat) : m < 2 ^ lenN m := by
  unfold lenN
  split
  · omega
  · exact Nat.lt_log2_self
/-- the bits of the small float of p bits of fraction nearest to m · 2^e. -/
def unitI (m : Nat) (e p least : Int) : Int := max ((lenN m : Int) + e - (p + 1)) least
def smallI (m : Nat) (e p least : Int) (inf : Int) : Int :=
  if m = 0 then 0 else min inf ((unitI m e p least - least) * 2 ^ p.toNat + nrs (m * 2 ^ (e - unitI m e p least).toNat) (unitI m e p least - e).toNat)
theorem nrs_zero (m : Nat) : nrs m 0 = m := by unfold nrs; rw [Nat.pow_zero, Nat.mod_one, Nat.div_one, if_neg (by omega)]
theorem nrs_le {m s k : Nat} (h : m < 2 ^ (s + k)) : nrs m s ≤ 2 ^ k := by
  have h1 : m / 2 ^ s < 2 ^ k := (Nat.div_lt_iff_lt_mul (Nat.two_pow_pos s)).2 (by rw [← Nat.pow_add, Nat.add_comm]; exact h)
  unfold nrs; split <;> omega
/-- no word overflows. -/
theorem small_bound {m : Nat} {L U e p least : Int} (hL64 : L ≤ 64) (eL : L = lenN m) (e1 : -1074 ≤ e) (e2 : e ≤ 971) (p1 : 1 ≤ p) (p2 : p ≤ 52) (l1 : -1074 ≤ least) (l2 : least ≤ 0) (hU : U = max (L + e - (p + 1)) least) :
    (U < e → IntKind.u64.wrap (m * 2 ^ (e - U).toNat) = ((m * 2 ^ (e - U).toNat : Nat) : Int) ∧ IntKind.u64.wrap (IntKind.u64.wrap ((U - least) * 2 ^ p.toNat) + ((m * 2 ^ (e - U).toNat : Nat) : Int)) = (U - least) * 2 ^ p.toNat + ((m * 2 ^ (e - U).toNat : Nat) : Int)) ∧
    (∀ k : Nat, k = nrs m (U - e).toNat → e ≤ U → IntKind.u64.wrap (IntKind.u64.wrap ((U - least) * 2 ^ p.toNat) + (k : Int)) = (U - least) * 2 ^ p.toNat + k) := by
  have hm := lenN_hi m
  obtain ⟨P, hP⟩ : ∃ P : Nat, P = p.toNat := ⟨_, rfl⟩
  obtain ⟨D, hD⟩ : ∃ D : Nat, (D : Int) = U - least := ⟨(U - least).toNat, by omega⟩
  have hpow : (2 : Int) ^ p.toNat = ((2 ^ P : Nat) : Int) := by rw [hP]; simp
  rw [← hD, hpow]
  have hP52 : P ≤ 52 := by omega
  have hPP : 2 ^ P ≤ 2 ^ 52 := Nat.pow_le_pow_right (by omega) hP52
  have hPP1 : 2 ^ (P + 1) ≤ 2 ^ 53 := Nat.pow_le_pow_right (by omega) (by omega)
  have hDb : D ≤ 2108 := by
    omega
  have hDP : D * 2 ^ P ≤ 2108 * 2 ^ 52 := Nat.mul_le_mul hDb hPP
  have key : ∀ k : Nat, k ≤ 2 ^ (P + 1) → IntKind.u64.wrap (IntKind.u64.wrap ((D : Int) * ((2 ^ P : Nat) : Int)) + (k : Int)) = (D : Int) * ((2 ^ P : Nat) : Int) + k := by
    intro k hk
    rw [← Int.natCast_mul, u64w, u64w]
    omega
  constructor
  · intro h
    have hk : m * 2 ^ (e - U).toNat ≤ 2 ^ (P + 1) := by
      have h1 : m * 2 ^ (e - U).toNat ≤ 2 ^ lenN m * 2 ^ (e - U).toNat := Nat.mul_le_mul_right _ (Nat.le_of_lt hm)
      rw [← Nat.pow_add] at h1
      exact Nat.le_trans h1 (Nat.pow_le_pow_right (by omega) (by omega))
    refine ⟨?_, key _ hk⟩
    have e3 : (2 : Int) ^ (e - U).toNat = ((2 ^ (e - U).toNat : Nat) : Int) := by simp
    rw [e3, ← Int.natCast_mul, u64w]
    omega
  · intro k hk he
    refine key k ?_
    rw [hk]
    refine nrs_le (Nat.lt_of_lt_of_le hm (Nat.pow_le_pow_right (by omega) (by omega)))
theorem small_k {m k : Nat} {L U e p least : Int} (hL64 : L ≤ 64) (eL : L = lenN m) (e1 : -1074 ≤ e) (e2 : e ≤ 971) (p1 : 1 ≤ p) (p2 : p ≤ 52) (l1 : -1074 ≤ least) (l2 : least ≤ 0) (hU : U = max (L + e - (p + 1)) least)
    (hk : k = nrs (m * 2 ^ (e - U).toNat) (U - e).toNat) :
    (0 ≤ (k : Int) ∧ (k : Int) ≤ 9007199254740992) ∧ IntKind.u64.wrap (IntKind.u64.wrap ((U - least) * 2 ^ p.toNat) + (k : Int)) = (U - least) * 2 ^ p.toNat + k ∧ (U < e → IntKind.u64.wrap ((m : Int) * 2 ^ (e - U).toNat) = k) ∧ (U = e → (k : Int) = m) ∧ (e < U → (k : Int) = nearI m (U - e)) := by
  obtain ⟨b1, b2⟩ := small_bound hL64 eL e1 e2 p1 p2 l1 l2 hU
  have hm := lenN_hi m
  have hk53 : k ≤ 2 ^ 53 := by
    rw [hk]
    refine Nat.le_trans (nrs_le (k := p.toNat + 1) ?_) (Nat.pow_le_pow_right (by omega) (by omega))
    by_cases h : U ≤ e
    · have h1 : m * 2 ^ (e - U).toNat < 2 ^ lenN m * 2 ^ (e - U).toNat := Nat.mul_lt_mul_of_pos_right hm (Nat.two_pow_pos _)
      rw [← Nat.pow_add] at h1
      exact Nat.lt_of_lt_of_le h1 (Nat.pow_le_pow_right (by omega) (by omega))
    · rw [show (e - U).toNat = 0 from by omega, Nat.pow_zero, Nat.mul_one]
      exact Nat.lt_of_lt_of_le hm (Nat.pow_le_pow_right (by omega) (by omega))
  refine ⟨by omega, ?_, ?_, ?_, ?_⟩
  · by_cases h : U < e
    · have e3 : k = m * 2 ^ (e - U).toNat := by rw [hk, show (U - e).toNat = 0 from by omega, nrs_zero]
      rw [e3]; exact (b1 h).2
    · refine b2 k ?_ (by omega)
      rw [hk, show (e - U).toNat = 0 from by omega, Nat.pow_zero, Nat.mul_one]
  · intro h
    have e3 : k = m * 2 ^ (e - U).toNat := by rw [hk, show (U - e).toNat = 0 from by omega, nrs_zero]
    rw [e3]; exact (b1 h).1
  · intro h
    rw [hk, show (U - e).toNat = 0 from by omega, show (e - U).toNat = 0 from by omega, nrs_zero, Nat.pow_zero, Nat.mul_one]
  · intro h
    have := nearI_nrs (m := m) (s := (U - e).toNat) (by omega)
    rw [show (((U - e).toNat : Nat) : Int) = U - e from by omega] at this
    rw [this, hk, show (e - U).toNat = 0 from by omega, Nat.pow_zero, Nat.mul_one]
/-- of 64 bits: the float nearest. -/
theorem small_word (m : Nat) (e : Int) : smallI m e 52 (-1074) 9218868437227405312 = ((min (rung m e) INF : Nat) : Int) := by
  have hI := INF_eq
  unfold smallI rung
  by_cases h0 : m = 0
  · rw [if_pos h0, if_pos h0]; simp
  · rw [if_neg h0, if_neg h0, cut_nrs, Nat.shiftLeft_eq]
    have hu : unitI m e 52 (-1074) = max (e + (m.log2 : Int) - 52) (-1074) := by
      unfold unitI lenN; rw [if_neg h0]; omega
    rw [hu]
    generalize nrs _ _ = k
    rw [show ((52 : Int).toNat) = 52 from rfl]
    have : max (e + (m.log2 : Int) - 52) (-1074) - -1074 = ((max (e + (m.log2 : Int) - 52) (-1074) + 1074).toNat : Int) := by omega
    rw [this]
    generalize (max (e + (m.log2 : Int) - 52) (-1074) + 1074).toNat = j
    omega
end TF
