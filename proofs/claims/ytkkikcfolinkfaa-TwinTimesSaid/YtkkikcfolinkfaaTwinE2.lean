/- Split's two answers are the number, each with 26 bits at most. -/
import Derived.Test.YtkkikcfolinkfaaTwinE1
import Derived.Test.YtkkikcfolinkfaaTwinZ
namespace TF
open Ieee Go Go.RowKit

/-- at most 26 bits in use. -/
def Short (m : Int) : Prop := ∃ (c : Nat) (q : Int), m = 2 ^ c * q ∧ 0 ≤ q ∧ q < 67108864
theorem Short.half {m : Int} (h : Short m) (he : m % 2 = 0) : Short (m / 2) := by
  obtain ⟨c, q, h1, h2, h3⟩ := h
  cases c with
  | zero => exact ⟨0, m / 2, by simp, by simp at h1; omega, by simp at h1; omega⟩
  | succ c =>
    refine ⟨c, q, ?_, h2, h3⟩
    rw [h1, Int.pow_succ, Int.mul_comm ((2 : Int) ^ c) 2, Int.mul_assoc, Int.mul_ediv_cancel_left _ (by decide)]
theorem Short.odd {m : Int} (h : Short m) (ho : m % 2 = 1 ∨ m = 0) : m < 67108864 := by
  obtain ⟨c, q, h1, h2, h3⟩ := h
  cases c with
  | zero => simp at h1; omega
  | succ c =>
    rw [Int.pow_succ, Int.mul_comm ((2 : Int) ^ c) 2, Int.mul_assoc] at h1
    omega

theorem short_of {x q e : Nat} (h : V (mg x) = q * 2 ^ e) (hq : q ≤ 67108864) : Short (M (mg x) : Nat) := by
  have key : ∀ q e : Nat, q < 67108864 → V (mg x) = q * 2 ^ e → Short (M (mg x) : Nat) := by
    intro q e hq h
    have hV : V (mg x) = M (mg x) * 2 ^ E (mg x) := rfl
    rw [hV] at h
    rcases Nat.le_total (E (mg x)) e with hle | hle
    · obtain ⟨d, rfl⟩ : ∃ d, e = E (mg x) + d := ⟨e - E (mg x), by omega⟩
      rw [Nat.pow_add, ← Nat.mul_assoc, Nat.mul_right_comm] at h
      have := Nat.eq_of_mul_eq_mul_right (Nat.two_pow_pos _) h
      refine ⟨d, (q : Int), ?_, by omega, by omega⟩
      rw [this, Nat.mul_comm]; simp
    · obtain ⟨d, hd⟩ : ∃ d, E (mg x) = e + d := ⟨E (mg x) - e, by omega⟩
      rw [hd, Nat.pow_add, ← Nat.mul_assoc, Nat.mul_right_comm] at h
      have h2 := Nat.eq_of_mul_eq_mul_right (Nat.two_pow_pos _) h
      have : M (mg x) ≤ q := by rw [← h2]; exact Nat.le_mul_of_pos_right _ (Nat.two_pow_pos _)
      exact ⟨0, (M (mg x) : Nat), by simp, by omega, by omega⟩
  by_cases hc : q = 67108864
  · subst hc
    refine key 1 (e + 26) (by omega) ?_
    rw [h, Nat.pow_add]; omega
  · exact key q e (by omega) h

/-- what Split's answers are where it cuts. -/
structure SplitIs (x h l : Nat) : Prop where
  fx : mg x < INF
  fh : mg h < INF
  fl : mg l < INF
  all : iv x + iv 0 = iv h + iv l
  sh : Short (M (mg h) : Nat)
  sl : Short (M (mg l) : Nat)

theorem split_is {x : Nat} (hx : W64 x) (hs : mg x ≤ 9092767647661031424) : SplitIs x (splitW x).1 (splitW x).2 := by
  have hI := INF_eq
  obtain ⟨c, d, h, l, A, Ah, Al, k, st, h64, l64, fh, fl, e1, e2, e3, SP⟩ := cut_word hx (V_le996 hs)
  obtain ⟨u1, u2⟩ := cut_unique st
  have hw : splitW x = (canonW h, canonW l) := by unfold splitW; rw [if_pos hs, u1, u2]
  rw [hw]
  obtain ⟨g1, g2⟩ := fin_canon fh
  obtain ⟨g3, g4⟩ := fin_canon fl
  have nat : ∀ {y : Nat} {B : Int}, iv y = B * (2 ^ E (mg x) : Nat) → V (mg y) = B.natAbs * 2 ^ E (mg x) := by
    intro y B hB
    have := iv_natAbs y
    rw [hB, Int.natAbs_mul, Int.natAbs_natCast] at this
    exact this.symm
  refine ⟨by omega, g1, g3, ?_, ?_, ?_⟩
  · rw [g2, g4, show iv 0 = 0 from by decide, e1, e2, e3, SP.sum, Int.add_mul]; omega
  · obtain ⟨y, hy, hy2⟩ := SP.high
    refine short_of (q := y.natAbs) (e := k + E (mg x)) ?_ (by omega)
    rw [nat (y := canonW h) (B := Ah) (by rw [g2, e2]), hy, Int.natAbs_mul, Int.natAbs_pow, Nat.pow_add]
    show 2 ^ k * y.natAbs * _ = _
    rw [Nat.mul_comm (2 ^ k), Nat.mul_assoc]
  · have hlow := SP.low
    have hle := SP.le
    have hp : 2 ^ k ≤ 2 ^ 27 := Nat.pow_le_pow_right (by omega) hle
    refine short_of (q := Al.natAbs) (e := E (mg x)) (nat (by rw [g4, e3])) ?_
    have : ((2 : Int) ^ k) = ((2 ^ k : Nat) : Int) := by simp
    omega
theorem split_not {x : Nat} (hs : ¬ mg x ≤ 9092767647661031424) : splitW x = (canonW x, 0) := by unfold splitW; rw [if_neg hs]
theorem plain_split (x : Nat) : canonW (splitW x).1 = (splitW x).1 ∧ canonW (splitW x).2 = (splitW x).2 := by
  unfold splitW
  split
  · exact ⟨canonW_canonW _, canonW_canonW _⟩
  · exact ⟨canonW_canonW _, show canonW 0 = 0 by decide⟩

/-- beyond the bound on one side. -/
theorem beyond {x p : Nat} (hx : W64 x) (hp : p < INF) (hf : mg x < INF) : ltW p x = (!ng x && decide (p < mg x)) ∧ ltW p (op x) = (ng x && decide (p < mg x)) := by
  have hI := INF_lt
  have key : ∀ y : Nat, mg y < INF → ltW p y = (!ng y && decide (p < mg y)) := by
    intro y hy
    have hpm : mg p = p := Nat.mod_eq_of_lt (by omega)
    have hpn : ng p = false := by unfold ng; rw [Nat.div_eq_of_lt (by omega)]; rfl
    unfold ltW
    rw [isN_false.2 (by omega), isN_false.2 (by omega)]
    unfold rk
    rw [hpm, hpn]
    cases ng y <;> simp <;> omega
  refine ⟨key x hf, ?_⟩
  rw [key (op x) (by rw [mg_op hx]; exact hf), mg_op hx, ng_op hx, Bool.not_not]
end TF
