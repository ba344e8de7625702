/- The statement BitsBetween over words. -/
import Derived.Test.YtcjnnhmijpnicaaBitsN
namespace TF
open Ieee Go Go.RowKit

theorem rk_bd (x : Nat) : -9223372036854775808 < rk x ∧ rk x < 9223372036854775808 := by have := mg_lt x; unfold rk; split <;> omega

/-- What Between answers, part by part. -/
theorem btw (a b : Nat) : ∃ x ok, betweenW a b = (x, ok) ∧ -9223372036854775808 ≤ x ∧ x ≤ 9223372036854775807 ∧
    ((ok = true ∧ isN a = false ∧ isN b = false ∧ x = rk b - rk a) ∨ (ok = false ∧ x = 0 ∧ (isN a = true ∨ isN b = true ∨ (isN a = false ∧ isN b = false ∧ (rk b - rk a < -9223372036854775808 ∨ 9223372036854775807 < rk b - rk a))))) := by
  unfold betweenW
  cases ha : isN a <;> cases hb : isN b
  · by_cases h : rk b - rk a < -9223372036854775808 ∨ 9223372036854775807 < rk b - rk a
    · rw [if_neg (by simp), if_pos h]
      exact ⟨0, false, rfl, by omega, by omega, .inr ⟨rfl, rfl, .inr (.inr ⟨rfl, rfl, h⟩)⟩⟩
    · rw [if_neg (by simp), if_neg h]
      exact ⟨_, true, rfl, by omega, by omega, .inl ⟨rfl, rfl, rfl, rfl⟩⟩
  · exact ⟨0, false, rfl, by omega, by omega, .inr ⟨rfl, rfl, .inr (.inl rfl)⟩⟩
  · exact ⟨0, false, rfl, by omega, by omega, .inr ⟨rfl, rfl, .inl rfl⟩⟩
  · exact ⟨0, false, rfl, by omega, by omega, .inr ⟨rfl, rfl, .inl rfl⟩⟩

def fitW (a b : Int) : Int × Bool := if a + b < -9223372036854775808 ∨ 9223372036854775807 < a + b then (wrap64 (a + b), false) else (a + b, true)
theorem fit_cases (a b : Int) (ha : -9223372036854775808 ≤ a ∧ a ≤ 9223372036854775807) (hb : -9223372036854775808 ≤ b ∧ b ≤ 9223372036854775807) :
    (fitW a b = (a + b, true) ∧ -9223372036854775808 ≤ a + b ∧ a + b ≤ 9223372036854775807 ∧ ((a < 0 ∧ ¬ b < 0) ∨ (¬ a < 0 ∧ b < 0) ∨ (a < 0 ∧ b < 0 ∧ a + b < 0) ∨ (¬ a < 0 ∧ ¬ b < 0 ∧ ¬ a + b < 0))) ∨
    (∃ s, wrap64 (a + b) = s ∧ fitW a b = (s, false) ∧ ((a < 0 ∧ b < 0 ∧ ¬ s < 0) ∨ (¬ a < 0 ∧ ¬ b < 0 ∧ s < 0))) := by
  unfold fitW
  by_cases h : a + b < -9223372036854775808 ∨ 9223372036854775807 < a + b
  · right
    rw [if_pos h]
    refine ⟨_, rfl, rfl, ?_⟩
    unfold wrap64
    omega
  · left; rw [if_neg h]; exact ⟨rfl, by omega, by omega, by omega⟩
theorem fit_bd (a b : Int) : ∃ s f, fitW a b = (s, f) ∧ (f = true → s = a + b) := by
  unfold fitW; split
  · exact ⟨_, _, rfl, fun h => by cases h⟩
  · exact ⟨_, _, rfl, fun _ => rfl⟩

theorem between_ways (a b c : Nat) : ∃ x ok y also z too s fit w back, betweenW a b = (x, ok) ∧ betweenW b c = (y, also) ∧ betweenW a c = (z, too) ∧ betweenW b a = (w, back) ∧ fitW x y = (s, fit) ∧
    (-9223372036854775808 ≤ x ∧ x ≤ 9223372036854775807) ∧ (-9223372036854775808 ≤ y ∧ y ≤ 9223372036854775807) ∧
    ((ok = false ∧ x = 0 ∧ ((eqW a a = false) ∨ (eqW a a = true ∧ eqW b b = false) ∨ (eqW a a = true ∧ eqW b b = true))) ∨
     (ok = true ∧ eqW a a = true ∧ eqW b b = true ∧ (also = false ∨ (also = true ∧ (too = false ∨ (too = true ∧ (fit = false ∨ (fit = true ∧ s = z)))))) ∧
       ((back = true ∧ -9223372036854775807 ≤ x ∧ w = -x) ∨ (back = false ∧ ¬ 0 < x)))) := by
  obtain ⟨x, ok, e1, x1, x2, hx⟩ := btw a b
  obtain ⟨y, also, e2, y1, y2, hy⟩ := btw b c
  obtain ⟨z, too, e3, z1, z2, hz⟩ := btw a c
  obtain ⟨w, back, e4, w1, w2, hw⟩ := btw b a
  obtain ⟨s, fit, e5, hs⟩ := fit_bd x y
  refine ⟨x, ok, y, also, z, too, s, fit, w, back, e1, e2, e3, e4, e5, ⟨x1, x2⟩, ⟨y1, y2⟩, ?_⟩
  rw [eqW_self, eqW_self]
  rcases hx with ⟨rfl, na, nb, rfl⟩ | ⟨rfl, rfl, h⟩
  · right
    rw [na, nb]
    refine ⟨rfl, rfl, rfl, ?_, ?_⟩
    · rcases hy with ⟨rfl, _, nc, rfl⟩ | ⟨rfl, _, _⟩
      · right; refine ⟨rfl, ?_⟩
        rcases hz with ⟨rfl, _, _, rfl⟩ | ⟨rfl, _, _⟩
        · right; refine ⟨rfl, ?_⟩
          cases fit
          · exact .inl rfl
          · exact .inr ⟨rfl, by rw [hs rfl]; omega⟩
        · exact .inl rfl
      · exact .inl rfl
    · rcases hw with ⟨rfl, _, _, rfl⟩ | ⟨rfl, _, h⟩
      · left; exact ⟨rfl, by omega, by omega⟩
      · right
        refine ⟨rfl, ?_⟩
        rcases h with h | h | ⟨_, _, h⟩
        · rw [nb] at h; cases h
        · rw [na] at h; cases h
        · omega
  · left
    refine ⟨rfl, rfl, ?_⟩
    cases isN a
    · right
      cases isN b
      · exact .inr ⟨rfl, rfl⟩
      · exact .inl ⟨rfl, rfl⟩
    · exact .inl rfl

/-- Going up once is one place further, seen from anywhere. -/
theorem up_ways {y : Nat} (c : Nat) (h : W64 y) (hf : finB y = true) : eqW y y = true ∧ ∃ d is_ e was, betweenW c (upW y) = (d, is_) ∧ betweenW c y = (e, was) ∧
    (is_ = false ∨ (is_ = true ∧ (was = false ∨ (was = true ∧ -9223372036854775808 ≤ e ∧ e < 9223372036854775807 ∧ d = e + 1)))) := by
  have hf' := finB_true.1 hf
  obtain ⟨u1, u2⟩ := up_rk h hf'
  have hn : isN y = false := isN_false.2 (by omega)
  refine ⟨eqW_self_true hn, ?_⟩
  obtain ⟨d, is_, e1, d1, d2, hd⟩ := btw c (upW y)
  obtain ⟨e, was, e2, f1, f2, he⟩ := btw c y
  refine ⟨d, is_, e, was, e1, e2, ?_⟩
  rcases hd with ⟨rfl, _, _, rfl⟩ | ⟨rfl, _, _⟩
  · right; refine ⟨rfl, ?_⟩
    rcases he with ⟨rfl, _, _, rfl⟩ | ⟨rfl, _, _⟩
    · right; exact ⟨rfl, by omega, by omega, by omega⟩
    · exact .inl rfl
  · exact .inl rfl
end TF
