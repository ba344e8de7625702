/- Split's words. -/
import Derived.Test.YtkkikcfolinkfaaTwinP
namespace TF
open Ieee Go Go.RowKit

theorem cut_iv (a : Nat) :
    ∃ c d h l A Ah Al : Int, ∃ k : Nat, rI (134217729 * iv a) = c ∧ rI (c - iv a) = d ∧ rI (c - d) = h ∧ c - d = h ∧ rI (iv a - h) = l ∧ iv a - h = l ∧ (c - iv a).natAbs ≤ max c.natAbs (iv a).natAbs ∧ h.natAbs ≤ 2 * (iv a).natAbs ∧ l.natAbs ≤ (iv a).natAbs ∧
      iv a = A * (2 ^ E (mg a) : Nat) ∧ h = Ah * (2 ^ E (mg a) : Nat) ∧ l = Al * (2 ^ E (mg a) : Nat) ∧ Split26 A Ah Al k := by
  obtain ⟨c, d, h, l, A, Ah, Al, k, e1, e2, e3, e4, e5, e6, c0, h1, h2, h3, h4, h5, S⟩ := cut_pos (r := mg a) (X := V (mg a)) rfl
  cases hs : ng a
  · have : iv a = V (mg a) := by unfold iv; rw [hs]; rfl
    rw [this]
    exact ⟨c, d, h, l, A, Ah, Al, k, e1, e2, e3, e4, e5, e6, by omega, h1, h2, h3, h4, h5, S⟩
  · have : iv a = -(V (mg a) : Int) := by unfold iv; rw [hs]; rfl
    rw [this]
    have hX0 : 0 ≤ (V (mg a) : Int) := by omega
    generalize (V (mg a) : Int) = X at *
    generalize ((2 ^ E (mg a) : Nat) : Int) = g at *
    refine ⟨-c, -d, -h, -l, -A, -Ah, -Al, k, ?_, ?_, ?_, by omega, ?_, by omega, by omega, by omega, by omega, ?_, ?_, ?_, ⟨by have := S.sum; omega, ?_, by have := S.low; omega, S.le, by have := S.up; omega, by have := S.down; omega⟩⟩
    · rw [Int.mul_neg, rI_neg, e1]
    · rw [show -c - -X = -(c - X) from by omega, rI_neg, e2]
    · rw [show -c - -d = -(c - d) from by omega, rI_neg, e3]
    · rw [show -X - -h = -(X - h) from by omega, rI_neg, e5]
    · rw [Int.neg_mul, ← h3]
    · rw [Int.neg_mul, ← h4]
    · rw [Int.neg_mul, ← h5]
    · obtain ⟨x, hx, hx2⟩ := S.high
      exact ⟨-x, by rw [hx, Int.mul_neg], by omega⟩

theorem iv_134 : iv 4728779608772575232 = 134217729 * Q := by
  have h1 : ng 4728779608772575232 = false := by decide
  have h2 : mg 4728779608772575232 = 4728779608772575232 := by decide
  unfold iv
  rw [h1, h2, V_134, if_neg Bool.false_ne_true, Int.natCast_mul]; rfl

theorem cut_word {a : Nat} (ha : W64 a) (hb : V (mg a) ≤ 33554432 * G) :
    ∃ c d h l : Nat, ∃ A Ah Al : Int, ∃ k : Nat, (floatBits .mul .f64 4728779608772575232 a = some c ∧ floatBits .sub .f64 c a = some d ∧ floatBits .sub .f64 c d = some h ∧ floatBits .sub .f64 a h = some l) ∧
      W64 h ∧ W64 l ∧ mg h < INF ∧ mg l < INF ∧ iv a = A * (2 ^ E (mg a) : Nat) ∧ iv h = Ah * (2 ^ E (mg a) : Nat) ∧ iv l = Al * (2 ^ E (mg a) : Nat) ∧ Split26 A Ah Al k := by
  have hG := G_pos
  have hI : mg a < INF := by
    rw [← V_lt_iff]
    have e : V INF = 9007199254740992 * G := by
      have : INF = GE * 2 ^ 52 + 2 ^ 53 := by decide
      rw [this, V_block (D := GE) (by omega) (by omega), G]
    omega
  obtain ⟨c, d, h, l, A, Ah, Al, k, e1, e2, e3, e4, e5, e6, c0, h1, h2, h3, h4, h5, S⟩ := cut_iv a
  have hna : (iv a).natAbs = V (mg a) := iv_natAbs a
  obtain ⟨wc, k1, c64, cm, civ, -⟩ := mul_iv (a := 4728779608772575232) (b := a) (n := 134217729 * iv a) (by decide) hI (by rw [iv_134, Int.mul_assoc, Int.mul_left_comm]) (rnd_fin (by omega))
  have cI : mg wc < INF := by rw [cm]; exact rnd_fin (by omega)
  have cb := V_fin cI
  have hnc : (iv wc).natAbs = V (mg wc) := iv_natAbs wc
  rw [civ, e1] at hnc
  rw [← iv_natAbs, civ, e1] at cb
  obtain ⟨wd', k2, d64, dI, div⟩ := sub_iv (a := wc) (b := a) cI ha hI (by rw [civ, e1]; exact rnd_fin (by omega))
  rw [civ, e1] at div
  rw [e2] at div
  obtain ⟨wh, k3, h64, hI', hiv⟩ := sub_iv (a := wc) (b := wd') cI d64 dI (by rw [civ, e1, div, e4]; exact rnd_fin (by omega))
  rw [civ, e1, div, e3] at hiv
  obtain ⟨wl, k4, l64, lI, liv⟩ := sub_iv (a := a) (b := wh) hI h64 hI' (by rw [hiv, e6]; exact rnd_fin (by omega))
  rw [hiv, e5] at liv
  exact ⟨wc, wd', wh, wl, A, Ah, Al, k, ⟨k1, k2, k3, k4⟩, h64, l64, hI', lI, h3, by rw [hiv, h4], by rw [liv, h5], S⟩
end TF
