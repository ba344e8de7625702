/- Steps of Split and Product as values. -/
import Derived.Test.YtkkikcfolinkfaaTwinT
namespace TF
open Ieee Go Go.RowKit

def GE : Nat := 2045
/-- 2^971, in units. -/
def G : Nat := 2 ^ GE
theorem G_split (a b : Nat) (h : a + b = GE) : G = 2 ^ a * 2 ^ b := by unfold G; rw [← h, Nat.pow_add]
theorem G_pos : 0 < G := Nat.two_pow_pos GE
theorem V_last : V (INF - 1) = 9007199254740991 * G := by
  have : INF - 1 = GE * 2 ^ 52 + 9007199254740991 := by decide
  rw [this, V_block (D := GE) (by omega) (by omega), G]
theorem rnd_fin {n : Nat} (h : n ≤ 9007199254740991 * G) : rnd n < INF := by
  rw [← V_last] at h
  have := rnd_le_of h
  have : 0 < INF := by decide
  omega
theorem V_fin {r : Nat} (h : r < INF) : V r ≤ 9007199254740991 * G := by
  rw [← V_last]; exact V_le (by omega)
theorem V_p996 : V 9092767647661031424 = 33554432 * G := by
  have : (9092767647661031424 : Nat) = 2018 * 2 ^ 52 + 2 ^ 52 := by decide
  rw [this, V_block (by omega) (by omega)]
  have e := G_split 27 2018 (by decide)
  rw [e]; generalize 2 ^ 2018 = q; omega
theorem V_p1020 : V 9200854038717923328 = 562949953421312 * G := by
  have : (9200854038717923328 : Nat) = 2042 * 2 ^ 52 + 2 ^ 52 := by decide
  rw [this, V_block (by omega) (by omega)]
  have e := G_split 3 2042 (by decide)
  rw [e]; generalize 2 ^ 2042 = q; omega
theorem V_pm969 : V 243194379878006784 = 2 ^ 105 := by
  have : (243194379878006784 : Nat) = 53 * 2 ^ 52 + 2 ^ 52 := by decide
  rw [this, V_block (by omega) (by omega), ← Nat.pow_add]
theorem V_134 : V 4728779608772575232 = 134217729 * Q := by
  have : (4728779608772575232 : Nat) = 1049 * 2 ^ 52 + 134217729 * 2 ^ 25 := by decide
  rw [this, V_block (by omega) (by omega)]
  have e := Q_split 25 1049 (by decide)
  rw [e]; generalize 2 ^ 1049 = q; omega

theorem rI_fin_le {n : Int} (h : rnd n.natAbs < INF) : (rI n).natAbs ≤ 9007199254740991 * G := by rw [rI_natAbs]; exact V_fin h
theorem rnd_rI {n : Int} (h : rI n = n) (hn : n.natAbs ≤ 9007199254740991 * G) : rnd n.natAbs < INF := by
  have := h; exact rnd_fin hn

theorem mul_iv {a b : Nat} {n : Int} (ha : mg a < INF) (hb : mg b < INF) (h : iv a * iv b = Q * n) (hr : rnd n.natAbs < INF) :
    ∃ r, floatBits .mul .f64 a b = some r ∧ W64 r ∧ mg r = rnd n.natAbs ∧ iv r = rI n ∧ ng r = (ng a ^^ ng b) := by
  have hI := INF_lt
  have hQ : (0 : Int) < Q := by have := Q_pos; omega
  have hV : V (mg a) * V (mg b) = Q * n.natAbs := by
    have := congrArg Int.natAbs h
    rwa [Int.natAbs_mul, Int.natAbs_mul, iv_natAbs, iv_natAbs, Int.natAbs_natCast] at this
  have e : floatBits .mul .f64 a b = some (wd (ng a ^^ ng b) (rnd n.natAbs)) := by
    show double.mul a b = _
    rw [mul_fin ha hb, hV, rnd2_Q, Nat.min_eq_left (by omega)]
  have hm : mg (wd (ng a ^^ ng b) (rnd n.natAbs)) = rnd n.natAbs := mg_wd (by omega)
  have hg : ng (wd (ng a ^^ ng b) (rnd n.natAbs)) = (ng a ^^ ng b) := ng_wd (by omega)
  refine ⟨_, e, wd_lt (by omega), hm, ?_, hg⟩
  by_cases h0 : n = 0
  · subst h0
    have e0 : mg (wd (ng a ^^ ng b) (rnd (0 : Int).natAbs)) = 0 := by rw [hm]; exact rnd_zero
    unfold iv; rw [e0, V_zero, rI_rep (n := 0) ⟨0, V_zero⟩]; split <;> rfl
  · unfold iv
    rw [hm, hg]
    unfold rI
    have key : (ng a ^^ ng b) = decide (n < 0) := by
      have hx : 0 ≤ ((V (mg a) : Int)) * V (mg b) := Int.mul_nonneg (by omega) (by omega)
      have hpos : n < 0 → (Q : Int) * n < 0 := fun hn => Int.mul_neg_of_pos_of_neg hQ hn
      have hneg : 0 < n → 0 < (Q : Int) * n := fun hn => Int.mul_pos hQ hn
      unfold iv at h
      cases h1 : ng a <;> cases h2 : ng b <;> rw [h1, h2] at h <;> simp only [Bool.false_eq_true, if_false, if_true, Int.neg_mul, Int.mul_neg, Int.neg_neg] at h
      · rw [h] at hx; by_cases hn : n < 0
        · have := hpos hn; omega
        · simp; omega
      · by_cases hn : n < 0
        · simp; omega
        · have := hneg (by omega); omega
      · by_cases hn : n < 0
        · simp; omega
        · have := hneg (by omega); omega
      · rw [h] at hx; by_cases hn : n < 0
        · have := hpos hn; omega
        · simp; omega
    rw [key]
    simp

theorem add_iv {a b : Nat} (ha : mg a < INF) (hb : mg b < INF) (hr : rnd (iv a + iv b).natAbs < INF) :
    ∃ r z, floatBits .add .f64 a b = some r ∧ r = rw' z (iv a + iv b) ∧ W64 r ∧ mg r < INF ∧ iv r = rI (iv a + iv b) := by
  refine ⟨_, _, add_word ha hb, rfl, rw_lt _ _, ?_, iv_rw hr⟩
  rw [mg_rw]; omega
theorem sub_iv {a b : Nat} (ha : mg a < INF) (hb64 : W64 b) (hb : mg b < INF) (hr : rnd (iv a - iv b).natAbs < INF) :
    ∃ r, floatBits .sub .f64 a b = some r ∧ W64 r ∧ mg r < INF ∧ iv r = rI (iv a - iv b) := by
  refine ⟨_, sub_word ha hb64 hb, rw_lt _ _, ?_, iv_rw hr⟩
  rw [mg_rw]; omega

/-- A whole number as a part of 26 bits and a rest. -/
structure Split26 (A Ah Al : Int) (c : Nat) : Prop where
  sum : A = Ah + Al
  high : ∃ x : Int, Ah = 2 ^ c * x ∧ x.natAbs ≤ 2 ^ 26
  low : 2 * Al.natAbs ≤ 2 ^ c
  le : c ≤ 27
  up : A.natAbs < 2 ^ 26 * 2 ^ c
  down : c = 0 ∨ 2 ^ 25 * 2 ^ c ≤ A.natAbs

theorem cut_pos {r : Nat} {X : Int} (hX : X = V r) :
    ∃ c d h l A Ah Al : Int, ∃ k : Nat, rI (134217729 * X) = c ∧ rI (c - X) = d ∧ rI (c - d) = h ∧ c - d = h ∧ rI (X - h) = l ∧ X - h = l ∧ 0 ≤ c ∧ h.natAbs ≤ 2 * X.natAbs ∧ l.natAbs ≤ X.natAbs ∧
      X = A * (2 ^ E r : Nat) ∧ h = Ah * (2 ^ E r : Nat) ∧ l = Al * (2 ^ E r : Nat) ∧ Split26 A Ah Al k := by
  by_cases hs : V r < 2 ^ 26
  · obtain ⟨e1, e2, e3, e4⟩ := cut_small (X := X) (by omega)
    have hr : r < 2 ^ 26 := by
      have : V r < V (2 ^ 26) := by rw [V_small (show 2 ^ 26 ≤ 2 ^ 53 by omega)]; exact hs
      exact V_lt_iff.1 this
    have hE : E r = 0 := by unfold E; rw [Nat.div_eq_of_lt (by omega)]
    refine ⟨_, _, _, _, X, X, 0, 0, e1, e2, e3, by omega, e4, by omega, by omega, by omega, by omega, by rw [hE]; simp, by rw [hE]; simp, by simp, ⟨by omega, ⟨X, by simp, by omega⟩, by simp, by omega, by simp; omega, .inl rfl⟩⟩
  · have hne : V r ≠ 0 := by omega
    have g1 := Nat.log2_self_le hne
    have g2 : V r < 2 ^ ((V r).log2 + 1) := Nat.lt_log2_self
    have g3 : 26 ≤ (V r).log2 := by
      refine Nat.le_of_lt_succ ((Nat.pow_lt_pow_iff_right (a := 2) (by omega)).1 (Nat.lt_of_le_of_lt ?_ g2))
      omega
    obtain ⟨t, ht⟩ : ∃ t, (V r).log2 = 26 + t := ⟨(V r).log2 - 26, by omega⟩
    rw [ht, Nat.pow_add] at g1
    rw [ht, show 26 + t + 1 = 27 + t from by omega, Nat.pow_add] at g2
    obtain ⟨c, d, h, e1, e2, e3, e4, e5, h1, h2, h3, h4, h5, _, c0, _⟩ := cut_great hX g1 g2
    have hEt : E r ≤ t := by
      by_cases h0 : r < 2 ^ 52
      · have : E r = 0 := by unfold E; rw [Nat.div_eq_of_lt h0]
        omega
      · have hM : 2 ^ 52 ≤ M r := by unfold M; rw [if_neg h0]; omega
        have : 2 ^ 52 * 2 ^ E r ≤ V r := Nat.mul_le_mul_right _ hM
        refine Nat.le_of_lt ((Nat.pow_lt_pow_iff_right (a := 2) (by omega)).1 ?_)
        omega
    have htE : t < E r + 27 := by
      refine (Nat.pow_lt_pow_iff_right (a := 2) (by omega)).1 ?_
      have := V_lt_E r
      rw [Nat.pow_add]; omega
    obtain ⟨k, hk⟩ : ∃ k, t + 1 = k + E r := ⟨t + 1 - E r, by omega⟩
    have hp : 2 * 2 ^ t = 2 ^ k * 2 ^ E r := by rw [← Nat.pow_add, ← hk, Nat.pow_succ, Nat.mul_comm]
    have hg := Nat.two_pow_pos (E r)
    have hgk := Nat.two_pow_pos k
    rw [hk, Nat.pow_add] at h1
    obtain ⟨x, hx⟩ := h1
    obtain ⟨y, hy⟩ := h5
    have hXM : X = (M r : Int) * (2 ^ E r : Nat) := by rw [hX]; unfold V; rw [Int.natCast_mul]
    generalize hgg : 2 ^ E r = g at *
    generalize hgq : 2 ^ k = q at *
    have hgI : (0 : Int) < g := by omega
    have hM : V r = M r * g := by rw [← hgg]; rfl
    have a1 : (h.natAbs : Int) = q * g * x.natAbs := by rw [hx, Int.natAbs_mul, Int.natAbs_natCast]; simp
    have a2 : ((X - h).natAbs : Int) = g * y.natAbs := by rw [hy, Int.natAbs_mul, Int.natAbs_natCast]; simp
    refine ⟨c, d, h, X - h, M r, q * x, y, k, e1, e2, by rw [e3], e4, e5, rfl, c0, by omega, by omega, hXM, by rw [hx, Int.natCast_mul, Int.mul_right_comm], by rw [hy, Int.mul_comm], ⟨?_, ⟨x, by rw [← hgq]; simp, ?_⟩, ?_, by omega, ?_, .inr ?_⟩⟩
    · refine Int.eq_of_mul_eq_mul_right (a := (g : Int)) (by omega) ?_
      rw [Int.add_mul, ← hXM, Int.mul_right_comm, ← Int.natCast_mul, ← hx, Int.mul_comm y, ← hy]; omega
    · have : (q * g) * x.natAbs ≤ (q * g) * 2 ^ 26 := by
        have : ((q * g * x.natAbs : Nat) : Int) ≤ ((q * g * 2 ^ 26 : Nat) : Int) := by
          rw [Int.natCast_mul, Int.natCast_mul, ← a1, ← hp]; omega
        omega
      exact Nat.le_of_mul_le_mul_left this (Nat.mul_pos hgk hg)
    · have : g * (2 * y.natAbs) ≤ g * q := by
        have a3 : g * y.natAbs ≤ 2 ^ t := by have : ((g * y.natAbs : Nat) : Int) = ((X - h).natAbs : Int) := by rw [a2, Int.natCast_mul]
                                             omega
        rw [Nat.mul_comm g q, ← hp, Nat.mul_left_comm]; omega
      rw [hgq]; exact Nat.le_of_mul_le_mul_left this hg
    · rw [Int.natAbs_natCast]
      refine Nat.lt_of_mul_lt_mul_right (a := g) ?_
      rw [← hM, hgq, Nat.mul_assoc, ← hp]; omega
    · rw [Int.natAbs_natCast]
      refine Nat.le_of_mul_le_mul_right (c := g) ?_ hg
      rw [← hM, hgq, Nat.mul_assoc, ← hp]; omega
end TF
