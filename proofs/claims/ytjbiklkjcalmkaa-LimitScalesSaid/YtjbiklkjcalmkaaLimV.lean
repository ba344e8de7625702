/- The statement LimitScales, word by word. -/
import Derived.Test.YtjbiklkjcalmkaaLimS
namespace TF
open Ieee Go Go.RowKit

theorem magW_rk {a : Nat} (ha : W64 a) (hn : isN a = false) : isN (magW a) = false ∧ rk (magW a) = mg a := by
  have ha' : a < 2 ^ 64 := ha
  unfold magW
  rw [ltW_zero hn]
  cases hg : ng a
  · simp only [Bool.false_and, Bool.false_eq_true, if_false]
    exact ⟨hn, by unfold rk; rw [hg]; rfl⟩
  · by_cases h0 : mg a = 0
    · simp only [h0, ne_eq, not_true, decide_false, Bool.and_false, Bool.false_eq_true, if_false]
      exact ⟨hn, by unfold rk; rw [hg, h0]; rfl⟩
    · simp only [ne_eq, h0, not_false_eq_true, decide_true, Bool.and_true, if_true]
      exact ⟨by rw [isN_op ha]; exact hn, by rw [rk_op ha']; unfold rk; rw [hg]; simp⟩
theorem mag_gt {c a : Nat} (hc : c ≤ INF) (ha : W64 a) (hn : isN a = false) : ltW c (magW a) = decide (c < mg a) := by
  have hI := INF_lt
  obtain ⟨h1, h2⟩ := magW_rk ha hn
  unfold ltW
  rw [h1, h2, rk_small (by omega), isN_false.2 (by rw [mg_small (by omega)]; exact hc)]
  simp
theorem mag_lt {c a : Nat} (hc : c ≤ INF) (ha : W64 a) (hn : isN a = false) : ltW (magW a) c = decide (mg a < c) := by
  have hI := INF_lt
  obtain ⟨h1, h2⟩ := magW_rk ha hn
  unfold ltW
  rw [h1, h2, rk_small (by omega), isN_false.2 (by rw [mg_small (by omega)]; exact hc)]
  simp
theorem magW_w64 {a : Nat} (ha : W64 a) : W64 (magW a) := by unfold magW; split; exact ha.op; exact ha

/-- A word's ways through the guards: great, small, of the domain. -/
theorem dom_guard {a : Nat} (ha : W64 a) : eqW a a = false ∨ (eqW a a = true ∧ ltW 6103021453049119613 (magW a) = true) ∨ (eqW a a = true ∧ ltW 6103021453049119613 (magW a) = false ∧ eqW a 0 = true ∧ Dom a) ∨
    (eqW a a = true ∧ ltW 6103021453049119613 (magW a) = false ∧ eqW a 0 = false ∧ ((ltW (magW a) 3110860544497550640 = true) ∨ (ltW (magW a) 3110860544497550640 = false ∧ Dom a))) := by
  have hI : INF = 2047 * 2 ^ 52 := rfl
  rw [eqW_self, eqW_zero]
  cases hn : isN a
  · right
    rw [mag_gt (by omega) ha hn, mag_lt (by omega) ha hn]
    by_cases h1 : 6103021453049119613 < mg a
    · left; simp [h1]
    · right
      by_cases h0 : mg a = 0
      · left; refine ⟨rfl, by simp [h1], by simp [h0], .inl h0⟩
      · right
        refine ⟨rfl, by simp [h1], by simp [h0], ?_⟩
        by_cases h2 : mg a < 3110860544497550640
        · left; simp [h2]
        · right; exact ⟨by simp [h2], .inr ⟨by omega, by omega⟩⟩
  · left; rfl

theorem slope_zero_left (k : Int) {a b : Nat} (h1 : ltW 0 a = false) (h2 : ltW a 0 = false) : slopeW k a b = 0 := by
  unfold slopeW; rw [h1, h2]; simp
theorem slope_zero_right (k : Int) {a b : Nat} (h1 : ltW 0 b = false) (h2 : ltW b 0 = false) : slopeW k a b = 0 := by
  unfold slopeW; rw [h1, h2]; simp
theorem slope_diff (k : Int) {a b : Nat} (h1 : ltW 0 a = true) (h2 : ltW a 0 = false) (h3 : ltW 0 b = false) : slopeW k a b = 0 := by
  unfold slopeW; rw [h1, h2, h3]; simp
theorem slope_diff' (k : Int) {a b : Nat} (h1 : ltW 0 a = false) (h2 : ltW 0 b = true) (h3 : ltW b 0 = false) : slopeW k a b = 0 := by
  unfold slopeW; rw [h1, h2, h3]; simp
theorem pos_up {x : Nat} (h : Mid x) : Pos (x + 2 ^ 52) := by
  have b1 := h.hi; have hI : INF = 2047 * 2 ^ 52 := rfl
  exact ⟨by omega, by omega⟩
theorem two_none : floatBits .mul .f64 4611686018427387904 0 = some 0 := two_zero (show 0 < 2 ^ 64 by omega) rfl

/-- Doubled differences have the doubled slope. -/
structure Scales (k : Int) (a b t u v : Nat) : Prop where
  ta : floatBits .mul .f64 4611686018427387904 a = some t
  tb : floatBits .mul .f64 4611686018427387904 b = some u
  ts : floatBits .mul .f64 4611686018427387904 (slopeW k a b) = some v
  t64 : W64 t
  u64 : W64 u
  eq : sameB (slopeW k t u) v = true

theorem two_some {w : Nat} (hw : W64 w) (d : Dom w) : floatBits .mul .f64 4611686018427387904 w = some (twoW w) ∧ W64 (twoW w) := by
  rcases dom_ways hw d with ⟨h, e, -, -⟩ | ⟨h, e, -⟩ | ⟨x, h, rfl, e, -, -⟩
  · rw [e]; exact ⟨two_zero hw h, hw⟩
  · rw [e]; exact ⟨(two_norm h.norm).2, (pos_up h).w64⟩
  · rw [e]; exact ⟨(two_op h.norm).2, (pos_up h).w64.op⟩
theorem scales (k : Int) {a b : Nat} (ha : W64 a) (hb : W64 b) (da : Dom a) (db : Dom b) : ∃ t u v, Scales k a b t u v := by
  obtain ⟨ta, t64⟩ := two_some ha da
  obtain ⟨tb, u64⟩ := two_some hb db
  have zero : ∀ t u, floatBits .mul .f64 4611686018427387904 a = some t → floatBits .mul .f64 4611686018427387904 b = some u → W64 t → W64 u → slopeW k a b = 0 → slopeW k t u = 0 → ∃ t u v, Scales k a b t u v := by
    intro t u h1 h2 h3 h4 h5 h6
    exact ⟨t, u, 0, h1, h2, by rw [h5]; exact two_none, h3, h4, by rw [h6]; rfl⟩
  rcases dom_ways ha da with ⟨h, e, z1, z2⟩ | ⟨h, e, z1⟩ | ⟨x, h, ex, e, z1, z2⟩
  · exact zero _ _ ta tb t64 u64 (slope_zero_left k z1 z2) (by rw [e]; exact slope_zero_left k z1 z2)
  · rcases dom_ways hb db with ⟨g, f, y1, y2⟩ | ⟨g, f, y1⟩ | ⟨y, g, ey, f, y1, y2⟩
    · exact zero _ _ ta tb t64 u64 (slope_zero_right k y1 y2) (by rw [f]; exact slope_zero_right k y1 y2)
    · rcases slope_up k h g with ⟨s1, s2⟩ | ⟨r, hr, s1, s2⟩
      · exact zero _ _ ta tb t64 u64 s1 (by rw [e, f]; exact s2)
      · exact ⟨_, _, r + 2 ^ 52, ta, tb, by rw [s1]; exact (two_norm hr).2, t64, u64, by rw [e, f, s2]; exact sameB_self _⟩
    · refine zero _ _ ta tb t64 u64 (slope_diff k z1 (both_ways ha z1) y1) ?_
      rw [e, f]
      exact slope_diff k (ltW_zero_self (pos_up h)) (ltW_self_zero (pos_up h)) (by rw [ltW_op_left (pos_up g).w64]; exact ltW_self_zero (pos_up g))
  · rcases dom_ways hb db with ⟨g, f, y1, y2⟩ | ⟨g, f, y1⟩ | ⟨y, g, ey, f, y1, y2⟩
    · exact zero _ _ ta tb t64 u64 (slope_zero_right k y1 y2) (by rw [f]; exact slope_zero_right k y1 y2)
    · refine zero _ _ ta tb t64 u64 (slope_diff' k z1 y1 (both_ways hb y1)) ?_
      rw [e, f]
      exact slope_diff' k (by rw [ltW_op_left (pos_up h).w64]; exact ltW_self_zero (pos_up h)) (ltW_zero_self (pos_up g)) (ltW_self_zero (pos_up g))
    · have eo : slopeW k a b = canonW (op (slopeW k x y)) := by rw [ex, ey]; exact slope_op k h.pos.w64 g.pos.w64
      have eo2 : slopeW k (op (x + 2 ^ 52)) (op (y + 2 ^ 52)) = canonW (op (slopeW k (x + 2 ^ 52) (y + 2 ^ 52))) := slope_op k (pos_up h).w64 (pos_up g).w64
      have c0 : canonW (op 0) = 0 := by decide
      rcases slope_up k h g with ⟨s1, s2⟩ | ⟨r, hr, s1, s2⟩
      · exact zero _ _ ta tb t64 u64 (by rw [eo, s1, c0]) (by rw [e, f, eo2, s2, c0])
      · have h1 := hr.lo; have h2 := hr.hi
        have hI := INF_lt
        have pr : Pos (r + 2 ^ 52) := ⟨by omega, by omega⟩
        have cw : ∀ z, Pos z → canonW (op z) = op z := by
          intro z hz
          have hz1 := hz.gt
          have hz2 : z < 2 ^ 64 := hz.w64
          exact canonW_word (by rw [isN_op hz.w64]; exact hz.isN) (by rw [mg_op hz2, hz.mg]; omega)
        exact ⟨_, _, op (r + 2 ^ 52), ta, tb, by rw [eo, s1, cw _ hr.pos]; exact (two_op hr).2, t64, u64, by rw [e, f, eo2, s2, cw _ pr]; exact sameB_self _⟩

/-- Equal differences. -/
theorem slope_same_no {k : Int} {a : Nat} (h : mg a = 0 ∨ k ≤ 0 ∨ 3 < k) (hn : isN a = false) : slopeW k a a = 0 := by
  rcases h with h | h | h
  · exact slope_zero_left k (by rw [zero_ltW hn, h]; simp) (by rw [ltW_zero hn, h]; simp)
  · unfold slopeW
    by_cases hk : 0 ≤ k ∧ k ≤ 3
    · have e : ∀ x y, aboveW k x y = 0 := by intro x y; unfold aboveW; rw [if_neg (by omega), if_neg (by omega), if_neg (by omega)]
      rw [if_pos hk, e, e]
      split
      · rfl
      · split
        · decide
        · rfl
    · rw [if_neg hk]
  · unfold slopeW; rw [if_neg (by omega)]
theorem above_self {k : Int} {x : Nat} (hk : k = 1 ∨ k = 2) (h : Pos x) : aboveW k x x = x := by
  have h1 := dbl_le h
  rcases hk with rfl | rfl
  · show min x x = x; omega
  · show max (min (dbl x) x) (min x (dbl x)) = x; omega
theorem slope_same {k : Int} {a : Nat} (ha : W64 a) (hn : isN a = false) (h0 : mg a ≠ 0) (hk : k = 1 ∨ k = 2) : slopeW k a a = a := by
  have hk' : 0 ≤ k ∧ k ≤ 3 := by omega
  have ha' : a < 2 ^ 64 := ha
  unfold slopeW
  rw [if_pos hk']
  cases hg : ng a
  · have hp : Pos a := by
      have e := word_split ha'
      rw [hg] at e
      have e : a = mg a := e
      have := isN_false.1 hn
      exact ⟨by omega, by omega⟩
    rw [ltW_zero_self hp]
    simp only [Bool.and_self, if_true]
    rw [above_self hk hp, hp.canon]
  · have e1 : ltW 0 a = false := by rw [zero_ltW hn, hg]; rfl
    have e2 : ltW a 0 = true := by rw [ltW_zero hn, hg]; simp [h0]
    rw [e1, e2]
    simp only [Bool.and_self, Bool.false_eq_true, if_false, if_true]
    obtain ⟨hp, eo⟩ := neg_of ha e2
    rw [above_self hk hp, eo]
    exact canonW_word hn h0
end TF
