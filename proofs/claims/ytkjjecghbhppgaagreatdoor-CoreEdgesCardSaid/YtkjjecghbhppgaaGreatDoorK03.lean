/- Laid together: BitsN, TwinC, TwinR, FloatQ, LevF. -/
import Derived.Test.YtkjjecghbhppgaaGreatDoorK02
import Derived.Test.YtkjjecghbhppgaaGreatDoorK01
/- The statement BitsNeighbours over words. -/
namespace TF
open Ieee Go Go.RowKit

theorem up_word {x : Nat} (h : W64 x) (hf : mg x < INF) : upW x = if ng x = true ∧ mg x ≠ 0 then 2 ^ 63 + (mg x - 1) else mg x + 1 := by
  have h64 : x < 2 ^ 64 := h
  have hI := INF_eq
  unfold upW
  rw [isN_false.2 (by omega), if_neg Bool.false_ne_true]
  have key : (ng x = true → 2 ^ 63 ≤ x ∧ mg x = x - 2 ^ 63) ∧ (ng x = false → x < 2 ^ 63 ∧ mg x = x) := by
    refine ⟨fun hg => ?_, fun hg => ?_⟩
    · rw [ng_iff h64] at hg; exact ⟨hg, by unfold mg; omega⟩
    · rw [ng_false_iff h64] at hg; exact ⟨hg, mg_small hg⟩
  by_cases hc : ng x = true ∧ mg x ≠ 0
  · rw [if_pos hc]
    have := key.1 hc.1
    rw [if_neg (by omega), if_neg hc.2, if_pos (by omega)]; omega
  · rw [if_neg hc]
    by_cases h0 : mg x = 0
    · have : x ≠ 9218868437227405312 := by intro e; subst e; revert h0; decide
      rw [if_neg this, if_pos h0, h0]
    · have hg : ng x = false := by
        cases hg : ng x
        · rfl
        · exact absurd ⟨hg, h0⟩ hc
      have := key.2 hg
      rw [if_neg (by omega), if_neg h0, if_neg (by omega)]; omega
theorem op_wd {s : Bool} {r : Nat} (h : r < 2 ^ 63) : op (wd s r) = wd (!s) r := by
  rw [word_split (op_lt (wd_lt h)), mg_op (wd_lt h), ng_op (wd_lt h), mg_wd h, ng_wd h]
theorem down_word {x : Nat} (h : W64 x) (hf : mg x < INF) : downW x = if ng x = false ∧ mg x ≠ 0 then mg x - 1 else 2 ^ 63 + (mg x + 1) := by
  have h64 : x < 2 ^ 64 := h
  have hI := INF_eq
  have hI' := INF_lt
  unfold downW
  rw [isN_false.2 (by omega), if_neg Bool.false_ne_true, up_word h.op (by rw [mg_op h64]; exact hf), mg_op h64, ng_op h64]
  by_cases hc : ng x = false ∧ mg x ≠ 0
  · rw [if_pos hc, if_pos ⟨by rw [hc.1]; rfl, hc.2⟩]
    have := op_wd (s := true) (r := mg x - 1) (by omega)
    exact this
  · rw [if_neg hc, if_neg (by intro h; exact hc ⟨by simpa using h.1, h.2⟩)]
    have := op_wd (s := false) (r := mg x + 1) (by omega)
    exact this

theorem not_nan_word {s : Bool} {r : Nat} (h : r ≤ INF) : isN (wd s r) = false := by
  have := INF_lt
  rw [isN_false, mg_wd (by omega)]; exact h
theorem rk_wd {s : Bool} {r : Nat} (h : r < 2 ^ 63) : rk (wd s r) = if s then -(r : Int) else r := by unfold rk; rw [mg_wd h, ng_wd h]
theorem eqW_rk {a b : Nat} (ha : isN a = false) (hb : isN b = false) : eqW a b = decide (rk a = rk b) := by unfold eqW; rw [ha, hb]; rfl
theorem ltW_rk {a b : Nat} (ha : isN a = false) (hb : isN b = false) : ltW a b = decide (rk a < rk b) := by unfold ltW; rw [ha, hb]; rfl

/-- The neighbours' ranks. -/
theorem up_rk {x : Nat} (h : W64 x) (hf : mg x < INF) : isN (upW x) = false ∧ rk (upW x) = rk x + 1 := by
  have hI := INF_lt
  rw [up_word h hf]
  unfold rk
  by_cases hc : ng x = true ∧ mg x ≠ 0
  · rw [if_pos hc, if_pos hc.1]
    have e : 2 ^ 63 + (mg x - 1) = wd true (mg x - 1) := rfl
    rw [e, mg_wd (by omega), ng_wd (by omega)]
    exact ⟨not_nan_word (by omega), by simp; omega⟩
  · rw [if_neg hc]
    have e : mg x + 1 = wd false (mg x + 1) := rfl
    rw [e, mg_wd (by omega), ng_wd (by omega)]
    refine ⟨not_nan_word (by omega), ?_⟩
    rw [if_neg Bool.false_ne_true]
    split
    · have : mg x = 0 := by
        refine Classical.byContradiction fun h0 => hc ⟨by assumption, h0⟩
      omega
    · omega
theorem down_rk {x : Nat} (h : W64 x) (hf : mg x < INF) : isN (downW x) = false ∧ rk (downW x) = rk x - 1 := by
  have hI := INF_lt
  rw [down_word h hf]
  unfold rk
  by_cases hc : ng x = false ∧ mg x ≠ 0
  · rw [if_pos hc, hc.1, if_neg Bool.false_ne_true]
    have e : mg x - 1 = wd false (mg x - 1) := rfl
    rw [e, mg_wd (by omega), ng_wd (by omega)]
    exact ⟨not_nan_word (by omega), by simp; omega⟩
  · rw [if_neg hc]
    have e : 2 ^ 63 + (mg x + 1) = wd true (mg x + 1) := rfl
    rw [e, mg_wd (by omega), ng_wd (by omega)]
    refine ⟨not_nan_word (by omega), ?_⟩
    rw [if_pos rfl]
    split
    · omega
    · have : mg x = 0 := by
        refine Classical.byContradiction fun h0 => hc ⟨by simpa using ‹¬ng x = true›, h0⟩
      omega

/-- x and half the way to the next one. -/
theorem mid_ways' {hw : Nat} (hw1 : mg hw < INF) (hw2 : ng hw = false) (hw3 : mg hw ≠ 0) (hq : ∀ k, rnd2 (2 ^ k * V (mg hw)) = if k = 0 then 0 else rnd (2 ^ (k - 1))) {x : Nat} (h : W64 x) (hf : mg x < INF) :
    ∃ d e m, floatBits .sub .f64 (upW x) x = some d ∧ floatBits .mul .f64 d hw = some e ∧ floatBits .add .f64 x e = some m ∧
      (finB (upW x) = false ∨ (finB (upW x) = true ∧ (eqW m x = true ∨ (eqW m x = false ∧ eqW m (upW x) = true)))) := by
  have h64 : x < 2 ^ 64 := h
  have hI := INF_lt
  have hxn : isN x = false := isN_false.2 (by omega)
  have hu := up_rk h hf
  have huw := up_word h hf
  by_cases hfu : mg (upW x) < INF
  · -- the step, and half of it
    have key : ∃ k t : Nat, iv (upW x) - iv x = (2 ^ k : Nat) ∧ rnd (2 ^ k) < INF ∧ t = (if k = 0 then 0 else 2 ^ (k - 1)) ∧ t < 2 ^ k ∧
        ((ng x = true ∧ ∃ s, mg x = s + 1 ∧ V (s + 1) = V s + 2 ^ k) ∨ ((ng x = false ∨ mg x = 0) ∧ V (mg x + 1) = V (mg x) + 2 ^ k)) := by
      have ht : ∀ k : Nat, (if k = 0 then 0 else 2 ^ (k - 1)) < 2 ^ k := by
        intro k
        by_cases hk : k = 0
        · subst hk; decide
        · rw [if_neg hk]; exact Nat.pow_lt_pow_right (by omega) (by omega)
      by_cases hc : ng x = true ∧ mg x ≠ 0
      · rw [if_pos hc] at huw
        obtain ⟨s, hs⟩ : ∃ s, mg x = s + 1 := ⟨mg x - 1, by omega⟩
        refine ⟨E s, _, ?_, ?_, rfl, ht _, .inl ⟨hc.1, s, hs, V_succ s⟩⟩
        · rw [huw, hs]
          have e : 2 ^ 63 + (s + 1 - 1) = wd true s := rfl
          unfold iv
          rw [e, mg_wd (by omega), ng_wd (by omega), hc.1, hs, V_succ]; simp; omega
        · exact (sub_step (show s + 1 < INF by omega)).2.2.1
      · rw [if_neg hc] at huw
        have hor : ng x = false ∨ mg x = 0 := by
          cases hg : ng x
          · exact .inl rfl
          · exact .inr (Classical.byContradiction fun h0 => hc ⟨hg, h0⟩)
        rw [huw, mg_small (by omega)] at hfu
        refine ⟨E (mg x), _, ?_, (sub_step hfu).2.2.1, rfl, ht _, .inr ⟨hor, V_succ _⟩⟩
        rw [huw, iv_small (by omega), iv_of_pos rfl hor, V_succ]; omega
    obtain ⟨k, t, hk1, hk2, ht, htl, hcase⟩ := key
    have hp := Nat.two_pow_pos k
    have hd : floatBits .sub .f64 (upW x) x = some (rnd (2 ^ k)) := by
      rw [sub_word' hfu h64 hf, hk1]
      congr 1
      exact rw_pos hp rfl hk2
    have hmd : mg (rnd (2 ^ k)) = rnd (2 ^ k) := mg_small (by omega)
    have hev : (if k = 0 then 0 else rnd (2 ^ (k - 1))) ≤ rnd (2 ^ k) := by
      split
      · omega
      · exact rnd_mono (Nat.pow_le_pow_right (by omega) (by omega))
    have he : floatBits .mul .f64 (rnd (2 ^ k)) hw = some (if k = 0 then 0 else rnd (2 ^ (k - 1))) := by
      rw [mul_word (by omega) hw1, hmd, rnd_pow, hq, hw2, ng_small (r := rnd (2 ^ k)) (by omega), Nat.min_eq_left (by omega)]; rfl
    have hte : V (if k = 0 then 0 else rnd (2 ^ (k - 1))) = t := by
      rw [ht]
      split
      · exact V_zero
      · exact rnd_pow _
    generalize (if k = 0 then 0 else rnd (2 ^ (k - 1))) = e at *
    have hme : mg e = e := mg_small (by omega)
    refine ⟨_, e, _, hd, he, add_word' hf (by omega), .inr ⟨finB_true.2 hfu, ?_⟩⟩
    rw [iv_small (r := e) (by omega), hte, ng_small (r := e) (by omega), Bool.and_false]
    have fin : ∀ m : Nat, isN m = false → (rk m = rk x ∨ rk m = rk x + 1) → (eqW m x = true ∨ (eqW m x = false ∧ eqW m (upW x) = true)) := by
      intro m hm hr
      rw [eqW_rk hm hxn, eqW_rk hm hu.1, hu.2]
      rcases hr with hr | hr
      · left; simp [hr]
      · right; simp [hr]; omega
    rcases hcase with ⟨hg, s, hs, hV⟩ | ⟨hor, hV⟩
    · have hivx : iv x = -(V (s + 1) : Int) := by unfold iv; rw [hg, hs]; rfl
      have hneg : iv x + t = -((V (s + 1) - t : Nat) : Int) := by rw [hivx]; omega
      have hpos : 0 < V (s + 1) - t := by omega
      have hb := rnd_between (n := V (s + 1) - t) (r := s) (by omega) (by omega)
      have hrw : rw' false (iv x + t) = wd true (rnd (V (s + 1) - t)) := by
        unfold rw'
        rw [hneg, if_neg (by omega), Int.natAbs_neg, Int.natAbs_natCast, Nat.min_eq_left (by omega), decide_eq_true (by omega)]
      rw [hrw]
      refine fin _ (not_nan_word (by omega)) ?_
      rw [rk_wd (by omega), if_pos rfl]
      unfold rk
      rw [hg, hs, if_pos rfl]
      omega
    · have hivx := iv_of_pos rfl hor
      have hrkx := rk_of_pos rfl hor
      rw [hivx, show ((V (mg x) : Nat) : Int) + (t : Int) = ((V (mg x) + t : Nat) : Int) from by omega]
      have hb := rnd_between (n := V (mg x) + t) (r := mg x) (by omega) (by omega)
      have hlt : mg x + 1 < INF := by
        rw [huw] at hfu
        split at hfu
        · rename_i hc
          rcases hor with h | h
          · rw [h] at hc; exact absurd hc.1 Bool.false_ne_true
          · exact absurd h hc.2
        · rwa [mg_small (by omega)] at hfu
      have hrw : rw' false ((V (mg x) + t : Nat) : Int) = rnd (V (mg x) + t) := by
        by_cases h0 : V (mg x) + t = 0
        · rw [h0, rnd_zero]; decide
        · exact rw_pos (by omega) rfl (by omega)
      rw [hrw]
      refine fin _ (isN_false.2 (by rw [mg_small (by omega)]; omega)) ?_
      rw [rk_small (by omega), hrkx]
      omega
  · have hup : upW x = INF ∧ mg x + 1 = INF ∧ ng x = false := by
      rw [huw] at hfu ⊢
      split at hfu
      · have e : 2 ^ 63 + (mg x - 1) = wd true (mg x - 1) := rfl
        rw [e, mg_wd (by omega)] at hfu; omega
      · rename_i hc
        rw [if_neg hc]
        rw [mg_small (by omega)] at hfu
        refine ⟨by omega, by omega, ?_⟩
        cases hg : ng x
        · rfl
        · exact absurd ⟨hg, by have := INF_eq; omega⟩ hc
    obtain ⟨e1, e2, e3⟩ := hup
    have hIm : mg INF = INF := mg_small (by omega)
    have hIn : ng INF = false := ng_small (by omega)
    rw [e1]
    refine ⟨INF, INF, INF, ?_, ?_, ?_, .inl (by decide)⟩
    · show double.sub _ _ = _
      rw [sub_eq h64, add_inf_fin hIm (by rw [mg_op h64]; exact hf), hIn]; rfl
    · show double.mul _ _ = _
      rw [mul_inf_fin hIm hw1, if_neg hw3, hIn, hw2]; rfl
    · show double.add _ _ = _
      rw [add_fin_inf hf hIm, hIn]; rfl
theorem mid_ways {x : Nat} (h : W64 x) (hf : mg x < INF) :
    ∃ d e m, floatBits .sub .f64 (upW x) x = some d ∧ floatBits .mul .f64 d 4602678819172646912 = some e ∧ floatBits .add .f64 x e = some m ∧
      (finB (upW x) = false ∨ (finB (upW x) = true ∧ (eqW m x = true ∨ (eqW m x = false ∧ eqW m (upW x) = true)))) :=
  mid_ways' (hw := 4602678819172646912) (by decide) (by decide) (by decide) (fun k => by rw [show mg 4602678819172646912 = 4602678819172646912 from by decide]; exact rnd2_half k) h hf

/-- x and its step. -/
theorem step_ways {x : Nat} (h : W64 x) (hf : mg x < INF) : ((ltW 0 x || eqW x 0) = true ∧ ∃ s, floatBits .add .f64 x (ulpW x) = some s ∧ sameB s (upW x) = true) ∨
    ((ltW 0 x || eqW x 0) = false ∧ ∃ s, floatBits .sub .f64 x (ulpW x) = some s ∧ sameB s (downW x) = true) := by
  have h64 : x < 2 ^ 64 := h
  have hI := INF_lt
  have hI' := INF_eq
  have hxn : isN x = false := isN_false.2 (by omega)
  have hge : (ltW 0 x || eqW x 0) = (!ng x || decide (mg x = 0)) := by
    rw [zero_ltW hxn, eqW_zero, hxn]
    by_cases h0 : mg x = 0
    · simp [h0]
    · simp [h0]
  rw [hge]
  have hIm : mg INF = INF := mg_small (by omega)
  have hIn : ng INF = false := ng_small (by omega)
  have hul : mg x + 1 = INF → ulpW x = INF := by
    intro e; unfold ulpW; rw [hxn, if_neg Bool.false_ne_true, if_pos (by omega)]; omega
  by_cases hc : ng x = true ∧ mg x ≠ 0
  · refine .inr ⟨by simp [hc.1, hc.2], ?_⟩
    have hdw : downW x = 2 ^ 63 + (mg x + 1) := by rw [down_word h hf, if_neg (by rw [hc.1]; simp)]
    refine ⟨2 ^ 63 + (mg x + 1), ?_, by rw [hdw]; exact sameB_self _⟩
    by_cases hlt : mg x + 1 < INF
    · obtain ⟨_, u2, u3, u4⟩ := sub_step hlt
      rw [ulpW_fin hlt, sub_word' hf (by omega) (by rw [mg_small (by omega)]; omega), iv_small (r := rnd (2 ^ E (mg x))) (by omega), u2]
      congr 1
      have hivx : iv x = -(V (mg x) : Int) := by unfold iv; rw [hc.1]; rfl
      have hs := V_succ (mg x)
      have hneg : iv x - ((2 ^ E (mg x) : Nat) : Int) = -((V (mg x + 1) : Nat) : Int) := by rw [hivx]; omega
      have hpos : 0 < V (mg x + 1) := by have := V_lt (show 0 < mg x + 1 by omega); rw [V_zero] at this; exact this
      unfold rw'
      rw [hneg, if_neg (by omega), Int.natAbs_neg, Int.natAbs_natCast, rnd_V, Nat.min_eq_left (by omega), decide_eq_true (by omega)]; rfl
    · have e : mg x + 1 = INF := by omega
      rw [hul e]
      show double.sub _ _ = _
      rw [sub_eq (by omega), add_fin_inf hf (by rw [mg_op (by omega)]; exact hIm), ng_op (by omega), hIn, e]; rfl
  · have hor : ng x = false ∨ mg x = 0 := by
      cases hg : ng x
      · exact .inl rfl
      · exact .inr (Classical.byContradiction fun h0 => hc ⟨hg, h0⟩)
    refine .inl ⟨by rcases hor with h | h <;> simp [h], mg x + 1, ?_, by rw [up_word h hf, if_neg hc]; exact sameB_self _⟩
    by_cases hlt : mg x + 1 < INF
    · obtain ⟨_, u2, u3, u4⟩ := sub_step hlt
      rw [ulpW_fin hlt, add_word' hf (by rw [mg_small (by omega)]; omega), iv_small (r := rnd (2 ^ E (mg x))) (by omega), u2, iv_of_pos rfl hor]
      congr 1
      have hs := V_succ (mg x)
      rw [show ((V (mg x) : Nat) : Int) + ((2 ^ E (mg x) : Nat) : Int) = ((V (mg x + 1) : Nat) : Int) from by omega]
      exact rw_pos (by have := V_lt (show 0 < mg x + 1 by omega); rw [V_zero] at this; exact this) (rnd_V _) hlt
    · have e : mg x + 1 = INF := by omega
      rw [hul e]
      show double.add _ _ = _
      rw [add_fin_inf hf hIm, hIn, e]; rfl

theorem between_step {a b : Nat} (ha : isN a = false) (hb : isN b = false) (h : rk b = rk a + 1) : betweenW a b = (1, true) := by
  unfold betweenW
  rw [ha, hb, h, if_neg (by simp), if_neg (by omega)]
  congr 1; omega

theorem neigh_ways {x : Nat} (h : W64 x) : (finB x = false ∧ eqW x x = false ∧ eqW (upW x) (upW x) = false ∧ eqW (downW x) (downW x) = false) ∨
    (finB x = false ∧ eqW x x = true ∧ ((ltW 0 x = true ∧ sameB (upW x) x = true ∧ finB (downW x) = true ∧ classW (upW (downW x)) = 3) ∨
      (ltW 0 x = false ∧ ltW x 0 = true ∧ sameB (downW x) x = true ∧ finB (upW x) = true ∧ classW (downW (upW x)) = 3))) ∨
    (finB x = true ∧ ltW (downW x) x = true ∧ ltW x (upW x) = true ∧ betweenW x (upW x) = (1, true) ∧ betweenW (downW x) x = (1, true) ∧
      (eqW x 0 = true ∨ (eqW x 0 = false ∧ (eqW (upW x) 0 = true ∨ (eqW (upW x) 0 = false ∧ sameB (downW (upW x)) x = true))))) := by
  have h64 : x < 2 ^ 64 := h
  have hI := INF_lt
  have hI' := INF_eq
  cases hn : isN x
  · by_cases hf : mg x < INF
    · refine .inr (.inr ⟨finB_true.2 hf, ?_⟩)
      obtain ⟨u1, u2⟩ := up_rk h hf
      obtain ⟨d1, d2⟩ := down_rk h hf
      refine ⟨by rw [ltW_rk d1 hn]; simp; omega, by rw [ltW_rk hn u1]; simp; omega, between_step hn u1 u2, between_step d1 hn (by omega), ?_⟩
      rw [eqW_zero, hn, eqW_zero, u1]
      by_cases h0 : mg x = 0
      · left; simp [h0]
      · right
        refine ⟨by simp [h0], ?_⟩
        by_cases h1 : mg (upW x) = 0
        · left; simp [h1]
        · right
          refine ⟨by simp [h1], sameB_true.2 ?_⟩
          have huw := up_word h hf
          by_cases hc : ng x = true ∧ mg x ≠ 0
          · rw [if_pos hc] at huw
            have e : upW x = wd true (mg x - 1) := huw
            rw [e, mg_wd (by omega)] at h1
            have hdw := down_word (x := upW x) h.up (by rw [e, mg_wd (by omega)]; omega)
            rw [hdw, e, ng_wd (by omega), mg_wd (by omega), if_neg (by simp)]
            have := word_split h64
            rw [hc.1] at this
            have w : wd true (mg x) = 2 ^ 63 + mg x := rfl
            omega
          · rw [if_neg hc] at huw
            have hg : ng x = false := by
              cases hg : ng x
              · rfl
              · exact absurd ⟨hg, h0⟩ hc
            have hx := word_split h64
            rw [hg] at hx
            have w : wd false (mg x) = mg x := rfl
            by_cases hlt : mg x + 1 < INF
            · have hdw := down_word (x := upW x) h.up (by rw [huw, mg_small (by omega)]; omega)
              rw [hdw, huw, ng_small (by omega), mg_small (by omega), if_pos ⟨rfl, by omega⟩]
              omega
            · have e : upW x = INF := by omega
              rw [e, show downW INF = INF - 1 from by decide]
              omega
    · have hm : mg x = INF := by have := isN_false.1 hn; omega
      refine .inr (.inl ⟨finB_false.2 (by omega), eqW_self_true hn, ?_⟩)
      have hx := word_split h64
      rw [hm] at hx
      cases hg : ng x
      · rw [hg] at hx
        have e : x = INF := hx
        left; subst e; decide
      · rw [hg] at hx
        have e : x = 2 ^ 63 + INF := hx
        right; subst e; decide
  · left
    refine ⟨finB_false.2 (by have := isN_true.1 hn; omega), eqW_self_false hn, ?_, ?_⟩
    · unfold upW; rw [hn, if_pos rfl]; decide
    · unfold downW; rw [hn, if_pos rfl]; decide
end TF
/- Sum of two words: the program's three operations and the reference's whole numbers both give the exact rest. -/
namespace TF
open Ieee Go Go.RowKit

theorem canon_rw (z : Bool) (n : Int) : canonW (rw' z n) = rw' false n := by
  have hI := INF_lt
  by_cases h : n = 0
  · subst h
    unfold rw'
    rw [if_pos rfl, if_pos rfl, show min (rnd (Int.natAbs 0)) INF = 0 from by decide]
    cases z <;> decide
  · have h0 : rnd n.natAbs ≠ 0 := by rw [Ne, rnd_eq_zero]; omega
    have hm := mg_rw z n
    rw [canonW_word (isN_false.2 (by rw [hm]; omega)) (by rw [hm]; have := INF_eq; omega)]
    unfold rw'
    rw [if_neg h, if_neg h]

/-- What Sum answers. -/
def sumW (a b : Nat) : Nat × Nat :=
  match double.add a b with
  | none => (9221120237041090561, 0)
  | some s => if mg s < INF then (canonW s, rw' false (iv a + iv b - iv s)) else (canonW s, 0)

theorem add_fin_of {a b s : Nat} (h : double.add a b = some s) (hs : mg s < INF) : mg a < INF ∧ mg b < INF ∧ s = rw' (ng a && ng b) (iv a + iv b) ∧ rnd (iv a + iv b).natAbs < INF ∧ iv s = rI (iv a + iv b) := by
  have hI := INF_lt
  have key : mg a < INF ∧ mg b < INF := by
    by_cases ha : mg a < INF
    · by_cases hb : mg b < INF
      · exact ⟨ha, hb⟩
      · by_cases hb' : mg b = INF
        · rw [add_fin_inf ha hb'] at h
          cases h; rw [mg_wd hI] at hs; omega
        · rw [add_nan_right (by omega)] at h; cases h
    · by_cases ha' : mg a = INF
      · by_cases hb : mg b < INF
        · rw [add_inf_fin ha' hb] at h
          cases h; rw [mg_wd hI] at hs; omega
        · by_cases hb' : mg b = INF
          · by_cases e : ng a = ng b
            · rw [add_inf_inf ha' hb' e] at h
              cases h; rw [mg_wd hI] at hs; omega
            · rw [add_inf_opp ha' hb' e] at h; cases h
          · rw [add_nan_right (by omega)] at h; cases h
      · rw [add_nan_left (by omega)] at h; cases h
  obtain ⟨ha, hb⟩ := key
  rw [add_word ha hb] at h
  cases h
  rw [mg_rw] at hs
  exact ⟨ha, hb, rfl, by omega, iv_rw (by omega)⟩

theorem rep_natAbs_V {x : Int} (h : Rep x.natAbs) : rI x = x := rI_rep h

/-- The two operations behind the first one, x the greater magnitude. -/
theorem sum_steps {x y s : Nat} (hx64 : W64 x) (hy : mg y < INF) (hx : mg x < INF) (hle : mg y ≤ mg x) (hs : mg s < INF) (e : iv s = rI (iv x + iv y)) :
    ∃ t, W64 t ∧ mg t < INF ∧ floatBits .sub .f64 s x = some t ∧ floatBits .sub .f64 y t = some (rw' (ng y && !ng t) (iv x + iv y - iv s)) := by
  obtain ⟨h1, h2, h3, h4⟩ := fast_two_sum (A := iv x) (B := iv y) (iv_natAbs x) (iv_natAbs y) hle
  have ht : floatBits .sub .f64 s x = some (rw' (ng s && !ng x) (iv s - iv x)) := sub_word' hs hx64 hx
  rw [← e] at h1 h2 h3 h4
  have hr : rnd (iv s - iv x).natAbs < INF := by
    have a : (iv s - iv x).natAbs ≤ V (max (mg x) (mg s)) := by
      rw [iv_natAbs, iv_natAbs] at h3
      have := V_le (show mg x ≤ max (mg x) (mg s) by omega)
      have := V_le (show mg s ≤ max (mg x) (mg s) by omega)
      omega
    have := rnd_le_of a
    omega
  have hivt : iv (rw' (ng s && !ng x) (iv s - iv x)) = iv s - iv x := by rw [iv_rw hr, rI_rep h1]
  have hmt : mg (rw' (ng s && !ng x) (iv s - iv x)) < INF := by rw [mg_rw]; omega
  refine ⟨_, rw_lt _ _, hmt, ht, ?_⟩
  rw [sub_word' hy (rw_lt _ _) hmt, hivt, show iv y - (iv s - iv x) = iv x + iv y - iv s from by omega]

/-- The ways through the program's Sum. -/
theorem sum_ways {a b : Nat} (ha : W64 a) (hb : W64 b) : (floatBits .add .f64 a b = none ∧ sumW a b = (9221120237041090561, 0)) ∨
    (∃ s, floatBits .add .f64 a b = some s ∧ finB s = false ∧ sumW a b = (canonW s, 0)) ∨
    (∃ s, floatBits .add .f64 a b = some s ∧ finB s = true ∧ ((ltW (mg a) (mg b) = true ∧ ∃ t e, floatBits .sub .f64 s b = some t ∧ floatBits .sub .f64 a t = some e ∧ sumW a b = (canonW s, canonW e)) ∨
      (ltW (mg a) (mg b) = false ∧ ∃ t e, floatBits .sub .f64 s a = some t ∧ floatBits .sub .f64 b t = some e ∧ sumW a b = (canonW s, canonW e)))) := by
  have hI := INF_lt
  cases h : double.add a b with
  | none => left; exact ⟨h, by unfold sumW; rw [h]⟩
  | some s =>
    right
    by_cases hs : mg s < INF
    · right
      refine ⟨s, h, finB_true.2 hs, ?_⟩
      obtain ⟨hfa, hfb, _, _, hiv⟩ := add_fin_of h hs
      have hlt : ltW (mg a) (mg b) = decide (mg a < mg b) := by
        unfold ltW
        rw [isN_mg, isN_mg, isN_false.2 (by omega), isN_false.2 (by omega), rk_small (mg_lt a), rk_small (mg_lt b)]
        simp
      have hsum : sumW a b = (canonW s, rw' false (iv a + iv b - iv s)) := by unfold sumW; rw [h]; simp only; rw [if_pos hs]
      rw [hlt, hsum]
      by_cases hc : mg a < mg b
      · left
        obtain ⟨t, _, _, h1, h2⟩ := sum_steps (x := b) (y := a) hb hfa hfb (by omega) hs (by rw [hiv, Int.add_comm])
        refine ⟨by simp [hc], t, _, h1, h2, ?_⟩
        rw [canon_rw, Int.add_comm (iv b)]
      · right
        obtain ⟨t, _, _, h1, h2⟩ := sum_steps (x := a) (y := b) ha hfb hfa (by omega) hs hiv
        refine ⟨by simp [hc], t, _, h1, h2, ?_⟩
        rw [canon_rw]
    · left
      exact ⟨s, h, finB_false.2 (by omega), by unfold sumW; rw [h]; simp only; rw [if_neg hs]⟩
theorem sumW_lt (a b : Nat) : W64 (sumW a b).1 ∧ W64 (sumW a b).2 := by
  unfold sumW
  cases h : double.add a b with
  | none => exact ⟨(by decide : (9221120237041090561 : Nat) < 2 ^ 64), (by decide : (0 : Nat) < 2 ^ 64)⟩
  | some s =>
    have hs : W64 s := Format.add_lt double h
    simp only
    split
    · exact ⟨hs.canon, rw_lt _ _⟩
    · exact ⟨hs.canon, (by decide : (0 : Nat) < 2 ^ 64)⟩

/-- Where the lesser one is far below, the sum is the greater one. -/
theorem far_sum {x y : Nat} (h : E (mg y) + 57 ≤ E (mg x)) : rI (iv x + iv y) = iv x := by
  have hVy := V_lt_E (mg y)
  have hp : 2 ^ 57 * 2 ^ E (mg y) ≤ 2 ^ E (mg x) := by
    rw [← Nat.pow_add, Nat.add_comm]; exact Nat.pow_le_pow_right (by omega) h
  have hxn : 2 ^ 52 ≤ mg x := by
    refine Classical.byContradiction fun hc => ?_
    have : E (mg x) = 0 := by unfold E; rw [Nat.div_eq_of_lt (by omega)]
    omega
  have hV : V (mg x) = M (mg x) * 2 ^ E (mg x) := rfl
  have hM : 2 ^ 52 ≤ M (mg x) := by unfold M; rw [if_neg (by omega)]; omega
  have hVx : 2 ^ 52 * 2 ^ E (mg x) ≤ V (mg x) := Nat.mul_le_mul_right _ hM
  have hpos := Nat.two_pow_pos (E (mg x))
  -- the neighbours
  have hs := V_succ (mg x)
  obtain ⟨r, hr⟩ : ∃ r, mg x = r + 1 := ⟨mg x - 1, by omega⟩
  have hs' : V (mg x) = V r + 2 ^ E r := by rw [hr]; exact V_succ r
  have hEr : E (mg x) ≤ E r + 1 := by unfold E; rw [hr]; omega
  have hEp : 2 ^ E (mg x) ≤ 2 * 2 ^ E r := by
    have := Nat.pow_le_pow_right (show 0 < 2 by omega) hEr
    rw [Nat.pow_succ] at this; omega
  have key : ∀ n : Nat, 4 * n < 4 * V (mg x) + 2 ^ E (mg x) → 4 * V (mg x) < 4 * n + 2 ^ E (mg x) → rnd n = mg x := by
    intro n h1 h2
    refine (near_rnd n).unique (by omega) ⟨fun s e => ?_, fun s e hh => ?_, by omega, fun hh => by omega⟩
    · obtain rfl : s = r := by omega
      omega
    · exfalso
      obtain rfl : s = r := by omega
      omega
  have ex := iv_natAbs x
  have ey := iv_natAbs y
  unfold rI
  by_cases hn : iv x + iv y < 0
  · rw [if_pos hn, key _ (by omega) (by omega)]; omega
  · rw [if_neg hn, key _ (by omega) (by omega)]; omega
end TF
/- Whole numbers as floats, powers of two as floats, their products; the reference's Sum, way by way. -/
namespace TF
open Ieee Go Go.RowKit

/-- float64(n). -/
theorem fi_eq (n : Int) : floatOfInt .f64 n = wd (decide (n < 0)) (min (rnd (n.natAbs * Q)) INF) := by
  have e : floatOfInt .f64 n = double.nearest (decide (n < 0)) n.natAbs 0 := by
    unfold floatOfInt FloatKind.nearest FloatKind.encode; rfl
  rw [e, nearest_eq, word_eq]
  suffices key : rung n.natAbs 0 = rnd (n.natAbs * Q) by rw [key]
  have h := near_rung (mag := n.natAbs) 0
  rw [show ((0 : Int) + 1074).toNat = T from rfl, show (-((0 : Int) + 1074)).toNat = 0 from rfl, Nat.pow_zero] at h
  have h' := near_rnd (n.natAbs * Q)
  unfold Q at h' ⊢
  exact h.unique (by omega) h'
theorem rep_Q {n : Nat} (h : n ≤ 2 ^ 53) : Rep (n * Q) := rep_bits n T h
theorem Q_small {n : Nat} (h : n ≤ 2 ^ 53) : rnd (n * Q) < INF := by
  have h1 : n * Q ≤ V (1075 * 2 ^ 52 + 2 ^ 52) := by
    rw [V_block (by omega) (by omega), show (1075 : Nat) = 1 + T from rfl, Nat.pow_add]
    have : n * Q ≤ 2 ^ 53 * Q := Nat.mul_le_mul_right _ h
    unfold Q at this ⊢
    generalize 2 ^ T = q at *
    omega
  have := rnd_le_of h1
  unfold INF; omega
/-- A whole number of at most 53 bits is a float. -/
theorem fi_small {n : Int} (h : n.natAbs ≤ 2 ^ 53) : W64 (floatOfInt .f64 n) ∧ mg (floatOfInt .f64 n) < INF ∧ V (mg (floatOfInt .f64 n)) = n.natAbs * Q ∧ ng (floatOfInt .f64 n) = decide (n < 0) ∧ iv (floatOfInt .f64 n) = n * Q := by
  have hI := INF_lt
  have hs := Q_small h
  have e : floatOfInt .f64 n = wd (decide (n < 0)) (rnd (n.natAbs * Q)) := by rw [fi_eq, Nat.min_eq_left (by omega)]
  have hm : mg (floatOfInt .f64 n) = rnd (n.natAbs * Q) := by rw [e, mg_wd (by omega)]
  have hg : ng (floatOfInt .f64 n) = decide (n < 0) := by rw [e, ng_wd (by omega)]
  have hV : V (mg (floatOfInt .f64 n)) = n.natAbs * Q := by rw [hm]; exact (rep_Q h).eq
  refine ⟨by rw [e]; exact wd_lt (by omega), by omega, hV, hg, ?_⟩
  unfold iv
  rw [hg, hV]
  by_cases h0 : n < 0
  · rw [decide_eq_true h0, if_pos rfl, Int.natCast_mul, ← Int.neg_mul]; congr 1; omega
  · rw [decide_eq_false h0, if_neg Bool.false_ne_true, Int.natCast_mul]; congr 1; omega

/-- The float 2^k units. -/
def pw (k : Nat) : Nat := if k < 52 then 2 ^ k else (k - 51) * 2 ^ 52
theorem V_pw (k : Nat) : V (pw k) = 2 ^ k := by
  unfold pw
  split
  · rename_i h
    exact V_small (Nat.pow_le_pow_right (by omega) (by omega))
  · rename_i h
    have := V_block (D := k - 52) (k := 2 ^ 52) (by omega) (by omega)
    rw [show (k - 51) * 2 ^ 52 = (k - 52) * 2 ^ 52 + 2 ^ 52 from by omega, this, ← Nat.pow_add]
    congr 1; omega
theorem pw_lt {k : Nat} (h : k ≤ 2097) : pw k < INF := by
  unfold pw INF
  split
  · have := Nat.pow_le_pow_right (show 0 < 2 by omega) (show k ≤ 51 by omega)
    omega
  · omega
theorem mul_pw {n : Int} {k : Nat} (h : n.natAbs ≤ 2 ^ 53) (hk : k ≤ 2097) :
    double.mul (floatOfInt .f64 n) (pw k) = some (wd (decide (n < 0)) (min (rnd (n.natAbs * 2 ^ k)) INF)) := by
  have hI := INF_lt
  have hp := pw_lt hk
  obtain ⟨_, h2, h3, h4, _⟩ := fi_small h
  rw [mul_fin h2 (by rw [mg_small (by omega)]; exact hp), h4, ng_small (by omega), h3, mg_small (by omega), V_pw, Nat.mul_comm n.natAbs Q, Nat.mul_assoc, rnd2_Q]
  simp
theorem mul_op_left {a b : Nat} (ha : W64 a) : double.mul (op a) b = (double.mul a b).map op := by
  have ha' : a < 2 ^ 64 := ha
  have hI := INF_lt
  by_cases h1 : mg a < INF
  · by_cases h2 : mg b < INF
    · rw [mul_fin (by rw [mg_op ha']; exact h1) h2, mul_fin h1 h2, mg_op ha', ng_op ha']
      show some _ = some _
      rw [op_wd (by omega)]
      cases ng a <;> cases ng b <;> rfl
    · by_cases h3 : mg b = INF
      · rw [mul_fin_inf (by rw [mg_op ha']; exact h1) h3, mul_fin_inf h1 h3, mg_op ha', ng_op ha']
        split
        · rfl
        · show some _ = some _
          rw [op_wd hI]; cases ng a <;> cases ng b <;> rfl
      · rw [mul_nan_right (by omega), mul_nan_right (by omega)]; rfl
  · by_cases h3 : mg a = INF
    · by_cases h2 : mg b < INF
      · rw [mul_inf_fin (by rw [mg_op ha']; exact h3) h2, mul_inf_fin h3 h2, ng_op ha']
        split
        · rfl
        · show some _ = some _
          rw [op_wd hI]; cases ng a <;> cases ng b <;> rfl
      · by_cases h4 : mg b = INF
        · rw [mul_inf_inf (by rw [mg_op ha']; exact h3) h4, mul_inf_inf h3 h4, ng_op ha']
          show some _ = some _
          rw [op_wd hI]; cases ng a <;> cases ng b <;> rfl
        · rw [mul_nan_right (by omega), mul_nan_right (by omega)]; rfl
    · rw [mul_nan_left (by rw [mg_op ha']; omega), mul_nan_left (by omega)]; rfl

theorem canon_wd {s : Bool} {m : Nat} (h : s = true → m ≠ 0) : canonW (wd s (min (rnd m) INF)) = rw' false (if s then -(m : Int) else m) := by
  cases s
  · have := canon_rw false (m : Int)
    unfold rw' at this ⊢
    by_cases h0 : m = 0
    · subst h0; simp at this ⊢; exact this
    · rw [if_neg (by omega)] at this
      rw [if_neg Bool.false_ne_true, if_neg (by omega)]
      simp only [Int.natAbs_natCast] at this ⊢
      rw [decide_eq_false (by omega)] at this ⊢
      exact this
  · have hm := h rfl
    have := canon_rw false (-(m : Int))
    unfold rw' at this ⊢
    rw [if_neg (by omega)] at this
    rw [if_pos rfl, if_neg (by omega)]
    simp only [Int.natAbs_neg, Int.natAbs_natCast] at this ⊢
    rw [decide_eq_true (by omega)] at this ⊢
    exact this

/-- n * 2^k, by way of floats: the word of that many units. -/
theorem prod_pos {n : Int} {k : Nat} (h0 : 0 ≤ n) (h : n ≤ 2 ^ 53) (hk : k ≤ 2097) : ∃ r, floatBits .mul .f64 (floatOfInt .f64 n) (pw k) = some r ∧ canonW r = rw' false (n * (2 ^ k : Nat)) := by
  refine ⟨_, mul_pw (by omega) hk, ?_⟩
  rw [canon_wd (by simp; omega), decide_eq_false (by omega), if_neg Bool.false_ne_true, Int.natCast_mul]
  congr 2; omega
theorem prod_neg {n : Int} {k : Nat} (h0 : n < 0) (h : -2 ^ 53 ≤ n) (hk : k ≤ 2097) : ∃ r, floatBits .mul .f64 (op (floatOfInt .f64 (-n))) (pw k) = some r ∧ canonW r = rw' false (n * (2 ^ k : Nat)) := by
  have hI := INF_lt
  obtain ⟨h64, _⟩ := fi_small (n := -n) (by omega)
  refine ⟨_, by show double.mul _ _ = _; rw [mul_op_left h64, mul_pw (by omega) hk]; rfl, ?_⟩
  rw [op_wd (by omega), decide_eq_false (by omega), Bool.not_false, canon_wd (by
    intro _ hz
    rcases Nat.mul_eq_zero.1 hz with hz | hz
    · omega
    · have := Nat.two_pow_pos k; omega), if_pos rfl, Int.natCast_mul, ← Int.neg_mul]
  congr 2; omega

/-- A finite word's whole number of 2^k units, for a k that isn't above its own. -/
def sn (x k : Nat) : Int := if ng x then -((M (mg x) * 2 ^ (E (mg x) - k) : Nat) : Int) else ((M (mg x) * 2 ^ (E (mg x) - k) : Nat) : Int)
theorem iv_sn {x k : Nat} (h : k ≤ E (mg x)) : iv x = sn x k * (2 ^ k : Nat) := by
  have e : V (mg x) = M (mg x) * 2 ^ (E (mg x) - k) * 2 ^ k := by
    unfold V; rw [Nat.mul_assoc, ← Nat.pow_add]; congr 2; omega
  unfold iv sn
  rw [e]
  cases ng x <;> simp [Int.neg_mul]

/-- The exact rest as a whole number of the smaller unit. -/
theorem rest_whole {x y s : Nat} (hle : mg y ≤ mg x) (e : iv s = rI (iv x + iv y)) (es : mg s = rnd (iv x + iv y).natAbs) :
    ∃ X : Int, iv x + iv y - iv s = X * (2 ^ (min (E (mg y)) (E (mg s))) : Nat) ∧ X = sn x (min (E (mg y)) (E (mg s))) + sn y (min (E (mg y)) (E (mg s))) - sn s (min (E (mg y)) (E (mg s))) ∧ X.natAbs ≤ 2 ^ 53 := by
  have hxy := E_mono hle
  have hk1 : min (E (mg y)) (E (mg s)) ≤ E (mg x) := by omega
  have hk2 : min (E (mg y)) (E (mg s)) ≤ E (mg y) := by omega
  have hk3 : min (E (mg y)) (E (mg s)) ≤ E (mg s) := by omega
  have ex := iv_sn hk1
  have ey := iv_sn hk2
  have ez := iv_sn hk3
  have hpos := Nat.two_pow_pos (min (E (mg y)) (E (mg s)))
  have heq : iv x + iv y - iv s = (sn x (min (E (mg y)) (E (mg s))) + sn y (min (E (mg y)) (E (mg s))) - sn s (min (E (mg y)) (E (mg s)))) * (2 ^ (min (E (mg y)) (E (mg s))) : Nat) := by
    rw [Int.sub_mul, Int.add_mul, ← ex, ← ey, ← ez]
  refine ⟨_, heq, rfl, ?_⟩
  generalize sn x (min (E (mg y)) (E (mg s))) + sn y (min (E (mg y)) (E (mg s))) - sn s (min (E (mg y)) (E (mg s))) = X at *
  by_cases hc : E (mg s) ≤ E (mg y)
  · have hd : ((2 ^ E (mg y) : Nat) : Int) ∣ iv x + iv y := by
      refine Int.dvd_add ?_ ?_
      · rw [iv_sn hxy]; exact Int.dvd_mul_left _ _
      · rw [iv_sn (Nat.le_refl (E (mg y)))]; exact Int.dvd_mul_left _ _
    have := rI_exact hd (by rw [← es]; exact hc)
    rw [e, this, Int.sub_self] at heq
    rcases Int.mul_eq_zero.1 heq.symm with h | h
    · rw [h]; simp
    · omega
  · have hmin : min (E (mg y)) (E (mg s)) = E (mg y) := by omega
    rw [hmin] at heq hpos
    obtain ⟨_, _, _, h4⟩ := fast_two_sum (A := iv x) (B := iv y) (iv_natAbs x) (iv_natAbs y) hle
    rw [← e, heq, Int.natAbs_mul, Int.natAbs_natCast, iv_natAbs] at h4
    have := V_lt_E (mg y)
    exact Nat.le_of_mul_le_mul_right (Nat.le_of_lt (Nat.lt_of_le_of_lt h4 this)) hpos
end TF
/- Quotients: the rung nearest to the exact quotient. -/
namespace TF
open Ieee

theorem sticky {D n : Nat} (hn : 0 < n) (Y : Nat) :
    (2 * Y ≤ 2 * (D / n) + (if D % n = 0 then 0 else 1) ↔ n * Y ≤ D) ∧ (2 * Y = 2 * (D / n) + (if D % n = 0 then 0 else 1) ↔ n * Y = D) ∧ (2 * (D / n) + (if D % n = 0 then 0 else 1) ≤ 2 * Y ↔ D ≤ n * Y) := by
  have e := Nat.div_add_mod D n
  have l := Nat.mod_lt D hn
  generalize D / n = f at *
  generalize D % n = m at *
  have k1 : Y ≤ f → n * Y ≤ n * f := fun h => Nat.mul_le_mul_left _ h
  have k2 : f + 1 ≤ Y → n * f + n ≤ n * Y := fun h => by have := Nat.mul_le_mul_left n h; rwa [Nat.mul_succ] at this
  have k3 : Y = f → n * Y = n * f := fun h => by rw [h]
  have k4 : Y + 1 ≤ f → n * Y + n ≤ n * f := fun h => by have := Nat.mul_le_mul_left n h; rwa [Nat.mul_succ] at this
  rcases Nat.lt_trichotomy Y f with h | h | h
  · have := k4 h
    refine ⟨⟨fun _ => by omega, fun _ => by split <;> omega⟩, ⟨fun h' => by split at h' <;> omega, fun h' => by omega⟩, ⟨fun h' => by split at h' <;> omega, fun h' => by omega⟩⟩
  · have := k3 h
    refine ⟨⟨fun _ => by omega, fun _ => by split <;> omega⟩, ⟨fun h' => by split at h' <;> omega, fun h' => by split <;> omega⟩, ⟨fun h' => by split at h' <;> omega, fun h' => by split <;> omega⟩⟩
  · have := k2 h
    refine ⟨⟨fun h' => by split at h' <;> omega, fun h' => by omega⟩, ⟨fun h' => by split at h' <;> omega, fun h' => by omega⟩, ⟨fun h' => by omega, fun h' => by split <;> omega⟩⟩

theorem V_succ_le (s : Nat) : V (s + 1) ≤ 2 ^ 53 * 2 ^ E s := by
  have h1 := V_succ s
  have h2 := M_lt s
  have : V s ≤ (2 ^ 53 - 1) * 2 ^ E s := Nat.mul_le_mul_right _ (by omega)
  have h3 : (2 ^ 53 - 1) * 2 ^ E s + 2 ^ E s = 2 ^ 53 * 2 ^ E s := by rw [← Nat.succ_mul]
  omega

theorem near_sticky {D n a b r : Nat} (hn : 0 < n) (hf : 2 ^ 53 ≤ D / n) (h : Near ((2 * (D / n) + (if D % n = 0 then 0 else 1)) * 2 ^ a) (2 ^ b) r) : Near (D * (2 * 2 ^ a)) (n * 2 ^ b) r := by
  have hA := Nat.two_pow_pos a
  have hB := Nat.two_pow_pos b
  have st := sticky (D := D) hn
  have hD : n * 2 ^ 53 ≤ D := Nat.le_trans (Nat.mul_le_mul_left n hf) (Nat.mul_div_le D n)
  -- a middle between s and s + 1: a whole number of units, or far below
  have mid : ∀ s, (∃ Y, 2 ^ b * (V s + V (s + 1)) = 4 * 2 ^ a * Y) ∨ (2 ^ b * (V s + V (s + 1)) < 2 * (2 ^ 54 * 2 ^ a)) := by
    intro s
    by_cases hc : a + 2 ≤ E s + b
    · left
      have d1 : 2 ^ E s ∣ V s := V_dvd (Nat.le_refl _)
      have d2 : 2 ^ E s ∣ V (s + 1) := by rw [V_succ]; exact Nat.dvd_add d1 (Nat.dvd_refl _)
      have d3 : 2 ^ b * 2 ^ E s ∣ 2 ^ b * (V s + V (s + 1)) := Nat.mul_dvd_mul_left _ (Nat.dvd_add d1 d2)
      have d4 : 4 * 2 ^ a ∣ 2 ^ b * 2 ^ E s := by
        rw [← Nat.pow_add, show 4 * 2 ^ a = 2 ^ (a + 2) from by rw [Nat.pow_add]; omega]
        exact Nat.pow_dvd_pow 2 (by omega)
      exact Nat.dvd_trans d4 d3
    · right
      have h1 := V_succ_le s
      have h2 := V_lt_succ s
      have h3 : 2 ^ b * (V s + V (s + 1)) < 2 ^ b * (2 * (2 ^ 53 * 2 ^ E s)) := Nat.mul_lt_mul_of_pos_left (by omega) hB
      have h4 : 2 ^ b * 2 ^ E s ≤ 2 * 2 ^ a := by
        rw [← Nat.pow_add, show 2 * 2 ^ a = 2 ^ (a + 1) from by rw [Nat.pow_succ, Nat.mul_comm]]
        exact Nat.pow_le_pow_right (by omega) (by omega)
      have h5 : 2 ^ b * (2 * (2 ^ 53 * 2 ^ E s)) = 2 ^ 54 * (2 ^ b * 2 ^ E s) := by
        rw [show (2 : Nat) ^ 54 = 2 * 2 ^ 53 from rfl]; ac_rfl
      omega
  generalize hσ : (if D % n = 0 then 0 else 1) = σ at *
  generalize hm : 2 * (D / n) + σ = m at *
  have hm54 : 2 ^ 54 ≤ m := by omega
  have e4 : 2 * (D * (2 * 2 ^ a)) = 4 * 2 ^ a * D := by rw [show 4 * 2 ^ a * D = (2 * 2) * 2 ^ a * D from rfl]; ac_rfl
  have e5 : 2 * (m * 2 ^ a) = 2 ^ a * (2 * m) := by ac_rfl
  have e6 : ∀ Y, 4 * 2 ^ a * Y = 2 ^ a * (2 * (2 * Y)) := fun Y => by rw [show 4 * 2 ^ a * Y = (2 * 2) * 2 ^ a * Y from rfl]; ac_rfl
  have e7 : ∀ x Y : Nat, 2 ^ b * x = 4 * 2 ^ a * Y → n * 2 ^ b * x = 4 * 2 ^ a * (n * Y) := by
    intro x Y hx
    rw [Nat.mul_assoc, hx]; ac_rfl
  have far : ∀ x : Nat, 2 ^ b * x < 2 * (2 ^ 54 * 2 ^ a) → n * 2 ^ b * x < 4 * 2 ^ a * D ∧ 2 ^ b * x < 2 * (m * 2 ^ a) := by
    intro x hx
    constructor
    · rw [Nat.mul_assoc]
      refine Nat.lt_of_lt_of_le (Nat.mul_lt_mul_of_pos_left hx hn) ?_
      have : 4 * 2 ^ a * (n * 2 ^ 53) ≤ 4 * 2 ^ a * D := Nat.mul_le_mul_left _ hD
      have e : n * (2 * (2 ^ 54 * 2 ^ a)) = 4 * 2 ^ a * (n * 2 ^ 53) := by
        rw [show (2 : Nat) ^ 54 = 2 * 2 ^ 53 from rfl, show 4 * 2 ^ a = (2 * 2) * 2 ^ a from rfl]; ac_rfl
      omega
    · refine Nat.lt_of_lt_of_le hx ?_
      have : 2 ^ 54 * 2 ^ a ≤ m * 2 ^ a := Nat.mul_le_mul_right _ hm54
      omega
  refine ⟨?_, ?_, ?_, ?_⟩
  · intro s hs
    subst hs
    have h1 := h.lo s rfl
    rw [e4]
    rcases mid s with ⟨Y, hY⟩ | hlt
    · rw [hY, e5, e6] at h1
      have := Nat.le_of_mul_le_mul_left h1 hA
      rw [e7 _ Y hY]
      exact Nat.mul_le_mul_left _ ((st Y).1.1 (by omega))
    · exact Nat.le_of_lt (far _ hlt).1
  · intro s hs heq
    subst hs
    rw [e4] at heq
    rcases mid s with ⟨Y, hY⟩ | hlt
    · rw [e7 _ Y hY] at heq
      have h2 := Nat.eq_of_mul_eq_mul_left (Nat.mul_pos (by omega) hA) heq
      refine h.loe s rfl ?_
      rw [hY, e5, e6, (st Y).2.1.2 h2]
    · have := (far _ hlt).1; omega
  · have h1 := h.hi
    rw [e4]
    rcases mid r with ⟨Y, hY⟩ | hlt
    · rw [hY, e5, e6] at h1
      have := Nat.le_of_mul_le_mul_left h1 hA
      rw [e7 _ Y hY]
      exact Nat.mul_le_mul_left _ ((st Y).2.2.1 (by omega))
    · have := (far _ hlt).2; omega
  · intro heq
    rw [e4] at heq
    rcases mid r with ⟨Y, hY⟩ | hlt
    · rw [e7 _ Y hY] at heq
      have h2 := Nat.eq_of_mul_eq_mul_left (Nat.mul_pos (by omega) hA) heq
      refine h.hie ?_
      rw [hY, e5, e6, (st Y).2.1.2 h2.symm]
    · have := (far _ hlt).1; omega

theorem ac_one (m n k x e : Nat) : m * k * x * (n * e) = m * n * (k * x * e) := by ac_rfl
theorem ac_two (m n e q y : Nat) : m * e * q * (n * y) = m * n * (e * q * y) := by ac_rfl
/-- The quotient of two finite words. -/
theorem div_fin {a b : Nat} (ha : mg a < INF) (hb : mg b < INF) (hb0 : mg b ≠ 0) :
    ∃ r, double.div a b = some (wd (ng a ^^ ng b) (min r INF)) ∧ Near (V (mg a) * Q) (V (mg b)) r := by
  have hM : M (mg b) ≠ 0 := fun h => hb0 (M_eq_zero.1 h)
  have hVb : 0 < V (mg b) := by unfold V; exact Nat.mul_pos (by omega) (Nat.two_pow_pos _)
  unfold Format.div
  rw [read_fin ha, read_fin hb]
  have e : (Datum.number (ng a) (M (mg a)) (-1074 + (E (mg a) : Int))).quotient 54 (Datum.number (ng b) (M (mg b)) (-1074 + (E (mg b) : Int))) =
      some (Datum.number (ng a ^^ ng b) (2 * (M (mg a) <<< (54 + (M (mg b)).log2 - (M (mg a)).log2) / M (mg b)) + (M (mg a) <<< (54 + (M (mg b)).log2 - (M (mg a)).log2) % M (mg b) != 0).toNat)
        (-1074 + (E (mg a) : Int) - (-1074 + (E (mg b) : Int)) - ((54 + (M (mg b)).log2 - (M (mg a)).log2 : Nat) : Int) - 1)) := by
    unfold Datum.quotient
    simp only
    rw [if_neg hM]
  refine ⟨rung (2 * (M (mg a) <<< (54 + (M (mg b)).log2 - (M (mg a)).log2) / M (mg b)) + (M (mg a) <<< (54 + (M (mg b)).log2 - (M (mg a)).log2) % M (mg b) != 0).toNat)
        (-1074 + (E (mg a) : Int) - (-1074 + (E (mg b) : Int)) - ((54 + (M (mg b)).log2 - (M (mg a)).log2 : Nat) : Int) - 1), ?_, ?_⟩
  · show (Datum.quotient 54 _ _).map double.write = _
    rw [e]
    show some (double.nearest _ _ _) = _
    rw [nearest_eq, word_eq]
  · by_cases h0 : M (mg a) = 0
    · have hVa : V (mg a) = 0 := by unfold V; rw [h0, Nat.zero_mul]
      rw [h0, hVa]
      simp only [Nat.zero_shiftLeft, Nat.zero_div, Nat.zero_mod, Nat.mul_zero, Nat.zero_mul]
      have : rung (0 + ((0 : Nat) != 0).toNat) (-1074 + (E (mg a) : Int) - (-1074 + (E (mg b) : Int)) - ((54 + (M (mg b)).log2 - Nat.log2 0 : Nat) : Int) - 1) = 0 := by unfold rung; rw [if_pos (by decide)]
      rw [this]
      exact ⟨fun s hs => by omega, fun s hs => by omega, Nat.le_trans (Nat.le_of_eq (Nat.mul_zero 2)) (Nat.zero_le _), fun _ => rfl⟩
    · generalize hmore : 54 + (M (mg b)).log2 - (M (mg a)).log2 = more
      have hlm := Nat.log2_self_le h0
      have hln : M (mg b) < 2 ^ ((M (mg b)).log2 + 1) := Nat.lt_log2_self
      have hn0 : 0 < M (mg b) := by omega
      have hσ : (M (mg a) <<< more % M (mg b) != 0).toNat = if M (mg a) <<< more % M (mg b) = 0 then 0 else 1 := by
        by_cases hz : M (mg a) <<< more % M (mg b) = 0 <;> simp [hz]
      rw [hσ]
      have hD : 2 ^ 53 ≤ M (mg a) <<< more / M (mg b) := by
        rw [Nat.le_div_iff_mul_le hn0, Nat.shiftLeft_eq]
        have h1 : 2 ^ 53 * M (mg b) ≤ 2 ^ (54 + (M (mg b)).log2) := by
          rw [show 54 + (M (mg b)).log2 = 53 + ((M (mg b)).log2 + 1) from by omega, Nat.pow_add]
          exact Nat.mul_le_mul_left _ (by omega)
        have h2 : 2 ^ (54 + (M (mg b)).log2) ≤ 2 ^ ((M (mg a)).log2 + more) := Nat.pow_le_pow_right (by omega) (by omega)
        have h3 : 2 ^ ((M (mg a)).log2 + more) ≤ M (mg a) * 2 ^ more := by rw [Nat.pow_add]; exact Nat.mul_le_mul_right _ hlm
        omega
      have hr := near_sticky hn0 hD (near_rung (-1074 + (E (mg a) : Int) - (-1074 + (E (mg b) : Int)) - (more : Int) - 1))
      generalize rung _ _ = r at hr ⊢
      have hT := T_int
      generalize hx : (-1074 + (E (mg a) : Int) - (-1074 + (E (mg b) : Int)) - (more : Int) - 1 + 1074).toNat = x at hr
      generalize hy : (-(-1074 + (E (mg a) : Int) - (-1074 + (E (mg b) : Int)) - (more : Int) - 1 + 1074)).toNat = y at hr
      refine hr.ratio (Nat.mul_pos hn0 (Nat.two_pow_pos _)) hVb ?_
      have hexp : more + (x + 1) + E (mg b) = E (mg a) + T + y := by omega
      have : 2 ^ more * (2 * 2 ^ x) * 2 ^ E (mg b) = 2 ^ E (mg a) * Q * 2 ^ y := by
        rw [show 2 * 2 ^ x = 2 ^ (x + 1) from by rw [Nat.pow_succ, Nat.mul_comm]]
        unfold Q
        rw [← Nat.pow_add, ← Nat.pow_add, ← Nat.pow_add, ← Nat.pow_add, hexp]
      rw [Nat.shiftLeft_eq]
      unfold V
      calc M (mg a) * 2 ^ more * (2 * 2 ^ x) * (M (mg b) * 2 ^ E (mg b)) = M (mg a) * M (mg b) * (2 ^ more * (2 * 2 ^ x) * 2 ^ E (mg b)) := ac_one _ _ _ _ _
        _ = M (mg a) * M (mg b) * (2 ^ E (mg a) * Q * 2 ^ y) := by rw [this]
        _ = M (mg a) * 2 ^ E (mg a) * Q * (M (mg b) * 2 ^ y) := (ac_two _ _ _ _ _).symm
end TF
/- Depths and levels in words: whole numbers as floats, floats cut to whole numbers, the nearest whole number. -/
namespace TF
open Ieee Go Go.RowKit

/-- cut down. -/
theorem cut_down (neg : Bool) (n drop : Nat) : Toward.down.cut neg n drop = n / 2 ^ drop + (if neg = true ∧ n % 2 ^ drop ≠ 0 then 1 else 0) := by
  have key : (n / (1 <<< min drop (n.log2 + 2)) = n / 2 ^ drop) ∧ (n % (1 <<< min drop (n.log2 + 2)) = 0 ↔ n % 2 ^ drop = 0) := by
    rw [Nat.shiftLeft_eq, Nat.one_mul]
    by_cases h : drop ≤ n.log2 + 2
    · rw [Nat.min_eq_left h]; exact ⟨rfl, Iff.rfl⟩
    · rw [Nat.min_eq_right (by omega)]
      have h1 : n < 2 ^ (n.log2 + 2) := Nat.lt_of_lt_of_le Nat.lt_log2_self (Nat.pow_le_pow_right (by omega) (by omega))
      have h2 : n < 2 ^ drop := Nat.lt_of_lt_of_le h1 (Nat.pow_le_pow_right (by omega) (by omega))
      rw [Nat.div_eq_of_lt h1, Nat.div_eq_of_lt h2, Nat.mod_eq_of_lt h1, Nat.mod_eq_of_lt h2]
      exact ⟨rfl, Iff.rfl⟩
  unfold Toward.cut
  simp only [key.1]
  congr 1
  by_cases h : n % 2 ^ drop = 0
  · rw [if_neg (by simp [h])]
    have := key.2.2 h
    simp [this]
  · have h' : ¬ n % (1 <<< min drop (n.log2 + 2)) = 0 := fun h2 => h (key.2.1 h2)
    cases neg
    · simp
    · rw [if_pos ⟨rfl, h⟩]
      have : (n % (1 <<< min drop (n.log2 + 2)) != 0) = true := by simp [h']
      simp only [Bool.true_and, this]; rfl
theorem cut_zero (neg : Bool) (n drop : Nat) : Toward.zero.cut neg n drop = n / 2 ^ drop := by
  unfold Toward.cut
  rw [Nat.shiftLeft_eq, Nat.one_mul]
  simp only [Bool.toNat_false, Nat.add_zero]
  by_cases h : drop ≤ n.log2 + 2
  · rw [Nat.min_eq_left h]
  · rw [Nat.min_eq_right (by omega)]
    have h1 : n < 2 ^ (n.log2 + 2) := Nat.lt_of_lt_of_le Nat.lt_log2_self (Nat.pow_le_pow_right (by omega) (by omega))
    have h2 : n < 2 ^ drop := Nat.lt_of_lt_of_le h1 (Nat.pow_le_pow_right (by omega) (by omega))
    rw [Nat.div_eq_of_lt h1, Nat.div_eq_of_lt h2]

/-- a word's units in whole ones and what is left. -/
theorem whole_part (r : Nat) : (M r <<< (-1074 + (E r : Int)).toNat) / 2 ^ (-(-1074 + (E r : Int))).toNat = V r / Q ∧
    ((M r <<< (-1074 + (E r : Int)).toNat) % 2 ^ (-(-1074 + (E r : Int))).toNat = 0 ↔ V r % Q = 0) := by
  have hT := T_int
  rw [Nat.shiftLeft_eq]
  by_cases h : T ≤ E r
  · obtain ⟨x, hx⟩ : ∃ x, E r = x + T := ⟨E r - T, by omega⟩
    have e1 : (-1074 + (E r : Int)).toNat = x := by omega
    have e2 : (-(-1074 + (E r : Int))).toNat = 0 := by omega
    have e3 : V r = M r * 2 ^ x * Q := by unfold V Q; rw [hx, Nat.pow_add, Nat.mul_assoc]
    rw [e1, e2, e3, Nat.mul_div_cancel _ Q_pos, Nat.mul_mod_left]
    simp only [Nat.pow_zero, Nat.div_one, Nat.mod_one, true_and]
  · obtain ⟨x, hx⟩ : ∃ x, T = x + E r := ⟨T - E r, by omega⟩
    have e1 : (-1074 + (E r : Int)).toNat = 0 := by omega
    have e2 : (-(-1074 + (E r : Int))).toNat = x := by omega
    have e3 : Q = 2 ^ x * 2 ^ E r := by unfold Q; rw [hx, Nat.pow_add]
    rw [e1, e2, e3, Nat.pow_zero, Nat.mul_one]
    unfold V
    rw [Nat.mul_div_mul_right _ _ (Nat.two_pow_pos _), Nat.mul_mod_mul_right]
    refine ⟨rfl, ?_⟩
    have := Nat.two_pow_pos (E r)
    constructor
    · intro h; rw [h, Nat.zero_mul]
    · intro h
      rcases Nat.mul_eq_zero.1 h with h | h
      · exact h
      · omega

/-- rung of whole ones. -/
theorem rung_whole (k : Nat) : rung k 0 = rnd (k * Q) := by
  have h := near_rung (mag := k) 0
  rw [show ((0 : Int) + 1074).toNat = T from rfl, show (-((0 : Int) + 1074)).toNat = 0 from rfl, Nat.pow_zero] at h
  have h' := near_rnd (k * Q)
  unfold Q at h' ⊢
  exact h.unique (by omega) h'

/-- the whole number below (of a magnitude with its sign: away from nought where it lies below it). -/
def flK (s : Bool) (v : Nat) : Nat := v / Q + (if s = true ∧ v % Q ≠ 0 then 1 else 0)
def flW (x : Nat) : Nat := wd (ng x) (min (rnd (flK (ng x) (V (mg x)) * Q)) INF)

theorem integral_down {x : Nat} (h : mg x < INF) : FloatKind.f64.encode ((FloatKind.f64.decode x).integral .down) = flW x := by
  show double.write ((double.read x).integral .down) = _
  rw [read_fin h]
  show double.nearest (ng x) (Toward.down.cut _ _ _) 0 = _
  rw [nearest_eq, word_eq, cut_down, rung_whole]
  obtain ⟨h1, h2⟩ := whole_part (mg x)
  unfold flW flK
  rw [h1]
  by_cases h3 : V (mg x) % Q = 0
  · rw [if_neg (fun hc => hc.2 (h2.2 h3)), if_neg (fun hc => hc.2 h3)]
  · by_cases h4 : ng x = true
    · rw [if_pos ⟨h4, fun hc => h3 (h2.1 hc)⟩, if_pos ⟨h4, h3⟩]
    · rw [if_neg (fun hc => h4 hc.1), if_neg (fun hc => h4 hc.1)]
theorem toInt_zero {x : Nat} (h : mg x < INF) : (FloatKind.f64.decode x).toInt .zero = some (if ng x then -((V (mg x) / Q : Nat) : Int) else ((V (mg x) / Q : Nat) : Int)) := by
  show (double.read x).toInt .zero = _
  rw [read_fin h]
  show some (signed (ng x) (Toward.zero.cut _ _ _) 0) = _
  rw [cut_zero, (whole_part (mg x)).1, signed_eq]
  simp only [Nat.pow_zero, Nat.mul_one]

/-- a float of 2^52 or more is whole. -/
theorem whole_of_great {r : Nat} (h : 2 ^ 52 * Q ≤ V r) : V r % Q = 0 := by
  have h1 : V (T * 2 ^ 52 + 2 ^ 52) = 2 ^ 52 * Q := by
    unfold Q; exact V_block (D := T) (k := 2 ^ 52) (Nat.le_refl _) (by omega)
  have h2 : T * 2 ^ 52 + 2 ^ 52 ≤ r := by rw [← V_le_iff, h1]; exact h
  have h3 : T ≤ E r := by
    unfold E
    revert h2
    generalize T = t
    intro h2; omega
  exact Nat.mod_eq_zero_of_dvd (V_dvd h3)
theorem rep_rest (r : Nat) : Rep (V r % Q) := by
  by_cases h : T ≤ E r
  · have := V_dvd h
    rw [show V r % Q = 0 from Nat.mod_eq_zero_of_dvd this]
    exact ⟨0, V_zero⟩
  · obtain ⟨x, hx⟩ : ∃ x, T = x + E r := ⟨T - E r, by omega⟩
    have e3 : Q = 2 ^ x * 2 ^ E r := by unfold Q; rw [hx, Nat.pow_add]
    unfold V
    rw [e3, Nat.mul_mod_mul_right]
    refine rep_bits _ _ ?_
    have := M_lt r
    have := Nat.mod_le (M r) (2 ^ x)
    omega
theorem rep_fl (s : Bool) (r : Nat) : Rep (flK s (V r) * Q) := by
  have hd := Nat.div_add_mod (V r) Q
  rw [Nat.mul_comm] at hd
  unfold flK
  by_cases h : 2 ^ 52 * Q ≤ V r
  · have h0 := whole_of_great h
    rw [if_neg (by simp [h0]), Nat.add_zero]
    rw [h0, Nat.add_zero] at hd
    rw [hd]; exact rep_V r
  · have : V r / Q < 2 ^ 52 := by rw [Nat.div_lt_iff_lt_mul Q_pos]; omega
    exact rep_Q (by split <;> omega)
/-- the value of the whole number below, where there is no sign. -/
theorem fl_pos {x : Nat} (h : mg x < INF) (hn : ng x = false) : mg (flW x) ≤ mg x ∧ ng (flW x) = false ∧ flW x = mg (flW x) ∧ V (mg (flW x)) = V (mg x) / Q * Q := by
  have hI := INF_lt
  have hr := (rep_fl (ng x) (mg x)).eq
  have e : flK (ng x) (V (mg x)) = V (mg x) / Q := by unfold flK; rw [if_neg (by simp [hn])]; rfl
  rw [e] at hr
  have hle : rnd (V (mg x) / Q * Q) ≤ mg x := rnd_le_of (Nat.div_mul_le_self _ _)
  have e2 : flW x = wd false (rnd (V (mg x) / Q * Q)) := by unfold flW; rw [e, hn, Nat.min_eq_left (by omega)]
  have e3 : mg (flW x) = rnd (V (mg x) / Q * Q) := by rw [e2, mg_wd (by omega)]
  refine ⟨by rw [e3]; exact hle, by rw [e2, ng_wd (by omega)], by rw [e3, e2]; exact if_neg Bool.false_ne_true, by rw [e3]; exact hr⟩

/-- the nearest whole number, ties to the even one. -/
def nr (v : Nat) : Nat := if Q < 2 * (v % Q) ∨ (2 * (v % Q) = Q ∧ v / Q % 2 = 1) then v / Q + 1 else v / Q

theorem nr_great {r : Nat} (h : 2 ^ 52 * Q ≤ V r) : nr (V r) = V r / Q := by
  have h0 := whole_of_great h
  have := Q_pos
  unfold nr
  rw [h0]
  generalize V r / Q = y
  generalize Q = q at *
  rw [if_neg (by omega)]
theorem nr_lt {r b : Nat} (hb : 2 ^ 52 < b) (h : V r < b * Q) : nr (V r) < b := by
  have h1 : V r / Q < b := (Nat.div_lt_iff_lt_mul Q_pos).2 h
  clear h
  rcases Nat.lt_or_ge (V r) (2 ^ 52 * Q) with h2 | h2
  · have h3 : V r / Q < 2 ^ 52 := (Nat.div_lt_iff_lt_mul Q_pos).2 h2
    clear h2
    have h4 : nr (V r) ≤ V r / Q + 1 := by
      unfold nr
      split
      · exact Nat.le_refl _
      · exact Nat.le_succ _
    revert h3 h4
    generalize V r / Q = y
    intro h3 h4; omega
  · rw [nr_great h2]; exact h1
theorem nr_mono {u v : Nat} (h : u ≤ v) : nr u ≤ nr v := by
  have hu := Nat.div_add_mod u Q
  have hv := Nat.div_add_mod v Q
  have lu := Nat.mod_lt u Q_pos
  have lv := Nat.mod_lt v Q_pos
  have hd : u / Q ≤ v / Q := Nat.div_le_div_right h
  unfold nr
  generalize u / Q = a at *
  generalize v / Q = b at *
  generalize u % Q = c at *
  generalize v % Q = d at *
  generalize Q = q at *
  by_cases he : a = b
  · rw [he] at hu ⊢
    have : c ≤ d := by omega
    split <;> split <;> omega
  · split <;> split <;> omega
end TF
