/- The statement BitsNeighbours over words. -/
import Derived.Test.YtneedadoafcfcaaBitsM2
namespace TF
open Ieee Go Go.RowKit

theorem up_word {x : Nat} (h : W64 x) (hf : mg x < INF) : upW x = if ng x = true ∧ mg x ≠ 0 then 2 ^ 63 + (mg x - 1) else mg x + 1 := by
  have h64 : x < 2 ^ 64 := h
  have hI := INF_eq
  unfold upW
  rw [isN_false.2 (by omega), if_neg Bool.false_ne_true]
  have key : (ng x = true → 2 ^ 63 ≤ x ∧ mg x = x - 2 ^ 63) ∧ (ng x = false → x < 2 ^ 63 ∧ mg x = x) := by
    refine ⟨fun hg => ?_, fun hg => ?_⟩
    · rw [ng_iff h64] at hg; exact ⟨hg, by unfold mg; omega⟩
    · rw [ng_false_iff h64] at hg; exact ⟨hg, mg_small hg⟩
  by_cases hc : ng x = true ∧ mg x ≠ 0
  · rw [if_pos hc]
    have := key.1 hc.1
    rw [if_neg (by omega), if_neg hc.2, if_pos (by omega)]; omega
  · rw [if_neg hc]
    by_cases h0 : mg x = 0
    · have : x ≠ 9218868437227405312 := by intro e; subst e; revert h0; decide
      rw [if_neg this, if_pos h0, h0]
    · have hg : ng x = false := by
        cases hg : ng x
        · rfl
        · exact absurd ⟨hg, h0⟩ hc
      have := key.2 hg
      rw [if_neg (by omega), if_neg h0, if_neg (by omega)]; omega
theorem op_wd {s : Bool} {r : Nat} (h : r < 2 ^ 63) : op (wd s r) = wd (!s) r := by
  rw [word_split (op_lt (wd_lt h)), mg_op (wd_lt h), ng_op (wd_lt h), mg_wd h, ng_wd h]
theorem down_word {x : Nat} (h : W64 x) (hf : mg x < INF) : downW x = if ng x = false ∧ mg x ≠ 0 then mg x - 1 else 2 ^ 63 + (mg x + 1) := by
  have h64 : x < 2 ^ 64 := h
  have hI := INF_eq
  have hI' := INF_lt
  unfold downW
  rw [isN_false.2 (by omega), if_neg Bool.false_ne_true, up_word h.op (by rw [mg_op h64]; exact hf), mg_op h64, ng_op h64]
  by_cases hc : ng x = false ∧ mg x ≠ 0
  · rw [if_pos hc, if_pos ⟨by rw [hc.1]; rfl, hc.2⟩]
    have := op_wd (s := true) (r := mg x - 1) (by omega)
    exact this
  · rw [if_neg hc, if_neg (by intro h; exact hc ⟨by simpa using h.1, h.2⟩)]
    have := op_wd (s := false) (r := mg x + 1) (by omega)
    exact this

theorem not_nan_word {s : Bool} {r : Nat} (h : r ≤ INF) : isN (wd s r) = false := by
  have := INF_lt
  rw [isN_false, mg_wd (by omega)]; exact h
theorem rk_wd {s : Bool} {r : Nat} (h : r < 2 ^ 63) : rk (wd s r) = if s then -(r : Int) else r := by unfold rk; rw [mg_wd h, ng_wd h]
theorem eqW_rk {a b : Nat} (ha : isN a = false) (hb : isN b = false) : eqW a b = decide (rk a = rk b) := by unfold eqW; rw [ha, hb]; rfl
theorem ltW_rk {a b : Nat} (ha : isN a = false) (hb : isN b = false) : ltW a b = decide (rk a < rk b) := by unfold ltW; rw [ha, hb]; rfl

/-- The neighbours' ranks. -/
theorem up_rk {x : Nat} (h : W64 x) (hf : mg x < INF) : isN (upW x) = false ∧ rk (upW x) = rk x + 1 := by
  have hI := INF_lt
  rw [up_word h hf]
  unfold rk
  by_cases hc : ng x = true ∧ mg x ≠ 0
  · rw [if_pos hc, if_pos hc.1]
    have e : 2 ^ 63 + (mg x - 1) = wd true (mg x - 1) := rfl
    rw [e, mg_wd (by omega), ng_wd (by omega)]
    exact ⟨not_nan_word (by omega), by simp; omega⟩
  · rw [if_neg hc]
    have e : mg x + 1 = wd false (mg x + 1) := rfl
    rw [e, mg_wd (by omega), ng_wd (by omega)]
    refine ⟨not_nan_word (by omega), ?_⟩
    rw [if_neg Bool.false_ne_true]
    split
    · have : mg x = 0 := by
        refine Classical.byContradiction fun h0 => hc ⟨by assumption, h0⟩
      omega
    · omega
theorem down_rk {x : Nat} (h : W64 x) (hf : mg x < INF) : isN (downW x) = false ∧ rk (downW x) = rk x - 1 := by
  have hI := INF_lt
  rw [down_word h hf]
  unfold rk
  by_cases hc : ng x = false ∧ mg x ≠ 0
  · rw [if_pos hc, hc.1, if_neg Bool.false_ne_true]
    have e : mg x - 1 = wd false (mg x - 1) := rfl
    rw [e, mg_wd (by omega), ng_wd (by omega)]
    exact ⟨not_nan_word (by omega), by simp; omega⟩
  · rw [if_neg hc]
    have e : 2 ^ 63 + (mg x + 1) = wd true (mg x + 1) := rfl
    rw [e, mg_wd (by omega), ng_wd (by omega)]
    refine ⟨not_nan_word (by omega), ?_⟩
    rw [if_pos rfl]
    split
    · omega
    · have : mg x = 0 := by
        refine Classical.byContradiction fun h0 => hc ⟨by simpa using ‹¬ng x = true›, h0⟩
      omega

/-- x and half the way to the next one. -/
theorem mid_ways' {hw : Nat} (hw1 : mg hw < INF) (hw2 : ng hw = false) (hw3 : mg hw ≠ 0) (hq : ∀ k, rnd2 (2 ^ k * V (mg hw)) = if k = 0 then 0 else rnd (2 ^ (k - 1))) {x : Nat} (h : W64 x) (hf : mg x < INF) :
    ∃ d e m, floatBits .sub .f64 (upW x) x = some d ∧ floatBits .mul .f64 d hw = some e ∧ floatBits .add .f64 x e = some m ∧
      (finB (upW x) = false ∨ (finB (upW x) = true ∧ (eqW m x = true ∨ (eqW m x = false ∧ eqW m (upW x) = true)))) := by
  have h64 : x < 2 ^ 64 := h
  have hI := INF_lt
  have hxn : isN x = false := isN_false.2 (by omega)
  have hu := up_rk h hf
  have huw := up_word h hf
  by_cases hfu : mg (upW x) < INF
  · -- the step, and half of it
    have key : ∃ k t : Nat, iv (upW x) - iv x = (2 ^ k : Nat) ∧ rnd (2 ^ k) < INF ∧ t = (if k = 0 then 0 else 2 ^ (k - 1)) ∧ t < 2 ^ k ∧
        ((ng x = true ∧ ∃ s, mg x = s + 1 ∧ V (s + 1) = V s + 2 ^ k) ∨ ((ng x = false ∨ mg x = 0) ∧ V (mg x + 1) = V (mg x) + 2 ^ k)) := by
      have ht : ∀ k : Nat, (if k = 0 then 0 else 2 ^ (k - 1)) < 2 ^ k := by
        intro k
        by_cases hk : k = 0
        · subst hk; decide
        · rw [if_neg hk]; exact Nat.pow_lt_pow_right (by omega) (by omega)
      by_cases hc : ng x = true ∧ mg x ≠ 0
      · rw [if_pos hc] at huw
        obtain ⟨s, hs⟩ : ∃ s, mg x = s + 1 := ⟨mg x - 1, by omega⟩
        refine ⟨E s, _, ?_, ?_, rfl, ht _, .inl ⟨hc.1, s, hs, V_succ s⟩⟩
        · rw [huw, hs]
          have e : 2 ^ 63 + (s + 1 - 1) = wd true s := rfl
          unfold iv
          rw [e, mg_wd (by omega), ng_wd (by omega), hc.1, hs, V_succ]; simp; omega
        · exact (sub_step (show s + 1 < INF by omega)).2.2.1
      · rw [if_neg hc] at huw
        have hor : ng x = false ∨ mg x = 0 := by
          cases hg : ng x
          · exact .inl rfl
          · exact .inr (Classical.byContradiction fun h0 => hc ⟨hg, h0⟩)
        rw [huw, mg_small (by omega)] at hfu
        refine ⟨E (mg x), _, ?_, (sub_step hfu).2.2.1, rfl, ht _, .inr ⟨hor, V_succ _⟩⟩
        rw [huw, iv_small (by omega), iv_of_pos rfl hor, V_succ]; omega
    obtain ⟨k, t, hk1, hk2, ht, htl, hcase⟩ := key
    have hp := Nat.two_pow_pos k
    have hd : floatBits .sub .f64 (upW x) x = some (rnd (2 ^ k)) := by
      rw [sub_word' hfu h64 hf, hk1]
      congr 1
      exact rw_pos hp rfl hk2
    have hmd : mg (rnd (2 ^ k)) = rnd (2 ^ k) := mg_small (by omega)
    have hev : (if k = 0 then 0 else rnd (2 ^ (k - 1))) ≤ rnd (2 ^ k) := by
      split
      · omega
      · exact rnd_mono (Nat.pow_le_pow_right (by omega) (by omega))
    have he : floatBits .mul .f64 (rnd (2 ^ k)) hw = some (if k = 0 then 0 else rnd (2 ^ (k - 1))) := by
      rw [mul_word (by omega) hw1, hmd, rnd_pow, hq, hw2, ng_small (r := rnd (2 ^ k)) (by omega), Nat.min_eq_left (by omega)]; rfl
    have hte : V (if k = 0 then 0 else rnd (2 ^ (k - 1))) = t := by
      rw [ht]
      split
      · exact V_zero
      · exact rnd_pow _
    generalize (if k = 0 then 0 else rnd (2 ^ (k - 1))) = e at *
    have hme : mg e = e := mg_small (by omega)
    refine ⟨_, e, _, hd, he, add_word' hf (by omega), .inr ⟨finB_true.2 hfu, ?_⟩⟩
    rw [iv_small (r := e) (by omega), hte, ng_small (r := e) (by omega), Bool.and_false]
    have fin : ∀ m : Nat, isN m = false → (rk m = rk x ∨ rk m = rk x + 1) → (eqW m x = true ∨ (eqW m x = false ∧ eqW m (upW x) = true)) := by
      intro m hm hr
      rw [eqW_rk hm hxn, eqW_rk hm hu.1, hu.2]
      rcases hr with hr | hr
      · left; simp [hr]
      · right; simp [hr]; omega
    rcases hcase with ⟨hg, s, hs, hV⟩ | ⟨hor, hV⟩
    · have hivx : iv x = -(V (s + 1) : Int) := by unfold iv; rw [hg, hs]; rfl
      have hneg : iv x + t = -((V (s + 1) - t : Nat) : Int) := by rw [hivx]; omega
      have hpos : 0 < V (s + 1) - t := by omega
      have hb := rnd_between (n := V (s + 1) - t) (r := s) (by omega) (by omega)
      have hrw : rw' false (iv x + t) = wd true (rnd (V (s + 1) - t)) := by
        unfold rw'
        rw [hneg, if_neg (by omega), Int.natAbs_neg, Int.natAbs_natCast, Nat.min_eq_left (by omega), decide_eq_true (by omega)]
      rw [hrw]
      refine fin _ (not_nan_word (by omega)) ?_
      rw [rk_wd (by omega), if_pos rfl]
      unfold rk
      rw [hg, hs, if_pos rfl]
      omega
    · have hivx := iv_of_pos rfl hor
      have hrkx := rk_of_pos rfl hor
      rw [hivx, show ((V (mg x) : Nat) : Int) + (t : Int) = ((V (mg x) + t : Nat) : Int) from by omega]
      have hb := rnd_between (n := V (mg x) + t) (r := mg x) (by omega) (by omega)
      have hlt : mg x + 1 < INF := by
        rw [huw] at hfu
        split at hfu
        · rename_i hc
          rcases hor with h | h
          · rw [h] at hc; exact absurd hc.1 Bool.false_ne_true
          · exact absurd h hc.2
        · rwa [mg_small (by omega)] at hfu
      have hrw : rw' false ((V (mg x) + t : Nat) : Int) = rnd (V (mg x) + t) := by
        by_cases h0 : V (mg x) + t = 0
        · rw [h0, rnd_zero]; decide
        · exact rw_pos (by omega) rfl (by omega)
      rw [hrw]
      refine fin _ (isN_false.2 (by rw [mg_small (by omega)]; omega)) ?_
      rw [rk_small (by omega), hrkx]
      omega
  · have hup : upW x = INF ∧ mg x + 1 = INF ∧ ng x = false := by
      rw [huw] at hfu ⊢
      split at hfu
      · have e : 2 ^ 63 + (mg x - 1) = wd true (mg x - 1) := rfl
        rw [e, mg_wd (by omega)] at hfu; omega
      · rename_i hc
        rw [if_neg hc]
        rw [mg_small (by omega)] at hfu
        refine ⟨by omega, by omega, ?_⟩
        cases hg : ng x
        · rfl
        · exact absurd ⟨hg, by have := INF_eq; omega⟩ hc
    obtain ⟨e1, e2, e3⟩ := hup
    have hIm : mg INF = INF := mg_small (by omega)
    have hIn : ng INF = false := ng_small (by omega)
    rw [e1]
    refine ⟨INF, INF, INF, ?_, ?_, ?_, .inl (by decide)⟩
    · show double.sub _ _ = _
      rw [sub_eq h64, add_inf_fin hIm (by rw [mg_op h64]; exact hf), hIn]; rfl
    · show double.mul _ _ = _
      rw [mul_inf_fin hIm hw1, if_neg hw3, hIn, hw2]; rfl
    · show double.add _ _ = _
      rw [add_fin_inf hf hIm, hIn]; rfl
theorem mid_ways {x : Nat} (h : W64 x) (hf : mg x < INF) :
    ∃ d e m, floatBits .sub .f64 (upW x) x = some d ∧ floatBits .mul .f64 d 4602678819172646912 = some e ∧ floatBits .add .f64 x e = some m ∧
      (finB (upW x) = false ∨ (finB (upW x) = true ∧ (eqW m x = true ∨ (eqW m x = false ∧ eqW m (upW x) = true)))) :=
  mid_ways' (hw := 4602678819172646912) (by decide) (by decide) (by decide) (fun k => by rw [show mg 4602678819172646912 = 4602678819172646912 from by decide]; exact rnd2_half k) h hf

/-- x and its step. -/
theorem step_ways {x : Nat} (h : W64 x) (hf : mg x < INF) : ((ltW 0 x || eqW x 0) = true ∧ ∃ s, floatBits .add .f64 x (ulpW x) = some s ∧ sameB s (upW x) = true) ∨
    ((ltW 0 x || eqW x 0) = false ∧ ∃ s, floatBits .sub .f64 x (ulpW x) = some s ∧ sameB s (downW x) = true) := by
  have h64 : x < 2 ^ 64 := h
  have hI := INF_lt
  have hI' := INF_eq
  have hxn : isN x = false := isN_false.2 (by omega)
  have hge : (ltW 0 x || eqW x 0) = (!ng x || decide (mg x = 0)) := by
    rw [zero_ltW hxn, eqW_zero, hxn]
    by_cases h0 : mg x = 0
    · simp [h0]
    · simp [h0]
  rw [hge]
  have hIm : mg INF = INF := mg_small (by omega)
  have hIn : ng INF = false := ng_small (by omega)
  have hul : mg x + 1 = INF → ulpW x = INF := by
    intro e; unfold ulpW; rw [hxn, if_neg Bool.false_ne_true, if_pos (by omega)]; omega
  by_cases hc : ng x = true ∧ mg x ≠ 0
  · refine .inr ⟨by simp [hc.1, hc.2], ?_⟩
    have hdw : downW x = 2 ^ 63 + (mg x + 1) := by rw [down_word h hf, if_neg (by rw [hc.1]; simp)]
    refine ⟨2 ^ 63 + (mg x + 1), ?_, by rw [hdw]; exact sameB_self _⟩
    by_cases hlt : mg x + 1 < INF
    · obtain ⟨_, u2, u3, u4⟩ := sub_step hlt
      rw [ulpW_fin hlt, sub_word' hf (by omega) (by rw [mg_small (by omega)]; omega), iv_small (r := rnd (2 ^ E (mg x))) (by omega), u2]
      congr 1
      have hivx : iv x = -(V (mg x) : Int) := by unfold iv; rw [hc.1]; rfl
      have hs := V_succ (mg x)
      have hneg : iv x - ((2 ^ E (mg x) : Nat) : Int) = -((V (mg x + 1) : Nat) : Int) := by rw [hivx]; omega
      have hpos : 0 < V (mg x + 1) := by have := V_lt (show 0 < mg x + 1 by omega); rw [V_zero] at this; exact this
      unfold rw'
      rw [hneg, if_neg (by omega), Int.natAbs_neg, Int.natAbs_natCast, rnd_V, Nat.min_eq_left (by omega), decide_eq_true (by omega)]; rfl
    · have e : mg x + 1 = INF := by omega
      rw [hul e]
      show double.sub _ _ = _
      rw [sub_eq (by omega), add_fin_inf hf (by rw [mg_op (by omega)]; exact hIm), ng_op (by omega), hIn, e]; rfl
  · have hor : ng x = false ∨ mg x = 0 := by
      cases hg : ng x
      · exact .inl rfl
      · exact .inr (Classical.byContradiction fun h0 => hc ⟨hg, h0⟩)
    refine .inl ⟨by rcases hor with h | h <;> simp [h], mg x + 1, ?_, by rw [up_word h hf, if_neg hc]; exact sameB_self _⟩
    by_cases hlt : mg x + 1 < INF
    · obtain ⟨_, u2, u3, u4⟩ := sub_step hlt
      rw [ulpW_fin hlt, add_word' hf (by rw [mg_small (by omega)]; omega), iv_small (r := rnd (2 ^ E (mg x))) (by omega), u2, iv_of_pos rfl hor]
      congr 1
      have hs := V_succ (mg x)
      rw [show ((V (mg x) : Nat) : Int) + ((2 ^ E (mg x) : Nat) : Int) = ((V (mg x + 1) : Nat) : Int) from by omega]
      exact rw_pos (by have := V_lt (show 0 < mg x + 1 by omega); rw [V_zero] at this; exact this) (rnd_V _) hlt
    · have e : mg x + 1 = INF := by omega
      rw [hul e]
      show double.add _ _ = _
      rw [add_fin_inf hf hIm, hIn, e]; rfl

theorem between_step {a b : Nat} (ha : isN a = false) (hb : isN b = false) (h : rk b = rk a + 1) : betweenW a b = (1, true) := by
  unfold betweenW
  rw [ha, hb, h, if_neg (by simp), if_neg (by omega)]
  congr 1; omega

theorem neigh_ways {x : Nat} (h : W64 x) : (finB x = false ∧ eqW x x = false ∧ eqW (upW x) (upW x) = false ∧ eqW (downW x) (downW x) = false) ∨
    (finB x = false ∧ eqW x x = true ∧ ((ltW 0 x = true ∧ sameB (upW x) x = true ∧ finB (downW x) = true ∧ classW (upW (downW x)) = 3) ∨
      (ltW 0 x = false ∧ ltW x 0 = true ∧ sameB (downW x) x = true ∧ finB (upW x) = true ∧ classW (downW (upW x)) = 3))) ∨
    (finB x = true ∧ ltW (downW x) x = true ∧ ltW x (upW x) = true ∧ betweenW x (upW x) = (1, true) ∧ betweenW (downW x) x = (1, true) ∧
      (eqW x 0 = true ∨ (eqW x 0 = false ∧ (eqW (upW x) 0 = true ∨ (eqW (upW x) 0 = false ∧ sameB (downW (upW x)) x = true))))) := by
  have h64 : x < 2 ^ 64 := h
  have hI := INF_lt
  have hI' := INF_eq
  cases hn : isN x
  · by_cases hf : mg x < INF
    · refine .inr (.inr ⟨finB_true.2 hf, ?_⟩)
      obtain ⟨u1, u2⟩ := up_rk h hf
      obtain ⟨d1, d2⟩ := down_rk h hf
      refine ⟨by rw [ltW_rk d1 hn]; simp; omega, by rw [ltW_rk hn u1]; simp; omega, between_step hn u1 u2, between_step d1 hn (by omega), ?_⟩
      rw [eqW_zero, hn, eqW_zero, u1]
      by_cases h0 : mg x = 0
      · left; simp [h0]
      · right
        refine ⟨by simp [h0], ?_⟩
        by_cases h1 : mg (upW x) = 0
        · left; simp [h1]
        · right
          refine ⟨by simp [h1], sameB_true.2 ?_⟩
          have huw := up_word h hf
          by_cases hc : ng x = true ∧ mg x ≠ 0
          · rw [if_pos hc] at huw
            have e : upW x = wd true (mg x - 1) := huw
            rw [e, mg_wd (by omega)] at h1
            have hdw := down_word (x := upW x) h.up (by rw [e, mg_wd (by omega)]; omega)
            rw [hdw, e, ng_wd (by omega), mg_wd (by omega), if_neg (by simp)]
            have := word_split h64
            rw [hc.1] at this
            have w : wd true (mg x) = 2 ^ 63 + mg x := rfl
            omega
          · rw [if_neg hc] at huw
            have hg : ng x = false := by
              cases hg : ng x
              · rfl
              · exact absurd ⟨hg, h0⟩ hc
            have hx := word_split h64
            rw [hg] at hx
            have w : wd false (mg x) = mg x := rfl
            by_cases hlt : mg x + 1 < INF
            · have hdw := down_word (x := upW x) h.up (by rw [huw, mg_small (by omega)]; omega)
              rw [hdw, huw, ng_small (by omega), mg_small (by omega), if_pos ⟨rfl, by omega⟩]
              omega
            · have e : upW x = INF := by omega
              rw [e, show downW INF = INF - 1 from by decide]
              omega
    · have hm : mg x = INF := by have := isN_false.1 hn; omega
      refine .inr (.inl ⟨finB_false.2 (by omega), eqW_self_true hn, ?_⟩)
      have hx := word_split h64
      rw [hm] at hx
      cases hg : ng x
      · rw [hg] at hx
        have e : x = INF := hx
        left; subst e; decide
      · rw [hg] at hx
        have e : x = 2 ^ 63 + INF := hx
        right; subst e; decide
  · left
    refine ⟨finB_false.2 (by have := isN_true.1 hn; omega), eqW_self_false hn, ?_, ?_⟩
    · unfold upW; rw [hn, if_pos rfl]; decide
    · unfold downW; rw [hn, if_pos rfl]; decide
end TF
