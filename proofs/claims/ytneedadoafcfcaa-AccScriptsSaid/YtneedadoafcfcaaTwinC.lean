/- Sum of two words: the program's three operations and the reference's whole numbers both give the exact rest. -/
import Derived.Test.YtneedadoafcfcaaTwinB
import Derived.Test.YtneedadoafcfcaaBitsN
namespace TF
open Ieee Go Go.RowKit

theorem canon_rw (z : Bool) (n : Int) : canonW (rw' z n) = rw' false n := by
  have hI := INF_lt
  by_cases h : n = 0
  · subst h
    unfold rw'
    rw [if_pos rfl, if_pos rfl, show min (rnd (Int.natAbs 0)) INF = 0 from by decide]
    cases z <;> decide
  · have h0 : rnd n.natAbs ≠ 0 := by rw [Ne, rnd_eq_zero]; omega
    have hm := mg_rw z n
    rw [canonW_word (isN_false.2 (by rw [hm]; omega)) (by rw [hm]; have := INF_eq; omega)]
    unfold rw'
    rw [if_neg h, if_neg h]

/-- What Sum answers. -/
def sumW (a b : Nat) : Nat × Nat :=
  match double.add a b with
  | none => (9221120237041090561, 0)
  | some s => if mg s < INF then (canonW s, rw' false (iv a + iv b - iv s)) else (canonW s, 0)

theorem add_fin_of {a b s : Nat} (h : double.add a b = some s) (hs : mg s < INF) : mg a < INF ∧ mg b < INF ∧ s = rw' (ng a && ng b) (iv a + iv b) ∧ rnd (iv a + iv b).natAbs < INF ∧ iv s = rI (iv a + iv b) := by
  have hI := INF_lt
  have key : mg a < INF ∧ mg b < INF := by
    by_cases ha : mg a < INF
    · by_cases hb : mg b < INF
      · exact ⟨ha, hb⟩
      · by_cases hb' : mg b = INF
        · rw [add_fin_inf ha hb'] at h
          cases h; rw [mg_wd hI] at hs; omega
        · rw [add_nan_right (by omega)] at h; cases h
    · by_cases ha' : mg a = INF
      · by_cases hb : mg b < INF
        · rw [add_inf_fin ha' hb] at h
          cases h; rw [mg_wd hI] at hs; omega
        · by_cases hb' : mg b = INF
          · by_cases e : ng a = ng b
            · rw [add_inf_inf ha' hb' e] at h
              cases h; rw [mg_wd hI] at hs; omega
            · rw [add_inf_opp ha' hb' e] at h; cases h
          · rw [add_nan_right (by omega)] at h; cases h
      · rw [add_nan_left (by omega)] at h; cases h
  obtain ⟨ha, hb⟩ := key
  rw [add_word ha hb] at h
  cases h
  rw [mg_rw] at hs
  exact ⟨ha, hb, rfl, by omega, iv_rw (by omega)⟩

theorem rep_natAbs_V {x : Int} (h : Rep x.natAbs) : rI x = x := rI_rep h

/-- The two operations behind the first one, x the greater magnitude. -/
theorem sum_steps {x y s : Nat} (hx64 : W64 x) (hy : mg y < INF) (hx : mg x < INF) (hle : mg y ≤ mg x) (hs : mg s < INF) (e : iv s = rI (iv x + iv y)) :
    ∃ t, W64 t ∧ mg t < INF ∧ floatBits .sub .f64 s x = some t ∧ floatBits .sub .f64 y t = some (rw' (ng y && !ng t) (iv x + iv y - iv s)) := by
  obtain ⟨h1, h2, h3, h4⟩ := fast_two_sum (A := iv x) (B := iv y) (iv_natAbs x) (iv_natAbs y) hle
  have ht : floatBits .sub .f64 s x = some (rw' (ng s && !ng x) (iv s - iv x)) := sub_word' hs hx64 hx
  rw [← e] at h1 h2 h3 h4
  have hr : rnd (iv s - iv x).natAbs < INF := by
    have a : (iv s - iv x).natAbs ≤ V (max (mg x) (mg s)) := by
      rw [iv_natAbs, iv_natAbs] at h3
      have := V_le (show mg x ≤ max (mg x) (mg s) by omega)
      have := V_le (show mg s ≤ max (mg x) (mg s) by omega)
      omega
    have := rnd_le_of a
    omega
  have hivt : iv (rw' (ng s && !ng x) (iv s - iv x)) = iv s - iv x := by rw [iv_rw hr, rI_rep h1]
  have hmt : mg (rw' (ng s && !ng x) (iv s - iv x)) < INF := by rw [mg_rw]; omega
  refine ⟨_, rw_lt _ _, hmt, ht, ?_⟩
  rw [sub_word' hy (rw_lt _ _) hmt, hivt, show iv y - (iv s - iv x) = iv x + iv y - iv s from by omega]

/-- The ways through the program's Sum. -/
theorem sum_ways {a b : Nat} (ha : W64 a) (hb : W64 b) : (floatBits .add .f64 a b = none ∧ sumW a b = (9221120237041090561, 0)) ∨
    (∃ s, floatBits .add .f64 a b = some s ∧ finB s = false ∧ sumW a b = (canonW s, 0)) ∨
    (∃ s, floatBits .add .f64 a b = some s ∧ finB s = true ∧ ((ltW (mg a) (mg b) = true ∧ ∃ t e, floatBits .sub .f64 s b = some t ∧ floatBits .sub .f64 a t = some e ∧ sumW a b = (canonW s, canonW e)) ∨
      (ltW (mg a) (mg b) = false ∧ ∃ t e, floatBits .sub .f64 s a = some t ∧ floatBits .sub .f64 b t = some e ∧ sumW a b = (canonW s, canonW e)))) := by
  have hI := INF_lt
  cases h : double.add a b with
  | none => left; exact ⟨h, by unfold sumW; rw [h]⟩
  | some s =>
    right
    by_cases hs : mg s < INF
    · right
      refine ⟨s, h, finB_true.2 hs, ?_⟩
      obtain ⟨hfa, hfb, _, _, hiv⟩ := add_fin_of h hs
      have hlt : ltW (mg a) (mg b) = decide (mg a < mg b) := by
        unfold ltW
        rw [isN_mg, isN_mg, isN_false.2 (by omega), isN_false.2 (by omega), rk_small (mg_lt a), rk_small (mg_lt b)]
        simp
      have hsum : sumW a b = (canonW s, rw' false (iv a + iv b - iv s)) := by unfold sumW; rw [h]; simp only; rw [if_pos hs]
      rw [hlt, hsum]
      by_cases hc : mg a < mg b
      · left
        obtain ⟨t, _, _, h1, h2⟩ := sum_steps (x := b) (y := a) hb hfa hfb (by omega) hs (by rw [hiv, Int.add_comm])
        refine ⟨by simp [hc], t, _, h1, h2, ?_⟩
        rw [canon_rw, Int.add_comm (iv b)]
      · right
        obtain ⟨t, _, _, h1, h2⟩ := sum_steps (x := a) (y := b) ha hfb hfa (by omega) hs hiv
        refine ⟨by simp [hc], t, _, h1, h2, ?_⟩
        rw [canon_rw]
    · left
      exact ⟨s, h, finB_false.2 (by omega), by unfold sumW; rw [h]; simp only; rw [if_neg hs]⟩
theorem sumW_lt (a b : Nat) : W64 (sumW a b).1 ∧ W64 (sumW a b).2 := by
  unfold sumW
  cases h : double.add a b with
  | none => exact ⟨(by decide : (9221120237041090561 : Nat) < 2 ^ 64), (by decide : (0 : Nat) < 2 ^ 64)⟩
  | some s =>
    have hs : W64 s := Format.add_lt double h
    simp only
    split
    · exact ⟨hs.canon, rw_lt _ _⟩
    · exact ⟨hs.canon, (by decide : (0 : Nat) < 2 ^ 64)⟩

/-- Where the lesser one is far below, the sum is the greater one. -/
theorem far_sum {x y : Nat} (h : E (mg y) + 57 ≤ E (mg x)) : rI (iv x + iv y) = iv x := by
  have hVy := V_lt_E (mg y)
  have hp : 2 ^ 57 * 2 ^ E (mg y) ≤ 2 ^ E (mg x) := by
    rw [← Nat.pow_add, Nat.add_comm]; exact Nat.pow_le_pow_right (by omega) h
  have hxn : 2 ^ 52 ≤ mg x := by
    refine Classical.byContradiction fun hc => ?_
    have : E (mg x) = 0 := by unfold E; rw [Nat.div_eq_of_lt (by omega)]
    omega
  have hV : V (mg x) = M (mg x) * 2 ^ E (mg x) := rfl
  have hM : 2 ^ 52 ≤ M (mg x) := by unfold M; rw [if_neg (by omega)]; omega
  have hVx : 2 ^ 52 * 2 ^ E (mg x) ≤ V (mg x) := Nat.mul_le_mul_right _ hM
  have hpos := Nat.two_pow_pos (E (mg x))
  -- the neighbours
  have hs := V_succ (mg x)
  obtain ⟨r, hr⟩ : ∃ r, mg x = r + 1 := ⟨mg x - 1, by omega⟩
  have hs' : V (mg x) = V r + 2 ^ E r := by rw [hr]; exact V_succ r
  have hEr : E (mg x) ≤ E r + 1 := by unfold E; rw [hr]; omega
  have hEp : 2 ^ E (mg x) ≤ 2 * 2 ^ E r := by
    have := Nat.pow_le_pow_right (show 0 < 2 by omega) hEr
    rw [Nat.pow_succ] at this; omega
  have key : ∀ n : Nat, 4 * n < 4 * V (mg x) + 2 ^ E (mg x) → 4 * V (mg x) < 4 * n + 2 ^ E (mg x) → rnd n = mg x := by
    intro n h1 h2
    refine (near_rnd n).unique (by omega) ⟨fun s e => ?_, fun s e hh => ?_, by omega, fun hh => by omega⟩
    · obtain rfl : s = r := by omega
      omega
    · exfalso
      obtain rfl : s = r := by omega
      omega
  have ex := iv_natAbs x
  have ey := iv_natAbs y
  unfold rI
  by_cases hn : iv x + iv y < 0
  · rw [if_pos hn, key _ (by omega) (by omega)]; omega
  · rw [if_neg hn, key _ (by omega) (by omega)]; omega
end TF
