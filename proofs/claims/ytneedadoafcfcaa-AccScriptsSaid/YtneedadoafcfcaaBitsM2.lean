/- The statements BitsUlp and BitsNeighbours over words. -/
import Derived.Test.YtneedadoafcfcaaBitsL
import Derived.Test.YtneedadoafcfcaaFloatD
namespace TF
open Ieee Go Go.RowKit

theorem wd_false (r : Nat) : wd false r = r := rfl
theorem rk_pos {r : Nat} (h : r < 2 ^ 63) : rk r = r := rk_small h
theorem rw_pos {z : Bool} {n r : Nat} (h0 : 0 < n) (h : rnd n = r) (hr : r < INF) : rw' z (n : Int) = r := by
  unfold rw'
  rw [if_neg (by omega), Int.natAbs_natCast, h, Nat.min_eq_left (by omega), decide_eq_false (by omega)]; rfl
theorem rw_posI {z : Bool} {n r : Nat} (h0 : 0 < n) (h : rnd n = r) (hr : r ≤ INF) : rw' z (n : Int) = r := by
  unfold rw'
  rw [if_neg (by omega), Int.natAbs_natCast, h, Nat.min_eq_left (by omega), decide_eq_false (by omega)]; rfl
theorem ulpW_op {x : Nat} (h : W64 x) : ulpW (op x) = ulpW x := by unfold ulpW; rw [mg_op h, isN_op h]
theorem ulpW_fin {x : Nat} (h : mg x + 1 < INF) : ulpW x = rnd (2 ^ E (mg x)) := by
  have hI := INF_eq
  unfold ulpW
  rw [isN_false.2 (by omega), if_neg Bool.false_ne_true, if_neg (by omega), (sub_step h).1]; rfl
theorem ltW_zero {x : Nat} (hn : isN x = false) : ltW x 0 = (ng x && decide (mg x ≠ 0)) := by
  unfold ltW; rw [hn, isN_zero, show rk 0 = 0 from by decide]
  unfold rk
  by_cases h0 : mg x = 0
  · rw [h0]; cases ng x <;> rfl
  · cases ng x <;> simp [h0] <;> omega
theorem zero_ltW {x : Nat} (hn : isN x = false) : ltW 0 x = (!ng x && decide (mg x ≠ 0)) := by
  unfold ltW; rw [hn, isN_zero, show rk 0 = 0 from by decide]
  unfold rk
  by_cases h0 : mg x = 0
  · rw [h0]; cases ng x <;> rfl
  · cases ng x <;> simp [h0] <;> omega
theorem iv_of_pos {m r : Nat} (hm : mg m = r) (h : ng m = false ∨ r = 0) : iv m = V r := by
  unfold iv
  rw [hm]
  rcases h with h | h
  · rw [h]; simp
  · subst h; rw [V_zero]; split <;> rfl
theorem rk_of_pos {m r : Nat} (hm : mg m = r) (h : ng m = false ∨ r = 0) : rk m = r := by
  unfold rk
  rw [hm]
  rcases h with h | h
  · rw [h]; simp
  · subst h; split <;> rfl
theorem mul_word {a b : Nat} (ha : mg a < INF) (hb : mg b < INF) : floatBits .mul .f64 a b = some (wd (ng a ^^ ng b) (min (rnd2 (V (mg a) * V (mg b))) INF)) := mul_fin ha hb
theorem add_word' {a b : Nat} (ha : mg a < INF) (hb : mg b < INF) : floatBits .add .f64 a b = some (rw' (ng a && ng b) (iv a + iv b)) := add_word ha hb
theorem sub_word' {a b : Nat} (ha : mg a < INF) (hb' : b < 2 ^ 64) (hb : mg b < INF) : floatBits .sub .f64 a b = some (rw' (ng a && !ng b) (iv a - iv b)) := sub_word ha hb' hb
theorem finB_true {x : Nat} : finB x = true ↔ mg x < INF := by simp [finB]
theorem finB_false {x : Nat} : finB x = false ↔ INF ≤ mg x := by simp [finB]

/-- A magnitude m of rung r, its step u, and a quarter of it. -/
theorem ulp_end' {c : Nat} (hc : mg c < INF) (hcn : ng c = false) (hcq : ∀ k, rnd2 (2 ^ k * V (mg c)) = if k < 2 then 0 else rnd (2 ^ (k - 2))) {m r : Nat} (hm64 : W64 m) (hm : mg m = r) (hs : ng m = false ∨ r = 0) (hr : r + 1 < INF) :
    ∃ s q, ltW 0 (rnd (2 ^ E r)) = true ∧ floatBits .add .f64 m (rnd (2 ^ E r)) = some s ∧ eqW s m = false ∧ eqW (upW m) s = true ∧
      floatBits .mul .f64 (rnd (2 ^ E r)) c = some q ∧ floatBits .add .f64 m q = some r ∧ eqW r m = true := by
  have hI := INF_lt
  have hI' := INF_eq
  obtain ⟨_, u2, u3, u4⟩ := sub_step hr
  generalize hu : rnd (2 ^ E r) = u at *
  have hp := Nat.two_pow_pos (E r)
  have mu : mg u = u := mg_small (by omega)
  have nu : ng u = false := ng_small (by omega)
  have im := iv_of_pos hm hs
  have iu : iv u = V u := iv_small (by omega)
  have rm := rk_of_pos hm hs
  have hn : isN m = false := isN_false.2 (by omega)
  have eqr : ∀ a : Nat, a < INF → eqW a m = decide (a = r) := by
    intro a ha
    unfold eqW
    rw [hn, show isN a = false from isN_false.2 (by rw [mg_small (by omega)]; omega), rk_small (by omega), rm]
    simp; omega
  have hs1 : floatBits .add .f64 m u = some (r + 1) := by
    rw [add_word' (by omega) (by omega), im, iu, u2]
    congr 1
    have := V_succ r
    rw [show ((V r : Nat) : Int) + ((2 ^ E r : Nat) : Int) = ((V (r + 1) : Nat) : Int) from by omega]
    exact rw_pos (by omega) (rnd_V _) (by omega)
  have hup : upW m = r + 1 := by
    have h64 : m < 2 ^ 64 := hm64
    unfold upW
    rw [hn, if_neg Bool.false_ne_true]
    rcases hs with hs | hs
    · rw [ng_false_iff h64] at hs
      have : m = r := by rw [← hm]; exact (mg_small hs).symm
      subst this
      rw [if_neg (by omega), hm]
      split
      · omega
      · rw [if_neg (by omega)]
    · subst hs
      rw [if_neg (by intro e; subst e; revert hm; decide), if_pos hm]
  have hq := hcq (E r)
  have hmq : floatBits .mul .f64 u c = some (if E r < 2 then 0 else rnd (2 ^ (E r - 2))) := by
    rw [mul_word (by omega) hc, mu, u2, hq, nu, hcn]
    congr 1
    split
    · rfl
    · rename_i h2
      have : rnd (2 ^ (E r - 2)) ≤ u := by rw [← hu]; exact rnd_mono (Nat.pow_le_pow_right (by omega) (by omega))
      rw [Nat.min_eq_left (by omega)]; rfl
  refine ⟨r + 1, _, ?_, hs1, ?_, ?_, hmq, ?_, ?_⟩
  · rw [zero_ltW (isN_false.2 (by omega)), nu, mu]; simp; omega
  · rw [eqr _ (by omega)]; simp
  · rw [hup]; exact eqW_self_true (isN_false.2 (by rw [mg_small (by omega)]; omega))
  · by_cases h2 : E r < 2
    · rw [if_pos h2, add_word' (by omega) (by decide), im, show iv 0 = 0 from by decide, show ng 0 = false from rfl, Int.add_zero, Bool.and_false]
      congr 1
      by_cases h0 : r = 0
      · subst h0; decide
      · exact rw_pos (by have := V_lt (show 0 < r by omega); rw [V_zero] at this; omega) (rnd_V _) (by omega)
    · rw [if_neg h2]
      have hle : rnd (2 ^ (E r - 2)) ≤ u := by rw [← hu]; exact rnd_mono (Nat.pow_le_pow_right (by omega) (by omega))
      rw [add_word' (by omega) (by rw [mg_small (by omega)]; omega), im, iv_small (by omega), rnd_pow]
      congr 1
      have hp2 := Nat.two_pow_pos (E r - 2)
      rw [show ((V r : Nat) : Int) + ((2 ^ (E r - 2) : Nat) : Int) = ((V r + 2 ^ (E r - 2) : Nat) : Int) from by omega]
      exact rw_pos (by omega) (rnd_quarter_step (by omega)) (by omega)
  · rw [eqr _ (by omega)]; simp

theorem ulp_end {m r : Nat} (hm64 : W64 m) (hm : mg m = r) (hs : ng m = false ∨ r = 0) (hr : r + 1 < INF) :
    ∃ s q, ltW 0 (rnd (2 ^ E r)) = true ∧ floatBits .add .f64 m (rnd (2 ^ E r)) = some s ∧ eqW s m = false ∧ eqW (upW m) s = true ∧
      floatBits .mul .f64 (rnd (2 ^ E r)) 4598175219545276416 = some q ∧ floatBits .add .f64 m q = some r ∧ eqW r m = true :=
  ulp_end' (c := 4598175219545276416) (by decide) (by decide) (fun k => by rw [show mg 4598175219545276416 = 4598175219545276416 from by decide]; exact rnd2_quarter k) hm64 hm hs hr

theorem ng_up {x : Nat} (h : W64 x) (hn : isN x = false) (h1 : mg x + 1 = INF) : (ng x = false ∧ finB (upW x) = false) ∨ (ng x = true ∧ finB (upW x) = true ∧ finB (downW x) = false) := by
  have h64 : x < 2 ^ 64 := h
  have hI := INF_eq
  have hI' := INF_lt
  have up_pos : ∀ y : Nat, y < 2 ^ 63 → mg y + 1 = INF → upW y = INF := by
    intro y hy h1
    rw [mg_small hy] at h1
    unfold upW
    rw [show isN y = false from isN_false.2 (by rw [mg_small hy]; omega), if_neg Bool.false_ne_true, if_neg (by omega), mg_small hy, if_neg (by omega), if_neg (by omega)]; omega
  cases hg : ng x
  · rw [ng_false_iff h64] at hg
    exact .inl ⟨rfl, by rw [up_pos x hg h1]; decide⟩
  · refine .inr ⟨rfl, ?_, ?_⟩
    · rw [ng_iff h64] at hg
      have hm : mg x = x - 2 ^ 63 := by unfold mg; omega
      unfold upW
      rw [hn, if_neg Bool.false_ne_true, if_neg (by omega), if_neg (by omega), if_pos (by omega), finB_true]
      unfold mg; omega
    · unfold downW
      rw [hn, if_neg Bool.false_ne_true]
      have : op x = mg x := by
        rw [word_split (op_lt h64), mg_op h64, ng_op h64, hg]; rfl
      rw [this, up_pos (mg x) (mg_lt x) (by rw [mg_small (mg_lt x)]; exact h1)]
      decide

theorem double_ways {x : Nat} (hr : mg x + 1 < INF) : ((classW x == 2) = false) ∨ (classW x = 2 ∧ ∃ d, W64 d ∧ floatBits .mul .f64 4611686018427387904 x = some d ∧
    (finB d = false ∨ (finB d = true ∧ (finB (ulpW d) = false ∨ (finB (ulpW d) = true ∧ ∃ e, floatBits .mul .f64 4611686018427387904 (ulpW x) = some e ∧ sameB (ulpW d) e = true))))) := by
  have hI := INF_eq
  have hI' := INF_lt
  by_cases hc : classW x = 2
  · refine .inr ⟨hc, ?_⟩
    have hm : 2 ^ 52 ≤ mg x := by
      unfold classW at hc
      refine Classical.byContradiction fun hlt => ?_
      by_cases h0 : mg x = 0
      · rw [if_pos h0] at hc; omega
      · rw [if_neg h0, if_pos (by omega)] at hc; omega
    have hd : floatBits .mul .f64 4611686018427387904 x = some (wd (ng x) (min (mg x + 2 ^ 52) INF)) := by
      rw [mul_word (by decide) (by omega), show mg 4611686018427387904 = 4611686018427387904 from by decide, rnd2_two, V_double hm, rnd_V, show ng 4611686018427387904 = false from by decide, Bool.false_xor]
    have hmn : min (mg x + 2 ^ 52) INF < 2 ^ 63 := by omega
    refine ⟨_, wd_lt hmn, hd, ?_⟩
    by_cases hf : mg x + 2 ^ 52 < INF
    · refine .inr ⟨by rw [finB_true, mg_wd hmn]; omega, ?_⟩
      have hmin : min (mg x + 2 ^ 52) INF = mg x + 2 ^ 52 := by omega
      rw [hmin]
      by_cases hf2 : mg x + 2 ^ 52 + 1 < INF
      · have hE : E (mg x + 2 ^ 52) = E (mg x) + 1 := by unfold E; omega
        have hu : ulpW (wd (ng x) (mg x + 2 ^ 52)) = rnd (2 ^ (E (mg x) + 1)) := by
          rw [ulpW_fin (by rw [mg_wd (by omega)]; exact hf2), mg_wd (by omega), hE]
        have hlt : rnd (2 ^ (E (mg x) + 1)) < INF := by
          have := sub_step hf2; rw [hE] at this; omega
        refine .inr ⟨by rw [hu, finB_true, mg_small (by omega)]; exact hlt, rnd (2 ^ (E (mg x) + 1)), ?_, by rw [hu]; exact sameB_self _⟩
        have us := sub_step hr
        rw [ulpW_fin hr, mul_word (by decide) (by rw [mg_small (by omega)]; omega), mg_small (r := rnd (2 ^ E (mg x))) (by omega), show mg 4611686018427387904 = 4611686018427387904 from by decide, rnd2_two, us.2.1, show 2 * 2 ^ E (mg x) = 2 ^ (E (mg x) + 1) from by rw [Nat.pow_succ]; omega, Nat.min_eq_left (by omega), show ng 4611686018427387904 = false from by decide, ng_small (r := rnd (2 ^ E (mg x))) (by omega)]
        rfl
      · refine .inl ?_
        have : ulpW (wd (ng x) (mg x + 2 ^ 52)) = 9218868437227405312 := by
          unfold ulpW
          rw [show isN (wd (ng x) (mg x + 2 ^ 52)) = false from isN_false.2 (by rw [mg_wd (by omega)]; omega), if_neg Bool.false_ne_true, mg_wd (by omega), if_pos (by omega)]
        rw [this]; decide
    · exact .inl (by rw [finB_false, mg_wd hmn]; omega)
  · exact .inl (by simp [hc])

theorem ulp_ways {x : Nat} (h : W64 x) : (eqW x x = false ∧ sameB (ulpW x) 9221120237041090561 = true) ∨ (eqW x x = true ∧
    ((finB (ulpW x) = false ∧ (finB x = false ∨ (finB x = true ∧ (finB (upW x) = false ∨ (finB (upW x) = true ∧ finB (downW x) = false))))) ∨
     (finB (ulpW x) = true ∧ mg x + 1 < INF ∧ ∃ m s q, ((ltW x 0 = true ∧ op x = m) ∨ (ltW x 0 = false ∧ m = x)) ∧ W64 m ∧ ltW 0 (ulpW x) = true ∧ floatBits .add .f64 m (ulpW x) = some s ∧ eqW s m = false ∧ eqW (upW m) s = true ∧
      floatBits .mul .f64 (ulpW x) 4598175219545276416 = some q ∧ floatBits .add .f64 m q = some (mg x) ∧ eqW (mg x) m = true))) := by
  have hI := INF_eq
  have h64 : x < 2 ^ 64 := h
  cases hn : isN x
  · refine .inr ⟨eqW_self_true hn, ?_⟩
    have hm := isN_false.1 hn
    by_cases h1 : mg x + 1 < INF
    · refine .inr ⟨?_, h1, ?_⟩
      · rw [ulpW_fin h1, finB_true, mg_small (by have := INF_lt; have := (sub_step h1).2.2.1; omega)]; exact (sub_step h1).2.2.1
      · rw [ulpW_fin h1, ltW_zero hn]
        cases hg : ng x
        · obtain ⟨s, q, e⟩ := ulp_end h rfl (.inl hg) h1
          exact ⟨x, s, q, .inr ⟨rfl, rfl⟩, h, e⟩
        · by_cases h0 : mg x = 0
          · obtain ⟨s, q, e⟩ := ulp_end h rfl (.inr h0) h1
            exact ⟨x, s, q, .inr ⟨by simp [h0], rfl⟩, h, e⟩
          · obtain ⟨s, q, e⟩ := ulp_end (m := op x) h.op (r := mg x) (mg_op h64) (.inl (by rw [ng_op h64, hg]; rfl)) h1
            exact ⟨op x, s, q, .inl ⟨by simp [h0], rfl⟩, h.op, e⟩
    · refine .inl ⟨?_, ?_⟩
      · have : ulpW x = 9218868437227405312 := by unfold ulpW; rw [hn, if_neg Bool.false_ne_true, if_pos (by omega)]
        rw [this]; decide
      · by_cases h2 : mg x = INF
        · exact .inl (by rw [finB_false]; omega)
        · refine .inr ⟨by rw [finB_true]; omega, ?_⟩
          rcases ng_up h hn (by omega) with ⟨_, e⟩ | ⟨_, e⟩
          · exact .inl e
          · exact .inr e
  · exact .inl ⟨eqW_self_false hn, by unfold ulpW; rw [hn, if_pos rfl]; decide⟩
end TF
