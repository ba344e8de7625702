/- Nearest whole numbers, clamps and fills as plain functions of words. -/
import Derived.Test.YtneedadoafcfcaaLevG
namespace TF
open Ieee Go Go.RowKit

theorem V_half2 : V 4602678819172646912 * 2 = Q := by rw [Nat.mul_comm]; exact V_half
theorem V_two63 : V 4890909195324358656 = 2 ^ 63 * Q := by
  have h : V ((T + 11) * 2 ^ 52 + 2 ^ 52) = 2 ^ 63 * Q := by
    rw [V_block (D := T + 11) (k := 2 ^ 52) (Nat.le_refl _) (by omega)]
    unfold Q
    rw [Nat.pow_add, ← Nat.mul_assoc, Nat.mul_right_comm, ← Nat.pow_add]
  rw [← h]; rfl
/-- the ways through near, of a magnitude below 2^63. -/
theorem near_ways {a : Nat} (h : a < 4890909195324358656) : ∃ r k : Nat, k < 9223372036854775808 ∧ floatToIntVal .f64 (flW a) .u64 = some (k : Int) ∧ floatBits .sub .f64 a (flW a) = some r ∧ nr (V a) < 9223372036854775808 ∧
    ((ltW 4602678819172646912 r = true ∧ nr (V a) = k + 1) ∨ (ltW 4602678819172646912 r = false ∧
      ((eqW r 4602678819172646912 = true ∧ ((k % 2 = 1 ∧ nr (V a) = k + 1) ∨ (k % 2 = 0 ∧ nr (V a) = k))) ∨ (eqW r 4602678819172646912 = false ∧ nr (V a) = k)))) := by
  have hI := INF_lt
  have hI' := INF_eq
  have hm : mg a = a := mg_small (by omega)
  have hn : ng a = false := ng_small (by omega)
  have hf : mg a < INF := by omega
  obtain ⟨f1, f2, f3, f4⟩ := fl_pos hf hn
  rw [hm] at f1 f4
  have hff : mg (flW a) < INF := by omega
  have f64' : flW a < 2 ^ 64 := by rw [f3]; omega
  have hV := V_lt h
  rw [V_two63] at hV
  have hk : V a / Q < 2 ^ 63 := (Nat.div_lt_iff_lt_mul Q_pos).2 hV
  have hn63 := nr_lt (r := a) (b := 2 ^ 63) (by omega) hV
  have hdm := Nat.div_add_mod (V a) Q
  rw [Nat.mul_comm] at hdm
  have hrl := Nat.mod_lt (V a) Q_pos
  have hrr := rep_rest a
  have hia : iv a = V a := by unfold iv; rw [hn, hm]; simp
  have hif : iv (flW a) = (V a / Q * Q : Nat) := by unfold iv; rw [f2, f4]; simp
  have hsub := sub_word hf f64' hff
  rw [hn, hia, hif, show (V a : Int) - ((V a / Q * Q : Nat) : Int) = ((V a % Q : Nat) : Int) from by omega] at hsub
  refine ⟨_, V a / Q, hk, ?_, hsub, hn63, ?_⟩
  · have ht := toInt_zero hff
    rw [f2, f4, Nat.mul_div_cancel _ Q_pos] at ht
    unfold floatToIntVal
    rw [ht]
    simp only
    rw [if_neg Bool.false_ne_true, if_pos]
    revert hk
    generalize V a / Q = k
    intro hk
    exact ⟨by show (0 : Int) ≤ _; omega, by show _ ≤ (18446744073709551615 : Int); omega⟩
  · have hnr : nr (V a) = if Q < 2 * (V a % Q) ∨ (2 * (V a % Q) = Q ∧ V a / Q % 2 = 1) then V a / Q + 1 else V a / Q := rfl
    have h2 := V_half2
    have hr : rnd ((V a % Q : Nat) : Int).natAbs < INF := by
      refine Nat.lt_of_le_of_lt (rnd_le_of (r := a) ?_) (by omega)
      have := Nat.mod_le (V a) Q
      omega
    have hiv := iv_rw (z := false) hr
    rw [rI_rep (by rw [Int.natAbs_natCast]; exact hrr)] at hiv
    have hih : iv 4602678819172646912 = V 4602678819172646912 := by
      unfold iv
      rw [show ng 4602678819172646912 = false from by decide, show mg 4602678819172646912 = 4602678819172646912 from by decide]; rfl
    have l1 : ltW 4602678819172646912 (rw' (false && !ng (flW a)) ((V a % Q : Nat) : Int)) = decide (Q < 2 * (V a % Q)) := by
      rw [Bool.false_and, ltW_rk (by decide) (isN_false.2 (by rw [mg_rw]; omega)), decide_eq_decide, ← rk_lt_of, hih, hiv]
      omega
    have l2 : eqW (rw' (false && !ng (flW a)) ((V a % Q : Nat) : Int)) 4602678819172646912 = decide (2 * (V a % Q) = Q) := by
      rw [Bool.false_and, eqW_rk (isN_false.2 (by rw [mg_rw]; omega)) (by decide), decide_eq_decide, ← rk_eq_of, hih, hiv]
      omega
    rw [l1, l2, hnr]
    clear l1 l2 hnr hiv hr hsub hdm hif f4 hk hV
    generalize V a / Q = k at *
    generalize V a % Q = x at *
    generalize Q = q at *
    by_cases c1 : q < 2 * x
    · left; rw [if_pos (.inl c1)]; exact ⟨decide_eq_true c1, rfl⟩
    · right
      refine ⟨decide_eq_false c1, ?_⟩
      by_cases c2 : 2 * x = q
      · left
        refine ⟨decide_eq_true c2, ?_⟩
        by_cases c3 : k % 2 = 1
        · left; rw [if_pos (.inr ⟨c2, c3⟩)]; exact ⟨c3, rfl⟩
        · right; rw [if_neg (by omega)]; exact ⟨by omega, rfl⟩
      · right; rw [if_neg (by omega)]; exact ⟨decide_eq_false c2, rfl⟩

/-- Clamp. -/
def clampI (x : Nat) (most : Int) : Int := if isN x then 0 else if ltW x 0 then -(min (max most 0) (nr (V (mg x)))) else min (max most 0) (nr (V (mg x)))
theorem ltW_nought (x : Nat) : ltW x 0 = (!isN x && ng x && !decide (mg x = 0)) := by
  unfold ltW
  rw [isN_zero, show rk 0 = 0 from by decide]
  unfold rk
  by_cases hg : ng x = true
  · rw [hg]
    by_cases h0 : mg x = 0
    · simp [h0]
    · simp [h0]; intro _; omega
  · rw [Bool.not_eq_true] at hg
    rw [hg]; simp
theorem clamp_far {x : Nat} {most : Int} (h : 4890909195324358656 ≤ mg x) (hm : most ≤ 9223372036854775807) : min (max most 0) (nr (V (mg x)) : Int) = max most 0 := by
  have h1 := V_le h
  rw [V_two63] at h1
  have h2 : 2 ^ 52 * Q ≤ V (mg x) := Nat.le_trans (Nat.mul_le_mul_right _ (by omega)) h1
  have h3 : 2 ^ 63 ≤ V (mg x) / Q := by
    have := Nat.div_le_div_right (c := Q) h1
    rwa [Nat.mul_div_cancel _ Q_pos] at this
  rw [nr_great h2]
  revert h3
  generalize V (mg x) / Q = k
  intro h3; omega
theorem clamp_ways (x : Nat) (most : Int) (hm : most ≤ 9223372036854775807) :
    (eqW x x = false ∧ clampI x most = 0) ∨ (eqW x x = true ∧ ((ltW (mg x) 4890909195324358656 = false ∧ ((ltW x 0 = true ∧ clampI x most = -(max most 0)) ∨ (ltW x 0 = false ∧ clampI x most = max most 0))) ∨
      (ltW (mg x) 4890909195324358656 = true ∧ mg x < 4890909195324358656 ∧ ((ltW x 0 = true ∧ clampI x most = -(min (max most 0) (nr (V (mg x))))) ∨ (ltW x 0 = false ∧ clampI x most = min (max most 0) (nr (V (mg x)))))))) := by
  have hI := INF_lt
  unfold clampI
  rw [eqW_self]
  cases hx : isN x with
  | true => left; exact ⟨rfl, if_pos rfl⟩
  | false =>
    right
    refine ⟨rfl, ?_⟩
    have hx' := isN_false.1 hx
    have hmm : mg (mg x) = mg x := mg_small (by have := mg_lt x; omega)
    have hr1 : rk (mg x) = mg x := by unfold rk; rw [hmm, ng_small (mg_lt x)]; rfl
    have hl : ltW (mg x) 4890909195324358656 = decide (mg x < 4890909195324358656) := by
      rw [ltW_rk (isN_false.2 (by omega)) (by decide), hr1, show rk 4890909195324358656 = 4890909195324358656 from by decide, decide_eq_decide]
      omega
    rw [hl, if_neg Bool.false_ne_true]
    by_cases hlt : mg x < 4890909195324358656
    · right
      refine ⟨decide_eq_true hlt, hlt, ?_⟩
      cases ltW x 0
      · exact .inr ⟨rfl, if_neg Bool.false_ne_true⟩
      · exact .inl ⟨rfl, if_pos rfl⟩
    · left
      refine ⟨decide_eq_false hlt, ?_⟩
      rw [clamp_far (by omega) hm]
      cases ltW x 0
      · exact .inr ⟨rfl, if_neg Bool.false_ne_true⟩
      · exact .inl ⟨rfl, if_pos rfl⟩

/-- Fill: how far the level is above the bed, the water that this is. -/
def highW (bed level : Nat) : Nat := if mg bed < INF ∧ mg level < INF then min (rnd (iv level - iv bed).natAbs) INF else INF
def poolW (bed : Nat) (area : Int) (level : Nat) : Nat := if highW bed level = INF then INF else min (rnd2 (V (highW bed level) * V (rnd (area.natAbs * Q)))) INF
def fillW (bed : Nat) (area : Int) (level : Nat) : Int := if ltW bed level = true ∧ 1 ≤ area then min 4503599627370496 (nr (V (poolW bed area level)) : Int) else 0
theorem lt_iv {a b : Nat} (h : ltW a b = true) : isN a = false ∧ isN b = false ∧ rk a < rk b := by
  unfold ltW at h
  cases ha : isN a <;> cases hb : isN b <;> simp_all
theorem pool_le (bed : Nat) (area : Int) (level : Nat) : poolW bed area level ≤ INF := by unfold poolW; split <;> omega
theorem fill_ways {bed level : Nat} (h64 : W64 bed) {area : Int} (h : ltW bed level = true) (h1 : 1 ≤ area) (h2 : area ≤ 9223372036854775807) :
    ∃ r p : Nat, floatBits .sub .f64 level bed = some r ∧ floatBits .mul .f64 r (floatOfInt .f64 area) = some p ∧ clampI p 4503599627370496 = fillW bed area level := by
  have hI := INF_lt
  have hI' := INF_eq
  have h64' : bed < 2 ^ 64 := h64
  obtain ⟨n1, n2, hlt⟩ := lt_iv h
  have n1' := isN_false.1 n1
  have n2' := isN_false.1 n2
  have A := fi_is (n := area) (by omega) h2
  have hA := A.lo (by omega)
  have hq := Q_pos
  have hsub : double.sub level bed = some (wd false (highW bed level)) ∧ 0 < highW bed level ∧ highW bed level ≤ INF := by
    rw [sub_eq h64']
    have om := mg_op h64'
    have on := ng_op h64'
    by_cases hb : mg bed < INF
    · by_cases hl : mg level < INF
      · rw [← sub_eq h64', sub_word hl h64' hb]
        have hi := rk_lt_of.2 hlt
        have e : highW bed level = min (rnd (iv level - iv bed).natAbs) INF := if_pos ⟨hb, hl⟩
        have h3 : rnd (iv level - iv bed).natAbs ≠ 0 := fun h => by rw [rnd_eq_zero] at h; omega
        rw [e]
        refine ⟨?_, by omega, by omega⟩
        unfold rw'
        rw [if_neg (by omega), decide_eq_false (by omega)]
      · have hl' : mg level = INF := by omega
        have e : highW bed level = INF := if_neg (fun hc => hl hc.2)
        rw [add_inf_fin hl' (by rw [om]; exact hb), e]
        refine ⟨?_, by omega, by omega⟩
        have : ng level = false := by
          cases hg : ng level
          · rfl
          · unfold rk at hlt; rw [hg, hl'] at hlt; simp only [if_true] at hlt
            split at hlt <;> omega
        rw [this]
    · have hb' : mg bed = INF := by omega
      have e : highW bed level = INF := if_neg (fun hc => hb hc.1)
      have hgb : ng bed = true := by
        cases hg : ng bed
        · unfold rk at hlt; rw [hg, hb'] at hlt; simp only [Bool.false_eq_true, if_false] at hlt
          split at hlt <;> omega
        · rfl
      by_cases hl : mg level < INF
      · rw [add_fin_inf hl (by rw [om]; exact hb'), on, hgb, e]; exact ⟨rfl, by omega, by omega⟩
      · have hl' : mg level = INF := by omega
        have hgl : ng level = false := by
          cases hg : ng level
          · rfl
          · unfold rk at hlt; rw [hg, hl', hgb, hb'] at hlt; simp only [if_true] at hlt; omega
        rw [add_inf_inf hl' (by rw [om]; exact hb') (by rw [on, hgb, hgl]; rfl), hgl, e]; exact ⟨rfl, by omega, by omega⟩
  obtain ⟨hs, hpos, hle⟩ := hsub
  have hmh : mg (wd false (highW bed level)) = highW bed level := mg_wd (by omega)
  have hnh : ng (wd false (highW bed level)) = false := ng_wd (by omega)
  have hmul : double.mul (wd false (highW bed level)) (floatOfInt .f64 area) = some (wd false (poolW bed area level)) := by
    rw [A.eq]
    unfold poolW
    by_cases hc : highW bed level = INF
    · have hz : mg (rnd (area.natAbs * Q)) ≠ 0 := by
        rw [A.self]; intro h0; rw [h0, V_zero] at hA; omega
      rw [mul_inf_fin (by rw [hmh]; exact hc) A.fin, if_neg hz, hnh, A.pos, if_pos hc]; rfl
    · rw [mul_fin (by rw [hmh]; omega) A.fin, hmh, hnh, A.self, A.pos, if_neg hc]; rfl
  refine ⟨_, _, hs, hmul, ?_⟩
  have hp := pool_le bed area level
  have hmp : mg (wd false (poolW bed area level)) = poolW bed area level := mg_wd (by omega)
  have hnp : ng (wd false (poolW bed area level)) = false := ng_wd (by omega)
  have hfill : fillW bed area level = min 4503599627370496 (nr (V (poolW bed area level)) : Int) := if_pos ⟨h, h1⟩
  rw [hfill]
  unfold clampI
  rw [ltW_nought, not_nan_word hp, hmp, hnp]
  simp only [Bool.false_eq_true, if_false, Bool.and_false, Bool.false_and]
  rfl
theorem fill_none {bed level : Nat} {area : Int} (h : ltW bed level = false ∨ area < 1) : fillW bed area level = 0 := by
  unfold fillW
  rw [if_neg]
  rintro ⟨h1, h2⟩
  rcases h with h | h
  · rw [h1] at h; exact absurd h (by decide)
  · omega
theorem fill_bound (bed : Nat) (area : Int) (level : Nat) : 0 ≤ fillW bed area level ∧ fillW bed area level ≤ 4503599627370496 := by
  unfold fillW; split <;> omega
theorem pool_mono {b1 b2 l1 l2 : Nat} {area : Int} (h : highW b1 l1 ≤ highW b2 l2) : poolW b1 area l1 ≤ poolW b2 area l2 := by
  unfold poolW
  have hle : highW b2 l2 ≤ INF := by unfold highW; split <;> omega
  by_cases h1 : highW b2 l2 = INF
  · rw [if_pos h1]; split <;> omega
  · rw [if_neg h1, if_neg (by omega)]
    have : rnd2 (V (highW b1 l1) * V (rnd (area.natAbs * Q))) ≤ rnd2 (V (highW b2 l2) * V (rnd (area.natAbs * Q))) :=
      (near_rnd2 _).le_of Q_pos Q_pos (near_rnd2 _) (Nat.mul_le_mul_right _ (Nat.mul_le_mul_right _ (V_le h)))
    omega
theorem fill_up {bed l1 l2 : Nat} {area : Int} (h : leW l1 l2 = true) : fillW bed area l1 ≤ fillW bed area l2 := by
  unfold leW at h
  by_cases hc : ltW bed l1 = true ∧ 1 ≤ area
  · obtain ⟨n1, n2, hlt⟩ := lt_iv hc.1
    have n3 : isN l2 = false := by cases hh : isN l2 <;> simp_all
    have hr : rk l1 ≤ rk l2 := by simpa [n2, n3] using h
    have h2 : ltW bed l2 = true := by rw [ltW_rk n1 n3]; exact decide_eq_true (by omega)
    unfold fillW
    rw [if_pos hc, if_pos ⟨h2, hc.2⟩]
    have : highW bed l1 ≤ highW bed l2 := by
      unfold highW
      by_cases hd : mg bed < INF ∧ mg l2 < INF
      · rw [if_pos hd]
        have hl : mg l1 < INF := by
          have a := isN_false.1 n2
          rcases Nat.lt_or_ge (mg l1) INF with h | h
          · exact h
          · have e : mg l1 = INF := by omega
            unfold rk at hr hlt; rw [e] at hr hlt
            split at hr <;> split at hr <;> split at hlt <;> simp_all <;> omega
        rw [if_pos ⟨hd.1, hl⟩]
        have a1 := rk_lt_of.2 hlt
        have a2 : iv l1 ≤ iv l2 := by
          rcases Int.lt_or_eq_of_le hr with h | h
          · exact Int.le_of_lt (rk_lt_of.2 h)
          · exact Int.le_of_eq (rk_eq_of.2 h)
        have := rnd_mono (show (iv l1 - iv bed).natAbs ≤ (iv l2 - iv bed).natAbs by omega)
        omega
      · rw [if_neg hd]; split <;> omega
    have := nr_mono (V_le (pool_mono (area := area) this))
    omega
  · rw [show fillW bed area l1 = 0 from if_neg hc]; exact (fill_bound ..).1
theorem fill_high {b1 b2 l : Nat} {area : Int} (h : leW b1 b2 = true) : fillW b2 area l ≤ fillW b1 area l := by
  unfold leW at h
  by_cases hc : ltW b2 l = true ∧ 1 ≤ area
  · obtain ⟨n1, n2, hlt⟩ := lt_iv hc.1
    have n3 : isN b1 = false := by cases hh : isN b1 <;> simp_all
    have hr : rk b1 ≤ rk b2 := by simpa [n1, n3] using h
    have h2 : ltW b1 l = true := by rw [ltW_rk n3 n2]; exact decide_eq_true (by omega)
    unfold fillW
    rw [if_pos hc, if_pos ⟨h2, hc.2⟩]
    have : highW b2 l ≤ highW b1 l := by
      unfold highW
      by_cases hd : mg b1 < INF ∧ mg l < INF
      · rw [if_pos hd]
        have hl : mg b2 < INF := by
          have a := isN_false.1 n1
          rcases Nat.lt_or_ge (mg b2) INF with h | h
          · exact h
          · have e : mg b2 = INF := by omega
            unfold rk at hr hlt; rw [e] at hr hlt
            split at hr <;> split at hr <;> split at hlt <;> simp_all <;> omega
        rw [if_pos ⟨hl, hd.2⟩]
        have a1 := rk_lt_of.2 hlt
        have a2 : iv b1 ≤ iv b2 := by
          rcases Int.lt_or_eq_of_le hr with h | h
          · exact Int.le_of_lt (rk_lt_of.2 h)
          · exact Int.le_of_eq (rk_eq_of.2 h)
        have := rnd_mono (show (iv l - iv b2).natAbs ≤ (iv l - iv b1).natAbs by omega)
        omega
      · rw [if_neg hd]; split <;> omega
    have := nr_mono (V_le (pool_mono (area := area) this))
    omega
  · rw [show fillW b2 area l = 0 from if_neg hc]; exact (fill_bound ..).1
end TF
