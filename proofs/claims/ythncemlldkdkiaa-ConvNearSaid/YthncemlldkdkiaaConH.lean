/- How far a float is from its whole numbers. -/
import Derived.Test.YthncemlldkdkiaaConG
namespace TF
open Ieee Go Go.RowKit

theorem le_iv {a b : Nat} (ha : mg a < INF) (hb : mg b < INF) : (ltW a b || eqW a b) = decide (iv a ≤ iv b) := by
  unfold ltW eqW
  rw [isN_false.2 (by omega), isN_false.2 (by omega), Bool.eq_iff_iff]
  simp only [Bool.not_false, Bool.true_and, Bool.or_eq_true, decide_eq_true_eq]
  rw [← rk_lt_of, ← rk_eq_of]; omega
theorem ge_iv {a b : Nat} (ha : mg a < INF) (hb : mg b < INF) : (ltW a b || eqW b a) = decide (iv a ≤ iv b) := by
  rw [eq_comm' b a]; exact le_iv ha hb
theorem lt_iv' {a b : Nat} (ha : mg a < INF) (hb : mg b < INF) : ltW a b = decide (iv a < iv b) := by
  unfold ltW
  rw [isN_false.2 (by omega), isN_false.2 (by omega), Bool.eq_iff_iff]
  simp only [Bool.not_false, Bool.true_and, decide_eq_true_eq]
  exact rk_lt_of.symm
theorem eq_iv' {a b : Nat} (ha : mg a < INF) (hb : mg b < INF) : eqW a b = decide (iv a = iv b) := by
  unfold eqW
  rw [isN_false.2 (by omega), isN_false.2 (by omega), Bool.eq_iff_iff]
  simp only [Bool.not_false, Bool.true_and, decide_eq_true_eq]
  exact rk_eq_of.symm
/-- a whole number that is a float's. -/
theorem fint_iv {n : Int} (h : Rep (n.natAbs * Q)) (hb : n.natAbs ≤ 9223372036854775808) : ∃ f : Nat, floatOfInt .f64 n = f ∧ mg f < INF ∧ f < 2 ^ 64 ∧ iv f = n * Q := by
  have hI := INF_eq
  have hV := h.eq
  have hr : rnd (n.natAbs * Q) ≤ 4890909195324358656 := by
    refine V_le_iff.1 ?_
    rw [hV, V_two63']
    exact Nat.mul_le_mul_right _ hb
  have he := fi_eq n
  rw [Nat.min_eq_left (by omega)] at he
  refine ⟨_, he, ?_, wd_lt (by omega), ?_⟩
  · rw [mg_wd (by omega)]; omega
  · unfold iv
    rw [mg_wd (by omega), ng_wd (by omega), hV]
    by_cases hi : n < 0
    · rw [decide_eq_true hi, if_pos rfl, Int.natCast_mul, ← Int.neg_mul]; congr 1; omega
    · rw [decide_eq_false hi, if_neg Bool.false_ne_true, Int.natCast_mul]; congr 1; omega
theorem rep_nr (r : Nat) : Rep (nr (V r) * Q) := by
  have hQ := Q_pos
  rcases Nat.lt_or_ge (V r) (2 ^ 52 * Q) with h | h
  · refine rep_Q ?_
    have : V r / Q < 2 ^ 52 := (Nat.div_lt_iff_lt_mul hQ).2 h
    unfold nr; split <;> omega
  · have h0 := whole_of_great h
    have h2 := Nat.div_add_mod (V r) Q
    rw [h0, Nat.add_zero] at h2
    rw [nr_whole h0, Nat.mul_comm, h2]; exact rep_V r
/-- what is left to the nearest one is a float. -/
theorem rep_up {r : Nat} (h : Q ≤ 2 * (V r % Q)) : Rep (Q - V r % Q) := by
  have hQ := Q_pos
  have hlt : V r % Q < Q := Nat.mod_lt _ hQ
  rcases Nat.lt_or_ge (E r) T with hE | hE
  · have hQs : Q = 2 ^ E r * 2 ^ (T - E r) := Q_split _ _ (by omega)
    have hd : 2 ^ E r ∣ Q := ⟨_, hQs⟩
    have hdv : 2 ^ E r ∣ V r := ⟨M r, by unfold V; rw [Nat.mul_comm]⟩
    have hd2 : 2 ^ E r ∣ V r % Q := (Nat.dvd_mod_iff hd).2 hdv
    refine rep_dvd (D := E r) (Nat.dvd_sub hd hd2) ?_
    rcases Nat.lt_or_ge 53 (T - E r) with hs | hs
    · exfalso
      have h1 := V_lt_E r
      have h2 : V r % Q ≤ V r := Nat.mod_le _ _
      have h3 : 2 ^ 54 * 2 ^ E r ≤ Q := by
        rw [hQs, Nat.mul_comm]; exact Nat.mul_le_mul_left _ (Nat.pow_le_pow_right (by omega) (by omega))
      generalize 2 ^ E r = z at *
      generalize V r % Q = c at *
      generalize Q = q at *
      omega
    · have h3 : Q ≤ 2 ^ 53 * 2 ^ E r := by
        rw [hQs, Nat.mul_comm]; exact Nat.mul_le_mul_right _ (Nat.pow_le_pow_right (by omega) (by omega))
      generalize 2 ^ E r = z at *
      generalize V r % Q = c at *
      generalize Q = q at *
      omega
  · have h0 := (split_high hE).2
    rw [h0] at h; omega
theorem rep_up' {r : Nat} (h : Q ≤ V r) (h0 : V r % Q ≠ 0) : Rep (Q - V r % Q) := by
  have hQ := Q_pos
  have hlt : V r % Q < Q := Nat.mod_lt _ hQ
  rcases Nat.lt_or_ge (E r) T with hE | hE
  · have hQs : Q = 2 ^ E r * 2 ^ (T - E r) := Q_split _ _ (by omega)
    have hd : 2 ^ E r ∣ Q := ⟨_, hQs⟩
    have hdv : 2 ^ E r ∣ V r := ⟨M r, by unfold V; rw [Nat.mul_comm]⟩
    have hd2 : 2 ^ E r ∣ V r % Q := (Nat.dvd_mod_iff hd).2 hdv
    refine rep_dvd (D := E r) (Nat.dvd_sub hd hd2) ?_
    rcases Nat.lt_or_ge 53 (T - E r) with hs | hs
    · exfalso
      have h1 := V_lt_E r
      have h3 : 2 ^ 54 * 2 ^ E r ≤ Q := by
        rw [hQs, Nat.mul_comm]; exact Nat.mul_le_mul_left _ (Nat.pow_le_pow_right (by omega) (by omega))
      generalize 2 ^ E r = z at *
      generalize V r = c at *
      generalize Q = q at *
      omega
    · have h3 : Q ≤ 2 ^ 53 * 2 ^ E r := by
        rw [hQs, Nat.mul_comm]; exact Nat.mul_le_mul_right _ (Nat.pow_le_pow_right (by omega) (by omega))
      generalize 2 ^ E r = z at *
      generalize V r % Q = c at *
      generalize Q = q at *
      omega
  · exact absurd (split_high hE).2 h0
/-- the distance of a magnitude from its nearest whole number. -/
theorem nr_dist (r : Nat) : Rep ((V r : Int) - nr (V r) * (Q : Int)).natAbs ∧ 2 * ((V r : Int) - nr (V r) * (Q : Int)).natAbs ≤ Q ∧ (2 * ((V r : Int) - nr (V r) * (Q : Int)).natAbs = Q → nr (V r) % 2 = 0) := by
  have hQ := Q_pos
  have hlt : V r % Q < Q := Nat.mod_lt _ hQ
  have hdm := Nat.div_add_mod (V r) Q
  have hrest := rep_rest r
  have hup := rep_up (r := r)
  unfold nr
  generalize V r / Q = k at *
  generalize V r % Q = c at *
  rw [← hdm]
  have e1 : ∀ j : Nat, (j : Int) * (Q : Int) = ((Q * j : Nat) : Int) := fun j => by rw [Int.natCast_mul, Int.mul_comm]
  split
  · rename_i hc
    have e2 : (((Q * k + c : Nat) : Int) - ((k + 1 : Nat) : Int) * (Q : Int)).natAbs = Q - c := by
      rw [e1, Nat.mul_add]; omega
    rw [e2]
    refine ⟨hup (by omega), by omega, fun h => ?_⟩
    rcases hc with hc | hc <;> omega
  · rename_i hc
    have e2 : (((Q * k + c : Nat) : Int) - (k : Int) * (Q : Int)).natAbs = c := by
      rw [e1]; omega
    rw [e2]
    exact ⟨hrest, by omega, fun h => by omega⟩
theorem one_word : iv 4607182418800017408 = Q := by rw [iv_small (by omega), V_one]
theorem half_word : 2 * iv 4602678819172646912 = Q := by
  rw [iv_small (by omega)]; have := V_half; omega
theorem iv_neg' {a : Nat} (h : a < 9223372036854775808) : iv (9223372036854775808 + a) = -iv a := by
  have h1 : ng (9223372036854775808 + a) = true := (ng_iff (by omega)).2 (by omega)
  have h2 : mg (9223372036854775808 + a) = a := by unfold mg; omega
  have h3 : ng a = false := ng_small (by omega)
  unfold iv; rw [h1, h2, h3, mg_small (by omega)]; rfl

/-- the first difference. -/
theorem diff_near {x : Nat} (hf : mg x < 4890909195324358656 + 1) : ∃ f d : Nat, floatOfInt .f64 (rdI x) = f ∧ floatBits .sub .f64 x f = some d ∧
    ((eqW d 4602678819172646912 = false ∧ eqW d 13826050856027422720 = false ∧ ltW 13826050856027422720 d = true ∧ ltW d 4602678819172646912 = true) ∨
     (eqW d 4602678819172646912 = true ∧ eqW d 13826050856027422720 = false ∧ ltW 13826050856027422720 d = true ∧ ltW d 4602678819172646912 = false ∧ (rdI x).tmod 2 = 0) ∨
     (eqW d 4602678819172646912 = false ∧ eqW d 13826050856027422720 = true ∧ ltW 13826050856027422720 d = false ∧ ltW d 4602678819172646912 = true ∧ (rdI x).tmod 2 = 0)) := by
  have hI := INF_eq
  have hQ := Q_pos
  obtain ⟨n1, n2, n3⟩ := nr_dist (mg x)
  have habs : (rdI x).natAbs = nr (V (mg x)) := by unfold rdI sg; split <;> simp
  have hle : nr (V (mg x)) ≤ 9223372036854775808 := by
    have := nr_mono (V_le (show mg x ≤ 4890909195324358656 by omega))
    obtain ⟨v1, v2, v3, v4⟩ := V_ge_two63 (r := 4890909195324358656) (by omega)
    rw [nr_whole v1, v4 rfl] at this; exact this
  obtain ⟨f, f1, f2, f3, f4⟩ := fint_iv (n := rdI x) (by rw [habs]; exact rep_nr _) (by omega)
  have hD : iv x - iv f = (if ng x then -1 else 1) * ((V (mg x) : Int) - nr (V (mg x)) * (Q : Int)) := by
    rw [f4]; unfold iv rdI sg; split
    · dsimp only; rw [Int.neg_mul]; omega
    · dsimp only; omega
  have hDa : (iv x - iv f).natAbs = ((V (mg x) : Int) - nr (V (mg x)) * (Q : Int)).natAbs := by
    rw [hD]
    split
    · rw [Int.neg_one_mul, Int.natAbs_neg]
    · rw [Int.one_mul]
  rw [← hDa] at n1 n2 n3
  clear hD hDa
  have hs := sub_word (a := x) (b := f) (by omega) f3 f2
  generalize iv x - iv f = D at *
  have hrn : rnd D.natAbs < INF := by
    refine rnd_fin ?_
    omega
  refine ⟨f, rw' (ng x && !ng f) D, f1, hs, ?_⟩
  have hiv := iv_rw (z := ng x && !ng f) hrn
  rw [rI_rep n1] at hiv
  have hmd : mg (rw' (ng x && !ng f) D) < INF := by rw [mg_rw]; omega
  generalize rw' (ng x && !ng f) D = d at *
  have hh := half_word
  have hh2 : iv 13826050856027422720 = -iv 4602678819172646912 := iv_neg' (a := 4602678819172646912) (by omega)
  have m1 : mg 4602678819172646912 < INF := by rw [mg_small (by omega)]; omega
  have m2 : mg 13826050856027422720 < INF := by rw [show mg 13826050856027422720 = 4602678819172646912 from by decide]; omega
  rw [lt_iv' m2 hmd, lt_iv' hmd m1, eq_iv' hmd m1, eq_iv' hmd m2]
  have hev : 2 * D.natAbs = Q → (rdI x).tmod 2 = 0 := by
    intro h
    have h2 := n3 h
    rw [← habs] at h2
    exact Int.tmod_eq_zero_of_dvd ⟨rdI x / 2, by omega⟩
  clear n3 n1 f4 habs hle
  rcases (show iv d = iv 4602678819172646912 ∨ iv d = -iv 4602678819172646912 ∨ (-iv 4602678819172646912 < iv d ∧ iv d < iv 4602678819172646912) by omega) with h | h | ⟨h, h'⟩
  · exact .inr (.inl ⟨decide_eq_true h, decide_eq_false (by omega), decide_eq_true (by omega), decide_eq_false (by omega), hev (by omega)⟩)
  · exact .inr (.inr ⟨decide_eq_false (by omega), decide_eq_true (by omega), decide_eq_false (by omega), decide_eq_true (by omega), hev (by omega)⟩)
  · exact .inl ⟨decide_eq_false (by omega), decide_eq_false (by omega), decide_eq_true (by omega), decide_eq_true (by omega)⟩
/-- the second one. -/
theorem diff_down {x : Nat} (hf : fits x = true) : ∃ f d : Nat, floatOfInt .f64 (dnI x) = f ∧ floatBits .sub .f64 x f = some d ∧
    ((ltW 0 d = true ∧ ltW d 4607182418800017408 = true) ∨ (ltW 0 d = false ∧ eqW d 0 = true ∧ ltW d 4607182418800017408 = true) ∨
     (ltW 0 d = true ∧ ltW d 4607182418800017408 = false ∧ eqW d 4607182418800017408 = true ∧ ltW x 0 = true ∧ ltW 13830554455654793216 x = true)) := by
  have hI := INF_eq
  have hQ := Q_pos
  have hf0 := hf
  unfold fits at hf
  simp only [Bool.and_eq_true, Bool.not_eq_true', decide_eq_true_eq] at hf
  obtain ⟨⟨hN, hr1⟩, hr2⟩ := hf
  have hmx : mg x ≤ 4890909195324358656 := by unfold rk at hr1 hr2; split at hr1 <;> simp_all <;> omega
  have hfl := floor_is x
  rw [hf0, if_pos rfl] at hfl
  have hdn : dnI x = if ng x then -(flK (ng x) (V (mg x)) : Int) else (flK (ng x) (V (mg x)) : Int) := (flK_div x).symm
  have habs : (dnI x).natAbs = flK (ng x) (V (mg x)) := by rw [hdn]; split <;> simp
  have hb : flK (ng x) (V (mg x)) ≤ 9223372036854775808 := by
    have h1 : floorI x = whI (ng x) (flK (ng x) (V (mg x))) := if_pos (by omega)
    rw [h1] at hfl
    unfold whI at hfl
    cases hg : ng x <;> rw [hg] at hfl
    · rw [if_neg Bool.false_ne_true] at hfl
      by_cases hc : (flK false (V (mg x)) : Int) < 9223372036854775808
      · omega
      · rw [if_neg hc] at hfl; cases (Prod.mk.inj hfl).2
    · rw [if_pos rfl] at hfl
      by_cases hc : (flK true (V (mg x)) : Int) ≤ 9223372036854775808
      · omega
      · rw [if_neg hc] at hfl; cases (Prod.mk.inj hfl).2
  obtain ⟨f, f1, f2, f3, f4⟩ := fint_iv (n := dnI x) (by rw [habs]; exact rep_fl _ _) (by omega)
  have hs := sub_word (a := x) (b := f) (by omega) f3 f2
  have hD : iv x - iv f = iv x % (Q : Int) := by
    rw [f4]; unfold dnI
    have := Int.mul_ediv_add_emod (iv x) (Q : Int)
    rw [Int.mul_comm] at this; omega
  have hD0 : 0 ≤ iv x % (Q : Int) := Int.emod_nonneg _ (by omega)
  have hD1 : iv x % (Q : Int) < Q := Int.emod_lt_of_pos _ (by omega)
  rw [hD] at hs
  have hrep : Rep (iv x % (Q : Int)).natAbs ∨ (ng x = true ∧ 0 < V (mg x) ∧ V (mg x) < Q) := by
    cases hg : ng x
    · left
      have e : (iv x % (Q : Int)).natAbs = V (mg x) % Q := by
        unfold iv; rw [hg]; simp only [Bool.false_eq_true, if_false]
        rw [← Int.natCast_emod, Int.natAbs_natCast]
      rw [e]; exact rep_rest _
    · by_cases hz : V (mg x) % Q = 0
      · left
        have e : iv x % (Q : Int) = 0 := by
          unfold iv; rw [hg]; simp only [if_true]
          rw [Int.neg_emod]
          have : (Q : Int) ∣ (V (mg x) : Int) := Int.natCast_dvd_natCast.2 (Nat.dvd_of_mod_eq_zero hz)
          rw [if_pos this]
        rw [e]; exact ⟨0, V_zero⟩
      · have e : (iv x % (Q : Int)).natAbs = Q - V (mg x) % Q := by
          unfold iv; rw [hg]; simp only [if_true]
          rw [Int.neg_emod]
          have h1 : ¬ (Q : Int) ∣ (V (mg x) : Int) := fun hc => hz (Nat.mod_eq_zero_of_dvd (Int.natCast_dvd_natCast.1 hc))
          rw [if_neg h1, ← Int.natCast_emod]
          have := Nat.mod_lt (V (mg x)) hQ
          omega
        rcases Nat.lt_or_ge (V (mg x)) Q with hc | hc
        · right
          refine ⟨rfl, ?_, hc⟩
          rcases Nat.eq_zero_or_pos (V (mg x)) with h | h
          · rw [h] at hz; simp at hz
          · exact h
        · left; rw [e]; exact rep_up' hc hz
  generalize iv x % (Q : Int) = D at *
  have hrn : rnd D.natAbs < INF := by
    refine rnd_fin ?_
    omega
  refine ⟨f, rw' (ng x && !ng f) D, f1, hs, ?_⟩
  have hiv := iv_rw (z := ng x && !ng f) hrn
  have hmd : mg (rw' (ng x && !ng f) D) < INF := by rw [mg_rw]; omega
  generalize rw' (ng x && !ng f) D = d at *
  have b0 : rI 0 = 0 := rI_rep ⟨0, V_zero⟩
  have b1 : rI (Q : Int) = Q := rI_rep (by rw [Int.natAbs_natCast]; have := rep_Q (n := 1) (by omega); rw [Nat.one_mul] at this; exact this)
  have hlo := rI_mono hD0
  have hhi := rI_mono (Int.le_of_lt hD1)
  have m0 : mg 0 < INF := by rw [mg_small (by omega)]; omega
  have m1 : mg 4607182418800017408 < INF := by rw [mg_small (by omega)]; omega
  have m2 : mg 13830554455654793216 < INF := by rw [show mg 13830554455654793216 = 4607182418800017408 from by decide]; omega
  have i0 : iv 0 = 0 := by rw [iv_small (by omega), V_zero]; rfl
  have i1 := one_word
  have i2 : iv 13830554455654793216 = -iv 4607182418800017408 := iv_neg' (a := 4607182418800017408) (by omega)
  have hmx2 : mg x < INF := by omega
  rw [lt_iv' m0 hmd, eq_iv' hmd m0, lt_iv' hmd m1, eq_iv' hmd m1, lt_iv' hmx2 m0, lt_iv' m2 hmx2, i0, i1, i2, i1, hiv]
  have hcase : rI D < Q ∨ (rI D = Q ∧ iv x < 0 ∧ -(Q : Int) < iv x) := by
    rcases hrep with hrep | ⟨g1, g2, g3⟩
    · left; rw [rI_rep hrep]; exact hD1
    · have hx2 : iv x = -(V (mg x) : Int) := by unfold iv; rw [g1]; rfl
      omega
  clear hrep hD hs hdn habs hfl f4
  rcases hcase with h | ⟨h1, h2, h3⟩
  · by_cases h0 : 0 < rI D
    · exact .inl ⟨decide_eq_true h0, decide_eq_true h⟩
    · exact .inr (.inl ⟨decide_eq_false h0, decide_eq_true (by omega), decide_eq_true h⟩)
  · exact .inr (.inr ⟨decide_eq_true (by omega), decide_eq_false (by omega), decide_eq_true h1, decide_eq_true h2, decide_eq_true h3⟩)
end TF
