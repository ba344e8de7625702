/- A filled cell comes near its level: in words. -/
import Derived.Test.YthncemlldkdkiaaLevC
namespace TF
open Ieee Go Go.RowKit

theorem rnd_fin {n : Nat} (h : n ≤ 2 ^ 63 * Q) : rnd n < INF := by
  have h1 := rnd_mono h
  have h2 := rnd_two63
  have hT := T_int
  rw [h2] at h1
  revert h1 hT
  generalize T = t
  intro hT h1
  unfold INF; omega
theorem rI_err (n : Int) : 2 ^ 53 * rI n ≤ 2 ^ 53 * n + n.natAbs ∧ 2 ^ 53 * n ≤ 2 ^ 53 * rI n + n.natAbs := by
  have h := rnd_err n.natAbs
  unfold rI
  generalize V (rnd n.natAbs) = v at *
  split <;> omega
theorem V_c29 : 2 ^ 29 * V 4476578029606273024 = Q := V_pow_down (D := 993) (by omega) (by unfold T; omega)
theorem V_mh : V 4697254411347427328 = 2 ^ 20 * Q := V_pow_up (D := 1042) (e := 20) (by omega) (by unfold T; omega)
theorem iv_le {a b : Nat} (h : rk a ≤ rk b) : iv a ≤ iv b := by
  rcases Int.lt_or_eq_of_le h with h | h
  · exact Int.le_of_lt (rk_lt_of.2 h)
  · exact Int.le_of_eq (rk_eq_of.2 h)
theorem rk_le {a b : Nat} (h : iv a ≤ iv b) : rk a ≤ rk b := by
  rcases Int.lt_or_eq_of_le h with h | h
  · exact Int.le_of_lt (rk_lt_of.1 h)
  · exact Int.le_of_eq (rk_eq_of.1 h)
/-- a height that is neither too great nor too small. -/
structure HeightIs (x : Nat) : Prop where
  fin : mg x < INF
  lo : -(2 ^ 20 * (Q : Int)) ≤ iv x
  hi : iv x ≤ 2 ^ 20 * (Q : Int)
theorem height_is {x : Nat} (h1 : (ltW 13920626448202203136 x || eqW x 13920626448202203136) = true) (h2 : (ltW x 4697254411347427328 || eqW x 4697254411347427328) = true) : HeightIs x := by
  have hI' := INF_eq
  rw [eq_comm', ← le_or] at h1
  rw [← le_or] at h2
  unfold leW at h1 h2
  have hn : isN x = false := by cases h : isN x <;> simp_all
  have a1 : rk 13920626448202203136 ≤ rk x := by simp [hn] at h1; exact h1.2
  have a2 : rk x ≤ rk 4697254411347427328 := by simp [hn] at h2; exact h2.2
  have r1 : rk 13920626448202203136 = -4697254411347427328 := by decide
  have r2 : rk 4697254411347427328 = 4697254411347427328 := by decide
  have b1 := iv_le a1
  have b2 := iv_le a2
  have i1 : iv 13920626448202203136 = -(V 4697254411347427328 : Int) := by
    unfold iv
    rw [show ng 13920626448202203136 = true from by decide, show mg 13920626448202203136 = 4697254411347427328 from by decide]; rfl
  have i2 : iv 4697254411347427328 = (V 4697254411347427328 : Int) := by
    unfold iv
    rw [show ng 4697254411347427328 = false from by decide, show mg 4697254411347427328 = 4697254411347427328 from by decide]; rfl
  rw [i1, V_mh] at b1
  rw [i2, V_mh] at b2
  rw [r1] at a1
  rw [r2] at a2
  refine ⟨?_, by rw [Int.natCast_mul] at b1; exact b1, by rw [Int.natCast_mul] at b2; exact b2⟩
  unfold rk at a1 a2
  split at a1
  · rename_i hg; rw [if_pos hg] at a2; omega
  · rename_i hg; rw [if_neg hg] at a2; omega

theorem comes_ways {bed level : Nat} {area : Int} (hl64 : W64 level) (hb : HeightIs bed) (hl : HeightIs level) (h1 : 1 ≤ area) (h2 : area ≤ 2147483648)
    (f1 : fillW bed area level ≠ 0) (f2 : fillW bed area level ≠ 4503599627370496) :
    ∃ r i s, floatBits .sub .f64 (levelW bed (fillW bed area level) area) level = some r ∧ floatBits .quo .f64 4607182418800017408 (floatOfInt .f64 area) = some i ∧ floatBits .add .f64 i 4476578029606273024 = some s ∧ s < 2 ^ 64 ∧
      (ltW r s || eqW r s) = true ∧ (ltW (op s) r || eqW r (op s)) = true := by
  have hI := INF_lt
  have hI' := INF_eq
  have hq := Q_pos
  have hl64' : level < 2 ^ 64 := hl64
  have hT := T_int
  have hQ : 2 ^ 200 ≤ Q := Nat.pow_le_pow_right (by omega) (by omega)
  have hfb := fill_bound bed area level
  obtain ⟨w, hw⟩ : ∃ w, w = fillW bed area level := ⟨_, rfl⟩
  rw [← hw] at f1 f2 hfb ⊢
  have hc : ltW bed level = true ∧ 1 ≤ area := by
    refine Classical.byContradiction fun hc => ?_
    unfold fillW at hw; rw [if_neg hc] at hw; exact f1 hw
  obtain ⟨-, -, hlt⟩ := lt_iv hc.1
  have hxy := rk_lt_of.2 hlt
  have hwn : w = nr (V (poolW bed area level)) := by
    unfold fillW at hw; rw [if_pos hc] at hw; omega
  -- the area
  obtain ⟨A, rfl⟩ : ∃ A : Nat, area = A := ⟨area.toNat, by omega⟩
  have FA := fi_is (n := (A : Int)) (by omega) (by omega)
  have hVA : V (rnd ((A : Int).natAbs * Q)) = A * Q := by rw [Int.natAbs_natCast]; exact (rep_Q (by omega)).eq
  -- the difference
  have hD : rnd (iv level - iv bed).natAbs < INF := rnd_fin (by have := hb.lo; have := hl.hi; omega)
  have hH : highW bed level = rnd (iv level - iv bed).natAbs := by
    unfold highW; rw [if_pos ⟨hb.fin, hl.fin⟩, Nat.min_eq_left (by omega)]
  have e1 := rnd_err (iv level - iv bed).natAbs
  rw [← hH] at e1
  obtain ⟨h, hh⟩ : ∃ h, h = V (highW bed level) := ⟨_, rfl⟩
  rw [← hh] at e1
  have hhb : h ≤ 2 ^ 22 * Q := by have := hb.lo; have := hl.hi; omega
  have hhA : h * A ≤ 2 ^ 53 * Q := by
    have := Nat.mul_le_mul hhb (show A ≤ 2 ^ 31 by omega)
    rw [Nat.mul_right_comm] at this; exact Nat.le_trans this (Nat.mul_le_mul_right Q (show 2 ^ 22 * 2 ^ 31 ≤ 2 ^ 53 by omega))
  -- the product
  have hP : poolW bed A level = rnd (h * A) := by
    unfold poolW
    rw [if_neg (by omega), hVA, ← hh, ← Nat.mul_assoc, Nat.mul_comm _ Q, rnd2_Q, Nat.min_eq_left]
    exact Nat.le_of_lt (rnd_fin (Nat.le_trans hhA (Nat.mul_le_mul_right _ (by omega))))
  have e2 := rnd_err (h * A)
  rw [← hP] at e2
  have e3 := nr_err (V (poolW bed A level))
  obtain ⟨p, hp⟩ : ∃ p, p = V (poolW bed A level) := ⟨_, rfl⟩
  rw [← hp] at e2 e3 hwn
  obtain ⟨W, rfl⟩ : ∃ W : Nat, w = W := ⟨w.toNat, by omega⟩
  have hWn : W = nr p := by omega
  rw [← hWn] at e3
  -- the depth
  have DP := dep_is (water := (W : Int)) (area := (A : Int)) (by omega) (by omega) (by omega) (by omega)
  have hVW : V (rnd ((W : Int).natAbs * Q)) = W * Q := by rw [Int.natAbs_natCast]; exact (rep_Q (by omega)).eq
  have hN : Near (W * Q) A (depthW W A) := by
    have := DP.near
    rw [hVW, hVA] at this
    exact this.ratio (Nat.mul_pos (by omega) hq) (by omega) (by rw [Nat.mul_right_comm (W * Q) Q A, Nat.mul_assoc (W * Q) A Q])
  have e4 := near_err (by omega) hN
  obtain ⟨d, hd⟩ : ∃ d, d = V (depthW W A) := ⟨_, rfl⟩
  rw [← hd] at e4
  have hWQ : W * Q ≤ 2 ^ 52 * Q := Nat.mul_le_mul_right _ (by omega)
  have hAQ : A ≤ Q := by omega
  have hdb : d ≤ 2 ^ 54 * Q := by
    have h3 : d ≤ A * d := Nat.le_mul_of_pos_left _ (by omega)
    obtain ⟨g, -⟩ := e4
    generalize A * d = x at *
    generalize W * Q = y at *
    omega
  -- the level
  have hsum : rnd (iv bed + d).natAbs < INF := rnd_fin (by have := hb.lo; have := hb.hi; omega)
  have hlev : levelW bed W A = rw' false (iv bed + d) := by
    unfold levelW
    rw [add_word hb.fin DP.fin]
    simp only
    rw [canon_rw]
    congr 2
    unfold iv
    rw [DP.pos, DP.self, ← hd]; simp
  have hLf : mg (levelW bed W A) < INF := by rw [hlev, mg_rw]; omega
  have hLv : iv (levelW bed W A) = rI (iv bed + d) := by rw [hlev, iv_rw hsum]
  have e5 := rI_err (iv bed + d)
  obtain ⟨L, hL⟩ : ∃ L, L = rI (iv bed + d) := ⟨_, rfl⟩
  rw [← hL] at e5 hLv
  have hsub := sub_word hLf hl64' hl.fin
  rw [hLv] at hsub
  -- most
  have hone : V 4607182418800017408 = Q := V_one
  have hmo : mg 4607182418800017408 = 4607182418800017408 := by decide
  obtain ⟨i, hi, hni⟩ := div_fin (a := 4607182418800017408) (b := rnd ((A : Int).natAbs * Q)) (by rw [hmo, hI']; decide) FA.fin (by
    have := FA.lo (by omega); rw [FA.self]; intro h0; rw [h0, V_zero] at this; omega)
  rw [hmo, hone, FA.self, hVA] at hni
  have hni' : Near Q A i := hni.ratio (Nat.mul_pos (by omega) hq) (by omega) (by rw [Nat.mul_right_comm, Nat.mul_assoc])
  have e6 := near_err (by omega) hni'
  have hi1 : i ≤ 4607182418800017408 := by
    refine hni'.le_of (by omega) (by omega) (near_self (r := 4607182418800017408) (q := 1) (by omega)) ?_
    rw [hone, Nat.mul_one, Nat.one_mul]; exact Nat.le_mul_of_pos_right _ (by omega)
  rw [Nat.min_eq_left (by omega), FA.pos, show ng 4607182418800017408 = false from by decide] at hi
  have hi2 : double.div 4607182418800017408 (floatOfInt .f64 A) = some i := by rw [FA.eq, hi]; rfl
  have hmi : mg i = i := mg_small (by omega)
  have hni2 : ng i = false := ng_small (by omega)
  have hmc : mg 4476578029606273024 = 4476578029606273024 := by decide
  have hadd := add_word (a := i) (b := 4476578029606273024) (by omega) (by rw [hmc]; omega)
  have hivi : iv i = V i := by unfold iv; rw [hni2, hmi]; rfl
  have hivc : iv 4476578029606273024 = V 4476578029606273024 := by unfold iv; rw [hmc, show ng 4476578029606273024 = false from by decide]; rfl
  rw [hivi, hivc, hni2, Bool.false_and] at hadd
  have hc29 := V_c29
  obtain ⟨c, hcv⟩ : ∃ c, c = V 4476578029606273024 := ⟨_, rfl⟩
  rw [← hcv] at hadd hc29
  have hVi : V i ≤ Q := by rw [← hone]; exact V_le hi1
  have e8 := rI_err (V i + c)
  have hsf : rnd ((V i : Int) + c).natAbs < INF := rnd_fin (by omega)
  have hsv : iv (rw' false ((V i : Int) + c)) = rI (V i + c) := iv_rw hsf
  obtain ⟨s, hs⟩ : ∃ s, s = rI (V i + c) := ⟨_, rfl⟩
  rw [← hs] at e8 hsv
  have hs0 : 0 ≤ s := by rw [hs]; exact rI_nonneg (by omega)
  have hsr : Rep s.natAbs := by rw [hs, rI_natAbs]; exact rep_V _
  obtain ⟨k1, k2⟩ := comes_sum (A := A) (Q' := Q) (x := iv bed) (y := iv level) (h := h) (p := p) (wq := (W * Q : Nat)) (d := d) (L := L) (s := s) (iA := V i) (t := V i + c) (by omega) (by omega) (by omega)
    rfl rfl rfl rfl rfl rfl rfl rfl rfl ⟨hb.lo, hb.hi⟩ ⟨hl.lo, hl.hi⟩ hxy (by omega) (by rw [Int.mul_comm (A : Int) h, ← Int.natCast_mul]; omega) (by omega) (by rw [← Int.natCast_mul]; omega) (by omega) e5
    (by rw [← Int.natCast_mul]; omega) (by omega) (by omega)
  have hdf : rnd (L - iv level).natAbs ≤ rnd s.natAbs := rnd_mono (by omega)
  have hsn : rnd s.natAbs < INF := by
    have := hsr.eq
    rw [hs, rI_natAbs, rnd_V]; exact hsf
  have hr : iv (rw' (ng (levelW bed W A) && !ng level) (L - iv level)) = rI (L - iv level) := iv_rw (by omega)
  have m1 : rI (L - iv level) ≤ s := by have := rI_mono k1; rwa [rI_rep hsr] at this
  have m2 : -s ≤ rI (L - iv level) := by
    have := rI_mono (show -s ≤ L - iv level by omega)
    rwa [rI_neg, rI_rep hsr] at this
  have hs64 : rw' false ((V i : Int) + c) < 2 ^ 64 := rw_lt _ _
  refine ⟨_, i, _, hsub, hi2, hadd, hs64, ?_, ?_⟩
  · rw [← le_or]
    unfold leW
    rw [isN_false.2 (by rw [mg_rw]; omega), isN_false.2 (by rw [mg_rw]; omega)]
    simp only [Bool.not_false, Bool.true_and, decide_eq_true_eq]
    exact rk_le (by rw [hr, hsv]; exact m1)
  · rw [eq_comm', ← le_or]
    unfold leW
    rw [isN_false.2 (by rw [mg_op hs64, mg_rw]; omega), isN_false.2 (by rw [mg_rw]; omega)]
    simp only [Bool.not_false, Bool.true_and, decide_eq_true_eq]
    exact rk_le (by rw [hr, iv_op hs64, hsv]; exact m2)
end TF
