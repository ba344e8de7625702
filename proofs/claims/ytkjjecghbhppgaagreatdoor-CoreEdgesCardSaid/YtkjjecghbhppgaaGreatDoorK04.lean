/- Laid together: LevG, LevH, RoundF, GeoA, OpenI, GeoB. -/
import Derived.Test.YtkjjecghbhppgaaGreatDoorK03
import Derived.Test.YtkjjecghbhppgaaGreatDoorK02
import Derived.ProofKit
import Derived.Deep.Slices
import Derived.Deep.Fields
import Derived.Deep.Quiet
import Derived.ChangeSame
import Derived.WideKeyArgs
import Derived.Lib.SmallJoins
/- Depths, levels and fills as plain functions of words, and their order. -/
namespace TF
open Ieee Go Go.RowKit

/-- whole numbers of 64 bits as floats. -/
theorem fi_rung {n : Int} (h : 0 ≤ n) : floatOfInt .f64 n = min (rnd (n.natAbs * Q)) INF := by
  rw [fi_eq, decide_eq_false (by omega)]; exact if_neg Bool.false_ne_true
theorem rnd_two63 : rnd (2 ^ 63 * Q) = (T + 11) * 2 ^ 52 + 2 ^ 52 := by
  have h : V ((T + 11) * 2 ^ 52 + 2 ^ 52) = 2 ^ 63 * Q := by
    rw [V_block (D := T + 11) (k := 2 ^ 52) (Nat.le_refl _) (by omega)]
    unfold Q
    rw [Nat.pow_add, ← Nat.mul_assoc, Nat.mul_right_comm, ← Nat.pow_add]
  rw [← h, rnd_V]
structure FiIs (n : Int) (f : Nat) : Prop where
  eq : floatOfInt .f64 n = f
  fin : mg f < INF
  pos : ng f = false
  self : mg f = f
  rn : f = rnd (n.natAbs * Q)
  lo : 0 < n → Q ≤ V f
  hi : V f ≤ 2 ^ 63 * Q
theorem fi_is {n : Int} (h : 0 ≤ n) (h' : n ≤ 9223372036854775807) : FiIs n (rnd (n.natAbs * Q)) := by
  have hI := INF_lt
  have hI' := INF_eq
  have hT := T_int
  have h1 : rnd (n.natAbs * Q) ≤ rnd (2 ^ 63 * Q) := rnd_mono (Nat.mul_le_mul_right _ (by omega))
  have h2 := rnd_two63
  have hf : rnd (n.natAbs * Q) < INF := by
    rw [h2] at h1
    revert h1 hT
    generalize T = t
    intro hT h1
    unfold INF; omega
  have hm : mg (rnd (n.natAbs * Q)) = rnd (n.natAbs * Q) := mg_small (by omega)
  refine ⟨by rw [fi_rung h, Nat.min_eq_left (by omega)], by omega, ng_small (by omega), hm, rfl, fun h0 => ?_, ?_⟩
  · have : rnd Q ≤ rnd (n.natAbs * Q) := rnd_mono (Nat.le_mul_of_pos_left _ (by omega))
    have h3 := V_le this
    have h4 : V (rnd Q) = Q := by rw [← V_one, rnd_V]
    rwa [h4] at h3
  · have h3 := V_le h1
    have h4 : V (rnd (2 ^ 63 * Q)) = 2 ^ 63 * Q := by
      have h := rep_bits (2 ^ 52) (T + 11) (by omega)
      have e : 2 ^ 52 * 2 ^ (T + 11) = 2 ^ 63 * Q := by unfold Q; rw [Nat.pow_add, ← Nat.mul_assoc, Nat.mul_right_comm, ← Nat.pow_add]
      rw [e] at h; exact h.eq
    rwa [h4] at h3
theorem FiIs.mono {m n : Int} {f g : Nat} (hf : FiIs m f) (hg : FiIs n g) (h0 : 0 ≤ m) (h : m ≤ n) : f ≤ g := by
  rw [hf.rn, hg.rn]; exact rnd_mono (Nat.mul_le_mul_right _ (by omega))

/-- Depth. -/
def depthW (water area : Int) : Nat := if water < 1 ∨ area < 1 then 0 else (double.div (floatOfInt .f64 water) (floatOfInt .f64 area)).getD 0
theorem depth_zero {water area : Int} (h : water < 1 ∨ area < 1) : depthW water area = 0 := if_pos h
structure DepIs (water area : Int) (d : Nat) : Prop where
  run : floatBits .quo .f64 (floatOfInt .f64 water) (floatOfInt .f64 area) = some d
  eq : depthW water area = d
  fin : mg d < INF
  pos : ng d = false
  self : mg d = d
  near : Near (V (rnd (water.natAbs * Q)) * Q) (V (rnd (area.natAbs * Q))) d
  gt : 0 < d
theorem dep_is {water area : Int} (h1 : 1 ≤ water) (h1' : water ≤ 9223372036854775807) (h2 : 1 ≤ area) (h2' : area ≤ 9223372036854775807) : DepIs water area (depthW water area) := by
  have hI := INF_lt
  have hI' := INF_eq
  have A := fi_is (n := water) (by omega) h1'
  have B := fi_is (n := area) (by omega) h2'
  have hA := A.lo (by omega)
  have hB := B.lo (by omega)
  have hB' := B.hi
  have e1 := A.eq
  have e2 := B.eq
  generalize ea : rnd (water.natAbs * Q) = a at *
  generalize eb : rnd (area.natAbs * Q) = b at *
  have hq := Q_pos
  have hb0 : mg b ≠ 0 := by
    intro h0; rw [B.self] at h0; rw [h0, V_zero] at hB; omega
  obtain ⟨r, hr, hn⟩ := div_fin A.fin B.fin hb0
  rw [A.self, B.self] at hn
  rw [A.pos, B.pos] at hr
  have hr1 : r ≤ a := by
    have h := near_self (r := a) (q := V b) (by omega)
    refine hn.le_of (by omega) (by omega) h ?_
    rw [Nat.mul_comm (V b) (V a)]
    exact Nat.mul_le_mul_right _ (Nat.mul_le_mul_left _ hB)
  have ha := A.fin
  rw [A.self] at ha
  have hr2 : 1 ≤ r := by
    have h := near_self (r := 1) (q := V b) (by omega)
    refine h.le_of (by omega) (by omega) hn ?_
    have hv1 : V 1 = 1 := V_small (by omega)
    rw [hv1, Nat.mul_one]
    have h63 : 2 ^ 63 ≤ Q := Nat.pow_le_pow_right (by omega) (by have := T_int; omega)
    have h64 : V b ≤ V a * Q := Nat.le_trans hB' (Nat.le_trans (Nat.mul_le_mul_right _ h63) (Nat.mul_le_mul_right _ hA))
    exact Nat.mul_le_mul_right _ h64
  have hr3 : double.div a b = some r := by
    rw [hr, Nat.min_eq_left (by omega)]; rfl
  have hd : depthW water area = r := by
    unfold depthW
    rw [if_neg (by omega), e1, e2, hr3]; rfl
  have hm : mg r = r := mg_small (by omega)
  rw [hd]
  exact ⟨by rw [e1, e2]; exact hr3, hd, by omega, ng_small (by omega), hm, by rw [ea, eb]; exact hn, by omega⟩
theorem depth_up {w1 w2 area : Int} (h : w1 ≤ w2) (h' : w2 ≤ 9223372036854775807) (h2' : area ≤ 9223372036854775807) : depthW w1 area ≤ depthW w2 area := by
  by_cases h1 : w1 < 1 ∨ area < 1
  · rw [depth_zero h1]; omega
  · have A := dep_is (water := w1) (area := area) (by omega) (by omega) (by omega) h2'
    have B := dep_is (water := w2) (area := area) (by omega) h' (by omega) h2'
    have P := (fi_is (n := area) (by omega) h2').lo (by omega)
    have hq := Q_pos
    refine A.near.le_of (by omega) (by omega) B.near ?_
    exact Nat.mul_le_mul_right _ (Nat.mul_le_mul_right _ (V_le (rnd_mono (Nat.mul_le_mul_right _ (by omega)))))
theorem depth_down {water a1 a2 : Int} (h : a1 ≤ a2) (h' : a2 ≤ 9223372036854775807) (h0 : 1 ≤ a1) (h2' : water ≤ 9223372036854775807) : depthW water a2 ≤ depthW water a1 := by
  by_cases h1 : water < 1
  · rw [depth_zero (.inl h1)]; omega
  · have A := dep_is (water := water) (area := a1) (by omega) h2' h0 (by omega)
    have B := dep_is (water := water) (area := a2) (by omega) h2' (by omega) h'
    have P := (fi_is (n := a1) (by omega) (by omega)).lo (by omega)
    have P2 := (fi_is (n := a2) (by omega) h').lo (by omega)
    have hq := Q_pos
    refine B.near.le_of (by omega) (by omega) A.near ?_
    exact Nat.mul_le_mul_left _ (V_le (rnd_mono (Nat.mul_le_mul_right _ (by omega))))
theorem depth_word (water area : Int) (h1 : water ≤ 9223372036854775807) (h2 : area ≤ 9223372036854775807) : mg (depthW water area) < INF ∧ ng (depthW water area) = false ∧ mg (depthW water area) = depthW water area ∧ (0 < depthW water area ↔ (0 < water ∧ 0 < area)) := by
  by_cases h : water < 1 ∨ area < 1
  · rw [depth_zero h]; exact ⟨by decide, by decide, by decide, ⟨fun h => absurd h (by omega), fun h => by omega⟩⟩
  · have A := dep_is (water := water) (area := area) (by omega) h1 (by omega) h2
    exact ⟨A.fin, A.pos, A.self, ⟨fun _ => by omega, fun _ => A.gt⟩⟩

/-- the rank of a rounded sum. -/
def rkI (n : Int) : Int := if n < 0 then -(min (rnd n.natAbs) INF : Nat) else (min (rnd n.natAbs) INF : Nat)
theorem rkI_mono {m n : Int} (h : m ≤ n) : rkI m ≤ rkI n := by
  unfold rkI
  by_cases h1 : m < 0
  · by_cases h2 : n < 0
    · rw [if_pos h1, if_pos h2]
      have := rnd_mono (show n.natAbs ≤ m.natAbs by omega)
      omega
    · rw [if_pos h1, if_neg h2]; omega
  · rw [if_neg h1, if_neg (by omega)]
    have := rnd_mono (show m.natAbs ≤ n.natAbs by omega)
    omega
theorem rk_rwf (n : Int) : rk (rw' false n) = rkI n := by
  unfold rk rkI
  rw [mg_rw, ng_rw]
  by_cases h0 : n = 0
  · subst h0; simp
  · rw [if_neg h0]
    by_cases h1 : n < 0
    · simp [h1]
    · simp [h1]
theorem rkI_iv {x : Nat} (h : mg x < INF) : rkI (iv x) = rk x := by
  unfold rkI rk
  rw [iv_natAbs, rnd_V, Nat.min_eq_left (by omega)]
  unfold iv
  by_cases hg : ng x = true
  · rw [hg, if_pos rfl]
    by_cases h0 : mg x = 0
    · rw [h0, V_zero]; simp
    · have : 0 < V (mg x) := by
        refine Nat.pos_of_ne_zero fun h => h0 (V_eq_zero.1 h)
      rw [if_pos rfl, if_pos (by omega)]
  · rw [if_neg hg, if_neg hg, if_neg (by omega)]

/-- Level. -/
def levelW (bed : Nat) (water area : Int) : Nat := match double.add bed (depthW water area) with | some s => canonW s | none => 9221120237041090561
theorem level_ways (bed : Nat) (water area : Int) (h1 : water ≤ 9223372036854775807) (h2 : area ≤ 9223372036854775807) :
    (isN bed = true ∧ floatBits .add .f64 bed (depthW water area) = none ∧ levelW bed water area = 9221120237041090561) ∨
    (isN bed = false ∧ ∃ s, floatBits .add .f64 bed (depthW water area) = some s ∧ levelW bed water area = canonW s) := by
  obtain ⟨hf, hp, hs, -⟩ := depth_word water area h1 h2
  unfold levelW
  show (_ ∧ double.add bed (depthW water area) = none ∧ _) ∨ (_ ∧ ∃ s, double.add bed (depthW water area) = some s ∧ _)
  by_cases hn : INF < mg bed
  · left
    rw [add_nan_left hn]
    exact ⟨isN_true.2 hn, rfl, rfl⟩
  · right
    refine ⟨isN_false.2 (by omega), ?_⟩
    by_cases hi : mg bed = INF
    · rw [add_inf_fin hi hf]; exact ⟨_, rfl, rfl⟩
    · rw [add_word (by omega) hf]; exact ⟨_, rfl, rfl⟩
structure LevIs (bed : Nat) (water area : Int) (l : Nat) : Prop where
  notN : isN l = false
  notM : l ≠ 9223372036854775808
  rkf : mg bed < INF → rk l = rkI (iv bed + V (depthW water area))
  rki : ¬ mg bed < INF → rk l = rk bed
theorem lev_is {bed : Nat} {water area : Int} (hN : isN bed = false) (h1 : water ≤ 9223372036854775807) (h2 : area ≤ 9223372036854775807) : LevIs bed water area (levelW bed water area) := by
  have hI := INF_lt
  have hN' := isN_false.1 hN
  obtain ⟨hf, hp, hs, -⟩ := depth_word water area h1 h2
  by_cases hi : mg bed = INF
  · have e : levelW bed water area = wd (ng bed) INF := by
      unfold levelW
      rw [add_inf_fin hi hf]
      simp only
      have hm : mg (wd (ng bed) INF) = INF := mg_wd hI
      exact canonW_word (isN_false.2 (by omega)) (by omega)
    rw [e]
    refine ⟨not_nan_word (Nat.le_refl _), ?_, fun h => by omega, fun _ => ?_⟩
    · cases ng bed <;> decide
    · rw [rk_wd hI]; unfold rk; rw [hi]
  · have hfin : mg bed < INF := by omega
    have e : levelW bed water area = rw' false (iv bed + V (depthW water area)) := by
      unfold levelW
      rw [add_word hfin hf]
      simp only
      rw [canon_rw]
      congr 2
      unfold iv
      rw [hp, hs]; simp
    rw [e]
    refine ⟨isN_false.2 (by rw [mg_rw]; omega), ?_, fun _ => rk_rwf _, fun h => absurd hfin h⟩
    intro h
    have e1 := congrArg mg h
    have e2 := congrArg ng h
    rw [mg_rw] at e1
    rw [ng_rw] at e2
    have e3 : mg 9223372036854775808 = 0 := by decide
    have e4 : ng 9223372036854775808 = true := by decide
    rw [e3] at e1
    rw [e4] at e2
    have e5 : rnd (iv bed + V (depthW water area)).natAbs = 0 := by have := INF_eq; omega
    rw [rnd_eq_zero] at e5
    rw [if_pos (by omega)] at e2
    exact absurd e2 (by decide)
end TF
/- Nearest whole numbers, clamps and fills as plain functions of words. -/
namespace TF
open Ieee Go Go.RowKit

theorem V_half2 : V 4602678819172646912 * 2 = Q := by rw [Nat.mul_comm]; exact V_half
theorem V_two63 : V 4890909195324358656 = 2 ^ 63 * Q := by
  have h : V ((T + 11) * 2 ^ 52 + 2 ^ 52) = 2 ^ 63 * Q := by
    rw [V_block (D := T + 11) (k := 2 ^ 52) (Nat.le_refl _) (by omega)]
    unfold Q
    rw [Nat.pow_add, ← Nat.mul_assoc, Nat.mul_right_comm, ← Nat.pow_add]
  rw [← h]; rfl
/-- the ways through near, of a magnitude below 2^63. -/
theorem near_ways {a : Nat} (h : a < 4890909195324358656) : ∃ r k : Nat, k < 9223372036854775808 ∧ floatToIntVal .f64 (flW a) .u64 = some (k : Int) ∧ floatBits .sub .f64 a (flW a) = some r ∧ nr (V a) < 9223372036854775808 ∧
    ((ltW 4602678819172646912 r = true ∧ nr (V a) = k + 1) ∨ (ltW 4602678819172646912 r = false ∧
      ((eqW r 4602678819172646912 = true ∧ ((k % 2 = 1 ∧ nr (V a) = k + 1) ∨ (k % 2 = 0 ∧ nr (V a) = k))) ∨ (eqW r 4602678819172646912 = false ∧ nr (V a) = k)))) := by
  have hI := INF_lt
  have hI' := INF_eq
  have hm : mg a = a := mg_small (by omega)
  have hn : ng a = false := ng_small (by omega)
  have hf : mg a < INF := by omega
  obtain ⟨f1, f2, f3, f4⟩ := fl_pos hf hn
  rw [hm] at f1 f4
  have hff : mg (flW a) < INF := by omega
  have f64' : flW a < 2 ^ 64 := by rw [f3]; omega
  have hV := V_lt h
  rw [V_two63] at hV
  have hk : V a / Q < 2 ^ 63 := (Nat.div_lt_iff_lt_mul Q_pos).2 hV
  have hn63 := nr_lt (r := a) (b := 2 ^ 63) (by omega) hV
  have hdm := Nat.div_add_mod (V a) Q
  rw [Nat.mul_comm] at hdm
  have hrl := Nat.mod_lt (V a) Q_pos
  have hrr := rep_rest a
  have hia : iv a = V a := by unfold iv; rw [hn, hm]; simp
  have hif : iv (flW a) = (V a / Q * Q : Nat) := by unfold iv; rw [f2, f4]; simp
  have hsub := sub_word hf f64' hff
  rw [hn, hia, hif, show (V a : Int) - ((V a / Q * Q : Nat) : Int) = ((V a % Q : Nat) : Int) from by omega] at hsub
  refine ⟨_, V a / Q, hk, ?_, hsub, hn63, ?_⟩
  · have ht := toInt_zero hff
    rw [f2, f4, Nat.mul_div_cancel _ Q_pos] at ht
    unfold floatToIntVal
    rw [ht]
    simp only
    rw [if_neg Bool.false_ne_true, if_pos]
    revert hk
    generalize V a / Q = k
    intro hk
    exact ⟨by show (0 : Int) ≤ _; omega, by show _ ≤ (18446744073709551615 : Int); omega⟩
  · have hnr : nr (V a) = if Q < 2 * (V a % Q) ∨ (2 * (V a % Q) = Q ∧ V a / Q % 2 = 1) then V a / Q + 1 else V a / Q := rfl
    have h2 := V_half2
    have hr : rnd ((V a % Q : Nat) : Int).natAbs < INF := by
      refine Nat.lt_of_le_of_lt (rnd_le_of (r := a) ?_) (by omega)
      have := Nat.mod_le (V a) Q
      omega
    have hiv := iv_rw (z := false) hr
    rw [rI_rep (by rw [Int.natAbs_natCast]; exact hrr)] at hiv
    have hih : iv 4602678819172646912 = V 4602678819172646912 := by
      unfold iv
      rw [show ng 4602678819172646912 = false from by decide, show mg 4602678819172646912 = 4602678819172646912 from by decide]; rfl
    have l1 : ltW 4602678819172646912 (rw' (false && !ng (flW a)) ((V a % Q : Nat) : Int)) = decide (Q < 2 * (V a % Q)) := by
      rw [Bool.false_and, ltW_rk (by decide) (isN_false.2 (by rw [mg_rw]; omega)), decide_eq_decide, ← rk_lt_of, hih, hiv]
      omega
    have l2 : eqW (rw' (false && !ng (flW a)) ((V a % Q : Nat) : Int)) 4602678819172646912 = decide (2 * (V a % Q) = Q) := by
      rw [Bool.false_and, eqW_rk (isN_false.2 (by rw [mg_rw]; omega)) (by decide), decide_eq_decide, ← rk_eq_of, hih, hiv]
      omega
    rw [l1, l2, hnr]
    clear l1 l2 hnr hiv hr hsub hdm hif f4 hk hV
    generalize V a / Q = k at *
    generalize V a % Q = x at *
    generalize Q = q at *
    by_cases c1 : q < 2 * x
    · left; rw [if_pos (.inl c1)]; exact ⟨decide_eq_true c1, rfl⟩
    · right
      refine ⟨decide_eq_false c1, ?_⟩
      by_cases c2 : 2 * x = q
      · left
        refine ⟨decide_eq_true c2, ?_⟩
        by_cases c3 : k % 2 = 1
        · left; rw [if_pos (.inr ⟨c2, c3⟩)]; exact ⟨c3, rfl⟩
        · right; rw [if_neg (by omega)]; exact ⟨by omega, rfl⟩
      · right; rw [if_neg (by omega)]; exact ⟨decide_eq_false c2, rfl⟩

/-- Clamp. -/
def clampI (x : Nat) (most : Int) : Int := if isN x then 0 else if ltW x 0 then -(min (max most 0) (nr (V (mg x)))) else min (max most 0) (nr (V (mg x)))
theorem ltW_nought (x : Nat) : ltW x 0 = (!isN x && ng x && !decide (mg x = 0)) := by
  unfold ltW
  rw [isN_zero, show rk 0 = 0 from by decide]
  unfold rk
  by_cases hg : ng x = true
  · rw [hg]
    by_cases h0 : mg x = 0
    · simp [h0]
    · simp [h0]; intro _; omega
  · rw [Bool.not_eq_true] at hg
    rw [hg]; simp
theorem clamp_far {x : Nat} {most : Int} (h : 4890909195324358656 ≤ mg x) (hm : most ≤ 9223372036854775807) : min (max most 0) (nr (V (mg x)) : Int) = max most 0 := by
  have h1 := V_le h
  rw [V_two63] at h1
  have h2 : 2 ^ 52 * Q ≤ V (mg x) := Nat.le_trans (Nat.mul_le_mul_right _ (by omega)) h1
  have h3 : 2 ^ 63 ≤ V (mg x) / Q := by
    have := Nat.div_le_div_right (c := Q) h1
    rwa [Nat.mul_div_cancel _ Q_pos] at this
  rw [nr_great h2]
  revert h3
  generalize V (mg x) / Q = k
  intro h3; omega
theorem clamp_ways (x : Nat) (most : Int) (hm : most ≤ 9223372036854775807) :
    (eqW x x = false ∧ clampI x most = 0) ∨ (eqW x x = true ∧ ((ltW (mg x) 4890909195324358656 = false ∧ ((ltW x 0 = true ∧ clampI x most = -(max most 0)) ∨ (ltW x 0 = false ∧ clampI x most = max most 0))) ∨
      (ltW (mg x) 4890909195324358656 = true ∧ mg x < 4890909195324358656 ∧ ((ltW x 0 = true ∧ clampI x most = -(min (max most 0) (nr (V (mg x))))) ∨ (ltW x 0 = false ∧ clampI x most = min (max most 0) (nr (V (mg x)))))))) := by
  have hI := INF_lt
  unfold clampI
  rw [eqW_self]
  cases hx : isN x with
  | true => left; exact ⟨rfl, if_pos rfl⟩
  | false =>
    right
    refine ⟨rfl, ?_⟩
    have hx' := isN_false.1 hx
    have hmm : mg (mg x) = mg x := mg_small (by have := mg_lt x; omega)
    have hr1 : rk (mg x) = mg x := by unfold rk; rw [hmm, ng_small (mg_lt x)]; rfl
    have hl : ltW (mg x) 4890909195324358656 = decide (mg x < 4890909195324358656) := by
      rw [ltW_rk (isN_false.2 (by omega)) (by decide), hr1, show rk 4890909195324358656 = 4890909195324358656 from by decide, decide_eq_decide]
      omega
    rw [hl, if_neg Bool.false_ne_true]
    by_cases hlt : mg x < 4890909195324358656
    · right
      refine ⟨decide_eq_true hlt, hlt, ?_⟩
      cases ltW x 0
      · exact .inr ⟨rfl, if_neg Bool.false_ne_true⟩
      · exact .inl ⟨rfl, if_pos rfl⟩
    · left
      refine ⟨decide_eq_false hlt, ?_⟩
      rw [clamp_far (by omega) hm]
      cases ltW x 0
      · exact .inr ⟨rfl, if_neg Bool.false_ne_true⟩
      · exact .inl ⟨rfl, if_pos rfl⟩

/-- Fill: how far the level is above the bed, the water that this is. -/
def highW (bed level : Nat) : Nat := if mg bed < INF ∧ mg level < INF then min (rnd (iv level - iv bed).natAbs) INF else INF
def poolW (bed : Nat) (area : Int) (level : Nat) : Nat := if highW bed level = INF then INF else min (rnd2 (V (highW bed level) * V (rnd (area.natAbs * Q)))) INF
def fillW (bed : Nat) (area : Int) (level : Nat) : Int := if ltW bed level = true ∧ 1 ≤ area then min 4503599627370496 (nr (V (poolW bed area level)) : Int) else 0
theorem lt_iv {a b : Nat} (h : ltW a b = true) : isN a = false ∧ isN b = false ∧ rk a < rk b := by
  unfold ltW at h
  cases ha : isN a <;> cases hb : isN b <;> simp_all
theorem pool_le (bed : Nat) (area : Int) (level : Nat) : poolW bed area level ≤ INF := by unfold poolW; split <;> omega
theorem fill_ways {bed level : Nat} (h64 : W64 bed) {area : Int} (h : ltW bed level = true) (h1 : 1 ≤ area) (h2 : area ≤ 9223372036854775807) :
    ∃ r p : Nat, floatBits .sub .f64 level bed = some r ∧ floatBits .mul .f64 r (floatOfInt .f64 area) = some p ∧ clampI p 4503599627370496 = fillW bed area level := by
  have hI := INF_lt
  have hI' := INF_eq
  have h64' : bed < 2 ^ 64 := h64
  obtain ⟨n1, n2, hlt⟩ := lt_iv h
  have n1' := isN_false.1 n1
  have n2' := isN_false.1 n2
  have A := fi_is (n := area) (by omega) h2
  have hA := A.lo (by omega)
  have hq := Q_pos
  have hsub : double.sub level bed = some (wd false (highW bed level)) ∧ 0 < highW bed level ∧ highW bed level ≤ INF := by
    rw [sub_eq h64']
    have om := mg_op h64'
    have on := ng_op h64'
    by_cases hb : mg bed < INF
    · by_cases hl : mg level < INF
      · rw [← sub_eq h64', sub_word hl h64' hb]
        have hi := rk_lt_of.2 hlt
        have e : highW bed level = min (rnd (iv level - iv bed).natAbs) INF := if_pos ⟨hb, hl⟩
        have h3 : rnd (iv level - iv bed).natAbs ≠ 0 := fun h => by rw [rnd_eq_zero] at h; omega
        rw [e]
        refine ⟨?_, by omega, by omega⟩
        unfold rw'
        rw [if_neg (by omega), decide_eq_false (by omega)]
      · have hl' : mg level = INF := by omega
        have e : highW bed level = INF := if_neg (fun hc => hl hc.2)
        rw [add_inf_fin hl' (by rw [om]; exact hb), e]
        refine ⟨?_, by omega, by omega⟩
        have : ng level = false := by
          cases hg : ng level
          · rfl
          · unfold rk at hlt; rw [hg, hl'] at hlt; simp only [if_true] at hlt
            split at hlt <;> omega
        rw [this]
    · have hb' : mg bed = INF := by omega
      have e : highW bed level = INF := if_neg (fun hc => hb hc.1)
      have hgb : ng bed = true := by
        cases hg : ng bed
        · unfold rk at hlt; rw [hg, hb'] at hlt; simp only [Bool.false_eq_true, if_false] at hlt
          split at hlt <;> omega
        · rfl
      by_cases hl : mg level < INF
      · rw [add_fin_inf hl (by rw [om]; exact hb'), on, hgb, e]; exact ⟨rfl, by omega, by omega⟩
      · have hl' : mg level = INF := by omega
        have hgl : ng level = false := by
          cases hg : ng level
          · rfl
          · unfold rk at hlt; rw [hg, hl', hgb, hb'] at hlt; simp only [if_true] at hlt; omega
        rw [add_inf_inf hl' (by rw [om]; exact hb') (by rw [on, hgb, hgl]; rfl), hgl, e]; exact ⟨rfl, by omega, by omega⟩
  obtain ⟨hs, hpos, hle⟩ := hsub
  have hmh : mg (wd false (highW bed level)) = highW bed level := mg_wd (by omega)
  have hnh : ng (wd false (highW bed level)) = false := ng_wd (by omega)
  have hmul : double.mul (wd false (highW bed level)) (floatOfInt .f64 area) = some (wd false (poolW bed area level)) := by
    rw [A.eq]
    unfold poolW
    by_cases hc : highW bed level = INF
    · have hz : mg (rnd (area.natAbs * Q)) ≠ 0 := by
        rw [A.self]; intro h0; rw [h0, V_zero] at hA; omega
      rw [mul_inf_fin (by rw [hmh]; exact hc) A.fin, if_neg hz, hnh, A.pos, if_pos hc]; rfl
    · rw [mul_fin (by rw [hmh]; omega) A.fin, hmh, hnh, A.self, A.pos, if_neg hc]; rfl
  refine ⟨_, _, hs, hmul, ?_⟩
  have hp := pool_le bed area level
  have hmp : mg (wd false (poolW bed area level)) = poolW bed area level := mg_wd (by omega)
  have hnp : ng (wd false (poolW bed area level)) = false := ng_wd (by omega)
  have hfill : fillW bed area level = min 4503599627370496 (nr (V (poolW bed area level)) : Int) := if_pos ⟨h, h1⟩
  rw [hfill]
  unfold clampI
  rw [ltW_nought, not_nan_word hp, hmp, hnp]
  simp only [Bool.false_eq_true, if_false, Bool.and_false, Bool.false_and]
  rfl
theorem fill_none {bed level : Nat} {area : Int} (h : ltW bed level = false ∨ area < 1) : fillW bed area level = 0 := by
  unfold fillW
  rw [if_neg]
  rintro ⟨h1, h2⟩
  rcases h with h | h
  · rw [h1] at h; exact absurd h (by decide)
  · omega
theorem fill_bound (bed : Nat) (area : Int) (level : Nat) : 0 ≤ fillW bed area level ∧ fillW bed area level ≤ 4503599627370496 := by
  unfold fillW; split <;> omega
theorem pool_mono {b1 b2 l1 l2 : Nat} {area : Int} (h : highW b1 l1 ≤ highW b2 l2) : poolW b1 area l1 ≤ poolW b2 area l2 := by
  unfold poolW
  have hle : highW b2 l2 ≤ INF := by unfold highW; split <;> omega
  by_cases h1 : highW b2 l2 = INF
  · rw [if_pos h1]; split <;> omega
  · rw [if_neg h1, if_neg (by omega)]
    have : rnd2 (V (highW b1 l1) * V (rnd (area.natAbs * Q))) ≤ rnd2 (V (highW b2 l2) * V (rnd (area.natAbs * Q))) :=
      (near_rnd2 _).le_of Q_pos Q_pos (near_rnd2 _) (Nat.mul_le_mul_right _ (Nat.mul_le_mul_right _ (V_le h)))
    omega
theorem fill_up {bed l1 l2 : Nat} {area : Int} (h : leW l1 l2 = true) : fillW bed area l1 ≤ fillW bed area l2 := by
  unfold leW at h
  by_cases hc : ltW bed l1 = true ∧ 1 ≤ area
  · obtain ⟨n1, n2, hlt⟩ := lt_iv hc.1
    have n3 : isN l2 = false := by cases hh : isN l2 <;> simp_all
    have hr : rk l1 ≤ rk l2 := by simpa [n2, n3] using h
    have h2 : ltW bed l2 = true := by rw [ltW_rk n1 n3]; exact decide_eq_true (by omega)
    unfold fillW
    rw [if_pos hc, if_pos ⟨h2, hc.2⟩]
    have : highW bed l1 ≤ highW bed l2 := by
      unfold highW
      by_cases hd : mg bed < INF ∧ mg l2 < INF
      · rw [if_pos hd]
        have hl : mg l1 < INF := by
          have a := isN_false.1 n2
          rcases Nat.lt_or_ge (mg l1) INF with h | h
          · exact h
          · have e : mg l1 = INF := by omega
            unfold rk at hr hlt; rw [e] at hr hlt
            split at hr <;> split at hr <;> split at hlt <;> simp_all <;> omega
        rw [if_pos ⟨hd.1, hl⟩]
        have a1 := rk_lt_of.2 hlt
        have a2 : iv l1 ≤ iv l2 := by
          rcases Int.lt_or_eq_of_le hr with h | h
          · exact Int.le_of_lt (rk_lt_of.2 h)
          · exact Int.le_of_eq (rk_eq_of.2 h)
        have := rnd_mono (show (iv l1 - iv bed).natAbs ≤ (iv l2 - iv bed).natAbs by omega)
        omega
      · rw [if_neg hd]; split <;> omega
    have := nr_mono (V_le (pool_mono (area := area) this))
    omega
  · rw [show fillW bed area l1 = 0 from if_neg hc]; exact (fill_bound ..).1
theorem fill_high {b1 b2 l : Nat} {area : Int} (h : leW b1 b2 = true) : fillW b2 area l ≤ fillW b1 area l := by
  unfold leW at h
  by_cases hc : ltW b2 l = true ∧ 1 ≤ area
  · obtain ⟨n1, n2, hlt⟩ := lt_iv hc.1
    have n3 : isN b1 = false := by cases hh : isN b1 <;> simp_all
    have hr : rk b1 ≤ rk b2 := by simpa [n1, n3] using h
    have h2 : ltW b1 l = true := by rw [ltW_rk n3 n2]; exact decide_eq_true (by omega)
    unfold fillW
    rw [if_pos hc, if_pos ⟨h2, hc.2⟩]
    have : highW b2 l ≤ highW b1 l := by
      unfold highW
      by_cases hd : mg b1 < INF ∧ mg l < INF
      · rw [if_pos hd]
        have hl : mg b2 < INF := by
          have a := isN_false.1 n1
          rcases Nat.lt_or_ge (mg b2) INF with h | h
          · exact h
          · have e : mg b2 = INF := by omega
            unfold rk at hr hlt; rw [e] at hr hlt
            split at hr <;> split at hr <;> split at hlt <;> simp_all <;> omega
        rw [if_pos ⟨hl, hd.2⟩]
        have a1 := rk_lt_of.2 hlt
        have a2 : iv b1 ≤ iv b2 := by
          rcases Int.lt_or_eq_of_le hr with h | h
          · exact Int.le_of_lt (rk_lt_of.2 h)
          · exact Int.le_of_eq (rk_eq_of.2 h)
        have := rnd_mono (show (iv l - iv b2).natAbs ≤ (iv l - iv b1).natAbs by omega)
        omega
      · rw [if_neg hd]; split <;> omega
    have := nr_mono (V_le (pool_mono (area := area) this))
    omega
  · rw [show fillW b2 area l = 0 from if_neg hc]; exact (fill_bound ..).1
end TF
/- Whole numbers of floats: Round (out of ConB, by itself). -/
namespace TF
open Ieee Go Go.RowKit

/-- a magnitude with its sign, where it is a number of 64 bits. -/
def whI (s : Bool) (r : Int) : Int × Bool := if s then (if r ≤ 9223372036854775808 then (-r, true) else (0, false)) else (if r < 9223372036854775808 then (r, true) else (0, false))
def roundI (x : Nat) : Int × Bool := if mg x < INF then whI (ng x) (nr (V (mg x))) else (0, false)
def floorI (x : Nat) : Int × Bool := if mg x < INF then whI (ng x) (flK (ng x) (V (mg x))) else (0, false)

theorem iv_two63 : iv 14114281232179134464 = -(2 ^ 63 * (Q : Int)) := by
  have h1 : ng 14114281232179134464 = true := by decide
  have h2 : mg 14114281232179134464 = 4890909195324358656 := by decide
  unfold iv
  rw [h1, h2, V_two63]
  simp
theorem V_two63' : V 4890909195324358656 = 9223372036854775808 * Q := by have := V_two63; omega
theorem rk_two63 : rk 14114281232179134464 = -4890909195324358656 := by decide
theorem rk_two63' : rk 4890909195324358656 = 4890909195324358656 := by decide
theorem eqW_two63 (x : Nat) : eqW x 14114281232179134464 = (ng x && decide (mg x = 4890909195324358656)) := by
  have hN : isN 14114281232179134464 = false := by decide
  have hI := INF_eq
  unfold eqW
  rw [hN, rk_two63]
  rw [Bool.eq_iff_iff]
  simp only [Bool.and_eq_true, Bool.not_eq_true', decide_eq_true_eq, Bool.not_false, and_true]
  unfold rk
  cases hg : ng x
  · simp only [Bool.false_eq_true, if_false]; constructor
    · intro h; omega
    · intro h; exact h.1.elim
  · simp only [if_true, true_and]; constructor
    · intro h; omega
    · intro h; exact ⟨isN_false.2 (by omega), by omega⟩
theorem V_ge_two63 {r : Nat} (h : 4890909195324358656 ≤ r) : V r % Q = 0 ∧ 9223372036854775808 ≤ V r / Q ∧ (r ≠ 4890909195324358656 → 9223372036854775808 < V r / Q) ∧ (r = 4890909195324358656 → V r / Q = 9223372036854775808) := by
  have hQ := Q_pos
  have h1 := V_le h
  rw [V_two63] at h1
  have h2 : V r % Q = 0 := whole_of_great (by omega)
  have h3 := Nat.div_add_mod (V r) Q
  rw [h2, Nat.add_zero] at h3
  refine ⟨h2, (Nat.le_div_iff_mul_le hQ).2 (by omega), fun hne => ?_, fun he => ?_⟩
  · have h4 := V_lt (show 4890909195324358656 < r by omega)
    rw [V_two63] at h4
    refine Nat.lt_of_not_le fun hc => ?_
    have := Nat.mul_le_mul_left Q hc
    omega
  · rw [he, V_two63]; exact Nat.mul_div_cancel _ hQ

theorem nr_whole {v : Nat} (h : v % Q = 0) : nr v = v / Q := by
  have := Q_pos
  unfold nr; rw [h, if_neg (by omega)]

theorem round_ways (x : Nat) :
    (ltW (mg x) 4890909195324358656 = true ∧ mg x < 4890909195324358656 ∧ nr (V (mg x)) < 9223372036854775808 ∧ ((ltW x 0 = true ∧ roundI x = (-(nr (V (mg x)) : Int), true)) ∨ (ltW x 0 = false ∧ roundI x = ((nr (V (mg x)) : Int), true)))) ∨
    (ltW (mg x) 4890909195324358656 = false ∧ eqW x 14114281232179134464 = true ∧ roundI x = (-9223372036854775808, true)) ∨
    (ltW (mg x) 4890909195324358656 = false ∧ eqW x 14114281232179134464 = false ∧ roundI x = (0, false)) := by
  have hI := INF_eq
  have hl : ltW (mg x) 4890909195324358656 = decide (mg x < 4890909195324358656) := by
    unfold ltW
    rw [isN_mg, rk_two63', rk_small (mg_lt x), show isN 4890909195324358656 = false from by decide]
    by_cases hN : isN x = true
    · rw [hN]
      have := isN_true.1 hN
      rw [decide_eq_false (p := mg x < _) (by omega)]; rfl
    · rw [Bool.not_eq_true] at hN
      rw [hN, Bool.eq_iff_iff]
      simp only [Bool.not_false, Bool.true_and, decide_eq_true_eq]; omega
  rw [hl, eqW_two63]
  by_cases h : mg x < 4890909195324358656
  · obtain ⟨r, k, h1, h2, h3, h4, h5⟩ := near_ways h
    refine .inl ⟨decide_eq_true h, h, h4, ?_⟩
    have hN : isN x = false := isN_false.2 (by omega)
    have hr : roundI x = whI (ng x) (nr (V (mg x))) := if_pos (by omega)
    rw [hr, ltW_nought, hN]
    by_cases h0 : mg x = 0
    · have hz : nr (V (mg x)) = 0 := by rw [h0, V_zero]; unfold nr; simp
      refine .inr ⟨by rw [h0]; simp, ?_⟩
      rw [hz]; unfold whI; cases ng x <;> rfl
    · cases hg : ng x
      · refine .inr ⟨by simp, ?_⟩
        unfold whI; rw [if_neg Bool.false_ne_true, if_pos (by omega)]
      · refine .inl ⟨by simp [h0], ?_⟩
        unfold whI; rw [if_pos rfl, if_pos (by omega)]
  · rw [decide_eq_false h]
    refine .inr ?_
    obtain ⟨v1, v2, v3, v4⟩ := V_ge_two63 (r := mg x) (by omega)
    have hw := nr_whole v1
    cases hg : ng x
    · refine .inr ⟨rfl, rfl, ?_⟩
      unfold roundI; rw [hg]
      split
      · unfold whI; rw [if_neg Bool.false_ne_true, hw, if_neg (by omega)]
      · rfl
    · by_cases he : mg x = 4890909195324358656
      · refine .inl ⟨rfl, by rw [decide_eq_true he]; rfl, ?_⟩
        unfold roundI whI; rw [hg, if_pos (by omega), if_pos rfl, hw, v4 he, if_pos (by omega)]; rfl
      · refine .inr ⟨rfl, by rw [decide_eq_false he]; rfl, ?_⟩
        have := v3 he
        unfold roundI; rw [hg]
        split
        · unfold whI; rw [if_pos rfl, hw, if_neg (by omega)]
        · rfl

end TF
/- Sums, differences, products, quotients and roots of floats as words: where they give a number. -/
namespace TF
open Ieee Go

def fadd (a b : Nat) : Nat := (double.add a b).getD 0
def fsub (a b : Nat) : Nat := (double.sub a b).getD 0
def fmul (a b : Nat) : Nat := (double.mul a b).getD 0
def fdiv (a b : Nat) : Nat := (double.div a b).getD 0
def fsqrt (a : Nat) : Nat := (double.sqrt a).getD 0

theorem getD_of {o : Option Nat} {r : Nat} (h : o = some r) : o.getD 0 = r := by rw [h]; rfl
/-- A word of a number that is not below nought, and no NaN. -/
structure PW (x : Nat) : Prop where
  out : x ≤ 9218868437227405312
/-- A finite word. -/
structure Fw (x : Nat) : Prop where
  lt : W64 x
  fin : mg x < INF
/-- A word that is no NaN. -/
structure Nw (x : Nat) : Prop where
  lt : W64 x
  nn : mg x ≤ INF
theorem INF_num : INF = 9218868437227405312 := by decide
theorem PW.nn {x : Nat} (h : PW x) : mg x = x ∧ ng x = false ∧ W64 x ∧ x ≤ INF := by
  have h0 := h.out
  have := INF_num
  refine ⟨mg_small (by omega), (ng_false_iff (by omega)).2 (by omega), by show x < 2 ^ 64; omega, by omega⟩
theorem PW.nw {x : Nat} (h : PW x) : Nw x := ⟨h.nn.2.2.1, by rw [h.nn.1]; exact h.nn.2.2.2⟩
theorem PW.of {x : Nat} (h : x ≤ INF) : PW x := ⟨by rw [← INF_num]; exact h⟩
theorem Fw.nw {x : Nat} (h : Fw x) : Nw x := ⟨h.lt, Nat.le_of_lt h.fin⟩
theorem wd_nw (s : Bool) {r : Nat} (h : r ≤ INF) : Nw (wd s r) := by
  have hI := INF_lt
  exact ⟨wd_lt (by omega), by rw [mg_wd (by omega)]; exact h⟩
theorem wd_fw (s : Bool) {r : Nat} (h : r < INF) : Fw (wd s r) := by
  have hI := INF_lt
  exact ⟨wd_lt (by omega), by rw [mg_wd (by omega)]; exact h⟩

theorem add_some {a b : Nat} (ha : PW a) (hb : PW b) : floatBits .add .f64 a b = some (fadd a b) ∧ PW (fadd a b) := by
  obtain ⟨m1, n1, _, i1⟩ := ha.nn
  obtain ⟨m2, n2, _, i2⟩ := hb.nn
  have key : ∃ r, double.add a b = some r ∧ PW r := by
    rcases Nat.lt_or_eq_of_le i1 with h1 | h1
    · rcases Nat.lt_or_eq_of_le i2 with h2 | h2
      · refine ⟨_, add_word (by omega) (by omega), ?_⟩
        have h3 : ng (rw' (ng a && ng b) (iv a + iv b)) = false := by
          rw [ng_rw, n1, n2]
          have p1 : iv a = V (mg a) := by unfold iv; rw [n1]; rfl
          have p2 : iv b = V (mg b) := by unfold iv; rw [n2]; rfl
          rw [p1, p2]; split
          · rfl
          · exact decide_eq_false (by omega)
        have h4 := mg_rw (ng a && ng b) (iv a + iv b)
        have h5 := word_split (rw_lt (ng a && ng b) (iv a + iv b))
        rw [h5, h3, h4]
        exact PW.of (Nat.min_le_right _ _)
      · exact ⟨_, add_fin_inf (by omega) (by omega), by rw [n2]; exact PW.of (Nat.le_refl _)⟩
    · rcases Nat.lt_or_eq_of_le i2 with h2 | h2
      · exact ⟨_, add_inf_fin (by omega) (by omega), by rw [n1]; exact PW.of (Nat.le_refl _)⟩
      · exact ⟨_, add_inf_inf (by omega) (by omega) (by rw [n1, n2]), by rw [n1]; exact PW.of (Nat.le_refl _)⟩
  obtain ⟨r, hr, hp⟩ := key
  have e : fadd a b = r := by unfold fadd; rw [hr]; rfl
  rw [e]; exact ⟨hr, hp⟩
theorem sub_some {a b : Nat} (ha : Fw a) (hb : Fw b) : floatBits .sub .f64 a b = some (fsub a b) ∧ Nw (fsub a b) ∧ fsub a b = rw' (ng a && !ng b) (iv a - iv b) := by
  have h := sub_word ha.fin hb.lt hb.fin
  have e : fsub a b = _ := getD_of h
  rw [e]
  refine ⟨h, ⟨rw_lt _ _, ?_⟩, rfl⟩
  rw [mg_rw]; exact Nat.min_le_right _ _
theorem mul_some {a b : Nat} (ha : Fw a) (hb : Fw b) : floatBits .mul .f64 a b = some (fmul a b) ∧ Nw (fmul a b) ∧ fmul a b = wd (ng a ^^ ng b) (min (rnd2 (V (mg a) * V (mg b))) INF) := by
  have h := mul_fin ha.fin hb.fin
  have e : fmul a b = _ := getD_of h
  rw [e]
  exact ⟨h, wd_nw _ (Nat.min_le_right _ _), rfl⟩
theorem sq_some {a : Nat} (ha : Nw a) : floatBits .mul .f64 a a = some (fmul a a) ∧ PW (fmul a a) := by
  rcases Nat.lt_or_eq_of_le ha.nn with h | h
  · obtain ⟨h1, -, h3⟩ := mul_some (a := a) (b := a) ⟨ha.lt, h⟩ ⟨ha.lt, h⟩
    refine ⟨h1, ?_⟩
    rw [h3, Bool.xor_self]
    exact PW.of (Nat.min_le_right _ _)
  · have h1 := mul_inf_inf (a := a) (b := a) h h
    have e : fmul a a = _ := getD_of h1
    rw [e]
    refine ⟨h1, ?_⟩
    rw [Bool.xor_self]
    exact PW.of (Nat.le_refl _)
theorem div_some {a b : Nat} (ha : Fw a) (hb : PW b) (h0 : 0 < b) (h1 : b < 9218868437227405312) :
    ∃ r, floatBits .quo .f64 a b = some (fdiv a b) ∧ Nw (fdiv a b) ∧ fdiv a b = wd (ng a) (min r INF) ∧ Near (V (mg a) * Q) (V b) r := by
  obtain ⟨m, n, _, i⟩ := hb.nn
  have hI := INF_num
  obtain ⟨r, hr, hN⟩ := div_fin (b := b) ha.fin (by omega) (by omega)
  rw [n, Bool.xor_false] at hr
  rw [m] at hN
  have e : fdiv a b = _ := getD_of hr
  rw [e]
  exact ⟨r, hr, wd_nw _ (Nat.min_le_right _ _), rfl, hN⟩

theorem canon_nw {a : Nat} (h : Nw a) : Nw (canonW a) := by
  have hN : isN a = false := isN_false.2 h.nn
  unfold canonW; rw [hN]
  simp only [Bool.false_eq_true, if_false]
  split
  · exact (PW.of (Nat.zero_le _)).nw
  · exact h
theorem canon_fw {a : Nat} (h : Fw a) : Fw (canonW a) := by
  have hN : isN a = false := isN_false.2 (Nat.le_of_lt h.fin)
  unfold canonW; rw [hN]
  simp only [Bool.false_eq_true, if_false]
  split
  · exact ⟨by show 0 < 2 ^ 64; omega, by decide⟩
  · exact h

/-- Three numbers sorted: the second among the first two, the third among all; their sum, the least first. -/
def i1 (x y z : Nat) : Nat × Nat × Nat := if y < x then (y, x, z) else (x, y, z)
def i2 (x y z : Nat) : Nat × Nat × Nat := if z < y then (if z < x then (z, x, y) else (x, z, y)) else (x, y, z)
def s3 (x y z : Nat) : Nat := fadd (fadd (i2 (i1 x y z).1 (i1 x y z).2.1 (i1 x y z).2.2).1 (i2 (i1 x y z).1 (i1 x y z).2.1 (i1 x y z).2.2).2.1) (i2 (i1 x y z).1 (i1 x y z).2.1 (i1 x y z).2.2).2.2
theorem s3_spec {x y z : Nat} (hx : PW x) (hy : PW y) (hz : PW z) : ∃ p q r, s3 x y z = fadd (fadd p q) r ∧ PW p ∧ PW q ∧ PW r ∧ p ≤ q ∧ q ≤ r ∧ x ≤ r ∧ y ≤ r ∧ z ≤ r ∧ (r = x ∨ r = y ∨ r = z) ∧ (q = x ∨ q = y ∨ q = z) ∧ (p = x ∨ p = y ∨ p = z) := by
  refine ⟨_, _, _, rfl, ?_⟩
  unfold i1 i2
  by_cases h1 : y < x
  · rw [if_pos h1]
    by_cases h2 : z < x
    · by_cases h3 : z < y
      · simp only [h2, h3, if_true]; exact ⟨hz, hy, hx, by omega, by omega, by omega, by omega, by omega, by simp⟩
      · simp only [h2, h3, if_true, if_false]; exact ⟨hy, hz, hx, by omega, by omega, by omega, by omega, by omega, by simp⟩
    · simp only [h2, if_false]; exact ⟨hy, hx, hz, by omega, by omega, by omega, by omega, by omega, by simp⟩
  · rw [if_neg h1]
    by_cases h2 : z < y
    · by_cases h3 : z < x
      · simp only [h2, h3, if_true]; exact ⟨hz, hx, hy, by omega, by omega, by omega, by omega, by omega, by simp⟩
      · simp only [h2, h3, if_true, if_false]; exact ⟨hx, hz, hy, by omega, by omega, by omega, by omega, by omega, by simp⟩
    · simp only [h2, if_false]; exact ⟨hx, hy, hz, by omega, by omega, by omega, by omega, by omega, by simp⟩
theorem s3_pw {x y z : Nat} (hx : PW x) (hy : PW y) (hz : PW z) : PW (s3 x y z) := by
  obtain ⟨p, q, r, e, hp, hq, hr, -⟩ := s3_spec hx hy hz
  rw [e]; exact (add_some (add_some hp hq).2 hr).2
theorem add_ge {a b : Nat} (ha : PW a) (hb : PW b) : a ≤ fadd a b ∧ b ≤ fadd a b := by
  obtain ⟨m1, n1, _, i1⟩ := ha.nn
  obtain ⟨m2, n2, _, i2⟩ := hb.nn
  have p1 : iv a = V a := by unfold iv; rw [n1, m1]; rfl
  have p2 : iv b = V b := by unfold iv; rw [n2, m2]; rfl
  rcases Nat.lt_or_eq_of_le i1 with h1 | h1
  · rcases Nat.lt_or_eq_of_le i2 with h2 | h2
    · have e : fadd a b = _ := getD_of (add_word (a := a) (b := b) (by omega) (by omega))
      have h4 := mg_rw (ng a && ng b) (iv a + iv b)
      have h6 := (add_some ha hb).2.nn.1
      rw [e] at h6
      rw [e, ← h6, h4, p1, p2, show ((V a : Int) + (V b : Int)).natAbs = V a + V b from by omega]
      have q1 : a ≤ rnd (V a + V b) := le_rnd_of (by omega)
      have q2 : b ≤ rnd (V a + V b) := le_rnd_of (by omega)
      omega
    · have e : fadd a b = _ := getD_of (add_fin_inf (a := a) (b := b) (by omega) (by omega))
      rw [e, n2]; show a ≤ INF ∧ b ≤ INF; omega
  · rcases Nat.lt_or_eq_of_le i2 with h2 | h2
    · have e : fadd a b = _ := getD_of (add_inf_fin (a := a) (b := b) (by omega) (by omega))
      rw [e, n1]; show a ≤ INF ∧ b ≤ INF; omega
    · have e : fadd a b = _ := getD_of (add_inf_inf (a := a) (b := b) (by omega) (by omega) (by rw [n1, n2]))
      rw [e, n1]; show a ≤ INF ∧ b ≤ INF; omega
theorem add_le {a b c : Nat} (ha : PW a) (hb : PW b) (h1 : a < INF) (h2 : b < INF) (hc : V a + V b ≤ V c) : fadd a b ≤ c := by
  obtain ⟨m1, n1, _, -⟩ := ha.nn
  obtain ⟨m2, n2, _, -⟩ := hb.nn
  have p1 : iv a = V a := by unfold iv; rw [n1, m1]; rfl
  have p2 : iv b = V b := by unfold iv; rw [n2, m2]; rfl
  have e : fadd a b = _ := getD_of (add_word (a := a) (b := b) (by omega) (by omega))
  have h4 := mg_rw (ng a && ng b) (iv a + iv b)
  have h6 := (add_some ha hb).2.nn.1
  rw [e] at h6
  rw [e, ← h6, h4, p1, p2, show ((V a : Int) + (V b : Int)).natAbs = V a + V b from by omega]
  have q1 : rnd (V a + V b) ≤ c := rnd_le_of hc
  omega
theorem s3_ge {x y z : Nat} (hx : PW x) (hy : PW y) (hz : PW z) : x ≤ s3 x y z ∧ y ≤ s3 x y z ∧ z ≤ s3 x y z := by
  obtain ⟨p, q, r, e, hp, hq, hr, -, -, h1, h2, h3, -⟩ := s3_spec hx hy hz
  have := (add_ge (add_some hp hq).2 hr).2
  rw [e]; omega
/-- Three numbers up to 1 give at most 4. -/
theorem s3_le {x y z : Nat} (h1 : x ≤ 4607182418800017408) (h2 : y ≤ 4607182418800017408) (h3 : z ≤ 4607182418800017408) : s3 x y z ≤ 4616189618054758400 := by
  have hI := INF_num
  obtain ⟨p, q, r, e, hp, hq, hr, -, -, -, -, -, g1, g2, g3⟩ := s3_spec (x := x) (y := y) (z := z) ⟨by omega⟩ ⟨by omega⟩ ⟨by omega⟩
  have k1 : p ≤ 4607182418800017408 := by omega
  have k2 : q ≤ 4607182418800017408 := by omega
  have k3 : r ≤ 4607182418800017408 := by omega
  have v1 := V_le k1
  have v2 := V_le k2
  have v3 := V_le k3
  rw [V_one] at v1 v2 v3
  have t := V_two
  have h : fadd p q ≤ 4611686018427387904 := add_le hp hq (by omega) (by omega) (by omega)
  have v4 := V_le h
  have f : V 4616189618054758400 = 4 * Q := by
    have := V_double (r := 4611686018427387904) (by omega)
    rw [show 4611686018427387904 + 2 ^ 52 = 4616189618054758400 from rfl] at this
    omega
  rw [e]
  exact add_le (add_some hp hq).2 hr (by omega) (by omega) (by omega)

/-! ### Roots -/
theorem rootFrom_pos {n : Nat} (hn : 1 ≤ n) : ∀ (t r : Nat), (1 ≤ r ∨ 1 ≤ t) → 1 ≤ Datum.rootFrom n t r := by
  intro t
  induction t with
  | zero => intro r h; show 1 ≤ r; omega
  | succ t ih =>
    intro r h
    show 1 ≤ Datum.rootFrom n t (if (r + 1 <<< t) * (r + 1 <<< t) ≤ n then r + 1 <<< t else r)
    refine ih _ ?_
    rcases Nat.eq_zero_or_pos t with h0 | h0
    · subst h0
      left
      rw [show 1 <<< 0 = 1 from rfl]
      split
      · omega
      · rename_i hc
        rcases Nat.eq_zero_or_pos r with h1 | h1
        · subst h1; omega
        · exact h1
    · exact .inr h0
theorem rootFrom_lt {n : Nat} : ∀ (t r : Nat), Datum.rootFrom n t r < r + 2 ^ t := by
  intro t
  induction t with
  | zero => intro r; show r < r + 1; omega
  | succ t ih =>
    intro r
    show Datum.rootFrom n t (if (r + 1 <<< t) * (r + 1 <<< t) ≤ n then r + 1 <<< t else r) < _
    have h := ih (if (r + 1 <<< t) * (r + 1 <<< t) ≤ n then r + 1 <<< t else r)
    rw [Nat.pow_succ]
    have e : 1 <<< t = 2 ^ t := by rw [Nat.shiftLeft_eq, Nat.one_mul]
    rw [e] at h ⊢
    split at h <;> rename_i hc
    · rw [if_pos hc]; omega
    · rw [if_neg hc]; omega

/-- The root of a finite number above nought. -/
theorem sqrt_shape {a : Nat} (h : PW a) (h0 : 0 < a) (h1 : a < 9218868437227405312) :
    ∃ (mag : Nat) (i more : Int), double.sqrt a = some (min (rung mag ((i - more) / 2 - 1)) INF) ∧ 2 ≤ mag ∧ mag < 2 ^ 82 ∧ i = -1074 + (E a : Int) ∧ 56 ≤ more ∧ more ≤ 109 ∧ (2 ^ 52 ≤ a → more ≤ 57) := by
  obtain ⟨m, n, _, i⟩ := h.nn
  have hI := INF_num
  have hr := read_fin (w := a) (by omega)
  rw [m, n] at hr
  have hM : M a ≠ 0 := fun e => by have := M_eq_zero.1 e; omega
  have hM1 := M_lt a
  have hl : (M a).log2 < 53 := (Nat.log2_lt hM).2 hM1
  have hl2 : 2 ^ 52 ≤ a → 52 ≤ (M a).log2 := fun ha => (Nat.le_log2 hM).2 (by unfold M; rw [if_neg (by omega)]; omega)
  have hq : double.sqrt a = (Datum.root 54 (.number false (M a) (-1074 + (E a : Int)))).map double.write := by
    unfold Format.sqrt; rw [hr]; rfl
  rw [hq]
  unfold Datum.root
  simp only
  rw [if_neg hM, if_neg (by decide)]
  generalize hmo : 2 * 54 - (M a).log2 + ((-1074 + (E a : Int) - ((2 * 54 - (M a).log2 : Nat) : Int)) % 2).toNat = more
  have hm1 : 56 ≤ more := by omega
  have hm2 : more ≤ 109 := by omega
  have hm3 : 2 ^ 52 ≤ a → more ≤ 57 := fun ha => by have := hl2 ha; omega
  have hn0 : 1 ≤ M a <<< more := by rw [Nat.shiftLeft_eq]; exact Nat.mul_pos (by omega) (Nat.two_pow_pos _)
  have hn1 : (M a <<< more).log2 < 162 := (Nat.log2_lt (by omega)).2 (by
    rw [Nat.shiftLeft_eq]
    have : 2 ^ more ≤ 2 ^ 109 := Nat.pow_le_pow_right (by omega) hm2
    calc M a * 2 ^ more ≤ M a * 2 ^ 109 := Nat.mul_le_mul_left _ this
      _ < 2 ^ 53 * 2 ^ 109 := Nat.mul_lt_mul_of_pos_right hM1 (Nat.two_pow_pos _)
      _ = 2 ^ 162 := by rw [← Nat.pow_add])
  have hw1 := rootFrom_pos hn0 ((M a <<< more).log2 / 2 + 1) 0 (by omega)
  have hw2 := rootFrom_lt (n := M a <<< more) ((M a <<< more).log2 / 2 + 1) 0
  have hw3 : 2 ^ ((M a <<< more).log2 / 2 + 1) ≤ 2 ^ 81 := Nat.pow_le_pow_right (by omega) (by omega)
  generalize Datum.rootFrom (M a <<< more) ((M a <<< more).log2 / 2 + 1) 0 = wh at *
  refine ⟨2 * wh + (wh * wh != M a <<< more).toNat, -1074 + (E a : Int), (more : Int), ?_, ?_, ?_, rfl, ?_, ?_, ?_⟩
  · show some (double.nearest false _ _) = _
    rw [nearest_eq, word_eq]; rfl
  · omega
  · have : (wh * wh != M a <<< more).toNat ≤ 1 := by cases (wh * wh != M a <<< more) <;> decide
    have e : 2 ^ 82 = 2 ^ 81 + 2 ^ 81 := by decide
    omega
  · omega
  · omega
  · intro ha; have := hm3 ha; omega
theorem sqrt_some {a : Nat} (h : PW a) : double.sqrt a = some (fsqrt a) ∧ PW (fsqrt a) ∧ (0 < a → 0 < fsqrt a) := by
  obtain ⟨m, n, _, i⟩ := h.nn
  have hI := INF_num
  rcases Nat.eq_zero_or_pos a with h0 | h0
  · subst h0
    exact ⟨by decide +kernel, ⟨by decide +kernel⟩, fun h => by omega⟩
  · rcases Nat.lt_or_eq_of_le i with h1 | h1
    · obtain ⟨mag, i, more, he, g1, g2, g3, g4, g5, -⟩ := sqrt_shape h h0 (by omega)
      have e : fsqrt a = _ := getD_of he
      rw [e]
      refine ⟨he, PW.of (Nat.min_le_right _ _), fun _ => ?_⟩
      have hN := near_rung (mag := mag) ((i - more) / 2 - 1)
      have hp : ((-((i - more) / 2 - 1 + 1074)).toNat : Nat) = 0 := by omega
      rw [hp] at hN
      have h1 : 1 ≤ rung mag ((i - more) / 2 - 1) := (near_self (r := 1) (q := 1) (by omega)).le_of (by omega) (by omega) hN (by
        have hv : V 1 = 1 := V_small (by omega)
        have := Nat.mul_pos (show 0 < mag by omega) (Nat.two_pow_pos ((i - more) / 2 - 1 + 1074).toNat)
        rw [hv]; omega)
      omega
    · have hr := read_inf (w := a) (by omega)
      rw [n] at hr
      have he : double.sqrt a = some INF := by
        unfold Format.sqrt; rw [hr]
        show some (double.write (.infinity false)) = _
        rw [write_inf]; rfl
      have e : fsqrt a = _ := getD_of he
      rw [e]
      exact ⟨he, PW.of (Nat.le_refl _), fun _ => by omega⟩
/-- A root of a number between 1 and 4 is neither great nor small (roughly told). -/
theorem sqrt_mid {a : Nat} (h1 : 4607182418800017408 ≤ a) (h2 : a ≤ 4616189618054758400) : 4336966441157787648 ≤ fsqrt a ∧ fsqrt a ≤ 4877398396442247168 := by
  have hI := INF_num
  obtain ⟨mag, i, more, he, g1, g2, g3, g4, g5, g6⟩ := sqrt_shape (a := a) ⟨by omega⟩ (by omega) (by omega)
  have g7 := g6 (by omega)
  have e : fsqrt a = _ := getD_of he
  rw [e]
  have hE1 : 1022 ≤ E a := by unfold E; omega
  have hE2 : E a ≤ 1024 := by unfold E; omega
  have hN := near_rung (mag := mag) ((i - more) / 2 - 1)
  have hp : ((-((i - more) / 2 - 1 + 1074)).toNat : Nat) = 0 := by omega
  rw [hp] at hN
  obtain ⟨k, hk⟩ : ∃ k, k = ((i - more) / 2 - 1 + 1074).toNat := ⟨_, rfl⟩
  have hk1 : 1018 ≤ k := by omega
  have hk2 : k ≤ 1021 := by omega
  rw [← hk] at hN
  generalize (i - more) / 2 - 1 = p at *
  have c1 : 4336966441157787648 ≤ rung mag p := (near_self (r := 4336966441157787648) (q := 1) (by omega)).le_of (by omega) (by omega) hN (by
    obtain ⟨D, hD⟩ : ∃ D : Nat, D = 962 := ⟨_, rfl⟩
    rw [V_pow (D := D) (by omega)]
    have : 2 ^ 52 * 2 ^ D ≤ mag * 2 ^ k := by
      rw [← Nat.pow_add]
      calc 2 ^ (52 + D) ≤ 2 ^ k := Nat.pow_le_pow_right (by omega) (by omega)
        _ ≤ mag * 2 ^ k := Nat.le_mul_of_pos_left _ (by omega)
    omega)
  have c2 : rung mag p ≤ 4877398396442247168 := hN.le_of (by omega) (by omega) (near_self (r := 4877398396442247168) (q := 1) (by omega)) (by
    obtain ⟨D, hD⟩ : ∃ D : Nat, D = 1082 := ⟨_, rfl⟩
    rw [V_pow (D := D) (by omega)]
    have : mag * 2 ^ k ≤ 2 ^ 52 * 2 ^ D := by
      rw [← Nat.pow_add]
      calc mag * 2 ^ k ≤ 2 ^ 82 * 2 ^ k := Nat.mul_le_mul_right _ (by omega)
        _ = 2 ^ (82 + k) := by rw [← Nat.pow_add]
        _ ≤ 2 ^ (52 + D) := Nat.pow_le_pow_right (by omega) (by omega)
    omega)
  omega
end TF
/- Arguments opened, of integers alone: slices of structs, structs by value; the row's end where only new blocks and draws have come. -/
namespace TF
open Go Go.RowKit Go.ChangeShapes Go.WideShapes Go.Deep Go.Joins

section
variable {H : Type} {enc : TypeId × Value → H} {P : Program} {w : World} {base : Nat} {spare : Nat → Bool} {held : Bool}
theorem int_cell {t : TypeId} {k : IntKind} {n : Nat} {v : Value} {y : DataW H × List MemPlace} (ht : P.underlying t = some (.int k)) (h : DataW.trod enc P w base spare held n t [v] = some y) : ∃ b, v = .int k b ∧ (Lit.int k b).wf = true := by
  cases n with
  | zero => simp [DataW.trod] at h
  | succ n =>
    unfold DataW.trod at h
    rw [ht] at h
    split at h <;> simp_all

theorem flat_of_cell {a : Addr} {v : Value} (h : w.cell? a = some v) : ∃ b off, a = ⟨b, off, none⟩ := by
  obtain ⟨b, off, spot⟩ := a
  refine ⟨b, off, ?_⟩
  unfold World.cell? at h
  cases spot with
  | none => rfl
  | some s => simp at h; split at h <;> simp at h
theorem add_flat (b off n : Nat) : (⟨b, off, none⟩ : Addr).add n = ⟨b, off + n, none⟩ := by
  unfold Addr.add; split
  · rename_i h; subst h; rfl
  · rfl

/-- A slice of structs: each field's cell by its place, with what it reads as. -/
theorem fields_of_slice {t e : TypeId} {fs : Array Field} {fuel : Nat} {v : Value} {x : DataW H × List MemPlace} (ht : P.underlying t = some (.slice e)) (he : P.underlying e = some (.struct fs))
    (hone : oneCellFields P fs = true) (hC : P.cellsOf e = fs.size) (hpos : 0 < fs.size) (h : DataW.trod enc P w base spare held fuel t [v] = some x) :
    ∃ (A : Option Addr) (len cap : Nat), v = .slice A len cap ∧ len ≤ cap ∧ cap ≤ maxLen ∧ ∀ i, i < len → ∃ b off, A = some ⟨b, off, none⟩ ∧ ∀ (j : Nat) (f : Field), fs[j]? = some f →
      ∃ (u : Value) (n : Nat) (y : DataW H × List MemPlace), w.cell? ⟨b, off + i * fs.size + j, none⟩ = some u ∧ DataW.trod enc P w base spare held n f.type [u] = some y := by
  rcases open_slice ht h with ⟨hcs, _⟩ | ⟨a, len, cap, m, n, D, Pl, hcs, _, hl, hm, hmm, _, hi⟩
  · simp only [List.cons.injEq, and_true] at hcs
    exact ⟨none, 0, 0, hcs, Nat.le_refl _, Nat.zero_le _, fun i hi => absurd hi (Nat.not_lt_zero _)⟩
  · simp only [List.cons.injEq, and_true] at hcs
    have hle : len ≤ m := by rw [hmm]; split <;> omega
    have key : ∀ i, i < len → ∀ (j : Nat) (f : Field), fs[j]? = some f → ∃ (u : Value) (n : Nat) (y : DataW H × List MemPlace), w.cell? (a.add (i * fs.size + j)) = some u ∧ DataW.trod enc P w base spare held n f.type [u] = some y := by
      intro i hil j f hj
      obtain ⟨cs', hc, ht'⟩ := hi i (by omega)
      rw [hC] at hc
      obtain ⟨ys, n', _, _, hlen, hyl, hf⟩ := DataW.trod_struct he ht'
      obtain ⟨_, hcl, hat⟩ := World.cells?_some hc
      obtain ⟨ho, hk⟩ := hone_of hone j f hj
      have hjl : j < fs.size := (Array.getElem?_eq_some_iff.1 hj).1
      have hcell := hat j hjl
      have h1 := hf j f hj
      rw [ho, hk, show (cs'.drop j).take 1 = [cs'[j]'(by omega)] from by rw [List.drop_eq_getElem_cons (by omega)]; rfl, List.getElem?_eq_getElem (by omega)] at h1
      refine ⟨cs'[j]'(by omega), n', _, ?_, h1⟩
      rw [← Go.Deep.add_add, hcell, List.getElem?_eq_getElem (by omega)]
    refine ⟨some a, len, cap, hcs, hl, hm, fun i hil => ?_⟩
    obtain ⟨u, _, _, hu, _⟩ := key 0 (by omega) 0 _ (Array.getElem?_eq_getElem hpos)
    have hadd : a.add (0 * fs.size + 0) = a := by unfold Addr.add; simp
    rw [hadd] at hu
    obtain ⟨b, off, rfl⟩ := flat_of_cell hu
    refine ⟨b, off, rfl, fun j f hj => ?_⟩
    obtain ⟨u, n, y, hu, hy⟩ := key i hil j f hj
    rw [add_flat, ← Nat.add_assoc] at hu
    exact ⟨u, n, y, hu, hy⟩

/-- A slice of one-cell elements. -/
theorem cells_of_slice {t e : TypeId} {fuel : Nat} {v : Value} {x : DataW H × List MemPlace} (ht : P.underlying t = some (.slice e)) (hC : P.cellsOf e = 1) (h : DataW.trod enc P w base spare held fuel t [v] = some x) :
    ∃ (A : Option Addr) (len cap : Nat), v = .slice A len cap ∧ len ≤ cap ∧ cap ≤ maxLen ∧ ∀ i, i < len → ∃ b off, A = some ⟨b, off, none⟩ ∧
      ∃ (u : Value) (n : Nat) (y : DataW H × List MemPlace), w.cell? ⟨b, off + i, none⟩ = some u ∧ DataW.trod enc P w base spare held n e [u] = some y := by
  rcases open_slice1 ht hC h with ⟨hcs, _⟩ | ⟨a, len, cap, m, n, Vv, D, Pl, hcs, _, hl, hm, hmm, _, hi⟩
  · simp only [List.cons.injEq, and_true] at hcs
    exact ⟨none, 0, 0, hcs, Nat.le_refl _, Nat.zero_le _, fun i hi => absurd hi (Nat.not_lt_zero _)⟩
  · simp only [List.cons.injEq, and_true] at hcs
    have hle : len ≤ m := by rw [hmm]; split <;> omega
    refine ⟨some a, len, cap, hcs, hl, hm, fun i hil => ?_⟩
    obtain ⟨hu, _⟩ := hi 0 (by omega)
    have hadd : a.add 0 = a := by unfold Addr.add; simp
    rw [hadd] at hu
    obtain ⟨b, off, rfl⟩ := flat_of_cell hu
    obtain ⟨hc, hy⟩ := hi i (by omega)
    rw [add_flat] at hc
    exact ⟨b, off, rfl, _, n, _, hc, hy⟩
end

theorem lt_of_cell {w : World} {b off : Nat} {v : Value} (h : w.cell? ⟨b, off, none⟩ = some v) : b < w.heap.size := by
  rcases Nat.lt_or_ge b w.heap.size with h1 | h1
  · exact h1
  · unfold World.cell? at h; rw [Array.getElem?_eq_none h1] at h; cases h

section
variable {H : Type} {enc : TypeId × Value → H} {P : Program} {w : World} {base : Nat} {spare : Nat → Bool} {held : Bool}
/-- A struct by value: each field's cell, with what it reads as. -/
theorem open_struct {r : Reach} {b0 : Nat} {t : TypeId} {fs : Array Field} {v : Value} {d : DataW H} {p : List MemPlace} (hs : P.underlying t = some (.struct fs)) (hone : oneCellFields P fs = true) (hC : P.cellsOf t = fs.size)
    (hv : Value.okWide P w r b0 t v) (h : DataW.Trod enc P w base spare held t v d p) :
    ∃ cs : Array Value, v = .agg cs ∧ cs.size = fs.size ∧ ∀ (j : Nat) (f : Field), fs[j]? = some f → ∃ (u : Value) (n : Nat) (y : DataW H × List MemPlace), cs[j]? = some u ∧ DataW.trod enc P w base spare held n f.type [u] = some y := by
  obtain ⟨cs, rfl, hsz⟩ := okWide_struct hs hv
  rw [hC] at hsz
  refine ⟨cs, rfl, hsz, fun j f hj => ?_⟩
  obtain ⟨fuel, hf⟩ := h
  obtain ⟨xs, n, _, _, _, hlen, hg⟩ := DataW.trod_struct hs hf
  obtain ⟨ho, hk⟩ := hone_of hone j f hj
  have hjl : j < fs.size := (Array.getElem?_eq_some_iff.1 hj).1
  have h1 := hg j f hj
  have hcl : (Value.agg cs).cells.toList = cs.toList := rfl
  rw [ho, hk, hcl, show (cs.toList.drop j).take 1 = [cs.toList[j]'(by simp; omega)] from by rw [List.drop_eq_getElem_cons (by simp; omega)]; rfl, List.getElem?_eq_getElem (by omega)] at h1
  exact ⟨_, n, _, by rw [Array.getElem?_eq_getElem (by omega)]; simp, h1⟩
/-- The row's end: nothing that was there has turned; each argument reads as it did. -/
theorem post_below {f : Func} {s : ChangeSpec} {apart fresh handsOn again : Bool} {W W' : World} {args : Array Value} {v : Value} {ds gs : List (DataW H)} {before : List MemPlace}
    (hW : DataW.Whole enc P f.params.toList s.vars apart W args.toList ds gs before)
    (hres : ∀ (b : Nat) (sp : Nat → Bool) (hd : Bool), DataW.TrodAll enc P W' b sp hd f.resultTypes.toList (v.resultList f.resultTypes.size) (s.fn H (ds ++ gs)).results [])
    (hargs : ∀ sp : Nat → Bool, (∀ p ∈ before, sp p.block = true) → DataW.TrodAll enc P W' 0 sp true f.params.toList args.toList (s.fn H (ds ++ gs)).args before)
    (hvars : ∀ sp : Nat → Bool, (∀ p ∈ before, sp p.block = true) → DataW.TrodVars enc P W' sp s.vars (s.fn H (ds ++ gs)).vars [])
    (hb : Below W.heap.size W W')
    (hok : ∀ (j : Nat) (t : TypeId) (r : Value), f.resultTypes[j]? = some t → (v.resultList f.resultTypes.size)[j]? = some r → Value.okWide P W' .any 0 t r) :
    s.post enc P f apart fresh handsOn again W args v W' := by
  have hlt : ∀ p ∈ before, p.block < W.heap.size := fun p hp => hW.lt p hp
  have hold : ∀ p ∈ before, (fun b => decide (b < W.heap.size)) p.block = true := fun p hp => by simpa using hlt p hp
  refine ⟨ds, gs, before, [], before, [], hW, hres _ _ _, hargs _ hold, hvars _ hold, World.keptBut_mono (fun p hp => ⟨hp, .inr (.inl hp)⟩) (hb.frame (· ∈ before)), fun _ => ?_⟩
  obtain ⟨_, _, _, _, _, hz, hn⟩ := hW
  refine ⟨hok, _, _, ([] ++ before) ++ [], ⟨[] ++ before, [], trodAll_append (hargs _ (fun _ _ => rfl)) (hres _ _ _), hvars _ (fun _ _ => rfl), rfl, ?_, ?_⟩, ?_⟩
  · intro b off hp
    have hin : MemPlace.cell b off ∈ before := by simpa using hp
    rw [hb.frozen (hlt _ hin)]
    exact hz b off hin
  · intro ha
    have := hn ha
    simpa using this
  · intro p hp _
    simpa using hp

/-- An argument's reading in the world behind. -/
theorem trod_after {t : TypeId} (hl : laidOutB P = true) (hr : P.readableRec t = true) (hrow : t < P.types.size) {W W' : World} {v : Value} {d : DataW H} {ps before : List MemPlace} {sp : Nat → Bool}
    (h : DataW.Trod enc P W 0 (fun _ => true) true t v d ps) (hb : Below W.heap.size W W') (hlt : ∀ x ∈ before, x.block < W.heap.size) (hs : ∀ x ∈ before, sp x.block = true) (hsub : ∀ x ∈ ps, x ∈ before) :
    DataW.Trod enc P W' 0 sp true t v d ps :=
  WideElems.Trod_stays hl hr hrow h (fun x hx => hb.same (hlt x (hsub x hx))) (fun x hx => hs x (hsub x hx))
end
end TF
/- Vectors of floats: differences, lengths, quotients, as words. -/
namespace TF
open Ieee Go

def cs (a b : Nat) : Nat := canonW (fsub a b)
def cq (a l : Nat) : Nat := canonW (fdiv a l)
def vlen (x y z : Nat) : Nat := fsqrt (s3 (fmul x x) (fmul y y) (fmul z z))
def vgap (a b c x y z : Nat) : Nat := vlen (cs a x) (cs b y) (cs c z)
theorem vlen_pw {x y z : Nat} (hx : Nw x) (hy : Nw y) (hz : Nw z) : PW (vlen x y z) := (sqrt_some (s3_pw (sq_some hx).2 (sq_some hy).2 (sq_some hz).2)).2.1
theorem cs_nw {a b : Nat} (ha : Fw a) (hb : Fw b) : Nw (cs a b) := canon_nw (sub_some ha hb).2.1

/-- what the cross product's parts are made of -/
def cc (a b c d : Nat) : Nat := canonW (fsub (fmul a b) (fmul c d))
end TF
