/- Depths, levels and fills as plain functions of words, and their order. -/
import Derived.Test.YtneedadoafcfcaaLevF
import Derived.Test.YtneedadoafcfcaaBitsN
namespace TF
open Ieee Go Go.RowKit

/-- whole numbers of 64 bits as floats. -/
theorem fi_rung {n : Int} (h : 0 ≤ n) : floatOfInt .f64 n = min (rnd (n.natAbs * Q)) INF := by
  rw [fi_eq, decide_eq_false (by omega)]; exact if_neg Bool.false_ne_true
theorem rnd_two63 : rnd (2 ^ 63 * Q) = (T + 11) * 2 ^ 52 + 2 ^ 52 := by
  have h : V ((T + 11) * 2 ^ 52 + 2 ^ 52) = 2 ^ 63 * Q := by
    rw [V_block (D := T + 11) (k := 2 ^ 52) (Nat.le_refl _) (by omega)]
    unfold Q
    rw [Nat.pow_add, ← Nat.mul_assoc, Nat.mul_right_comm, ← Nat.pow_add]
  rw [← h, rnd_V]
structure FiIs (n : Int) (f : Nat) : Prop where
  eq : floatOfInt .f64 n = f
  fin : mg f < INF
  pos : ng f = false
  self : mg f = f
  rn : f = rnd (n.natAbs * Q)
  lo : 0 < n → Q ≤ V f
  hi : V f ≤ 2 ^ 63 * Q
theorem fi_is {n : Int} (h : 0 ≤ n) (h' : n ≤ 9223372036854775807) : FiIs n (rnd (n.natAbs * Q)) := by
  have hI := INF_lt
  have hI' := INF_eq
  have hT := T_int
  have h1 : rnd (n.natAbs * Q) ≤ rnd (2 ^ 63 * Q) := rnd_mono (Nat.mul_le_mul_right _ (by omega))
  have h2 := rnd_two63
  have hf : rnd (n.natAbs * Q) < INF := by
    rw [h2] at h1
    revert h1 hT
    generalize T = t
    intro hT h1
    unfold INF; omega
  have hm : mg (rnd (n.natAbs * Q)) = rnd (n.natAbs * Q) := mg_small (by omega)
  refine ⟨by rw [fi_rung h, Nat.min_eq_left (by omega)], by omega, ng_small (by omega), hm, rfl, fun h0 => ?_, ?_⟩
  · have : rnd Q ≤ rnd (n.natAbs * Q) := rnd_mono (Nat.le_mul_of_pos_left _ (by omega))
    have h3 := V_le this
    have h4 : V (rnd Q) = Q := by rw [← V_one, rnd_V]
    rwa [h4] at h3
  · have h3 := V_le h1
    have h4 : V (rnd (2 ^ 63 * Q)) = 2 ^ 63 * Q := by
      have h := rep_bits (2 ^ 52) (T + 11) (by omega)
      have e : 2 ^ 52 * 2 ^ (T + 11) = 2 ^ 63 * Q := by unfold Q; rw [Nat.pow_add, ← Nat.mul_assoc, Nat.mul_right_comm, ← Nat.pow_add]
      rw [e] at h; exact h.eq
    rwa [h4] at h3
theorem FiIs.mono {m n : Int} {f g : Nat} (hf : FiIs m f) (hg : FiIs n g) (h0 : 0 ≤ m) (h : m ≤ n) : f ≤ g := by
  rw [hf.rn, hg.rn]; exact rnd_mono (Nat.mul_le_mul_right _ (by omega))

/-- Depth. -/
def depthW (water area : Int) : Nat := if water < 1 ∨ area < 1 then 0 else (double.div (floatOfInt .f64 water) (floatOfInt .f64 area)).getD 0
theorem depth_zero {water area : Int} (h : water < 1 ∨ area < 1) : depthW water area = 0 := if_pos h
structure DepIs (water area : Int) (d : Nat) : Prop where
  run : floatBits .quo .f64 (floatOfInt .f64 water) (floatOfInt .f64 area) = some d
  eq : depthW water area = d
  fin : mg d < INF
  pos : ng d = false
  self : mg d = d
  near : Near (V (rnd (water.natAbs * Q)) * Q) (V (rnd (area.natAbs * Q))) d
  gt : 0 < d
theorem dep_is {water area : Int} (h1 : 1 ≤ water) (h1' : water ≤ 9223372036854775807) (h2 : 1 ≤ area) (h2' : area ≤ 9223372036854775807) : DepIs water area (depthW water area) := by
  have hI := INF_lt
  have hI' := INF_eq
  have A := fi_is (n := water) (by omega) h1'
  have B := fi_is (n := area) (by omega) h2'
  have hA := A.lo (by omega)
  have hB := B.lo (by omega)
  have hB' := B.hi
  have e1 := A.eq
  have e2 := B.eq
  generalize ea : rnd (water.natAbs * Q) = a at *
  generalize eb : rnd (area.natAbs * Q) = b at *
  have hq := Q_pos
  have hb0 : mg b ≠ 0 := by
    intro h0; rw [B.self] at h0; rw [h0, V_zero] at hB; omega
  obtain ⟨r, hr, hn⟩ := div_fin A.fin B.fin hb0
  rw [A.self, B.self] at hn
  rw [A.pos, B.pos] at hr
  have hr1 : r ≤ a := by
    have h := near_self (r := a) (q := V b) (by omega)
    refine hn.le_of (by omega) (by omega) h ?_
    rw [Nat.mul_comm (V b) (V a)]
    exact Nat.mul_le_mul_right _ (Nat.mul_le_mul_left _ hB)
  have ha := A.fin
  rw [A.self] at ha
  have hr2 : 1 ≤ r := by
    have h := near_self (r := 1) (q := V b) (by omega)
    refine h.le_of (by omega) (by omega) hn ?_
    have hv1 : V 1 = 1 := V_small (by omega)
    rw [hv1, Nat.mul_one]
    have h63 : 2 ^ 63 ≤ Q := Nat.pow_le_pow_right (by omega) (by have := T_int; omega)
    have h64 : V b ≤ V a * Q := Nat.le_trans hB' (Nat.le_trans (Nat.mul_le_mul_right _ h63) (Nat.mul_le_mul_right _ hA))
    exact Nat.mul_le_mul_right _ h64
  have hr3 : double.div a b = some r := by
    rw [hr, Nat.min_eq_left (by omega)]; rfl
  have hd : depthW water area = r := by
    unfold depthW
    rw [if_neg (by omega), e1, e2, hr3]; rfl
  have hm : mg r = r := mg_small (by omega)
  rw [hd]
  exact ⟨by rw [e1, e2]; exact hr3, hd, by omega, ng_small (by omega), hm, by rw [ea, eb]; exact hn, by omega⟩
theorem depth_up {w1 w2 area : Int} (h : w1 ≤ w2) (h' : w2 ≤ 9223372036854775807) (h2' : area ≤ 9223372036854775807) : depthW w1 area ≤ depthW w2 area := by
  by_cases h1 : w1 < 1 ∨ area < 1
  · rw [depth_zero h1]; omega
  · have A := dep_is (water := w1) (area := area) (by omega) (by omega) (by omega) h2'
    have B := dep_is (water := w2) (area := area) (by omega) h' (by omega) h2'
    have P := (fi_is (n := area) (by omega) h2').lo (by omega)
    have hq := Q_pos
    refine A.near.le_of (by omega) (by omega) B.near ?_
    exact Nat.mul_le_mul_right _ (Nat.mul_le_mul_right _ (V_le (rnd_mono (Nat.mul_le_mul_right _ (by omega)))))
theorem depth_down {water a1 a2 : Int} (h : a1 ≤ a2) (h' : a2 ≤ 9223372036854775807) (h0 : 1 ≤ a1) (h2' : water ≤ 9223372036854775807) : depthW water a2 ≤ depthW water a1 := by
  by_cases h1 : water < 1
  · rw [depth_zero (.inl h1)]; omega
  · have A := dep_is (water := water) (area := a1) (by omega) h2' h0 (by omega)
    have B := dep_is (water := water) (area := a2) (by omega) h2' (by omega) h'
    have P := (fi_is (n := a1) (by omega) (by omega)).lo (by omega)
    have P2 := (fi_is (n := a2) (by omega) h').lo (by omega)
    have hq := Q_pos
    refine B.near.le_of (by omega) (by omega) A.near ?_
    exact Nat.mul_le_mul_left _ (V_le (rnd_mono (Nat.mul_le_mul_right _ (by omega))))
theorem depth_word (water area : Int) (h1 : water ≤ 9223372036854775807) (h2 : area ≤ 9223372036854775807) : mg (depthW water area) < INF ∧ ng (depthW water area) = false ∧ mg (depthW water area) = depthW water area ∧ (0 < depthW water area ↔ (0 < water ∧ 0 < area)) := by
  by_cases h : water < 1 ∨ area < 1
  · rw [depth_zero h]; exact ⟨by decide, by decide, by decide, ⟨fun h => absurd h (by omega), fun h => by omega⟩⟩
  · have A := dep_is (water := water) (area := area) (by omega) h1 (by omega) h2
    exact ⟨A.fin, A.pos, A.self, ⟨fun _ => by omega, fun _ => A.gt⟩⟩

/-- the rank of a rounded sum. -/
def rkI (n : Int) : Int := if n < 0 then -(min (rnd n.natAbs) INF : Nat) else (min (rnd n.natAbs) INF : Nat)
theorem rkI_mono {m n : Int} (h : m ≤ n) : rkI m ≤ rkI n := by
  unfold rkI
  by_cases h1 : m < 0
  · by_cases h2 : n < 0
    · rw [if_pos h1, if_pos h2]
      have := rnd_mono (show n.natAbs ≤ m.natAbs by omega)
      omega
    · rw [if_pos h1, if_neg h2]; omega
  · rw [if_neg h1, if_neg (by omega)]
    have := rnd_mono (show m.natAbs ≤ n.natAbs by omega)
    omega
theorem rk_rwf (n : Int) : rk (rw' false n) = rkI n := by
  unfold rk rkI
  rw [mg_rw, ng_rw]
  by_cases h0 : n = 0
  · subst h0; simp
  · rw [if_neg h0]
    by_cases h1 : n < 0
    · simp [h1]
    · simp [h1]
theorem rkI_iv {x : Nat} (h : mg x < INF) : rkI (iv x) = rk x := by
  unfold rkI rk
  rw [iv_natAbs, rnd_V, Nat.min_eq_left (by omega)]
  unfold iv
  by_cases hg : ng x = true
  · rw [hg, if_pos rfl]
    by_cases h0 : mg x = 0
    · rw [h0, V_zero]; simp
    · have : 0 < V (mg x) := by
        refine Nat.pos_of_ne_zero fun h => h0 (V_eq_zero.1 h)
      rw [if_pos rfl, if_pos (by omega)]
  · rw [if_neg hg, if_neg hg, if_neg (by omega)]

/-- Level. -/
def levelW (bed : Nat) (water area : Int) : Nat := match double.add bed (depthW water area) with | some s => canonW s | none => 9221120237041090561
theorem level_ways (bed : Nat) (water area : Int) (h1 : water ≤ 9223372036854775807) (h2 : area ≤ 9223372036854775807) :
    (isN bed = true ∧ floatBits .add .f64 bed (depthW water area) = none ∧ levelW bed water area = 9221120237041090561) ∨
    (isN bed = false ∧ ∃ s, floatBits .add .f64 bed (depthW water area) = some s ∧ levelW bed water area = canonW s) := by
  obtain ⟨hf, hp, hs, -⟩ := depth_word water area h1 h2
  unfold levelW
  show (_ ∧ double.add bed (depthW water area) = none ∧ _) ∨ (_ ∧ ∃ s, double.add bed (depthW water area) = some s ∧ _)
  by_cases hn : INF < mg bed
  · left
    rw [add_nan_left hn]
    exact ⟨isN_true.2 hn, rfl, rfl⟩
  · right
    refine ⟨isN_false.2 (by omega), ?_⟩
    by_cases hi : mg bed = INF
    · rw [add_inf_fin hi hf]; exact ⟨_, rfl, rfl⟩
    · rw [add_word (by omega) hf]; exact ⟨_, rfl, rfl⟩
structure LevIs (bed : Nat) (water area : Int) (l : Nat) : Prop where
  notN : isN l = false
  notM : l ≠ 9223372036854775808
  rkf : mg bed < INF → rk l = rkI (iv bed + V (depthW water area))
  rki : ¬ mg bed < INF → rk l = rk bed
theorem lev_is {bed : Nat} {water area : Int} (hN : isN bed = false) (h1 : water ≤ 9223372036854775807) (h2 : area ≤ 9223372036854775807) : LevIs bed water area (levelW bed water area) := by
  have hI := INF_lt
  have hN' := isN_false.1 hN
  obtain ⟨hf, hp, hs, -⟩ := depth_word water area h1 h2
  by_cases hi : mg bed = INF
  · have e : levelW bed water area = wd (ng bed) INF := by
      unfold levelW
      rw [add_inf_fin hi hf]
      simp only
      have hm : mg (wd (ng bed) INF) = INF := mg_wd hI
      exact canonW_word (isN_false.2 (by omega)) (by omega)
    rw [e]
    refine ⟨not_nan_word (Nat.le_refl _), ?_, fun h => by omega, fun _ => ?_⟩
    · cases ng bed <;> decide
    · rw [rk_wd hI]; unfold rk; rw [hi]
  · have hfin : mg bed < INF := by omega
    have e : levelW bed water area = rw' false (iv bed + V (depthW water area)) := by
      unfold levelW
      rw [add_word hfin hf]
      simp only
      rw [canon_rw]
      congr 2
      unfold iv
      rw [hp, hs]; simp
    rw [e]
    refine ⟨isN_false.2 (by rw [mg_rw]; omega), ?_, fun _ => rk_rwf _, fun h => absurd hfin h⟩
    intro h
    have e1 := congrArg mg h
    have e2 := congrArg ng h
    rw [mg_rw] at e1
    rw [ng_rw] at e2
    have e3 : mg 9223372036854775808 = 0 := by decide
    have e4 : ng 9223372036854775808 = true := by decide
    rw [e3] at e1
    rw [e4] at e2
    have e5 : rnd (iv bed + V (depthW water area)).natAbs = 0 := by have := INF_eq; omega
    rw [rnd_eq_zero] at e5
    rw [if_pos (by omega)] at e2
    exact absurd e2 (by decide)
end TF
