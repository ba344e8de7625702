/- Whole numbers that are added to a pair one by one: nothing is lost. -/
import Derived.Test.YtkkikcfolinkfaaTwinE1
import Derived.Test.YtkkikcfolinkfaaTwinT
import Derived.Test.YtkkikcfolinkfaaTwinV
namespace TF
open Ieee Go Go.RowKit

/-- a sum that is finite, with what its first answer is worth. -/
theorem sum_val {a b : Nat} (fa : mg a < INF) (fb : mg b < INF) (h : (iv a + iv b).natAbs ≤ 9007199254740991 * G) : SumIs a b (sumW a b).1 (sumW a b).2 ∧ iv (sumW a b).1 = rI (iv a + iv b) := by
  have hr := rnd_fin h
  have hadd := add_word fa fb
  have hm : mg (rw' (ng a && ng b) (iv a + iv b)) < INF := by rw [mg_rw]; omega
  have h1 : (sumW a b).1 = canonW (rw' (ng a && ng b) (iv a + iv b)) := by unfold sumW; rw [hadd]; simp only; rw [if_pos hm]
  obtain ⟨g1, g2⟩ := fin_canon hm
  refine ⟨sum_is (by rw [h1]; exact g1), ?_⟩
  rw [h1, g2, iv_rw hr]

theorem G_great : ∃ p, 2 ^ 20 ≤ p ∧ G = p * Q := by
  obtain ⟨d, hd1, hd2⟩ : ∃ d, d + T = GE ∧ 20 ≤ d := ⟨971, rfl, by omega⟩
  exact ⟨2 ^ d, Nat.pow_le_pow_right (by omega) hd2, by rw [G_split d T hd1]; rfl⟩
theorem fin_Q {n : Nat} (h : n ≤ 73786976294838206464) : n * Q ≤ 9007199254740991 * G := by
  obtain ⟨p, hp, e⟩ := G_great
  rw [e, ← Nat.mul_assoc]
  exact Nat.mul_le_mul_right _ (by omega)
theorem natAbs_Q (n : Int) : (n * (Q : Nat)).natAbs = n.natAbs * Q := by rw [Int.natAbs_mul, Int.natAbs_natCast]

theorem round_whole {N : Int} (h : N.natAbs ≤ 18446744073709551616) : ∃ H : Int, rI (N * (Q : Nat)) = H * (Q : Nat) ∧ (N - H).natAbs ≤ 4096 := by
  obtain ⟨P, s, e, R⟩ := round53 N T
  refine ⟨P, e, ?_⟩
  have h1 := R.near
  rcases R.least with h0 | h0
  · subst h0; simp at h1; omega
  · have : 2 ^ s ≤ 4096 := by
      generalize 2 ^ s = q at *
      omega
    omega

/-- a pair that holds a whole number. -/
structure RowIs (hi lo : Nat) (N : Int) : Prop where
  w1 : W64 hi
  w2 : W64 lo
  f1 : mg hi < INF
  f2 : mg lo < INF
  sum : iv hi + iv lo = N * (Q : Nat)
  whole : ∃ H : Int, iv hi = H * (Q : Nat) ∧ (N - H).natAbs ≤ 4096

theorem row_zero : RowIs 0 0 0 := ⟨(by decide : (0 : Nat) < 2 ^ 64), (by decide : (0 : Nat) < 2 ^ 64), by decide, by decide, by rw [show iv 0 = 0 from by decide]; simp, 0, by rw [show iv 0 = 0 from by decide]; simp, by simp⟩

theorem row_step {hi lo : Nat} {N X : Int} (h : RowIs hi lo N) (hN : N.natAbs ≤ 9223372036854775808) (hX : X.natAbs ≤ 9007199254740992) : RowIs (addW hi lo (floatOfInt .f64 X)).1 (addW hi lo (floatOfInt .f64 X)).2 (N + X) := by
  obtain ⟨w1, w2, f1, f2, sum, H, hH, hd⟩ := h
  obtain ⟨x64, xf, -, -, xiv⟩ := fi_small (n := X) (by omega)
  generalize floatOfInt .f64 X = x at *
  have hn1 : iv hi + iv x = (H + X) * (Q : Nat) := by rw [hH, xiv, Int.add_mul]
  have hb1 : (H + X).natAbs ≤ 18446744073709551616 := by omega
  obtain ⟨S1, v1⟩ := sum_val f1 xf (by rw [hn1, natAbs_Q]; exact fin_Q (by omega))
  obtain ⟨H2, e2, d2⟩ := round_whole hb1
  rw [hn1, e2] at v1
  have hl := S1.all
  rw [hn1, v1] at hl
  have hlo : iv lo = (N - H) * (Q : Nat) := by rw [Int.sub_mul]; omega
  have hll : iv (sumW hi x).2 = (H + X - H2) * (Q : Nat) := by rw [Int.sub_mul]; omega
  have ht : iv (sumW hi x).2 + iv lo = (H + X - H2 + (N - H)) * (Q : Nat) := by rw [hll, hlo, Int.add_mul (H + X - H2)]
  have hrep : Rep (iv (sumW hi x).2 + iv lo).natAbs := by rw [ht, natAbs_Q]; exact rep_Q (by omega)
  have hrf : rnd (iv (sumW hi x).2 + iv lo).natAbs < INF := by rw [ht, natAbs_Q]; exact Q_small (by omega)
  have hadd := add_word' S1.fe f2
  have tf : mg (rw' (ng (sumW hi x).2 && ng lo) (iv (sumW hi x).2 + iv lo)) < INF := by rw [mg_rw]; omega
  have tiv : iv (rw' (ng (sumW hi x).2 && ng lo) (iv (sumW hi x).2 + iv lo)) = iv (sumW hi x).2 + iv lo := by rw [iv_rw hrf, rI_rep hrep]
  have haw : addW hi lo x = sumW (sumW hi x).1 (rw' (ng (sumW hi x).2 && ng lo) (iv (sumW hi x).2 + iv lo)) := by unfold addW; rw [hadd]
  rw [haw]
  generalize rw' (ng (sumW hi x).2 && ng lo) (iv (sumW hi x).2 + iv lo) = t at *
  have hn2 : iv (sumW hi x).1 + iv t = (N + X) * (Q : Nat) := by
    rw [v1, tiv, ht, ← Int.add_mul]; congr 1; omega
  obtain ⟨S2, v2⟩ := sum_val S1.fs tf (by rw [hn2, natAbs_Q]; exact fin_Q (by omega))
  obtain ⟨H3, e3, d3⟩ := round_whole (N := N + X) (by omega)
  obtain ⟨z1, z2⟩ := sumW_lt (sumW hi x).1 t
  exact ⟨z1, z2, S2.fs, S2.fe, by rw [← S2.all, hn2], H3, by rw [v2, hn2, e3], d3⟩
end TF
