/- Product's rest is exact, in words. -/
import Derived.Test.YtkkikcfolinkfaaTwinV
namespace TF
open Ieee Go Go.RowKit

theorem rnd2_mono {m n : Nat} (h : m ≤ n) : rnd2 m ≤ rnd2 n := Near.le_of Q_pos Q_pos (near_rnd2 m) (near_rnd2 n) (Nat.mul_le_mul_right _ h)

theorem half_way {m g : Nat} (hg : 0 < g) (h : m ≤ 9007199254740991 * 9007199254740991) : m ≤ g * 2 * (9007199254740991 * 2 ^ 52) := by
  have h1 : 1 * 2 * (9007199254740991 * 2 ^ 52) ≤ g * 2 * (9007199254740991 * 2 ^ 52) := Nat.mul_le_mul_right _ (Nat.mul_le_mul_right _ hg)
  exact Nat.le_trans h (Nat.le_trans (by decide) h1)
/-- Below half a unit of 2^-1074 per bit of the product nothing reaches 2^-969. -/
theorem exp_least {a b p : Nat} (ha : mg a < INF) (hb : mg b < INF) (h : floatBits .mul .f64 a b = some p) (lo : 243194379878006784 ≤ mg p) : T ≤ E (mg a) + E (mg b) := by
  rcases Nat.lt_or_ge (E (mg a) + E (mg b)) T with hlt | hge
  · exfalso
    have hI := INF_lt
    have e : floatBits .mul .f64 a b = double.mul a b := rfl
    rw [e, mul_fin ha hb] at h
    have hp : p = wd (ng a ^^ ng b) (min (rnd2 (V (mg a) * V (mg b))) INF) := (Option.some.inj h).symm
    have hm : mg p ≤ rnd2 (V (mg a) * V (mg b)) := by rw [hp, mg_wd (by omega)]; omega
    have hV : V 243194379878006783 = 9007199254740991 * 2 ^ 52 := by
      have : (243194379878006783 : Nat) = 52 * 2 ^ 52 + 9007199254740991 := by decide
      rw [this, V_block (by omega) (by omega)]
    obtain ⟨j, hj⟩ : ∃ j, T = j + 1 + (E (mg a) + E (mg b)) := ⟨T - 1 - (E (mg a) + E (mg b)), by omega⟩
    have hQ := Q_split (j + 1) (E (mg a) + E (mg b)) hj.symm
    have key : V (mg a) * V (mg b) ≤ Q * V 243194379878006783 := by
      have m1 := M_lt (mg a)
      have m2 := M_lt (mg b)
      have e1 : V (mg a) * V (mg b) = (M (mg a) * M (mg b)) * 2 ^ (E (mg a) + E (mg b)) := by unfold V; rw [Nat.mul_mul_mul_comm, Nat.pow_add]
      have hx : M (mg a) * M (mg b) ≤ 9007199254740991 * 9007199254740991 := Nat.mul_le_mul (by omega) (by omega)
      rw [hV, hQ, e1, Nat.pow_succ]
      have hj1 := Nat.two_pow_pos j
      have h2 : M (mg a) * M (mg b) ≤ 2 ^ j * 2 * (9007199254740991 * 2 ^ 52) := half_way hj1 hx
      have := Nat.mul_le_mul_right (2 ^ (E (mg a) + E (mg b))) h2
      rwa [Nat.mul_right_comm (2 ^ j * 2)] at this
    have := rnd2_mono key
    rw [rnd2_Q, rnd_V] at this
    omega
  · exact hge

theorem four {X Y u v q k : Int} (h : u * v = q * k) : X * u * (Y * v) = q * (X * Y * k) := by
  have e1 : X * u * (Y * v) = X * Y * (u * v) := by ac_rfl
  have e2 : q * (X * Y * k) = X * Y * (q * k) := by ac_rfl
  rw [e1, e2, h]
theorem prod_step {wx wy ex ey K : Nat} {X Y : Int} (hx : mg wx < INF) (hy : mg wy < INF) (ix : iv wx = X * (2 ^ ex : Nat)) (iy : iv wy = Y * (2 ^ ey : Nat)) (hK : ex + ey = T + K) (hf : Fits (X * Y)) (hb : (X * Y * (2 ^ K : Nat)).natAbs ≤ 9007199254740991 * G) :
    ∃ q, floatBits .mul .f64 wx wy = some q ∧ W64 q ∧ mg q < INF ∧ iv q = X * Y * (2 ^ K : Nat) := by
  have hr := rnd_fin hb
  obtain ⟨q, k1, k2, k3, k4, _⟩ := mul_iv (n := X * Y * (2 ^ K : Nat)) hx hy (by
    rw [ix, iy]
    have : ((2 ^ ex : Nat) : Int) * (2 ^ ey : Nat) = Q * (2 ^ K : Nat) := by
      rw [← Int.natCast_mul, ← Nat.pow_add, hK, Nat.pow_add, Int.natCast_mul]; rfl
    exact four this) hr
  exact ⟨q, k1, k2, by rw [k3]; exact hr, by rw [k4, hf.rI K]⟩
theorem sum_step {wx wy K : Nat} {X Y : Int} (hx : mg wx < INF) (hy : mg wy < INF) (ix : iv wx = X * (2 ^ K : Nat)) (iy : iv wy = Y * (2 ^ K : Nat)) (hf : Fits (X + Y)) (hb : ((X + Y) * (2 ^ K : Nat)).natAbs ≤ 9007199254740991 * G) :
    ∃ r z, floatBits .add .f64 wx wy = some r ∧ r = rw' z ((X + Y) * (2 ^ K : Nat)) ∧ mg r < INF ∧ iv r = (X + Y) * (2 ^ K : Nat) := by
  have e : iv wx + iv wy = (X + Y) * (2 ^ K : Nat) := by rw [ix, iy, Int.add_mul]
  obtain ⟨r, z, k1, k2, k3, k4, k5⟩ := add_iv hx hy (by rw [e]; exact rnd_fin hb)
  exact ⟨r, z, k1, by rw [k2, e], k4, by rw [k5, e, hf.rI K]⟩
theorem diff_step {wx wy K : Nat} {X Y : Int} (hx : mg wx < INF) (hy64 : W64 wy) (hy : mg wy < INF) (ix : iv wx = X * (2 ^ K : Nat)) (iy : iv wy = Y * (2 ^ K : Nat)) (hf : Fits (X - Y)) (hb : ((X - Y) * (2 ^ K : Nat)).natAbs ≤ 9007199254740991 * G) :
    ∃ r, floatBits .sub .f64 wx wy = some r ∧ mg r < INF ∧ iv r = (X - Y) * (2 ^ K : Nat) := by
  have e : iv wx - iv wy = (X - Y) * (2 ^ K : Nat) := by rw [ix, iy, Int.sub_mul]
  obtain ⟨r, k1, k2, k3, k4⟩ := sub_iv hx hy64 hy (by rw [e]; exact rnd_fin hb)
  exact ⟨r, k1, k3, by rw [k4, e, hf.rI K]⟩

theorem V_next1020 : V 9200854038717923329 ≤ 562949953421313 * G := by
  have : (9200854038717923329 : Nat) = 2042 * 2 ^ 52 + 4503599627370497 := by decide
  rw [this, V_block (by omega) (by omega)]
  have e := G_split 3 2042 (by decide)
  rw [e]; generalize 2 ^ 2042 = q; omega

theorem fin_p996 {a : Nat} (h : V (mg a) ≤ 33554432 * G) : mg a < INF := by
  rw [← V_lt_iff]
  have e : V INF = 9007199254740992 * G := by
    have : INF = GE * 2 ^ 52 + 2 ^ 53 := by decide
    rw [this, V_block (D := GE) (by omega) (by omega), G]
  have := G_pos
  omega

theorem way_word {a b p : Nat} (ha : W64 a) (hb : W64 b) (va : V (mg a) ≤ 33554432 * G) (vb : V (mg b) ≤ 33554432 * G) (h : floatBits .mul .f64 a b = some p) (lo : 243194379878006784 ≤ mg p) (hi : mg p ≤ 9200854038717923328) :
    ∃ ah al bh bl q1 e1 q2 e2 q3 e3 q4 e : Nat, (∃ c d, floatBits .mul .f64 4728779608772575232 a = some c ∧ floatBits .sub .f64 c a = some d ∧ floatBits .sub .f64 c d = some ah ∧ floatBits .sub .f64 a ah = some al) ∧
      (∃ c d, floatBits .mul .f64 4728779608772575232 b = some c ∧ floatBits .sub .f64 c b = some d ∧ floatBits .sub .f64 c d = some bh ∧ floatBits .sub .f64 b bh = some bl) ∧
      (floatBits .mul .f64 ah bh = some q1 ∧ floatBits .sub .f64 q1 p = some e1 ∧ floatBits .mul .f64 ah bl = some q2 ∧ floatBits .add .f64 e1 q2 = some e2 ∧
        floatBits .mul .f64 al bh = some q3 ∧ floatBits .add .f64 e2 q3 = some e3 ∧ floatBits .mul .f64 al bl = some q4 ∧ floatBits .add .f64 e3 q4 = some e) ∧
      ∃ A B P : Int, ∃ K : Nat, E (mg a) + E (mg b) = T + K ∧ iv a = A * (2 ^ E (mg a) : Nat) ∧ iv b = B * (2 ^ E (mg b) : Nat) ∧ iv p = P * (2 ^ K : Nat) ∧ (A * B - P).natAbs ≤ 2 ^ 52 ∧ canonW e = rw' false ((A * B - P) * (2 ^ K : Nat)) ∧
        iv p = rI (A * B * (2 ^ K : Nat)) ∧ mg p = rnd (A * B * (2 ^ K : Nat)).natAbs ∧ ng p = (ng a ^^ ng b) ∧ (A * B * (2 ^ K : Nat)).natAbs ≤ 562949953421313 * G := by
  have hI := INF_eq
  have fa := fin_p996 va
  have fb := fin_p996 vb
  obtain ⟨K, hK⟩ : ∃ K, E (mg a) + E (mg b) = T + K := ⟨E (mg a) + E (mg b) - T, by have := exp_least fa fb h lo; omega⟩
  obtain ⟨ca, da, ah, al, A, Ah, Al, c, ka, ah64, al64, ahf, alf, ia, iah, ial, SA⟩ := cut_word ha va
  obtain ⟨cb, db, bh, bl, B, Bh, Bl, d, kb, bh64, bl64, bhf, blf, ib, ibh, ibl, SB⟩ := cut_word hb vb
  have hab : iv a * iv b = Q * (A * B * (2 ^ K : Nat)) := by
    have : ((2 ^ E (mg a) : Nat) : Int) * (2 ^ E (mg b) : Nat) = Q * (2 ^ K : Nat) := by
      rw [← Int.natCast_mul, ← Nat.pow_add, hK, Nat.pow_add, Int.natCast_mul]; rfl
    rw [ia, ib]
    exact four this
  -- p is finite, and what it stands for
  have hpm : mg p = min (rnd (A * B * (2 ^ K : Nat)).natAbs) INF := by
    have e : floatBits .mul .f64 a b = double.mul a b := rfl
    rw [e, mul_fin fa fb] at h
    have hp : p = wd (ng a ^^ ng b) (min (rnd2 (V (mg a) * V (mg b))) INF) := (Option.some.inj h).symm
    have hV : V (mg a) * V (mg b) = Q * (A * B * (2 ^ K : Nat)).natAbs := by
      have := congrArg Int.natAbs hab
      rwa [Int.natAbs_mul, Int.natAbs_mul, iv_natAbs, iv_natAbs, Int.natAbs_natCast] at this
    rw [hp, mg_wd (by have := INF_lt; omega), hV, rnd2_Q]
  have hrn : rnd (A * B * (2 ^ K : Nat)).natAbs = mg p := by omega
  have hsz : (A * B * (2 ^ K : Nat)).natAbs ≤ 562949953421313 * G := by
    rcases Nat.lt_or_ge (V 9200854038717923329) (A * B * (2 ^ K : Nat)).natAbs with hh | hh
    · exfalso
      have := le_rnd_of (Nat.le_of_lt hh)
      omega
    · exact Nat.le_trans hh V_next1020
  obtain ⟨p', k1, k2, k3, k4, k5⟩ := mul_iv (n := A * B * (2 ^ K : Nat)) fa fb hab (by omega)
  obtain rfl : p' = p := Option.some.inj (k1.symm.trans h)
  obtain ⟨P, s, hP, R⟩ := round53 (A * B) K
  obtain ⟨d1, d2, d3, d4, d5, d6, d7, d8, d9, d10, z1, z2, z3, z4, z5, z6, z7, z8⟩ := dekker SA SB R
  have ip : iv p' = P * (2 ^ K : Nat) := by rw [k4, hP]
  have fp : mg p' < INF := by omega
  have bnd : ∀ {n : Int}, n.natAbs ≤ 6 * (A * B).natAbs → (n * (2 ^ K : Nat)).natAbs ≤ 9007199254740991 * G := by
    intro n hn
    rw [Int.natAbs_mul, Int.natAbs_natCast] at hsz ⊢
    have := Nat.mul_le_mul_right (2 ^ K) hn
    rw [Nat.mul_assoc] at this
    omega
  have hKb : ∀ {x y : Nat}, x + y = T + K → x + y = T + K := fun h => h
  obtain ⟨q1, m1, q1w, q1f, q1i⟩ := prod_step ahf bhf iah ibh hK d1 (bnd z1)
  obtain ⟨q2, m2, q2w, q2f, q2i⟩ := prod_step ahf blf iah ibl hK d2 (bnd z2)
  obtain ⟨q3, m3, q3w, q3f, q3i⟩ := prod_step alf bhf ial ibh hK d3 (bnd z3)
  obtain ⟨q4, m4, q4w, q4f, q4i⟩ := prod_step alf blf ial ibl hK d4 (bnd z4)
  obtain ⟨e1, s1, e1f, e1i⟩ := diff_step q1f k2 fp q1i ip d5 (bnd z5)
  obtain ⟨e2, _, s2, _, e2f, e2i⟩ := sum_step e1f q2f e1i q2i d6 (bnd z6)
  obtain ⟨e3, _, s3, _, e3f, e3i⟩ := sum_step e2f q3f e2i q3i d7 (bnd z7)
  obtain ⟨e4, z, s4, er, e4f, e4i⟩ := sum_step e3f q4f e3i q4i d8 (bnd z8)
  refine ⟨ah, al, bh, bl, q1, e1, q2, e2, q3, e3, q4, e4, ⟨ca, da, ka⟩, ⟨cb, db, kb⟩, ⟨m1, s1, m2, s2, m3, s3, m4, s4⟩, A, B, P, K, hK, ia, ib, ip, d10, ?_, k4, k3, k5, hsz⟩
  rw [er, canon_rw, d9]
end TF
