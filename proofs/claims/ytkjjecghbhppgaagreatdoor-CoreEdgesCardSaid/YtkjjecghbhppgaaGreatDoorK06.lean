/- Laid together: GeoH, GeoS, GeoU, GeoW, CubeM, CubeO, CubeP, GridF, GeoX, GridG. -/
import Derived.Test.YtkjjecghbhppgaaGreatDoorK05
import Derived.Test.YtkjjecghbhppgaaGreatDoorK04
/- What a cell's area is reckoned of: all of it stays finite. -/
namespace TF
open Ieee Go

theorem mulc_some {a c : Nat} (ha : PW a) (hc : PW c) (h0 : 0 < c) (h9 : c < 9218868437227405312) : floatBits .mul .f64 a c = some (fmul a c) ∧ PW (fmul a c) := by
  obtain ⟨m1, n1, w1, i1⟩ := ha.nn
  obtain ⟨m2, n2, w2, i2⟩ := hc.nn
  have hI := INF_num
  rcases Nat.lt_or_eq_of_le i1 with h | h
  · obtain ⟨h1, -, h3⟩ := mul_some (a := a) (b := c) ⟨w1, by omega⟩ ⟨w2, by omega⟩
    refine ⟨h1, ?_⟩
    rw [h3, n1, n2]
    exact PW.of (Nat.min_le_right _ _)
  · have h1 := mul_inf_fin (a := a) (b := c) (by omega) (by omega)
    rw [if_neg (by omega)] at h1
    have e : fmul a c = _ := getD_of h1
    rw [e]
    refine ⟨h1, ?_⟩
    rw [n1, n2]
    exact PW.of (Nat.le_refl _)
/-- A word up to a bound, by magnitude. -/
structure Bw (c x : Nat) : Prop where
  lt : W64 x
  le : mg x ≤ c
theorem Bw.fw {c x : Nat} (h : Bw c x) (hc : c < 9218868437227405312) : Fw x := ⟨h.lt, by have := h.le; have := INF_num; omega⟩
theorem canon_bw {c x : Nat} (h : Bw c x) (hc : c < 9218868437227405312) : Bw c (canonW x) := by
  have hN : isN x = false := isN_false.2 (by have := h.le; have := INF_num; omega)
  unfold canonW; rw [hN]
  simp only [Bool.false_eq_true, if_false]
  split
  · exact ⟨by show 0 < 2 ^ 64; omega, by rw [show mg 0 = 0 from rfl]; omega⟩
  · exact h
theorem sub_bw {c d a b : Nat} (ha : Bw c a) (hb : Bw c b) (hc : c < 9218868437227405312) (hd : V c + V c ≤ V d) : Bw d (fsub a b) := by
  obtain ⟨-, -, e⟩ := sub_some (ha.fw hc) (hb.fw hc)
  rw [e]
  refine ⟨rw_lt _ _, ?_⟩
  rw [mg_rw]
  refine Nat.le_trans (Nat.min_le_left _ _) (rnd_le_of ?_)
  have v1 := V_le ha.le
  have v2 := V_le hb.le
  have e1 := iv_natAbs a
  have e2 := iv_natAbs b
  omega
theorem mul_bw {c d a b : Nat} (ha : Bw c a) (hb : Bw c b) (hc : c < 9218868437227405312) (hd : V c * V c ≤ Q * V d) : Bw d (fmul a b) := by
  obtain ⟨-, -, e⟩ := mul_some (ha.fw hc) (hb.fw hc)
  have hQ := Q_pos
  have hI := INF_lt
  rw [e]
  have hm : min (rnd2 (V (mg a) * V (mg b))) INF < 2 ^ 63 := by omega
  refine ⟨wd_lt hm, ?_⟩
  rw [mg_wd hm]
  refine Nat.le_trans (Nat.min_le_left _ _) ?_
  refine (near_rnd2 _).le_of hQ hQ (near_self (r := d) (q := Q) hQ) (Nat.mul_le_mul_right _ ?_)
  exact Nat.le_trans (Nat.mul_le_mul (V_le ha.le) (V_le hb.le)) hd
/-- 2^61 and 2^122 as words. -/
def CH1 : Nat := 4881901996069617664
theorem CH1_num : CH1 = 4881901996069617664 := rfl
def CH2 : Nat := 5156621573339217920
theorem V_CH1 : V CHI + V CHI ≤ V CH1 := by
  have := V_double (r := CHI) (by rw [CHI_eq]; omega)
  rw [show CHI + 2 ^ 52 = CH1 from rfl] at this
  omega
theorem V_CH2 : V CH1 * V CH1 ≤ Q * V CH2 := by
  obtain ⟨A, hA⟩ : ∃ A : Nat, A = 1083 := ⟨_, rfl⟩
  obtain ⟨B, hB⟩ : ∃ B : Nat, B = 1144 := ⟨_, rfl⟩
  have hT : T = 1074 := rfl
  have e1 := CH1_num
  have e2 : CH2 = 5156621573339217920 := rfl
  rw [V_pow (D := A) (c := CH1) (by omega), V_pow (D := B) (c := CH2) (by omega)]
  refine Nat.le_of_eq ?_
  unfold Q
  rw [← Nat.pow_add, ← Nat.pow_add, ← Nat.pow_add, ← Nat.pow_add]
  exact congrArg (2 ^ ·) (by omega)
theorem cs_bw {a b : Nat} (ha : Bw CHI a) (hb : Bw CHI b) : Bw CH1 (cs a b) := canon_bw (sub_bw ha hb (by rw [CHI_eq]; omega) V_CH1) (by rw [CH1_num]; omega)
theorem fm_fw {a b : Nat} (ha : Bw CH1 a) (hb : Bw CH1 b) : Fw (fmul a b) := (mul_bw ha hb (by rw [CH1_num]; omega) V_CH2).fw (by unfold CH2; omega)
theorem QIs.bw {n : Nat} {k : Int} {L r : Nat} (h : QIs n k L r) : Bw CHI (cq (RT n k) L) := by
  have hI := INF_num
  have := h.hi
  have e2 := CHI_eq
  refine ⟨h.fw.lt, ?_⟩
  rw [h.eq]
  split
  · rw [show mg 0 = 0 from rfl]; omega
  · rw [mg_wd (by omega)]; exact this
theorem v_bw {n : Nat} {x y z : Int} (h : Sf n x y z) : Bw CHI (VX n x y z) ∧ Bw CHI (VY n x y z) ∧ Bw CHI (VZ n x y z) := by
  obtain ⟨l1, l2⟩ := LN_mid h
  obtain ⟨_, a⟩ := q_is h.n1 h.n2 h.hx l1 l2
  obtain ⟨_, b⟩ := q_is h.n1 h.n2 h.hy l1 l2
  obtain ⟨_, c⟩ := q_is h.n1 h.n2 h.hz l1 l2
  exact ⟨a.bw, b.bw, c.bw⟩
theorem c_bw {n f : Nat} {i j : Int} (h1 : 1 ≤ n) (h2 : n ≤ 32) (hf : f < 6) (i0 : 0 ≤ i) (i1 : i ≤ n) (j0 : 0 ≤ j) (j1 : j ≤ n) : Bw CHI (CX n f i j) ∧ Bw CHI (CY n f i j) ∧ Bw CHI (CZ n f i j) :=
  v_bw (pt_sf h1 h2 hf (by omega) (by omega))
/-- a cross product's length, halved, in quanta -/
def arL (x0 y0 z0 x1 y1 z1 x2 y2 z2 x3 y3 z3 : Nat) : Nat :=
  vlen (cc (cs y2 y0) (cs z3 z1) (cs z2 z0) (cs y3 y1)) (cc (cs z2 z0) (cs x3 x1) (cs x2 x0) (cs z3 z1)) (cc (cs x2 x0) (cs y3 y1) (cs y2 y0) (cs x3 x1))
def arI (l : Nat) : Int := max (roundI (fmul (fmul l 4602678819172646912) 4742290407621132288)).1 1
/-- A cell's area. -/
def AR (n f : Nat) (i j : Int) : Int :=
  arI (arL (CX n f i j) (CY n f i j) (CZ n f i j) (CX n f (i + 1) j) (CY n f (i + 1) j) (CZ n f (i + 1) j) (CX n f (i + 1) (j + 1)) (CY n f (i + 1) (j + 1)) (CZ n f (i + 1) (j + 1)) (CX n f i (j + 1)) (CY n f i (j + 1)) (CZ n f i (j + 1)))
end TF
/- Gaps: the same from both sides, and above nothing. -/
namespace TF
open Ieee Go

theorem sq_mg {a b : Nat} (ha : Nw a) (hb : Nw b) (h : mg a = mg b) : fmul a a = fmul b b := by
  rcases Nat.lt_or_eq_of_le ha.nn with h1 | h1
  · have e1 := (mul_some (a := a) (b := a) ⟨ha.lt, h1⟩ ⟨ha.lt, h1⟩).2.2
    have e2 := (mul_some (a := b) (b := b) ⟨hb.lt, by omega⟩ ⟨hb.lt, by omega⟩).2.2
    rw [e1, e2, Bool.xor_self, Bool.xor_self, h]
  · have e1 : fmul a a = _ := getD_of (mul_inf_inf (a := a) (b := a) h1 h1)
    have e2 : fmul b b = _ := getD_of (mul_inf_inf (a := b) (b := b) (by omega) (by omega))
    rw [e1, e2, Bool.xor_self, Bool.xor_self]
theorem mg_canon {a : Nat} (h : Nw a) : mg (canonW a) = mg a := by
  have hN : isN a = false := isN_false.2 h.nn
  unfold canonW; rw [hN]
  simp only [Bool.false_eq_true, if_false]
  split
  · rename_i e; rw [e]; rfl
  · rfl
theorem mg_cs {a b : Nat} (ha : Fw a) (hb : Fw b) : mg (cs a b) = min (rnd (iv a - iv b).natAbs) INF := by
  obtain ⟨-, h, e⟩ := sub_some ha hb
  unfold cs
  rw [mg_canon h, e, mg_rw]
theorem cs_sym {a b : Nat} (ha : Fw a) (hb : Fw b) : fmul (cs a b) (cs a b) = fmul (cs b a) (cs b a) := by
  refine sq_mg (cs_nw ha hb) (cs_nw hb ha) ?_
  rw [mg_cs ha hb, mg_cs hb ha, show (iv a - iv b).natAbs = (iv b - iv a).natAbs from by omega]
theorem vgap_sym {a b c x y z : Nat} (ha : Fw a) (hb : Fw b) (hc : Fw c) (hx : Fw x) (hy : Fw y) (hz : Fw z) : vgap a b c x y z = vgap x y z a b c := by
  unfold vgap vlen
  rw [cs_sym ha hx, cs_sym hb hy, cs_sym hc hz]

/-! ### Above nothing -/
/-- A part of a point: nought, or not small. -/
structure Cmp (a : Nat) : Prop where
  bw : Bw CHI a
  zero : mg a = 0 → a = 0
  lo : mg a ≠ 0 → CB ≤ mg a
theorem q_nil {n : Nat} {k : Int} {L r : Nat} (h : QIs n k L r) (h1 : 1 ≤ n) (h2 : n ≤ 32) (l1 : CLO ≤ L) (hk : k = 0) : r = 0 := by
  subst hk
  have e1 := CLO_eq
  have hV : 0 < V L := Nat.pos_of_ne_zero fun e => by have := V_eq_zero.1 e; omega
  have hn := h.near
  rw [Int.natAbs_zero, R_zero h1 h2, V_zero, Nat.zero_mul] at hn
  have := near_self (r := 0) (q := V L) hV
  rw [V_zero, Nat.mul_zero] at this
  exact hn.unique hV this
theorem cmp_is {n : Nat} {k : Int} {L r : Nat} (h : QIs n k L r) (h1 : 1 ≤ n) (h2 : n ≤ 32) (l1 : CLO ≤ L) : Cmp (cq (RT n k) L) := by
  have hI := INF_num
  have e2 := CHI_eq
  have hi := h.hi
  refine ⟨h.bw, ?_, ?_⟩
  · rw [h.eq]; split
    · intro _; rfl
    · rw [mg_wd (by omega)]; intro e; contradiction
  · rw [h.eq]; split
    · intro e; exact absurd rfl e
    · rename_i hr
      rw [mg_wd (by omega)]
      exact fun _ => h.lo fun hk => hr (q_nil h h1 h2 l1 hk)

/-- 2^-117 as a word: less than what two different parts differ by. -/
def CD : Nat := 4080261262397669376
theorem CD_eq : CD = 4080261262397669376 := rfl
theorem word_of_iv {a b : Nat} (ha : Cmp a) (hb : Cmp b) (h : iv a = iv b) : a = b := by
  have hr := rk_eq_of.1 h
  unfold rk at hr
  have ga := word_split ha.bw.lt
  have gb := word_split hb.bw.lt
  have za := ha.zero
  have zb := hb.zero
  by_cases h0 : mg a = 0
  · have : mg b = 0 := by revert hr; split <;> split <;> omega
    rw [za h0, zb this]
  · have h1 : mg a = mg b ∧ ng a = ng b := by
      revert hr
      cases ng a <;> cases ng b <;> simp <;> omega
    rw [ga, gb, h1.1, h1.2]
theorem dvd_iv {a : Nat} (h : Cmp a) {k : Nat} (hk : k = E CB) : ((2 ^ k : Nat) : Int) ∣ iv a := by
  have hd : 2 ^ k ∣ V (mg a) := by
    by_cases h0 : mg a = 0
    · rw [h0, V_zero]; exact Nat.dvd_zero _
    · rw [hk]; exact V_dvd (E_mono (h.lo h0))
  have hd' : ((2 ^ k : Nat) : Int) ∣ (V (mg a) : Int) := Int.natCast_dvd_natCast.2 hd
  unfold iv
  split
  · exact Int.dvd_neg.2 hd'
  · exact hd'
theorem cs_pos {a b : Nat} (ha : Cmp a) (hb : Cmp b) (h : a ≠ b) : 0 < fmul (cs a b) (cs a b) := by
  have hq : CHI < 9218868437227405312 := by rw [CHI_eq]; omega
  have fa := ha.bw.fw hq
  have fb := hb.bw.fw hq
  have hm := mg_cs fa fb
  have bw := cs_bw ha.bw hb.bw
  obtain ⟨k, hk⟩ : ∃ k, k = E CB := ⟨_, rfl⟩
  have hk9 : k = 957 := by rw [hk]; decide
  have hne : iv a - iv b ≠ 0 := fun e => h (word_of_iv ha hb (by omega))
  have hdv : ((2 ^ k : Nat) : Int) ∣ iv a - iv b := Int.dvd_sub (dvd_iv ha hk) (dvd_iv hb hk)
  have hge : 2 ^ k ≤ (iv a - iv b).natAbs := by
    have := Int.natAbs_dvd_natAbs.2 hdv
    rw [Int.natAbs_natCast] at this
    exact Nat.le_of_dvd (by omega) this
  obtain ⟨D, hD⟩ : ∃ D : Nat, D = 905 := ⟨_, rfl⟩
  have eC := CD_eq
  have vC := V_pow (D := D) (c := CD) (by omega)
  have hI := INF_num
  have hrn : CD ≤ rnd (iv a - iv b).natAbs := le_rnd_of (by
    rw [vC, ← Nat.pow_add]
    exact Nat.le_trans (Nat.pow_le_pow_right (by omega) (by omega)) hge)
  have hmg : CD ≤ mg (cs a b) := by rw [hm]; omega
  have fw := bw.fw (by rw [CH1_num]; omega)
  obtain ⟨-, -, e⟩ := mul_some fw fw
  rw [e, Bool.xor_self]
  have hv := V_le hmg
  have hQ := Q_pos
  have h1 : 1 ≤ rnd2 (V (mg (cs a b)) * V (mg (cs a b))) := (near_self (r := 1) (q := Q) hQ).le_of hQ hQ (near_rnd2 _) (Nat.mul_le_mul_right _ (by
    rw [V_small (by omega : 1 ≤ 2 ^ 53), Nat.mul_one]
    refine Nat.le_trans ?_ (Nat.mul_le_mul hv hv)
    rw [vC, ← Nat.pow_add, ← Nat.pow_add]
    unfold Q
    have hT : T = 1074 := rfl
    exact Nat.pow_le_pow_right (by omega) (by omega)))
  show 0 < min (rnd2 (V (mg (cs a b)) * V (mg (cs a b)))) INF
  omega
theorem gap_pos {a b c x y z : Nat} (ha : Cmp a) (hb : Cmp b) (hc : Cmp c) (hx : Cmp x) (hy : Cmp y) (hz : Cmp z) (h : a ≠ x ∨ b ≠ y ∨ c ≠ z) : PW (vgap a b c x y z) ∧ 0 < vgap a b c x y z := by
  have hq : CHI < 9218868437227405312 := by rw [CHI_eq]; omega
  have n1 := cs_nw (ha.bw.fw hq) (hx.bw.fw hq)
  have n2 := cs_nw (hb.bw.fw hq) (hy.bw.fw hq)
  have n3 := cs_nw (hc.bw.fw hq) (hz.bw.fw hq)
  have p1 := (sq_some n1).2
  have p2 := (sq_some n2).2
  have p3 := (sq_some n3).2
  obtain ⟨g1, g2, g3⟩ := s3_ge p1 p2 p3
  obtain ⟨-, q1, q2⟩ := sqrt_some (s3_pw p1 p2 p3)
  refine ⟨q1, q2 ?_⟩
  rcases h with h | h | h
  · have := cs_pos ha hx h; omega
  · have := cs_pos hb hy h; omega
  · have := cs_pos hc hz h; omega
end TF
/- Two places' points are two: at places that are not one. -/
namespace TF
open Ieee Go

/-- a rounded quotient is near it: from above, from below -/
theorem near_up {n q r : Nat} (h : Near n q r) (hr : 2 ^ 52 ≤ r) : n * 2 ^ 53 ≤ q * V r * (2 ^ 53 + 1) := by
  have h1 := h.hi
  have h2 := V_succ r
  have h3 : 2 ^ 52 * 2 ^ E r ≤ V r := by
    unfold V M
    rw [if_neg (by omega)]
    exact Nat.mul_le_mul_right _ (Nat.le_add_right _ _)
  rw [h2] at h1
  generalize 2 ^ E r = e at *
  generalize V r = v at *
  have h4 : q * (v + (v + e)) = 2 * (q * v) + q * e := by grind
  have h5 : q * (2 ^ 52 * e) ≤ q * v := Nat.mul_le_mul_left _ h3
  have h6 : q * (2 ^ 52 * e) = 2 ^ 52 * (q * e) := by grind
  have h7 : q * v * (2 ^ 53 + 1) = 2 ^ 53 * (q * v) + q * v := by grind
  rw [h7]
  rw [h4] at h1
  rw [h6] at h5
  generalize q * e = y at *
  generalize q * v = x at *
  omega
theorem near_dn {n q r : Nat} (h : Near n q r) (hr : 2 ^ 52 ≤ r) : q * V r * (2 ^ 53 - 1) ≤ n * 2 ^ 53 := by
  obtain ⟨s, rfl⟩ : ∃ s, r = s + 1 := ⟨r - 1, by omega⟩
  have h1 := h.lo s rfl
  have h2 := V_succ s
  have hE : E s ≤ E (s + 1) := E_mono (by omega)
  have h3 : 2 ^ 52 * 2 ^ E (s + 1) ≤ V (s + 1) := by
    unfold V M
    rw [if_neg (by omega)]
    exact Nat.mul_le_mul_right _ (Nat.le_add_right _ _)
  have h8 : 2 ^ E s ≤ 2 ^ E (s + 1) := Nat.pow_le_pow_right (by omega) hE
  generalize V (s + 1) = v at *
  generalize V s = u at *
  generalize 2 ^ E s = d at *
  generalize 2 ^ E (s + 1) = e at *
  have h4 : q * (u + v) = q * u + q * v := by grind
  have h9 : q * v = q * u + q * d := by rw [h2]; grind
  have h10 : q * d ≤ q * e := Nat.mul_le_mul_left _ h8
  have h5 : q * (2 ^ 52 * e) ≤ q * v := Nat.mul_le_mul_left _ h3
  have h6 : q * (2 ^ 52 * e) = 2 ^ 52 * (q * e) := by grind
  have h7 : q * v * (2 ^ 53 - 1) = (2 ^ 53 - 1) * (q * v) := Nat.mul_comm _ _
  rw [h7]
  rw [h4] at h1
  rw [h6] at h5
  generalize q * e = y at *
  generalize q * v = x at *
  generalize q * u = z at *
  generalize q * d = w at *
  omega
/-- The same quotient of x by L and of y by M: the ratios are nearly one. -/
theorem quot_le {x y L M r : Nat} (hx : Near (V x * Q) (V L) r) (hy : Near (V y * Q) (V M) r) (hr : 2 ^ 52 ≤ r) : V y * V L * (2 ^ 53 - 1) ≤ V x * V M * (2 ^ 53 + 1) := by
  have a := near_dn hx hr
  have b := near_up hy hr
  have hQ := Q_pos
  generalize V x = X at *
  generalize V y = Y at *
  generalize V L = l at *
  generalize V M = m at *
  generalize V r = v at *
  generalize Q = q at *
  -- Y q 2^53 ≤ m v (2^53+1); l v (2^53-1) ≤ X q 2^53
  have c : Y * q * 2 ^ 53 * (l * (2 ^ 53 - 1)) ≤ m * v * (2 ^ 53 + 1) * (l * (2 ^ 53 - 1)) := Nat.mul_le_mul_right _ b
  have d : l * v * (2 ^ 53 - 1) * (m * (2 ^ 53 + 1)) ≤ X * q * 2 ^ 53 * (m * (2 ^ 53 + 1)) := Nat.mul_le_mul_right _ a
  have e : m * v * (2 ^ 53 + 1) * (l * (2 ^ 53 - 1)) = l * v * (2 ^ 53 - 1) * (m * (2 ^ 53 + 1)) := by ac_rfl
  have f : (q * 2 ^ 53) * (Y * l * (2 ^ 53 - 1)) ≤ (q * 2 ^ 53) * (X * m * (2 ^ 53 + 1)) := by
    have e1 : (q * 2 ^ 53) * (Y * l * (2 ^ 53 - 1)) = Y * q * 2 ^ 53 * (l * (2 ^ 53 - 1)) := by ac_rfl
    have e2 : (q * 2 ^ 53) * (X * m * (2 ^ 53 + 1)) = X * q * 2 ^ 53 * (m * (2 ^ 53 + 1)) := by ac_rfl
    rw [e1, e2]
    exact Nat.le_trans c (Nat.le_trans (Nat.le_of_eq e) d)
  exact Nat.le_of_mul_le_mul_left f (Nat.mul_pos hQ (Nat.two_pow_pos _))
theorem quot_ne {x1 y1 x2 y2 L M r s : Nat} (a1 : Near (V x1 * Q) (V L) r) (b1 : Near (V y1 * Q) (V M) r) (a2 : Near (V x2 * Q) (V L) s) (b2 : Near (V y2 * Q) (V M) s) (hr : 2 ^ 52 ≤ r) (hs : 2 ^ 52 ≤ s)
    (hL : 0 < V L) (hM : 0 < V M) (h0 : 0 < V y1 * V x2) (h : 33 * (V x1 * V y2) ≤ 32 * (V y1 * V x2)) : False := by
  have p := quot_le a1 b1 hr
  have q := quot_le b2 a2 hs
  generalize V x1 = X at *
  generalize V y1 = Y at *
  generalize V x2 = U at *
  generalize V y2 = W at *
  generalize V L = l at *
  generalize V M = m at *
  -- Y l (-) ≤ X m (+); U m (-) ≤ W l (+)
  have c : Y * l * (2 ^ 53 - 1) * (U * m * (2 ^ 53 - 1)) ≤ X * m * (2 ^ 53 + 1) * (W * l * (2 ^ 53 + 1)) := Nat.mul_le_mul p q
  have e1 : Y * l * (2 ^ 53 - 1) * (U * m * (2 ^ 53 - 1)) = (l * m) * ((Y * U) * ((2 ^ 53 - 1) * (2 ^ 53 - 1))) := by ac_rfl
  have e2 : X * m * (2 ^ 53 + 1) * (W * l * (2 ^ 53 + 1)) = (l * m) * ((X * W) * ((2 ^ 53 + 1) * (2 ^ 53 + 1))) := by ac_rfl
  rw [e1, e2] at c
  have d := Nat.le_of_mul_le_mul_left c (Nat.mul_pos hL hM)
  generalize Y * U = A at *
  generalize X * W = B at *
  omega
end TF
/- Gaps of places that are not one are above nothing. -/
namespace TF
open Ieee Go

theorem R_norm {n k : Nat} (h1 : 1 ≤ n) (h2 : n ≤ 32) (hk : k ≤ n) (h0 : 1 ≤ k) : 2 ^ 52 ≤ R k n := by have := R_ge h1 h2 hk h0; omega
theorem step_num {k : Nat} (h : k ≤ 31) : k * (33 * (2 ^ 53 + 1)) ≤ (k + 1) * (32 * (2 ^ 53 - 1)) := by omega
theorem R_step {n k : Nat} (h1 : 1 ≤ n) (h2 : n ≤ 32) (hk : k < n) : 33 * V (R k n) ≤ 32 * V (R (k + 1) n) := by
  rcases Nat.eq_zero_or_pos k with h0 | h0
  · subst h0; rw [R_zero h1 h2, V_zero]; omega
  · have a := near_dn (R_near h1 h2 (show k ≤ n by omega)) (R_norm h1 h2 (by omega) h0)
    have b := near_up (R_near h1 h2 (show k + 1 ≤ n by omega)) (R_norm h1 h2 (by omega) (by omega))
    have hQ := Q_pos
    generalize V (R k n) = u at *
    generalize V (R (k + 1) n) = v at *
    generalize Q = q at *
    have hk31 : k ≤ 31 := by omega
    have c : (n * (2 ^ 53 - 1) * (2 ^ 53 + 1)) * (33 * u) ≤ (n * (2 ^ 53 - 1) * (2 ^ 53 + 1)) * (32 * v) := by
      have a1 : n * u * (2 ^ 53 - 1) * (33 * (2 ^ 53 + 1)) ≤ k * q * 2 ^ 53 * (33 * (2 ^ 53 + 1)) := Nat.mul_le_mul_right _ a
      have b1 : (k + 1) * q * 2 ^ 53 * (32 * (2 ^ 53 - 1)) ≤ n * v * (2 ^ 53 + 1) * (32 * (2 ^ 53 - 1)) := Nat.mul_le_mul_right _ b
      have m : k * (33 * (2 ^ 53 + 1)) ≤ (k + 1) * (32 * (2 ^ 53 - 1)) := step_num hk31
      have m1 : (q * 2 ^ 53) * (k * (33 * (2 ^ 53 + 1))) ≤ (q * 2 ^ 53) * ((k + 1) * (32 * (2 ^ 53 - 1))) := Nat.mul_le_mul_left _ m
      have e1 : (n * (2 ^ 53 - 1) * (2 ^ 53 + 1)) * (33 * u) = n * u * (2 ^ 53 - 1) * (33 * (2 ^ 53 + 1)) := by ac_rfl
      have e2 : k * q * 2 ^ 53 * (33 * (2 ^ 53 + 1)) = (q * 2 ^ 53) * (k * (33 * (2 ^ 53 + 1))) := by ac_rfl
      have e3 : (k + 1) * q * 2 ^ 53 * (32 * (2 ^ 53 - 1)) = (q * 2 ^ 53) * ((k + 1) * (32 * (2 ^ 53 - 1))) := by ac_rfl
      have e4 : (n * (2 ^ 53 - 1) * (2 ^ 53 + 1)) * (32 * v) = n * v * (2 ^ 53 + 1) * (32 * (2 ^ 53 - 1)) := by ac_rfl
      rw [e1, e4]
      rw [e2] at a1
      rw [e3] at b1
      exact Nat.le_trans a1 (Nat.le_trans m1 b1)
    exact Nat.le_of_mul_le_mul_left c (Nat.mul_pos (Nat.mul_pos (by omega) (by decide)) (by decide))
theorem R_mono {n a b : Nat} (h1 : 1 ≤ n) (h2 : n ≤ 32) (hb : b ≤ n) (h : a ≤ b) : R a n ≤ R b n :=
  (R_near h1 h2 (show a ≤ n by omega)).le_of (by omega) (by omega) (R_near h1 h2 hb) (Nat.mul_le_mul_right _ (Nat.mul_le_mul_right _ h))
theorem R_lt {n a b : Nat} (h1 : 1 ≤ n) (h2 : n ≤ 32) (hb : b ≤ n) (h : a < b) : 33 * V (R a n) ≤ 32 * V (R b n) := by
  have := R_step (k := a) h1 h2 (by omega)
  have := V_le (R_mono (a := a + 1) h1 h2 hb (by omega))
  omega
theorem q_mg {n : Nat} {k : Int} {L r : Nat} (h : QIs n k L r) : mg (cq (RT n k) L) = r := by
  have hI := INF_num
  have e2 := CHI_eq
  have hi := h.hi
  rw [h.eq]
  split
  · rename_i e; rw [e]; rfl
  · exact mg_wd (by omega)
theorem ne_apt {n : Nat} {L M : Nat} {k1 k2 m1 m2 : Int} {r1 r2 s1 s2 : Nat} (h1 : 1 ≤ n) (h2 : n ≤ 32) (lL : CLO ≤ L) (lM : CLO ≤ M)
    (a1 : QIs n k1 L r1) (b1 : QIs n m1 M s1) (a2 : QIs n k2 L r2) (b2 : QIs n m2 M s2) (hm1 : m1.natAbs ≤ n) (hk2 : k2.natAbs ≤ n)
    (hlt : k1.natAbs < m1.natAbs) (hle : m2.natAbs ≤ k2.natAbs) (h0 : k2 ≠ 0) (e1 : cq (RT n k1) L = cq (RT n m1) M) (e2 : cq (RT n k2) L = cq (RT n m2) M) : False := by
  have t1 : r1 = s1 := by rw [← q_mg a1, ← q_mg b1, e1]
  have t2 : r2 = s2 := by rw [← q_mg a2, ← q_mg b2, e2]
  subst t1 t2
  have eC := CB_eq
  have eL := CLO_eq
  have nr := b1.lo (by omega)
  have ns := a2.lo h0
  have vL : 0 < V L := Nat.pos_of_ne_zero fun e => by have := V_eq_zero.1 e; omega
  have vM : 0 < V M := Nat.pos_of_ne_zero fun e => by have := V_eq_zero.1 e; omega
  have p1 : 0 < V (R m1.natAbs n) := Nat.pos_of_ne_zero fun e => by have := V_eq_zero.1 e; have := R_norm h1 h2 hm1 (by omega); omega
  have p2 : 0 < V (R k2.natAbs n) := Nat.pos_of_ne_zero fun e => by have := V_eq_zero.1 e; have := R_norm h1 h2 hk2 (by omega); omega
  refine quot_ne a1.near b1.near a2.near b2.near (by omega) (by omega) vL vM (Nat.mul_pos p1 p2) ?_
  have c1 := R_lt h1 h2 hm1 hlt
  have c2 := V_le (R_mono h1 h2 hk2 hle)
  generalize V (R k1.natAbs n) = x at *
  generalize V (R m2.natAbs n) = y at *
  generalize V (R m1.natAbs n) = u at *
  generalize V (R k2.natAbs n) = v at *
  calc 33 * (x * y) = (33 * x) * y := by rw [Nat.mul_assoc]
    _ ≤ (32 * u) * v := Nat.mul_le_mul c1 c2
    _ = 32 * (u * v) := by rw [Nat.mul_assoc]
theorem ne_sgn {n : Nat} {L M : Nat} {k m : Int} {r s : Nat} (a : QIs n k L r) (b : QIs n m M s) (hk : k < 0) (hm : 0 < m) : cq (RT n k) L ≠ cq (RT n m) M := by
  intro e
  have eC := CB_eq
  have eH := CHI_eq
  have n1 := a.lo (by omega)
  have n2 := b.lo (by omega)
  have h1 := a.hi
  have h2 := b.hi
  rw [a.eq, b.eq, if_neg (by omega), if_neg (by omega), decide_eq_true hk, decide_eq_false (by omega)] at e
  have := congrArg ng e
  rw [ng_wd (by omega), ng_wd (by omega)] at this
  cases this
/-- What keeps two places' points apart. -/
def Apt (x1 y1 z1 x2 y2 z2 : Int) : Prop :=
  (x1.natAbs < x2.natAbs ∧ ((y2.natAbs ≤ y1.natAbs ∧ y1 ≠ 0) ∨ (z2.natAbs ≤ z1.natAbs ∧ z1 ≠ 0))) ∨
  (y1.natAbs < y2.natAbs ∧ ((x2.natAbs ≤ x1.natAbs ∧ x1 ≠ 0) ∨ (z2.natAbs ≤ z1.natAbs ∧ z1 ≠ 0))) ∨
  (z1.natAbs < z2.natAbs ∧ ((x2.natAbs ≤ x1.natAbs ∧ x1 ≠ 0) ∨ (y2.natAbs ≤ y1.natAbs ∧ y1 ≠ 0))) ∨
  (x1 < 0 ∧ 0 < x2) ∨ (y1 < 0 ∧ 0 < y2) ∨ (z1 < 0 ∧ 0 < z2)
theorem gap_apt {n : Nat} {x1 y1 z1 x2 y2 z2 : Int} (hP : Sf n x1 y1 z1) (hQ : Sf n x2 y2 z2) (h : Apt x1 y1 z1 x2 y2 z2) :
    PW (vgap (VX n x1 y1 z1) (VY n x1 y1 z1) (VZ n x1 y1 z1) (VX n x2 y2 z2) (VY n x2 y2 z2) (VZ n x2 y2 z2)) ∧ 0 < vgap (VX n x1 y1 z1) (VY n x1 y1 z1) (VZ n x1 y1 z1) (VX n x2 y2 z2) (VY n x2 y2 z2) (VZ n x2 y2 z2) := by
  obtain ⟨l1, l2⟩ := LN_mid hP
  obtain ⟨m1, m2⟩ := LN_mid hQ
  obtain ⟨_, ax⟩ := q_is hP.n1 hP.n2 hP.hx l1 l2
  obtain ⟨_, ay⟩ := q_is hP.n1 hP.n2 hP.hy l1 l2
  obtain ⟨_, az⟩ := q_is hP.n1 hP.n2 hP.hz l1 l2
  obtain ⟨_, bx⟩ := q_is hQ.n1 hQ.n2 hQ.hx m1 m2
  obtain ⟨_, by_⟩ := q_is hQ.n1 hQ.n2 hQ.hy m1 m2
  obtain ⟨_, bz⟩ := q_is hQ.n1 hQ.n2 hQ.hz m1 m2
  refine gap_pos (cmp_is ax hP.n1 hP.n2 l1) (cmp_is ay hP.n1 hP.n2 l1) (cmp_is az hP.n1 hP.n2 l1) (cmp_is bx hP.n1 hP.n2 m1) (cmp_is by_ hP.n1 hP.n2 m1) (cmp_is bz hP.n1 hP.n2 m1) ?_
  refine Classical.byContradiction fun hc => ?_
  have ex : VX n x1 y1 z1 = VX n x2 y2 z2 := Classical.byContradiction fun e => hc (.inl e)
  have ey : VY n x1 y1 z1 = VY n x2 y2 z2 := Classical.byContradiction fun e => hc (.inr (.inl e))
  have ez : VZ n x1 y1 z1 = VZ n x2 y2 z2 := Classical.byContradiction fun e => hc (.inr (.inr e))
  rcases h with ⟨h, ⟨h', h0⟩ | ⟨h', h0⟩⟩ | ⟨h, ⟨h', h0⟩ | ⟨h', h0⟩⟩ | ⟨h, ⟨h', h0⟩ | ⟨h', h0⟩⟩ | ⟨h, h'⟩ | ⟨h, h'⟩ | ⟨h, h'⟩
  · exact ne_apt hP.n1 hP.n2 l1 m1 ax bx ay by_ hQ.hx hP.hy h h' h0 ex ey
  · exact ne_apt hP.n1 hP.n2 l1 m1 ax bx az bz hQ.hx hP.hz h h' h0 ex ez
  · exact ne_apt hP.n1 hP.n2 l1 m1 ay by_ ax bx hQ.hy hP.hx h h' h0 ey ex
  · exact ne_apt hP.n1 hP.n2 l1 m1 ay by_ az bz hQ.hy hP.hz h h' h0 ey ez
  · exact ne_apt hP.n1 hP.n2 l1 m1 az bz ax bx hQ.hz hP.hx h h' h0 ez ex
  · exact ne_apt hP.n1 hP.n2 l1 m1 az bz ay by_ hQ.hz hP.hy h h' h0 ez ey
  · exact ne_sgn ax bx h h' ex
  · exact ne_sgn ay by_ h h' ey
  · exact ne_sgn az bz h h' ez
end TF
/- The cube's statements, without the program. -/
namespace TF
open Go Go.RowKit
theorem six_bd {r : Int} (h0 : 0 ≤ r) (h1 : r < 32) : 1 ≤ 6 * (1 + r) * (1 + r) ∧ 6 * (1 + r) * (1 + r) ≤ 6144 := by
  have := sq_le (n := 1 + r) (by omega) (by omega)
  rw [six_sq]; omega
/-- East and north within the face. -/
theorem b_east {n : Int} {f : Nat} {i j : Int} (h : On n f i j) (hi : i + 1 < n) : bF n f 0 i j = f ∧ bX n f 0 i j = i + 1 ∧ bY n f 0 i j = j ∧ bS n f 0 i j = 2 ∧ cellN n f (i + 1) j = cellN n f i j + 1 ∧ On n f (i + 1) j := by
  have ho : offI n 0 i j ≠ n - 1 := by show i ≠ n - 1; omega
  refine ⟨by unfold bF; rw [if_neg ho], by unfold bX; rw [if_neg ho]; rfl, by unfold bY; rw [if_neg ho]; show j + 0 = j; omega, by unfold bS; rw [if_neg ho], by unfold cellN; omega, ?_⟩
  exact ⟨h.n1, h.n32, h.f6, by have := h.i0; omega, hi, h.j0, h.j1⟩
theorem b_north {n : Int} {f : Nat} {i j : Int} (h : On n f i j) (hj : j + 1 < n) : bF n f 1 i j = f ∧ bX n f 1 i j = i ∧ bY n f 1 i j = j + 1 ∧ bS n f 1 i j = 3 ∧ cellN n f i (j + 1) = cellN n f i j + n ∧ On n f i (j + 1) := by
  have ho : offI n 1 i j ≠ n - 1 := by show j ≠ n - 1; omega
  refine ⟨by unfold bF; rw [if_neg ho], by unfold bX; rw [if_neg ho]; show i + 0 = i; omega, by unfold bY; rw [if_neg ho]; rfl, by unfold bS; rw [if_neg ho], ?_, ?_⟩
  · unfold cellN
    rw [show (f : Int) * n + (j + 1) = (f * n + j) + 1 from by omega, Int.add_mul, Int.one_mul]; omega
  · exact ⟨h.n1, h.n32, h.f6, h.i0, h.i1, by have := h.j0; omega, hj⟩
theorem nb_other : ∀ f < 6, ∀ s < 4, nbF f s ≠ f := by decide
theorem b_east_out {n : Int} {f : Nat} {i j : Int} (h : On n f i j) (hi : ¬ i + 1 < n) : bF n f 0 i j ≠ f := by
  have ho : offI n 0 i j = n - 1 := by show i = n - 1; have := h.i1; omega
  unfold bF; rw [if_pos ho]; exact nb_other f h.f6 0 (by omega)
end TF
/- Turns and what lies beside, one with the other. -/
namespace TF
open Go Go.RowKit
theorem nb_turn : ∀ t < 24, ∀ f < 6, ∀ s < 4, nbF (tF t f) ((s + tQ t f) % 4) = tF t (nbF f s) ∧ nbS (tF t f) ((s + tQ t f) % 4) = (nbS f s + tQ t (nbF f s)) % 4 := by decide
theorem tF_inj : ∀ t < 24, ∀ f < 6, ∀ g < 6, tF t f = tF t g → f = g := by decide
theorem t_zero : ∀ f < 6, tF 0 f = f ∧ tQ 0 f = 0 := by decide
theorem tt_F : ∀ u < 24, ∀ t < 24, ∀ f < 6, tF (afF u t) f = tF u (tF t f) := by decide +kernel
theorem tt_Q : ∀ u < 24, ∀ t < 24, ∀ f < 6, tQ (afF u t) f = (tQ t f + tQ u (tF t f)) % 4 := by decide +kernel
theorem af_assoc : ∀ v < 24, ∀ u < 24, ∀ t < 24, afF v (afF u t) = afF (afF v u) t := by decide +kernel
theorem af_zero : ∀ t < 24, afF 0 t = t ∧ afF t 0 = t := by decide
def cntU (t : Nat) : Nat → Nat
  | 0 => 0
  | k + 1 => cntU t k + if afF k t = 0 then 1 else 0
theorem undo_one : ∀ t < 24, cntU t 24 = 1 := by decide +kernel
theorem undo_both : ∀ t < 24, ∀ k < 24, afF k t = 0 → afF t k = 0 := by decide +kernel
theorem undo_le (t k : Nat) : cntU t k ≤ k := by
  induction k with
  | zero => exact Nat.le_refl _
  | succ k ih => unfold cntU; split <;> omega

/-- Two cells of one way, one lane and one place are one. -/
theorem same_way {n : Int} {s : Nat} {i j k l : Int} (hs : s < 4) (h1 : offI n s i j = offI n s k l) (h2 : laneI n s i j = laneI n s k l) : i = k ∧ j = l := by
  obtain ⟨a, b⟩ := pos_off (n := n) hs i j
  obtain ⟨c, d⟩ := pos_off (n := n) hs k l
  rw [h1, h2] at a b
  exact ⟨a.symm.trans c, b.symm.trans d⟩
/-- Turned: beside one another still. -/
theorem beside_turned {n : Int} {f s t : Nat} {i j : Int} (h : On n f i j) (hs : s < 4) (ht : t < 24) :
    bF n (tF t f) ((s + tQ t f) % 4) (uX n t f i j) (uY n t f i j) = tF t (bF n f s i j) ∧
    bX n (tF t f) ((s + tQ t f) % 4) (uX n t f i j) (uY n t f i j) = uX n t (bF n f s i j) (bX n f s i j) (bY n f s i j) ∧
    bY n (tF t f) ((s + tQ t f) % 4) (uX n t f i j) (uY n t f i j) = uY n t (bF n f s i j) (bX n f s i j) (bY n f s i j) ∧
    bS n (tF t f) ((s + tQ t f) % 4) (uX n t f i j) (uY n t f i j) = (bS n f s i j + tQ t (bF n f s i j)) % 4 := by
  have hU := u_on h ht
  have hq := (turn_face t ht f h.f6).2.1
  have hs2 : (s + tQ t f) % 4 < 4 := by omega
  obtain ⟨o1, l1⟩ := u_way h ht hs
  obtain ⟨hB, hW, hS, lB, oB⟩ := b_on h hs
  obtain ⟨hB2, hW2, hS2, lB2, oB2⟩ := b_on hU hs2
  obtain ⟨o3, l3⟩ := u_way hB ht hW
  obtain ⟨n1, n2⟩ := nb_turn t ht f h.f6 s hs
  rw [o1] at oB2
  rw [l1] at lB2
  -- the face, and the way on
  have eF : bF n (tF t f) ((s + tQ t f) % 4) (uX n t f i j) (uY n t f i j) = tF t (bF n f s i j) := by
    unfold bF; rw [o1]; split
    · exact n1
    · rfl
  have eW : bW n (tF t f) ((s + tQ t f) % 4) (uX n t f i j) (uY n t f i j) = (bW n f s i j + tQ t (bF n f s i j)) % 4 := by
    unfold bW bF; rw [o1]; split
    · exact n2
    · rfl
  rw [eW] at lB2 oB2 hS2
  rw [oB] at o3
  rw [lB] at l3
  have e := same_way (n := n) (show (bW n f s i j + tQ t (bF n f s i j)) % 4 < 4 by omega) (oB2.trans o3.symm) (lB2.trans l3.symm)
  exact ⟨eF, e.1, e.2, by rw [hS2, hS]; omega⟩
/-- A turn takes no two cells to one. -/
theorem turned_inj {n : Int} {f g t : Nat} {i j k l : Int} (h : On n f i j) (h' : On n g k l) (ht : t < 24) (e : cellN n (tF t f) (uX n t f i j) (uY n t f i j) = cellN n (tF t g) (uX n t g k l) (uY n t g k l)) : cellN n f i j = cellN n g k l := by
  obtain ⟨e1, e2, e3⟩ := cellN_inj (u_on h ht) (u_on h' ht) e
  have e4 := tF_inj t ht f h.f6 g h'.f6 e1
  subst e4
  have hq := (turn_face t ht f h.f6).2.1
  obtain ⟨a, b⟩ := u_way h ht (s := 0) (by omega)
  obtain ⟨c, d⟩ := u_way h' ht (s := 0) (by omega)
  rw [e2, e3] at a b
  have := same_way (n := n) (s := 0) (by omega) (a.symm.trans c) (b.symm.trans d)
  rw [this.1, this.2]
theorem turn_none' {n : Int} {f : Nat} {i j : Int} (h : On n f i j) : cellN n (tF 0 f) (uX n 0 f i j) (uY n 0 f i j) = cellN n f i j ∧ tQ 0 f = 0 := by
  obtain ⟨e1, e2⟩ := t_zero f h.f6
  unfold uX uY
  rw [e1, e2]
  exact ⟨rfl, rfl⟩
/-- One turn behind another. -/
theorem turned_twice {n : Int} {f t u : Nat} {i j : Int} (h : On n f i j) (ht : t < 24) (hu : u < 24) : cellN n (tF u (tF t f)) (uX n u (tF t f) (uX n t f i j) (uY n t f i j)) (uY n u (tF t f) (uX n t f i j) (uY n t f i j)) = cellN n (tF (afF u t) f) (uX n (afF u t) f i j) (uY n (afF u t) f i j) ∧
    (tQ t f + tQ u (tF t f)) % 4 = tQ (afF u t) f := by
  have hU := u_on h ht
  have ha := (af_fact u hu t ht).1
  have eF := tt_F u hu t ht f h.f6
  have eQ := tt_Q u hu t ht f h.f6
  have q1 := (turn_face t ht f h.f6).2.1
  obtain ⟨a, b⟩ := u_way h ht (s := 0) (by omega)
  obtain ⟨c, d⟩ := u_way hU hu (s := (0 + tQ t f) % 4) (by omega)
  obtain ⟨p, q⟩ := u_way h ha (s := 0) (by omega)
  rw [a] at c
  rw [b] at d
  rw [eQ] at p q
  have em : ((0 + tQ t f) % 4 + tQ u (tF t f)) % 4 = (0 + (tQ t f + tQ u (tF t f)) % 4) % 4 := by omega
  rw [em] at c d
  have := same_way (n := n) (show (0 + (tQ t f + tQ u (tF t f)) % 4) % 4 < 4 by omega) (c.trans p.symm) (d.trans q.symm)
  rw [eF, this.1, this.2]
  exact ⟨rfl, eQ.symm⟩
end TF
/- Cells by way, lane and place on it. -/
namespace TF
open Go Go.RowKit
def cW (n : Int) (f w : Nat) (l o : Int) : Int := cellN n f (posX n w l o) (posY n w l o)
structure OnW (n : Int) (f w : Nat) (l o : Int) : Prop where
  n1 : 1 ≤ n
  n32 : n ≤ 32
  f6 : f < 6
  w4 : w < 4
  l0 : 0 ≤ l
  l1 : l < n
  o0 : 0 ≤ o
  o1 : o < n
def nF (n : Int) (f w : Nat) (o : Int) : Nat := if o = n - 1 then nbF f w else f
def nW (n : Int) (f w : Nat) (o : Int) : Nat := if o = n - 1 then nbS f w else w
def nO (n o : Int) : Int := if o = n - 1 then 0 else o + 1
theorem OnW.on {n : Int} {f w : Nat} {l o : Int} (h : OnW n f w l o) : On n f (posX n w l o) (posY n w l o) := on_pos h.w4 h.f6 h.n1 h.n32 h.l0 h.l1 h.o0 h.o1
theorem cell_w {n : Int} {f s : Nat} {i j : Int} (h : On n f i j) (hs : s < 4) : cellN n f i j = cW n f s (laneI n s i j) (offI n s i j) ∧ OnW n f s (laneI n s i j) (offI n s i j) := by
  obtain ⟨e1, e2⟩ := pos_off (n := n) hs i j
  obtain ⟨o0, o1, l0, l1⟩ := h.off hs
  exact ⟨by unfold cW; rw [e1, e2], ⟨h.n1, h.n32, h.f6, hs, l0, l1, o0, o1⟩⟩
theorem OnW.next {n : Int} {f w : Nat} {l o : Int} (h : OnW n f w l o) : OnW n (nF n f w o) (nW n f w o) l (nO n o) := by
  obtain ⟨g1, g2, -⟩ := nb_fact f h.f6 w h.w4
  have h1 := h.n1; have h2 := h.o0; have h3 := h.o1; have h4 := h.w4; have h5 := h.f6
  unfold nF nW nO
  split
  · exact ⟨h1, h.n32, g1, g2, h.l0, h.l1, by omega, by omega⟩
  · exact ⟨h1, h.n32, h5, h4, h.l0, h.l1, by omega, by omega⟩
theorem step_w {n : Int} {f w : Nat} {l o : Int} (h : OnW n f w l o) :
    cellN n (bF n f w (posX n w l o) (posY n w l o)) (bX n f w (posX n w l o) (posY n w l o)) (bY n f w (posX n w l o) (posY n w l o)) = cW n (nF n f w o) (nW n f w o) l (nO n o) ∧
    bS n f w (posX n w l o) (posY n w l o) = (nW n f w o + 2) % 4 := by
  obtain ⟨hB, hW, hS, hL, hO⟩ := b_on h.on h.w4
  obtain ⟨o1, l1⟩ := off_pos (n := n) h.w4 l o
  have eW : bW n f w (posX n w l o) (posY n w l o) = nW n f w o := by unfold bW nW; rw [o1]
  have eF : bF n f w (posX n w l o) (posY n w l o) = nF n f w o := by unfold bF nF; rw [o1]
  rw [l1] at hL
  rw [o1] at hO
  obtain ⟨e1, e2⟩ := pos_off (n := n) hW (bX n f w (posX n w l o) (posY n w l o)) (bY n f w (posX n w l o) (posY n w l o))
  rw [hL, hO, eW] at e1 e2
  refine ⟨?_, by rw [hS, eW]⟩
  rw [← e1, ← e2, eF]
  rfl
theorem flip_w (n : Int) (f : Nat) {w : Nat} (hw : w < 4) (l o : Int) : cW n f ((w + 2) % 4) (n - 1 - l) (n - 1 - o) = cW n f w l o := by
  have a : ∀ x : Int, n - 1 - (n - 1 - x) = x := fun x => by omega
  rcases four hw with rfl | rfl | rfl | rfl <;> simp [cW, posX, posY, a]
theorem left_w (n : Int) (f : Nat) {w : Nat} (hw : w < 4) (l o : Int) : cW n f ((w + 1) % 4) (n - 1 - o) l = cW n f w l o := by
  have a : ∀ x : Int, n - 1 - (n - 1 - x) = x := fun x => by omega
  rcases four hw with rfl | rfl | rfl | rfl <;> simp [cW, posX, posY, a]
theorem OnW.flip {n : Int} {f w : Nat} {l o : Int} (h : OnW n f w l o) : OnW n f ((w + 2) % 4) (n - 1 - l) (n - 1 - o) :=
  ⟨h.n1, h.n32, h.f6, by omega, by have := h.l1; omega, by have := h.l0; omega, by have := h.o1; omega, by have := h.o0; omega⟩
theorem OnW.left {n : Int} {f w : Nat} {l o : Int} (h : OnW n f w l o) : OnW n f ((w + 1) % 4) (n - 1 - o) l :=
  ⟨h.n1, h.n32, h.f6, by omega, by have := h.o1; omega, by have := h.o0; omega, h.l0, h.l1⟩
theorem nb_back : ∀ f < 6, ∀ w < 4, nbF (nbF f w) ((nbS f w + 2) % 4) = f ∧ nbS (nbF f w) ((nbS f w + 2) % 4) = (w + 2) % 4 := by decide
theorem back_w {n : Int} {f w : Nat} {l o : Int} (h : OnW n f w l o) : nF n (nF n f w o) ((nW n f w o + 2) % 4) (n - 1 - nO n o) = f ∧ nW n (nF n f w o) ((nW n f w o + 2) % 4) (n - 1 - nO n o) = (w + 2) % 4 ∧ nO n (n - 1 - nO n o) = n - 1 - o := by
  obtain ⟨g1, g2⟩ := nb_back f h.f6 w h.w4
  have h3 := h.o1; have h4 := h.o0
  unfold nF nW nO
  by_cases ho : o = n - 1
  · simp only [ho, if_true]
    rw [if_pos (by omega), if_pos (by omega), if_pos (by omega)]
    exact ⟨g1, g2, by omega⟩
  · simp only [ho, if_false]
    rw [if_neg (by omega), if_neg (by omega), if_neg (by omega)]
    exact ⟨rfl, rfl, by omega⟩
theorem nb_apart : ∀ f < 6, ∀ s < 4, ∀ u < 4, nbF f s = nbF f u → s = u := by decide
theorem d_apart : ∀ s < 4, ∀ u < 4, DX s = DX u ∧ DY s = DY u → s = u := by decide
theorem d_none : ∀ s < 4, ¬ (DX s = 0 ∧ DY s = 0) := by decide
/-- What lies beside is none of the cell itself, and no two alike. -/
theorem b_apart {n : Int} {f s u : Nat} {i j : Int} (h : On n f i j) (hs : s < 4) (hu : u < 4) (hne : s ≠ u) : cellN n (bF n f s i j) (bX n f s i j) (bY n f s i j) ≠ cellN n (bF n f u i j) (bX n f u i j) (bY n f u i j) := by
  intro e
  obtain ⟨e1, e2, e3⟩ := cellN_inj (b_on h hs).1 (b_on h hu).1 e
  have o1 := nb_other f h.f6 s hs
  have o2 := nb_other f h.f6 u hu
  unfold bF at e1
  unfold bX at e2
  unfold bY at e3
  by_cases ho : offI n s i j = n - 1 <;> by_cases hp : offI n u i j = n - 1
  · rw [if_pos ho, if_pos hp] at e1
    exact hne (nb_apart f h.f6 s hs u hu e1)
  · rw [if_pos ho, if_neg hp] at e1
    exact o1 e1
  · rw [if_neg ho, if_pos hp] at e1
    exact o2 e1.symm
  · rw [if_neg ho, if_neg hp] at e2 e3
    exact hne (d_apart s hs u hu ⟨by omega, by omega⟩)
theorem b_self {n : Int} {f s : Nat} {i j : Int} (h : On n f i j) (hs : s < 4) : cellN n (bF n f s i j) (bX n f s i j) (bY n f s i j) ≠ cellN n f i j := by
  intro e
  obtain ⟨e1, e2, e3⟩ := cellN_inj (b_on h hs).1 h e
  have o1 := nb_other f h.f6 s hs
  unfold bF at e1
  unfold bX at e2
  unfold bY at e3
  by_cases ho : offI n s i j = n - 1
  · rw [if_pos ho] at e1
    exact o1 e1
  · rw [if_neg ho] at e2 e3
    exact d_none s hs ⟨by omega, by omega⟩
end TF
/- The sides of cells by numbers: what lies beside, there and back. -/
namespace TF
open Go Go.RowKit

/-- A cell's face, i and j. -/
def cF (n x : Nat) : Nat := x / (n * n)
def cI (n x : Nat) : Int := ((x % n : Nat) : Int)
def cJ (n x : Nat) : Int := ((x / n % n : Nat) : Int)
/-- The cell over a side of a cell, and its own side there. -/
def bC (n x o : Nat) : Nat := (cellN n (bF n (cF n x) o (cI n x) (cJ n x)) (bX n (cF n x) o (cI n x) (cJ n x)) (bY n (cF n x) o (cI n x) (cJ n x))).toNat
def bO (n x o : Nat) : Nat := bS n (cF n x) o (cI n x) (cJ n x)

structure Side (n : Nat) : Prop where
  n1 : 1 ≤ n
  n2 : n ≤ 32
theorem dec_eq {n x : Nat} {f : Nat} {i j : Int} (hx : x < 6 * n * n) (h : On n f i j) (e : (x : Int) = cellN n f i j) : f = cF n x ∧ i = cI n x ∧ j = cJ n x := by
  have hp := h.place
  rw [← e] at hp
  have hc : cellsI (n : Int) = 6 * n * n := by unfold cellsI; rw [if_pos (good_of h.n1 h.n32)]
  unfold placeI at hp
  rw [if_pos ⟨by omega, by rw [hc]; exact_mod_cast hx⟩] at hp
  simp only [Prod.mk.injEq] at hp
  obtain ⟨a, b, c, -⟩ := hp
  unfold cF cI cJ
  refine ⟨?_, ?_, ?_⟩
  · have : ((x / (n * n) : Nat) : Int) = (f : Int) := by rw [← a]; push_cast; rfl
    omega
  · rw [← b]; push_cast; rfl
  · rw [← c]; push_cast; rfl
theorem dec_on {n x : Nat} (hS : Side n) (hx : x < 6 * n * n) : On n (cF n x) (cI n x) (cJ n x) ∧ cellN n (cF n x) (cI n x) (cJ n x) = x := by
  have h1 := hS.n1
  have h2 := hS.n2
  obtain ⟨f, i, j, hO, e⟩ := on_of (n := (n : Int)) (c := (x : Int)) (by omega) (by omega) (by omega) (by exact_mod_cast hx)
  obtain ⟨a, b, c⟩ := dec_eq hx hO e
  rw [← a, ← b, ← c]
  exact ⟨hO, e.symm⟩
structure Bes (n x o : Nat) : Prop where
  cell : cellN n (bF n (cF n x) o (cI n x) (cJ n x)) (bX n (cF n x) o (cI n x) (cJ n x)) (bY n (cF n x) o (cI n x) (cJ n x)) = (bC n x o : Int)
  on : On n (bF n (cF n x) o (cI n x) (cJ n x)) (bX n (cF n x) o (cI n x) (cJ n x)) (bY n (cF n x) o (cI n x) (cJ n x))
  lt : bC n x o < 6 * n * n
  lt4 : bO n x o < 4
  f : bF n (cF n x) o (cI n x) (cJ n x) = cF n (bC n x o)
  i : bX n (cF n x) o (cI n x) (cJ n x) = cI n (bC n x o)
  j : bY n (cF n x) o (cI n x) (cJ n x) = cJ n (bC n x o)
  ne : bC n x o ≠ x
theorem bes {n x o : Nat} (hS : Side n) (hx : x < 6 * n * n) (ho : o < 4) : Bes n x o := by
  obtain ⟨hO, e⟩ := dec_on hS hx
  obtain ⟨hB, hW, hb, -⟩ := b_on hO ho
  obtain ⟨q0, q1⟩ := hB.bound
  have hc : cellN n (bF n (cF n x) o (cI n x) (cJ n x)) (bX n (cF n x) o (cI n x) (cJ n x)) (bY n (cF n x) o (cI n x) (cJ n x)) = (bC n x o : Int) := by
    unfold bC; rw [Int.toNat_of_nonneg q0]
  have hlt : bC n x o < 6 * n * n := by rw [hc] at q1; exact_mod_cast q1
  obtain ⟨a, b, c⟩ := dec_eq hlt hB hc.symm
  refine ⟨hc, hB, hlt, ?_, a, b, c, fun h => b_self hO ho ?_⟩
  · show bS n (cF n x) o (cI n x) (cJ n x) < 4
    rw [hb]; omega
  · rw [hc, h, e]
/-- There and back. -/
theorem bes_back {n x o : Nat} (hS : Side n) (hx : x < 6 * n * n) (ho : o < 4) : bC n (bC n x o) (bO n x o) = x ∧ bO n (bC n x o) (bO n x o) = o := by
  have B := bes hS hx ho
  obtain ⟨hO, e⟩ := dec_on hS hx
  have B2 := bes hS B.lt B.lt4
  obtain ⟨e1, hw⟩ := cell_w hO ho
  obtain ⟨s1, s2⟩ := step_w hw
  obtain ⟨p1, p2⟩ := pos_off (n := (n : Int)) ho (cI n x) (cJ n x)
  rw [p1, p2] at s1 s2
  have hf := hw.next.flip
  obtain ⟨t1, t2⟩ := step_w hf
  obtain ⟨k1, k2, k3⟩ := back_w hw
  -- the cell over there, on its way back
  have hfl := flip_w (n : Int) (nF n (cF n x) o (offI n o (cI n x) (cJ n x))) hw.next.w4 (laneI n o (cI n x) (cJ n x)) (nO n (offI n o (cI n x) (cJ n x)))
  have hon := hf.on
  have hcell : cellN n (nF n (cF n x) o (offI n o (cI n x) (cJ n x))) (posX n ((nW n (cF n x) o (offI n o (cI n x) (cJ n x)) + 2) % 4) (n - 1 - laneI n o (cI n x) (cJ n x)) (n - 1 - nO n (offI n o (cI n x) (cJ n x))))
      (posY n ((nW n (cF n x) o (offI n o (cI n x) (cJ n x)) + 2) % 4) (n - 1 - laneI n o (cI n x) (cJ n x)) (n - 1 - nO n (offI n o (cI n x) (cJ n x)))) = (bC n x o : Int) := by
    rw [← B.cell, s1]; exact hfl
  obtain ⟨a, b, c⟩ := dec_eq B.lt hon hcell.symm
  have hbo : bO n x o = (nW n (cF n x) o (offI n o (cI n x) (cJ n x)) + 2) % 4 := s2
  rw [← hbo] at t1 t2 k1 k2 b c
  rw [a, b, c] at t1 t2
  have hback : (bC n (bC n x o) (bO n x o) : Int) = x := by
    rw [← B2.cell, t1]
    rw [← a, k1, k2, k3]
    rw [flip_w _ _ ho, ← e1, e]
  constructor
  · exact_mod_cast hback
  · show bS n (cF n (bC n x o)) (bO n x o) (cI n (bC n x o)) (cJ n (bC n x o)) = o
    rw [t2, ← a, k2]
    omega
end TF
/- Lengths and gaps over the edges of a net: the same from both sides, above nothing. -/
namespace TF
open Go Go.RowKit

theorem apt_k {n f : Nat} {k l : Int} (h1 : 1 ≤ n) (hf : f < 6) :
    Apt (PT n f k l 0) (PT n f k l 1) (PT n f k l 2) (PT n f (k + 2) l 0) (PT n f (k + 2) l 1) (PT n f (k + 2) l 2) ∨ Apt (PT n f (k + 2) l 0) (PT n f (k + 2) l 1) (PT n f (k + 2) l 2) (PT n f k l 0) (PT n f k l 1) (PT n f k l 2) := by
  rcases six hf with rfl | rfl | rfl | rfl | rfl | rfl
  all_goals
    simp only [PT, FR, frT, List.getD_cons_zero, List.getD_cons_succ, Int.mul_zero, Int.mul_one, Int.add_zero, Int.zero_add, Int.mul_neg, Apt]
    omega
theorem apt_l {n f : Nat} {k l : Int} (h1 : 1 ≤ n) (hf : f < 6) :
    Apt (PT n f k l 0) (PT n f k l 1) (PT n f k l 2) (PT n f k (l + 2) 0) (PT n f k (l + 2) 1) (PT n f k (l + 2) 2) ∨ Apt (PT n f k (l + 2) 0) (PT n f k (l + 2) 1) (PT n f k (l + 2) 2) (PT n f k l 0) (PT n f k l 1) (PT n f k l 2) := by
  rcases six hf with rfl | rfl | rfl | rfl | rfl | rfl
  all_goals
    simp only [PT, FR, frT, List.getD_cons_zero, List.getD_cons_succ, Int.mul_zero, Int.mul_one, Int.add_zero, Int.zero_add, Int.mul_neg, Apt]
    omega
/-- the gap of two places of faces -/
def PG (n f : Nat) (k l : Int) (g : Nat) (u v : Int) : Nat :=
  vgap (VX n (PT n f k l 0) (PT n f k l 1) (PT n f k l 2)) (VY n (PT n f k l 0) (PT n f k l 1) (PT n f k l 2)) (VZ n (PT n f k l 0) (PT n f k l 1) (PT n f k l 2))
    (VX n (PT n g u v 0) (PT n g u v 1) (PT n g u v 2)) (VY n (PT n g u v 0) (PT n g u v 1) (PT n g u v 2)) (VZ n (PT n g u v 0) (PT n g u v 1) (PT n g u v 2))
structure In5 (n f : Nat) (k l : Int) : Prop where
  n1 : 1 ≤ n
  n2 : n ≤ 32
  f6 : f < 6
  k : k.natAbs ≤ n
  l : l.natAbs ≤ n
theorem PG_sym {n f g : Nat} {k l u v : Int} (h : In5 n f k l) (h' : In5 n g u v) : PG n f k l g u v = PG n g u v f k l := by
  obtain ⟨a, b, c⟩ := v_fw (pt_sf h.n1 h.n2 h.f6 h.k h.l)
  obtain ⟨x, y, z⟩ := v_fw (pt_sf h'.n1 h'.n2 h'.f6 h'.k h'.l)
  exact vgap_sym a b c x y z
theorem PG_pos {n f g : Nat} {k l u v : Int} (h : In5 n f k l) (h' : In5 n g u v)
    (ha : Apt (PT n f k l 0) (PT n f k l 1) (PT n f k l 2) (PT n g u v 0) (PT n g u v 1) (PT n g u v 2) ∨ Apt (PT n g u v 0) (PT n g u v 1) (PT n g u v 2) (PT n f k l 0) (PT n f k l 1) (PT n f k l 2)) : PW (PG n f k l g u v) ∧ 0 < PG n f k l g u v := by
  have p := pt_sf h.n1 h.n2 h.f6 h.k h.l
  have q := pt_sf h'.n1 h'.n2 h'.f6 h'.k h'.l
  rcases ha with ha | ha
  · exact gap_apt p q ha
  · rw [PG_sym h h']; exact gap_apt q p ha
theorem PG_eq {n f g f' g' : Nat} {k l u v k' l' u' v' : Int} (a0 : PT n f k l 0 = PT n f' k' l' 0) (a1 : PT n f k l 1 = PT n f' k' l' 1) (a2 : PT n f k l 2 = PT n f' k' l' 2)
    (b0 : PT n g u v 0 = PT n g' u' v' 0) (b1 : PT n g u v 1 = PT n g' u' v' 1) (b2 : PT n g u v 2 = PT n g' u' v' 2) : PG n f k l g u v = PG n f' k' l' g' u' v' := by
  unfold PG; rw [a0, a1, a2, b0, b1, b2]
theorem CG_is (n f : Nat) (i j a b : Int) : CG n f i j a b = PG n f (2 * i - n) (2 * j - n) f (2 * a - n) (2 * b - n) := rfl
theorem MG_is (n f : Nat) (i j : Int) (g : Nat) (a b : Int) : MG n f i j g a b = PG n f (2 * i + 1 - n) (2 * j + 1 - n) g (2 * a + 1 - n) (2 * b + 1 - n) := rfl

theorem CG_k {n f : Nat} {i j : Int} (h1 : 1 ≤ n) (h2 : n ≤ 32) (hf : f < 6) (i0 : 0 ≤ i) (i1 : i + 1 ≤ n) (j0 : 0 ≤ j) (j1 : j ≤ n) : PW (CG n f i j (i + 1) j) ∧ 0 < CG n f i j (i + 1) j := by
  rw [CG_is]
  have e : 2 * (i + 1) - (n : Int) = 2 * i - n + 2 := by omega
  rw [e]
  exact PG_pos ⟨h1, h2, hf, by omega, by omega⟩ ⟨h1, h2, hf, by omega, by omega⟩ (apt_k h1 hf)
theorem CG_l {n f : Nat} {i j : Int} (h1 : 1 ≤ n) (h2 : n ≤ 32) (hf : f < 6) (i0 : 0 ≤ i) (i1 : i ≤ n) (j0 : 0 ≤ j) (j1 : j + 1 ≤ n) : PW (CG n f i j i (j + 1)) ∧ 0 < CG n f i j i (j + 1) := by
  rw [CG_is]
  have e : 2 * (j + 1) - (n : Int) = 2 * j - n + 2 := by omega
  rw [e]
  exact PG_pos ⟨h1, h2, hf, by omega, by omega⟩ ⟨h1, h2, hf, by omega, by omega⟩ (apt_l h1 hf)
theorem LE_pos {n f s : Nat} {i j : Int} (h : On n f i j) (hs : s < 4) : PW (LE n f i j s) ∧ 0 < LE n f i j s := by
  obtain ⟨hf, g1, g2, i0, i1, j0, j1⟩ := (⟨h.f6, h.n1, h.n32, h.i0, h.i1, h.j0, h.j1⟩ : f < 6 ∧ 1 ≤ (n : Int) ∧ (n : Int) ≤ 32 ∧ 0 ≤ i ∧ i < n ∧ 0 ≤ j ∧ j < n)
  unfold LE
  rcases four hs with rfl | rfl | rfl | rfl
  · rw [if_pos rfl]; exact CG_l (by omega) (by omega) hf (by omega) (by omega) (by omega) (by omega)
  · rw [if_neg (by decide), if_pos rfl]; exact CG_k (by omega) (by omega) hf (by omega) (by omega) (by omega) (by omega)
  · rw [if_neg (by decide), if_neg (by decide), if_pos rfl]; exact CG_l (by omega) (by omega) hf (by omega) (by omega) (by omega) (by omega)
  · rw [if_neg (by decide), if_neg (by decide), if_neg (by decide)]; exact CG_k (by omega) (by omega) hf (by omega) (by omega) (by omega) (by omega)

/-! ### Over the edge of a face -/
set_option maxHeartbeats 4000000 in
theorem mg_far {n f s : Nat} {i j : Int} (h : On n f i j) (hs : s < 4) (ho : offI n s i j = n - 1) :
    PW (MG n f i j (nbF f s) (posX n (nbS f s) (laneI n s i j) 0) (posY n (nbS f s) (laneI n s i j) 0)) ∧ 0 < MG n f i j (nbF f s) (posX n (nbS f s) (laneI n s i j) 0) (posY n (nbS f s) (laneI n s i j) 0) := by
  obtain ⟨hf, g1, g2, i0, i1, j0, j1⟩ := (⟨h.f6, h.n1, h.n32, h.i0, h.i1, h.j0, h.j1⟩ : f < 6 ∧ 1 ≤ (n : Int) ∧ (n : Int) ≤ 32 ∧ 0 ≤ i ∧ i < n ∧ 0 ≤ j ∧ j < n)
  clear h
  rw [MG_is]
  rcases six hf with rfl | rfl | rfl | rfl | rfl | rfl
  all_goals
    rcases four hs with rfl | rfl | rfl | rfl
    all_goals
      simp [offI] at ho
      simp only [nbF, nbS, nbT, List.getD_cons_zero, List.getD_cons_succ, posX, posY, laneI, if_true, if_false, (by decide : ¬ (1 : Nat) = 0), (by decide : ¬ (2 : Nat) = 0), (by decide : ¬ (2 : Nat) = 1), (by decide : ¬ (3 : Nat) = 0), (by decide : ¬ (3 : Nat) = 1), (by decide : ¬ (3 : Nat) = 2)]
      refine PG_pos ⟨by omega, by omega, by omega, by omega, by omega⟩ ⟨by omega, by omega, by omega, by omega, by omega⟩ ?_
      simp only [PT, FR, frT, List.getD_cons_zero, List.getD_cons_succ, Int.mul_zero, Int.mul_one, Int.add_zero, Int.zero_add, Int.mul_neg, Apt]
      clear hf hs
      omega
end TF
/- The edges of a net: pairs of a cell and a side, by numbers. -/
namespace TF

/-- how many sides all cells have -/
def N4 (n : Nat) : Nat := 4 * (6 * n * n)
/-- the side that lies over there -/
def sg (n t : Nat) : Nat := 4 * bC n (t / 4) (t % 4) + bO n (t / 4) (t % 4)
/-- is the cell the edge's Left? -/
def prim (n t : Nat) : Bool := decide (t / 4 < bC n (t / 4) (t % 4))
/-- the edges of the sides ahead of t; how many they are -/
def E4 (n t : Nat) : List Nat := (List.range t).filter (prim n)
def idx (n t : Nat) : Nat := (E4 n t).length
/-- all edges -/
def EL (n : Nat) : List Nat := E4 n (N4 n)

theorem sg_facts {n t : Nat} (hS : Side n) (ht : t < N4 n) : sg n t < N4 n ∧ sg n t / 4 = bC n (t / 4) (t % 4) ∧ sg n t % 4 = bO n (t / 4) (t % 4) ∧ sg n (sg n t) = t ∧ prim n (sg n t) = !prim n t ∧ bC n (sg n t / 4) (sg n t % 4) = t / 4 ∧ bO n (sg n t / 4) (sg n t % 4) = t % 4 := by
  unfold N4 at ht ⊢
  have hx : t / 4 < 6 * n * n := by omega
  have ho : t % 4 < 4 := by omega
  have B := bes hS hx ho
  obtain ⟨b1, b2⟩ := bes_back hS hx ho
  have l4 := B.lt4
  have lt := B.lt
  have e1 : sg n t / 4 = bC n (t / 4) (t % 4) := by unfold sg; omega
  have e2 : sg n t % 4 = bO n (t / 4) (t % 4) := by unfold sg; omega
  refine ⟨by unfold sg; omega, e1, e2, ?_, ?_, by rw [e1, e2, b1], by rw [e1, e2, b2]⟩
  · show 4 * bC n (sg n t / 4) (sg n t % 4) + bO n (sg n t / 4) (sg n t % 4) = t
    rw [e1, e2, b1, b2]; omega
  · unfold prim
    rw [e1, e2, b1]
    have := B.ne
    rw [Bool.eq_iff_iff, Bool.not_eq_true', decide_eq_true_eq, decide_eq_false_iff_not]
    omega
theorem range_perm {n : Nat} (hS : Side n) : ((List.range (N4 n)).map (sg n)).Perm (List.range (N4 n)) := by
  have nd1 : (List.range (N4 n)).Nodup := List.nodup_range
  have nd2 : ((List.range (N4 n)).map (sg n)).Nodup := by
    unfold List.Nodup
    rw [List.pairwise_map]
    refine List.Pairwise.imp_of_mem ?_ nd1
    intro a b ha hb hne e
    have a1 := (sg_facts hS (List.mem_range.1 ha)).2.2.2.1
    have b1 := (sg_facts hS (List.mem_range.1 hb)).2.2.2.1
    exact hne (by rw [← a1, e, b1])
  refine List.perm_iff_count.2 fun a => ?_
  rw [nd2.count, nd1.count]
  have : a ∈ (List.range (N4 n)).map (sg n) ↔ a ∈ List.range (N4 n) := by
    rw [List.mem_map]
    constructor
    · rintro ⟨b, hb, rfl⟩
      exact List.mem_range.2 (sg_facts hS (List.mem_range.1 hb)).1
    · intro ha
      have f := sg_facts hS (List.mem_range.1 ha)
      exact ⟨sg n a, List.mem_range.2 f.1, f.2.2.2.1⟩
  by_cases h : a ∈ List.range (N4 n)
  · rw [if_pos h, if_pos (this.2 h)]
  · rw [if_neg h, if_neg (fun x => h (this.1 x))]
theorem count_sg {n : Nat} (hS : Side n) (q : Nat → Bool) : (List.range (N4 n)).countP (fun t => q (sg n t)) = (List.range (N4 n)).countP q := by
  have := (range_perm hS).countP_eq q
  rwa [List.countP_map] at this
theorem count_two (p : Nat → Bool) (q : Nat → Bool) (l : List Nat) : l.countP (fun t => p t && q t) + l.countP (fun t => p t && !q t) = l.countP p := by
  induction l with
  | nil => rfl
  | cons a l ih =>
    simp only [List.countP_cons]
    cases p a <;> cases q a <;> simp <;> omega
theorem EL_length {n : Nat} (hS : Side n) : (EL n).length = 2 * (6 * n * n) := by
  have h1 : (EL n).length = (List.range (N4 n)).countP (prim n) := by unfold EL E4; rw [← List.countP_eq_length_filter]
  have h2 := count_sg hS (prim n)
  have h3 : (List.range (N4 n)).countP (fun t => prim n (sg n t)) = (List.range (N4 n)).countP (fun t => !prim n t) := by
    refine List.countP_congr fun t ht => ?_
    rw [(sg_facts hS (List.mem_range.1 ht)).2.2.2.2.1]
  have h4 := count_two (fun _ => true) (prim n) (List.range (N4 n))
  simp only [Bool.true_and] at h4
  have h5 : (List.range (N4 n)).countP (fun _ => true) = N4 n := by simp
  rw [h5] at h4
  have hN : N4 n = 4 * (6 * n * n) := rfl
  have h6 : (List.range (N4 n)).countP (prim n) + (List.range (N4 n)).countP (fun t => !prim n t) = N4 n := h4
  have h7 : (List.range (N4 n)).countP (fun t => !prim n t) = (List.range (N4 n)).countP (prim n) := h3.symm.trans h2
  omega
theorem E4_succ (n t : Nat) : E4 n (t + 1) = if prim n t then E4 n t ++ [t] else E4 n t := by
  unfold E4
  rw [List.range_succ, List.filter_append]
  by_cases h : prim n t = true
  · rw [if_pos h]; simp [h]
  · rw [if_neg h]; simp [h]
theorem E4_at {n t : Nat} (hp : prim n t = true) : ∀ T, t < T → (E4 n T)[idx n t]? = some t := by
  intro T
  induction T with
  | zero => intro h; omega
  | succ T ih =>
    intro h
    rw [E4_succ]
    by_cases e : t = T
    · subst e
      rw [if_pos hp]
      unfold idx
      rw [List.getElem?_append_right (Nat.le_refl _)]
      simp
    · have hi := ih (by omega)
      split
      · rw [List.getElem?_append_left (List.getElem?_eq_some_iff.1 hi).1]; exact hi
      · exact hi
theorem E4_mem {n T i t : Nat} (h : (E4 n T)[i]? = some t) : prim n t = true ∧ t < T ∧ idx n t = i := by
  have hm := List.mem_of_getElem? h
  unfold E4 at hm
  rw [List.mem_filter, List.mem_range] at hm
  refine ⟨hm.2, hm.1, ?_⟩
  have h2 := E4_at hm.2 T hm.1
  have nd : (E4 n T).Nodup := (List.nodup_range).filter _
  exact (List.getElem?_inj (List.getElem?_eq_some_iff.1 h2).1 nd).1 (h2.trans h.symm)
theorem idx_lt {n t T : Nat} (hp : prim n t = true) (h : t < T) : idx n t < (E4 n T).length := (List.getElem?_eq_some_iff.1 (E4_at hp T h)).1
/-- the edge that a side belongs to, as its Left's side -/
def lo (n t : Nat) : Nat := if prim n t then t else sg n t
theorem lo_facts {n t : Nat} (hS : Side n) (ht : t < N4 n) : prim n (lo n t) = true ∧ lo n t < N4 n ∧ lo n (sg n t) = lo n t := by
  have f := sg_facts hS ht
  unfold lo
  by_cases h : prim n t = true
  · rw [if_pos h]
    refine ⟨h, ht, ?_⟩
    rw [f.2.2.2.2.1, h, if_neg (by decide), f.2.2.2.1]
  · rw [if_neg h]
    have h' : prim n t = false := by simpa using h
    rw [f.2.2.2.2.1, h', if_pos (by decide)]
    exact ⟨rfl, f.1, rfl⟩
theorem count_cell (c : Nat) : ∀ T, (List.range T).countP (fun t => decide (t / 4 = c)) = min (T - 4 * c) 4 := by
  intro T
  induction T with
  | zero => simp
  | succ T ih =>
    rw [List.range_succ, List.countP_append, ih]
    by_cases h : T / 4 = c
    · simp [h]; omega
    · simp [h]; omega
/-- how often a cell has been met among the first k edges -/
def met (n k c : Nat) : Nat := ((EL n).take k).countP (fun t => decide (t / 4 = c)) + ((EL n).take k).countP (fun t => decide (sg n t / 4 = c))
theorem met_zero (n c : Nat) : met n 0 c = 0 := rfl
theorem met_succ {n k t : Nat} (h : (EL n)[k]? = some t) (c : Nat) : met n (k + 1) c = met n k c + (if t / 4 = c then 1 else 0) + (if sg n t / 4 = c then 1 else 0) := by
  unfold met
  rw [List.take_add_one, h]
  simp only [Option.toList_some, List.countP_append, List.countP_cons, List.countP_nil]
  by_cases a : t / 4 = c <;> by_cases b : sg n t / 4 = c <;> simp [a, b] <;> omega
theorem met_all {n c : Nat} (hS : Side n) (hc : c < 6 * n * n) : met n (2 * (6 * n * n)) c = 4 := by
  unfold met
  rw [List.take_of_length_le (by rw [EL_length hS]; omega)]
  unfold EL E4
  rw [List.countP_filter, List.countP_filter]
  have h1 : (List.range (N4 n)).countP (fun t => decide (sg n t / 4 = c) && prim n t) = (List.range (N4 n)).countP (fun t => decide (t / 4 = c) && !prim n t) := by
    rw [← count_sg hS (fun t => decide (t / 4 = c) && !prim n t)]
    refine List.countP_congr fun t ht => ?_
    rw [(sg_facts hS (List.mem_range.1 ht)).2.2.2.2.1, Bool.not_not]
  rw [h1, count_two (fun t => decide (t / 4 = c)) (prim n), count_cell]
  unfold N4
  omega
end TF
