/- Slopes of doubled differences, where all stays normal. -/
import Derived.Test.YtjbiklkjcalmkaaLimU
import Derived.Test.YtjbiklkjcalmkaaFloatQ
namespace TF
open Ieee Go Go.RowKit

/-- Twice the value is one block further. -/
theorem near_double {n q r : Nat} (h : Near n q r) (hr : 2 ^ 52 < r) : Near (2 * n) q (r + 2 ^ 52) where
  lo s hs := by
    obtain ⟨t, rfl⟩ : ∃ t, r = t + 1 := ⟨r - 1, by omega⟩
    obtain rfl : s = t + 2 ^ 52 := by omega
    have := h.lo t rfl
    rw [← V_double (by omega), ← V_double (by omega), ← Nat.mul_add, Nat.mul_left_comm q 2]
    omega
  loe s hs he := by
    obtain ⟨t, rfl⟩ : ∃ t, r = t + 1 := ⟨r - 1, by omega⟩
    obtain rfl : s = t + 2 ^ 52 := by omega
    rw [← V_double (by omega), ← V_double (by omega), ← Nat.mul_add, Nat.mul_left_comm q 2] at he
    have := h.loe t rfl (by omega)
    omega
  hi := by
    have := h.hi
    rw [show r + 2 ^ 52 + 1 = r + 1 + 2 ^ 52 from by omega, ← V_double (by omega), ← V_double (by omega), ← Nat.mul_add, Nat.mul_left_comm q 2]
    omega
  hie he := by
    rw [show r + 2 ^ 52 + 1 = r + 1 + 2 ^ 52 from by omega, ← V_double (by omega), ← V_double (by omega), ← Nat.mul_add, Nat.mul_left_comm q 2] at he
    have := h.hie (by omega)
    omega
theorem rnd_dbl {n : Nat} (h : 2 ^ 52 < rnd n) : rnd (2 * n) = rnd n + 2 ^ 52 := (near_rnd (2 * n)).unique (by omega) (near_double (near_rnd n) h)
theorem rnd2_dbl {n : Nat} (h : 2 ^ 52 < rnd2 n) : rnd2 (2 * n) = rnd2 n + 2 ^ 52 := (near_rnd2 (2 * n)).unique Q_pos (near_double (near_rnd2 n) h)
theorem dbl_norm {x : Nat} (h1 : 2 ^ 52 ≤ x) (h2 : x + 2 ^ 52 < INF) : dbl x = x + 2 ^ 52 := by
  unfold dbl
  rw [if_pos (by omega), V_double h1, rnd_V, Nat.min_eq_left (by omega)]

def P2 (k : Nat) : Nat := 2 ^ k
theorem P2_pos (k : Nat) : 0 < P2 k := Nat.two_pow_pos k
theorem P2_add (a b : Nat) : P2 (a + b) = P2 a * P2 b := Nat.pow_add ..
theorem P2_succ (a : Nat) : P2 (a + 1) = 2 * P2 a := by unfold P2; rw [Nat.pow_succ, Nat.mul_comm]
theorem P2_le {a b : Nat} (h : a ≤ b) : P2 a ≤ P2 b := Nat.pow_le_pow_right (by omega) h
theorem Q_P2 : Q = P2 T := rfl
theorem V_blk (e : Nat) : V ((e + 1) * 2 ^ 52) = P2 (52 + e) := by
  unfold P2; rw [Nat.succ_mul, V_block (by omega) (by omega), ← Nat.pow_add]
/-- Of the magnitudes that LimitScales looks at. -/
structure Mid (x : Nat) : Prop where
  lo : 690 * 2 ^ 52 ≤ x
  hi : x ≤ 1356 * 2 ^ 52
theorem Mid.pos {x : Nat} (h : Mid x) : Pos x := ⟨by have := h.lo; omega, by have := h.hi; unfold INF; omega⟩
theorem Mid.V_lo {x : Nat} (h : Mid x) : P2 (52 + 689) ≤ V x := by rw [← V_blk]; exact V_le h.lo
theorem Mid.V_hi {x : Nat} (h : Mid x) : V x ≤ P2 (52 + 1355) := by rw [← V_blk]; exact V_le h.hi
theorem near_ge {n q r e : Nat} (hq : 0 < q) (h : Near n q r) (hn : P2 (52 + e) * q ≤ n) : (e + 1) * 2 ^ 52 ≤ r := by
  have k := near_self (r := (e + 1) * 2 ^ 52) (q := 1) (by omega)
  refine k.le_of (by omega) hq h ?_
  rw [V_blk, Nat.one_mul]; first | simpa using hn | omega
theorem near_le {n q r e : Nat} (hq : 0 < q) (h : Near n q r) (hn : n ≤ P2 (52 + e) * q) : r ≤ (e + 1) * 2 ^ 52 := by
  have k := near_self (r := (e + 1) * 2 ^ 52) (q := 1) (by omega)
  refine h.le_of hq (by omega) k ?_
  rw [V_blk, Nat.one_mul]; first | simpa using hn | omega

/-- Leer's steps of two such. -/
structure LeerOf (x y p s r : Nat) : Prop where
  p0 : p = rnd2 (2 * V x * V y)
  s0 : s = rnd (V x + V y)
  near : Near (V p * Q) (V s) r
  plo : 358 * 2 ^ 52 ≤ p
  phi : p ≤ 1690 * 2 ^ 52
  slo : 690 * 2 ^ 52 ≤ s
  shi : s ≤ 1357 * 2 ^ 52
  rlo : 24 * 2 ^ 52 ≤ r
  rhi : r ≤ 2023 * 2 ^ 52

theorem leer_val {a b p s r : Nat} (ha : Pos a) (hb : Pos b) (fd : dbl a < INF) (fb : b < INF) (hp : p = rnd2 (V (dbl a) * V b)) (hpf : p < INF) (hs : s = rnd (V a + V b)) (hsf : s < INF) (hs0 : 0 < s) (hr : Near (V p * Q) (V s) r) (hrf : r < INF) : leerW a b = r := by
  have hI := INF_lt
  have fa := fin_of_dbl ha fd
  have e1 : floatBits .mul .f64 (dbl a) b = some p := by
    show double.mul _ _ = _
    rw [mul_fin (by rw [(dbl_pos ha).mg]; exact fd) (by rw [hb.mg]; exact fb), (dbl_pos ha).mg, (dbl_pos ha).ng, hb.mg, hb.ng, ← hp, Nat.min_eq_left (by omega)]; rfl
  have e2 : floatBits .add .f64 a b = some s := by
    show double.add _ _ = _
    have ia : iv a = V a := by unfold iv; rw [ha.ng, ha.mg]; rfl
    have ib : iv b = V b := by unfold iv; rw [hb.ng, hb.mg]; rfl
    have h0 : 0 < V a := by have := V_lt ha.gt; rw [V_zero] at this; exact this
    rw [add_word (by rw [ha.mg]; exact fa) (by rw [hb.mg]; exact fb), ia, ib]
    unfold rw'
    rw [if_neg (by omega), decide_eq_false (by omega), show ((V a : Int) + V b).natAbs = V a + V b from by omega, ← hs, Nat.min_eq_left (by omega)]; rfl
  have e3 : floatBits .quo .f64 p s = some r := by
    show double.div _ _ = _
    obtain ⟨r', k1, k2⟩ := div_fin (a := p) (b := s) (by rw [mg_small (by omega)]; exact hpf) (by rw [mg_small (by omega)]; exact hsf) (by rw [mg_small (by omega)]; omega)
    rw [mg_small (by omega), mg_small (by omega)] at k2
    have hVs : 0 < V s := by have := V_lt hs0; rw [V_zero] at this; exact this
    rw [k1, k2.unique hVs hr, ng_small (by omega), ng_small (by omega), Nat.min_eq_left (by omega)]; rfl
  unfold leerW leerQ
  rw [e1, e2]
  simp only [Option.bind_some, e3]
  rw [finB_true.2 (by rw [mg_small (by omega)]; exact hrf), if_pos rfl]

theorem leer_of {x y : Nat} (hx : Mid x) (hy : Mid y) : ∃ p s r, LeerOf x y p s r := by
  have x1 := hx.V_lo; have x2 := hx.V_hi; have y1 := hy.V_lo; have y2 := hy.V_hi
  have hQ := Q_pos
  have pl : P2 (52 + 357) * Q ≤ 2 * V x * V y := by
    have : P2 (52 + 357) * Q ≤ 2 * (P2 (52 + 689) * P2 (52 + 689)) := by
      rw [Q_P2, ← P2_add, ← P2_add, ← P2_succ]; exact P2_le (by unfold T; omega)
    have h2 := Nat.mul_le_mul x1 y1
    rw [Nat.mul_assoc]
    generalize P2 (52 + 357) * Q = u at *
    generalize P2 (52 + 689) * P2 (52 + 689) = v at *
    generalize V x * V y = z at *
    omega
  have ph : 2 * V x * V y ≤ P2 (52 + 1689) * Q := by
    have : 2 * (P2 (52 + 1355) * P2 (52 + 1355)) ≤ P2 (52 + 1689) * Q := by
      rw [Q_P2, ← P2_add, ← P2_add, ← P2_succ]; exact P2_le (by unfold T; omega)
    have h2 := Nat.mul_le_mul x2 y2
    rw [Nat.mul_assoc]
    generalize P2 (52 + 1689) * Q = u at *
    generalize P2 (52 + 1355) * P2 (52 + 1355) = v at *
    generalize V x * V y = z at *
    omega
  have p1 := near_ge hQ (near_rnd2 (2 * V x * V y)) pl
  have p2 := near_le hQ (near_rnd2 (2 * V x * V y)) ph
  have s1 := near_ge (e := 689) (by omega) (near_rnd (V x + V y)) (by omega)
  have s2 := near_le (e := 1356) (by omega) (near_rnd (V x + V y)) (by
    have : P2 (52 + 1356) = 2 * P2 (52 + 1355) := P2_succ _
    omega)
  generalize hp : rnd2 (2 * V x * V y) = p at p1 p2
  generalize hs : rnd (V x + V y) = s at s1 s2
  have vp1 : P2 (52 + 357) ≤ V p := by rw [← V_blk]; exact V_le p1
  have vp2 : V p ≤ P2 (52 + 1689) := by rw [← V_blk]; exact V_le p2
  have vs1 : P2 (52 + 689) ≤ V s := by rw [← V_blk]; exact V_le s1
  have vs2 : V s ≤ P2 (52 + 1356) := by rw [← V_blk]; exact V_le s2
  have hVs : 0 < V s := Nat.lt_of_lt_of_le (P2_pos _) vs1
  obtain ⟨r, _, hr⟩ := div_fin (a := p) (b := s) (by rw [mg_small (by omega)]; unfold INF; omega) (by rw [mg_small (by omega)]; unfold INF; omega) (by rw [mg_small (by omega)]; omega)
  rw [mg_small (by omega), mg_small (by omega)] at hr
  refine ⟨p, s, r, ⟨hp.symm, hs.symm, hr, p1, p2, s1, s2, near_ge hVs hr (e := 23) ?_, near_le hVs hr (e := 2022) ?_⟩⟩
  · have : P2 (52 + 23) * P2 (52 + 1356) ≤ P2 (52 + 357) * Q := by
      rw [Q_P2, ← P2_add, ← P2_add]; exact P2_le (by unfold T; omega)
    exact Nat.le_trans (Nat.mul_le_mul_left _ vs2) (Nat.le_trans this (Nat.mul_le_mul_right _ vp1))
  · have : P2 (52 + 1689) * Q ≤ P2 (52 + 2022) * P2 (52 + 689) := by
      rw [Q_P2, ← P2_add, ← P2_add]; exact P2_le (by unfold T; omega)
    exact Nat.le_trans (Nat.mul_le_mul_right _ vp2) (Nat.le_trans this (Nat.mul_le_mul_left _ vs1))

theorem Mid.dbl {x : Nat} (h : Mid x) : dbl x = x + 2 ^ 52 := dbl_norm (by have := h.lo; omega) (by have := h.hi; unfold INF; omega)
theorem Mid.V_dbl {x : Nat} (h : Mid x) : V (x + 2 ^ 52) = 2 * V x := (V_double (by have := h.lo; omega)).symm
theorem Mid.dbl2 {x : Nat} (h : Mid x) : TF.dbl (x + 2 ^ 52) = x + 2 ^ 52 + 2 ^ 52 := dbl_norm (by omega) (by have := h.hi; unfold INF; omega)
theorem leer_mid {x y p s r : Nat} (hx : Mid x) (hy : Mid y) (L : LeerOf x y p s r) : leerW x y = r := by
  have hI : INF = 2047 * 2 ^ 52 := rfl
  have b1 := hx.hi; have b2 := hy.hi
  have l1 := L.phi; have l2 := L.shi; have l3 := L.rhi; have l4 := L.slo
  exact leer_val hx.pos hy.pos (by rw [hx.dbl]; omega) (by omega) (by rw [hx.dbl, hx.V_dbl]; exact L.p0) (by omega) L.s0 (by omega) (by omega) L.near (by omega)
theorem leer_scale {x y p s r : Nat} (hx : Mid x) (hy : Mid y) (L : LeerOf x y p s r) : leerW (x + 2 ^ 52) (y + 2 ^ 52) = r + 2 ^ 52 := by
  have hI : INF = 2047 * 2 ^ 52 := rfl
  have b1 := hx.hi; have b2 := hy.hi; have c1 := hx.lo; have c2 := hy.lo
  have l1 := L.phi; have l2 := L.shi; have l3 := L.rhi; have l4 := L.slo; have l5 := L.plo; have l6 := L.rlo
  have hQ := Q_pos
  have ep : rnd2 (V (dbl (x + 2 ^ 52)) * V (y + 2 ^ 52)) = p + 2 ^ 52 + 2 ^ 52 := by
    have d1 : V (x + 2 ^ 52 + 2 ^ 52) = 2 * (2 * V x) := by rw [← hx.V_dbl]; exact (V_double (by omega)).symm
    rw [hx.dbl2, d1, hy.V_dbl, show 2 * (2 * V x) * (2 * V y) = 2 * (2 * (2 * V x * V y)) from by rw [Nat.mul_assoc, Nat.mul_assoc, Nat.mul_left_comm (V x), Nat.mul_assoc]]
    have e1 := rnd2_dbl (n := 2 * V x * V y) (by rw [← L.p0]; omega)
    rw [rnd2_dbl (by rw [e1, ← L.p0]; omega), e1, ← L.p0]
  have es : rnd (V (x + 2 ^ 52) + V (y + 2 ^ 52)) = s + 2 ^ 52 := by
    rw [hx.V_dbl, hy.V_dbl, ← Nat.mul_add, rnd_dbl (by rw [← L.s0]; omega), ← L.s0]
  have vp : V (p + 2 ^ 52 + 2 ^ 52) = 4 * V p := by
    have d1 : 2 * V p = V (p + 2 ^ 52) := V_double (by omega)
    have d2 : 2 * V (p + 2 ^ 52) = V (p + 2 ^ 52 + 2 ^ 52) := V_double (by omega)
    omega
  have vs : V (s + 2 ^ 52) = 2 * V s := (V_double (by omega)).symm
  have hVs : 0 < V s := by have := V_lt (show 0 < s by omega); rw [V_zero] at this; exact this
  have er : Near (V (p + 2 ^ 52 + 2 ^ 52) * Q) (V (s + 2 ^ 52)) (r + 2 ^ 52) := by
    have h := near_double L.near (by omega)
    refine h.ratio hVs (by omega) ?_
    rw [vp, vs]
    have : 2 * (V p * Q) * (2 * V s) = 4 * V p * Q * V s := by
      rw [show 4 * V p = 2 * 2 * V p from rfl]
      generalize V p = a
      generalize V s = b
      generalize Q = c
      ac_rfl
    exact this
  refine leer_val (by exact ⟨by omega, by omega⟩) (by exact ⟨by omega, by omega⟩) (by rw [hx.dbl2]; omega) (by omega) ep.symm (by omega) es.symm (by omega) (by omega) er (by omega)

/-- Twice a word, where nothing leaves the normal range. -/
def twoW (w : Nat) : Nat := if mg w = 0 then w else w + 2 ^ 52
/-- A magnitude whose double is normal too. -/
structure Norm (r : Nat) : Prop where
  lo : 2 ^ 52 ≤ r
  hi : r + 2 ^ 52 < INF
theorem Norm.pos {r : Nat} (h : Norm r) : Pos r := ⟨by have := h.lo; omega, by have := h.hi; omega⟩
theorem Mid.norm {x : Nat} (h : Mid x) : Norm x := ⟨by have := h.lo; omega, by have := h.hi; unfold INF; omega⟩
theorem two_norm {r : Nat} (h : Norm r) : twoW r = r + 2 ^ 52 ∧ floatBits .mul .f64 4611686018427387904 r = some (r + 2 ^ 52) := by
  have h1 := h.lo
  refine ⟨by unfold twoW; rw [h.pos.mg, if_neg (by omega)], ?_⟩
  rw [mul_two h.pos, dbl_norm h.lo h.hi]
theorem op_small {r : Nat} (h : r < 2 ^ 63) : op r = r + 2 ^ 63 := by unfold op; rw [ng_small h]; rfl
theorem two_op {r : Nat} (h : Norm r) : twoW (op r) = op (r + 2 ^ 52) ∧ floatBits .mul .f64 4611686018427387904 (op r) = some (op (r + 2 ^ 52)) := by
  have h1 := h.lo
  have h2 := h.hi
  have hI := INF_lt
  have hr : r < 2 ^ 64 := by omega
  have e : op r = r + 2 ^ 63 := op_small (by omega)
  have e' : op (r + 2 ^ 52) = r + 2 ^ 52 + 2 ^ 63 := op_small (by omega)
  constructor
  · unfold twoW
    rw [mg_op hr, h.pos.mg, if_neg (by omega)]; omega
  · show double.mul _ _ = _
    rw [mul_comm', mul_op_left h.pos.w64, mul_comm', show double.mul 4611686018427387904 r = some (r + 2 ^ 52) from (two_norm h).2]; rfl
theorem two_zero {w : Nat} (hw : W64 w) (h : mg w = 0) : floatBits .mul .f64 4611686018427387904 w = some w := by
  have hI := INF_eq
  have hw' : w < 2 ^ 64 := hw
  show double.mul _ _ = _
  rw [mul_fin (by decide) (by omega), h, V_zero, Nat.mul_zero]
  have e0 : rnd2 0 = 0 := by have := rnd2_Q 0; rw [Nat.mul_zero, rnd_zero] at this; exact this
  have e2 : ng 4611686018427387904 = false := by decide
  have e := word_split hw'
  rw [h] at e
  rw [e0, e2, Bool.false_xor, Nat.zero_min, ← e]

theorem slope_pos (k : Int) {x y : Nat} (hx : Pos x) (hy : Pos y) : slopeW k x y = if 0 ≤ k ∧ k ≤ 3 then canonW (aboveW k x y) else 0 := by
  unfold slopeW; rw [ltW_zero_self hx, ltW_zero_self hy]; simp
theorem above_one (u v : Nat) : aboveW 1 u v = min u v := rfl
theorem above_two (u v : Nat) : aboveW 2 u v = max (min (dbl u) v) (min u (dbl v)) := rfl
theorem above_three (u v : Nat) : aboveW 3 u v = leerW u v := rfl
theorem min_up (x y d : Nat) : min (x + d) (y + d) = min x y + d := by omega
theorem bee_up (x y d : Nat) : max (min (x + d + d) (y + d)) (min (x + d) (y + d + d)) = max (min (x + d) y) (min x (y + d)) + d := by omega
theorem bee_norm {x y : Nat} (hx : Mid x) (hy : Mid y) : Norm (max (min (x + 2 ^ 52) y) (min x (y + 2 ^ 52))) := by
  have hI : INF = 2047 * 2 ^ 52 := rfl
  have b1 := hx.hi; have b2 := hy.hi; have c1 := hx.lo; have c2 := hy.lo
  exact ⟨by omega, by omega⟩
theorem min_norm {x y : Nat} (hx : Mid x) (hy : Mid y) : Norm (min x y) := by
  have hI : INF = 2047 * 2 ^ 52 := rfl
  have b1 := hx.hi; have b2 := hy.hi; have c1 := hx.lo; have c2 := hy.lo
  exact ⟨by omega, by omega⟩
theorem above_up (k : Int) {x y : Nat} (hx : Mid x) (hy : Mid y) : (∀ u v, aboveW k u v = 0) ∨ ∃ r, Norm r ∧ aboveW k x y = r ∧ aboveW k (x + 2 ^ 52) (y + 2 ^ 52) = r + 2 ^ 52 := by
  by_cases h1 : k = 1
  · subst h1
    exact .inr ⟨_, min_norm hx hy, above_one _ _, by rw [above_one, min_up]⟩
  by_cases h2 : k = 2
  · subst h2
    exact .inr ⟨_, bee_norm hx hy, by rw [above_two, hx.dbl, hy.dbl], by rw [above_two, hx.dbl2, hy.dbl2, bee_up]⟩
  by_cases h3 : k = 3
  · subst h3
    obtain ⟨p, s, r, L⟩ := leer_of hx hy
    have l3 := L.rhi; have l6 := L.rlo
    have hI : INF = 2047 * 2 ^ 52 := rfl
    exact .inr ⟨r, ⟨by omega, by omega⟩, by rw [above_three]; exact leer_mid hx hy L, by rw [above_three]; exact leer_scale hx hy L⟩
  · exact .inl fun u v => by unfold aboveW; rw [if_neg h1, if_neg h2, if_neg h3]
theorem slope_up (k : Int) {x y : Nat} (hx : Mid x) (hy : Mid y) : (slopeW k x y = 0 ∧ slopeW k (x + 2 ^ 52) (y + 2 ^ 52) = 0) ∨ ∃ r, Norm r ∧ slopeW k x y = r ∧ slopeW k (x + 2 ^ 52) (y + 2 ^ 52) = r + 2 ^ 52 := by
  have hI : INF = 2047 * 2 ^ 52 := rfl
  have b1 := hx.hi; have b2 := hy.hi
  have px : Pos (x + 2 ^ 52) := ⟨by omega, by omega⟩
  have py : Pos (y + 2 ^ 52) := ⟨by omega, by omega⟩
  have c0 : canonW 0 = 0 := by decide
  rw [slope_pos k hx.pos hy.pos, slope_pos k px py]
  by_cases hk : 0 ≤ k ∧ k ≤ 3
  · rw [if_pos hk, if_pos hk]
    rcases above_up k hx hy with h | ⟨r, hn, e1, e2⟩
    · left; rw [h, h]; exact ⟨c0, c0⟩
    · right
      have h1 := hn.lo
      have h2 := hn.hi
      have pr : Pos (r + 2 ^ 52) := ⟨by omega, by omega⟩
      exact ⟨r, hn, by rw [e1, hn.pos.canon], by rw [e2, pr.canon]⟩
  · rw [if_neg hk, if_neg hk]; left; exact ⟨rfl, rfl⟩

/-- A word of the domain: nought, or normal by far. -/
def Dom (w : Nat) : Prop := mg w = 0 ∨ Mid (mg w)
theorem dom_ways {w : Nat} (hw : W64 w) (d : Dom w) : (mg w = 0 ∧ twoW w = w ∧ ltW 0 w = false ∧ ltW w 0 = false) ∨ (Mid w ∧ twoW w = w + 2 ^ 52 ∧ ltW 0 w = true) ∨ ∃ x, Mid x ∧ w = op x ∧ twoW w = op (x + 2 ^ 52) ∧ ltW 0 w = false ∧ ltW w 0 = true := by
  have hw' : w < 2 ^ 64 := hw
  rcases d with h | h
  · left
    have hn : isN w = false := isN_false.2 (by rw [h]; exact Nat.zero_le _)
    refine ⟨h, by unfold twoW; rw [if_pos h], by rw [zero_ltW hn, h]; simp, by rw [ltW_zero hn, h]; simp⟩
  · right
    have b1 := h.lo
    cases hs : ng w
    · left
      have e : w = mg w := by have := word_split hw'; rw [hs] at this; exact this
      rw [e]
      rw [← e] at h ⊢
      exact ⟨h, (two_norm h.norm).1, ltW_zero_self h.pos⟩
    · right
      have e : w = op (mg w) := by
        have h2 := h.hi
        rw [op_small (by omega)]
        have := word_split hw'
        rw [hs] at this
        unfold wd at this
        rw [if_pos rfl] at this
        omega
      refine ⟨mg w, h, e, ?_, ?_, ?_⟩
      · conv => lhs; rw [e]
        exact (two_op h.norm).1
      · rw [e, ltW_op_left h.pos.w64]; exact ltW_self_zero h.pos
      · rw [e, ltW_op_right h.pos.w64]; exact ltW_zero_self h.pos
end TF
