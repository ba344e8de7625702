/- The bounds of slopes. -/
import Derived.Test.YtjbiklkjcalmkaaLimT
namespace TF
open Ieee Go Go.RowKit

def magW (x : Nat) : Nat := if ltW x 0 then op x else x
theorem ltW_self_zero {x : Nat} (h : Pos x) : ltW x 0 = false := by rw [ltW_zero h.isN, h.ng]; rfl
theorem ltW_zero_self {x : Nat} (h : Pos x) : ltW 0 x = true := by
  rw [zero_ltW h.isN, h.ng, h.mg]; have := h.gt; simp; omega
theorem magW_pos {x : Nat} (h : Pos x) : magW x = x := by unfold magW; rw [ltW_self_zero h]; rfl
theorem magW_op {x : Nat} (h : Pos x) : magW (op x) = x := by
  have hx : x < 2 ^ 64 := h.w64
  unfold magW
  rw [ltW_op_right h.w64, ltW_zero_self h, if_pos rfl, op_op hx]
theorem eqW_pos {x y : Nat} (hx : Pos x) (hy : Pos y) : eqW x y = decide (x = y) := by
  have hI := INF_lt
  have := hx.le
  have := hy.le
  rw [eqW_rk hx.isN hy.isN, rk_small (by omega), rk_small (by omega)]
  simp; omega
theorem eqW_op {x y : Nat} (hx : W64 x) (hy : W64 y) : eqW (op x) (op y) = eqW x y := by
  have hx' : x < 2 ^ 64 := hx
  have hy' : y < 2 ^ 64 := hy
  unfold eqW
  rw [isN_op hx, isN_op hy, rk_op hx', rk_op hy']
  congr 1
  simp
theorem leW_pos {x y : Nat} (hx : Pos x) (hy : Pos y) (h : x ≤ y) : (ltW x y || eqW x y) = true := by
  rw [hx.ltW hy, eqW_pos hx hy]; simp; omega
theorem geW_pos {x y : Nat} (hx : Pos x) (hy : Pos y) (h : y ≤ x) : (ltW y x || eqW x y) = true := by
  rw [hy.ltW hx, eqW_pos hx hy]; simp; omega

def bee (a b : Nat) : Nat := max (min (dbl a) b) (min a (dbl b))
theorem bee_pos' {a b : Nat} (ha : Pos a) (hb : Pos b) : Pos (bee a b) := ((dbl_pos ha).min hb).max (ha.min (dbl_pos hb))
theorem bee_bounds {a b : Nat} (ha : Pos a) (hb : Pos b) : min a b ≤ bee a b ∧ bee a b ≤ dbl (min a b) ∧ bee a b ≤ max a b := by
  have h1 := dbl_le ha
  have h2 := dbl_le hb
  unfold bee
  refine ⟨by omega, ?_, by omega⟩
  rcases Nat.le_total a b with h | h
  · rw [Nat.min_eq_left h]; omega
  · rw [Nat.min_eq_right h]; omega

/-- A slope is no NaN, and no nought with a sign. -/
theorem leer_fin {a b : Nat} (ha : Pos a) (hb : Pos b) : finB (leerW a b) = true := by
  obtain ⟨p, s, _, _, _, ⟨_, e⟩ | ⟨q, _, _, ⟨h, e, _⟩ | ⟨_, e, _⟩⟩⟩ := leer_ways ha hb
  · rw [e]; decide
  · rw [e]; exact h
  · rw [e]; decide
theorem canon_plain {x : Nat} (hx : isN x = false) : eqW (canonW x) (canonW x) = true ∧ (eqW (canonW x) 0 = false ∨ (eqW (canonW x) 0 = true ∧ sameB (canonW x) 0 = true)) := by
  unfold canonW
  rw [hx]
  simp only [Bool.false_eq_true, if_false]
  by_cases h0 : mg x = 0
  · rw [if_pos h0]; exact ⟨by decide, .inr ⟨by decide, by decide⟩⟩
  · rw [if_neg h0]
    refine ⟨by rw [eqW_self, hx]; rfl, .inl ?_⟩
    rw [eqW_zero, hx]; simp [h0]

/-- A quotient's sign. -/
theorem div_sign {a b q : Nat} (ha : ng a = false) (hb : ng b = false) (h : floatBits .quo .f64 a b = some q) : ng q = false := by
  have hI := INF_lt
  have h : double.div a b = some q := h
  unfold Format.div at h
  have wdn : ∀ r, r < 2 ^ 63 → ng (wd false r) = false := fun r hr => ng_wd hr
  by_cases fa : mg a < INF
  · by_cases fb : mg b < INF
    · rw [read_fin fa, read_fin fb, ha, hb] at h
      unfold Datum.quotient at h
      simp only at h
      split at h
      · split at h
        · cases h
        · have : q = double.write (.infinity false) := (Option.some.inj h).symm
          rw [this, write_inf]; exact wdn _ hI
      · have : q = double.nearest _ _ _ := (Option.some.inj h).symm
        rw [this, nearest_eq, word_eq]
        exact wdn _ (by omega)
    · by_cases fb' : mg b = INF
      · rw [read_fin fa, read_inf fb', ha, hb] at h
        have : q = double.nearest _ _ _ := (Option.some.inj h).symm
        rw [this, nearest_eq, word_eq]
        exact wdn _ (by omega)
      · rw [read_fin fa, read_nan (by omega)] at h
        cases h
  · by_cases fa' : mg a = INF
    · by_cases fb : mg b < INF
      · rw [read_inf fa', read_fin fb, ha, hb] at h
        have : q = double.write (.infinity false) := (Option.some.inj h).symm
        rw [this, write_inf]; exact wdn _ hI
      · by_cases fb' : mg b = INF
        · rw [read_inf fa', read_inf fb'] at h; cases h
        · rw [read_inf fa', read_nan (by omega)] at h; cases h
    · rw [read_nan (by omega)] at h
      cases hx : double.read b <;> rw [hx] at h <;> cases h

theorem leer_sign {a b : Nat} (ha : Pos a) (hb : Pos b) : ng (leerW a b) = false := by
  obtain ⟨p, s, _, k2, k3, ⟨_, e⟩ | ⟨q, k4, _, ⟨_, e, _⟩ | ⟨_, e, _⟩⟩⟩ := leer_ways ha hb
  · rw [e]; decide
  · rw [e]
    have np : ng p = false := by
      have hd := dbl_pos ha
      have hI := INF_lt
      have h1 := hd.le
      have h2 := hb.le
      have k2 : double.mul (dbl a) b = some p := k2
      by_cases fa : dbl a < INF
      · by_cases fb : b < INF
        · rw [mul_fin (by rw [hd.mg]; exact fa) (by rw [hb.mg]; exact fb), hd.ng, hb.ng] at k2
          rw [← Option.some.inj k2]; exact ng_wd (by omega)
        · rw [mul_fin_inf (by rw [hd.mg]; exact fa) (by rw [hb.mg]; omega), if_neg (by rw [hd.mg]; have := hd.gt; omega), hd.ng, hb.ng] at k2
          rw [← Option.some.inj k2]; exact ng_wd hI
      · by_cases fb : b < INF
        · rw [mul_inf_fin (by rw [hd.mg]; omega) (by rw [hb.mg]; exact fb), if_neg (by rw [hb.mg]; have := hb.gt; omega), hd.ng, hb.ng] at k2
          rw [← Option.some.inj k2]; exact ng_wd hI
        · rw [mul_inf_inf (by rw [hd.mg]; omega) (by rw [hb.mg]; omega), hd.ng, hb.ng] at k2
          rw [← Option.some.inj k2]; exact ng_wd hI
    have ns : ng s = false := by
      obtain ⟨s', h, hp⟩ := add_pos' ha hb
      rw [k3] at h
      rw [Option.some.inj h]; exact hp.ng
    exact div_sign np ns k4
  · rw [e]; decide

/-- What LimitBounds looks at, of slopes whose differences have one sign: x, y their magnitudes. -/
structure Bound (a b m s l x y : Nat) : Prop where
  m64 : W64 m
  s64 : W64 s
  l64 : W64 l
  x64 : W64 x
  y64 : W64 y
  mm : eqW m m = true
  ss : eqW s s = true
  ll : eqW l l = true
  m0 : eqW m 0 = false ∨ (eqW m 0 = true ∧ sameB m 0 = true)
  s0 : eqW s 0 = false ∨ (eqW s 0 = true ∧ sameB s 0 = true)
  l0 : eqW l 0 = false ∨ (eqW l 0 = true ∧ sameB l 0 = true)
  one : eqW m a = true ∨ (eqW m a = false ∧ eqW m b = true)
  ma : magW a = x
  mb : magW b = y
  mm' : magW m = min x y
  ms : magW s = bee x y
  lx : ltW x (min x y) = false
  ly : ltW y (min x y) = false
  fl : finB l = true
  dm : floatBits .mul .f64 4611686018427387904 (min x y) = some (dbl (min x y))
  mx : maxW x y = max x y
  b1 : (ltW (min x y) (bee x y) || eqW (bee x y) (min x y)) = true
  b2 : (ltW (bee x y) (dbl (min x y)) || eqW (bee x y) (dbl (min x y))) = true
  b3 : (ltW (bee x y) (max x y) || eqW (bee x y) (max x y)) = true

theorem finB_canon {x : Nat} (h : finB x = true) : finB (canonW x) = true := by
  have := finB_true.1 h
  have hn : isN x = false := isN_false.2 (by omega)
  unfold canonW
  rw [hn, if_neg Bool.false_ne_true]
  split
  · decide
  · exact h
theorem one_of {x y : Nat} (hx : Pos x) (hy : Pos y) : eqW (min x y) x = true ∨ (eqW (min x y) x = false ∧ eqW (min x y) y = true) := by
  rw [eqW_pos (hx.min hy) hx, eqW_pos (hx.min hy) hy]
  simp only [decide_eq_true_eq, decide_eq_false_iff_not]
  omega
theorem bound_up {x y : Nat} (hx : Pos x) (hy : Pos y) : ∃ m s l, slopeW 1 x y = m ∧ slopeW 2 x y = s ∧ slopeW 3 x y = l ∧ ltW m 0 = false ∧ ltW s 0 = false ∧ ltW l 0 = false ∧ Bound x y m s l x y := by
  obtain ⟨g1, g2, g3⟩ := bee_bounds hx hy
  have pm := hx.min hy
  have pb := bee_pos' hx hy
  have pd := dbl_pos pm
  have px := hx.max hy
  have hu : (ltW 0 x && ltW 0 y) = true := by rw [ltW_zero_self hx, ltW_zero_self hy]; rfl
  have e : ∀ k : Int, 0 ≤ k ∧ k ≤ 3 → slopeW k x y = canonW (aboveW k x y) := by intro k hk; unfold slopeW; rw [if_pos hk, hu]; rfl
  have lf := leer_fin hx hy
  have ln : isN (leerW x y) = false := by have := finB_true.1 lf; exact isN_false.2 (by omega)
  have c1 := canon_plain pm.isN
  have c2 := canon_plain pb.isN
  have c3 := canon_plain ln
  rw [pm.canon] at c1
  rw [pb.canon] at c2
  refine ⟨min x y, bee x y, canonW (leerW x y), by rw [e 1 (by omega)]; exact pm.canon, by rw [e 2 (by omega)]; exact pb.canon, by rw [e 3 (by omega)]; rfl, ltW_self_zero pm, ltW_self_zero pb, ?_, ?_⟩
  · have hs := leer_sign hx hy
    unfold canonW
    rw [ln, if_neg Bool.false_ne_true]
    split
    · decide
    · rw [ltW_zero ln, hs]; rfl
  · exact ⟨pm.w64, pb.w64, W64.canon (by obtain ⟨p, s, _, _, _, ⟨_, e⟩ | ⟨q, _, hq, ⟨_, e, _⟩ | ⟨_, e, _⟩⟩⟩ := leer_ways hx hy <;> rw [e] <;> first | exact hq | exact show (0 : Nat) < 2 ^ 64 by decide), hx.w64, hy.w64, c1.1, c2.1, c3.1, c1.2, c2.2, c3.2, one_of hx hy,
      magW_pos hx, magW_pos hy, magW_pos pm, magW_pos pb, by rw [hx.ltW pm]; simp; omega, by rw [hy.ltW pm]; simp; omega, finB_canon lf, mul_two pm, maxW_pos hx hy, geW_pos pb pm g1, leW_pos pb pd g2, leW_pos pb px g3⟩
theorem bound_down {a b : Nat} (ha : W64 a) (hb : W64 b) (h1 : ltW a 0 = true) (h2 : ltW b 0 = true) : ∃ m s l, slopeW 1 a b = m ∧ slopeW 2 a b = s ∧ slopeW 3 a b = l ∧ ltW 0 m = false ∧ ltW 0 s = false ∧ ltW 0 l = false ∧ Bound a b m s l (op a) (op b) := by
  obtain ⟨hx, ex⟩ := neg_of ha h1
  obtain ⟨hy, ey⟩ := neg_of hb h2
  obtain ⟨m, s, l, e1, e2, e3, n1, n2, n3, B⟩ := bound_up hx hy
  have hpm : Pos m := by rw [← e1]; have := hx.min hy; have e : slopeW 1 (op a) (op b) = canonW (min (op a) (op b)) := by (unfold slopeW; rw [ltW_zero_self hx, ltW_zero_self hy]; rfl)
                         rw [e, this.canon]; exact this
  have hps : Pos s := by rw [← e2]; have := bee_pos' hx hy; have e : slopeW 2 (op a) (op b) = canonW (bee (op a) (op b)) := by (unfold slopeW; rw [ltW_zero_self hx, ltW_zero_self hy]; rfl)
                         rw [e, this.canon]; exact this
  have hm' := hpm.w64
  have hs' := hps.w64
  have t : ∀ k : Int, slopeW k a b = canonW (op (slopeW k (op a) (op b))) := by
    intro k
    have := slope_op k hx.w64 hy.w64
    rwa [ex, ey] at this
  have nz : ∀ z, Pos z → isN (op z) = false := fun z hz => by rw [isN_op hz.w64]; exact hz.isN
  have can : ∀ z, Pos z → canonW (op z) = op z := by
    intro z hz
    have hz' : z < 2 ^ 64 := hz.w64
    unfold canonW
    rw [nz z hz, if_neg Bool.false_ne_true, mg_op hz', hz.mg, if_neg (by have := hz.gt; omega)]
  have hnl : isN (op l) = false := by
    rw [isN_op B.l64]; have := finB_true.1 B.fl; exact isN_false.2 (by omega)
  have c1 := canon_plain (nz m hpm)
  have c2 := canon_plain (nz s hps)
  have c3 := canon_plain hnl
  rw [can m hpm] at c1
  rw [can s hps] at c2
  have hl' : l < 2 ^ 64 := B.l64
  refine ⟨op m, op s, canonW (op l), by rw [t, e1, can m hpm], by rw [t, e2, can s hps], by rw [t, e3], ?_, ?_, ?_, ?_⟩
  · rw [ltW_op_left hm']; exact n1
  · rw [ltW_op_left hs']; exact n2
  · unfold canonW
    rw [hnl, if_neg Bool.false_ne_true]
    split
    · decide
    · rw [ltW_op_left B.l64]; exact n3
  · have fo : finB (op l) = true := by unfold finB; rw [mg_op hl']; exact B.fl
    have em : m = min (op a) (op b) := by rw [← B.mm', magW_pos hpm]
    have es : s = bee (op a) (op b) := by rw [← B.ms, magW_pos hps]
    have ea : eqW (op m) a = eqW m (op a) := by have := eqW_op hm' hx.w64; rwa [ex] at this
    have eb : eqW (op m) b = eqW m (op b) := by have := eqW_op hm' hy.w64; rwa [ey] at this
    have ga := magW_op hx
    have gb := magW_op hy
    rw [ex] at ga
    rw [ey] at gb
    exact ⟨hm'.op, hs'.op, B.l64.op.canon, hx.w64, hy.w64, c1.1, c2.1, c3.1, c1.2, c2.2, c3.2, by rw [ea, eb]; exact B.one, ga, gb, by rw [magW_op hpm, em], by rw [magW_op hps, es], B.lx, B.ly, finB_canon fo, B.dm, B.mx, B.b1, B.b2, B.b3⟩
end TF
