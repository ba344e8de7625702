/- Slopes exchanged and turned. -/
import Derived.Test.YtjbiklkjcalmkaaLimF
import Derived.Test.YtjbiklkjcalmkaaTwinU
namespace TF
open Ieee Go Go.RowKit

theorem rep_double (r : Nat) : Rep (2 * V r) := by
  by_cases h : r < 2 ^ 52
  · rw [V_small (by omega)]
    have := rep_bits (2 * r) 0 (by omega)
    simpa using this
  · rw [V_double (by omega)]; exact rep_V _
theorem V_dbl {a : Nat} (ha : a < INF) (h : dbl a < INF) : V (dbl a) = 2 * V a := by
  unfold dbl at h ⊢
  rw [if_pos ha] at h ⊢
  rw [Nat.min_eq_left (by omega)]
  exact (rep_double a).eq
theorem fin_of_dbl {a : Nat} (ha : Pos a) (h : dbl a < INF) : a < INF := by have := dbl_le ha; omega
theorem leer_comm {a b : Nat} (ha : Pos a) (hb : Pos b) (fa : dbl a < INF) (fb : dbl b < INF) : leerW b a = leerW a b := by
  have h1 := fin_of_dbl ha fa
  have h2 := fin_of_dbl hb fb
  have e1 : floatBits .mul .f64 (dbl b) a = floatBits .mul .f64 (dbl a) b := by
    show double.mul _ _ = double.mul _ _
    rw [mul_fin (by rw [(dbl_pos hb).mg]; exact fb) (by rw [ha.mg]; exact h1), mul_fin (by rw [(dbl_pos ha).mg]; exact fa) (by rw [hb.mg]; exact h2)]
    rw [(dbl_pos hb).mg, (dbl_pos hb).ng, ha.mg, ha.ng, (dbl_pos ha).mg, (dbl_pos ha).ng, hb.mg, hb.ng, V_dbl h1 fa, V_dbl h2 fb]
    congr 4
    rw [Nat.mul_assoc, Nat.mul_assoc, Nat.mul_comm (V b)]
  have e2 : floatBits .add .f64 b a = floatBits .add .f64 a b := add_comm'
  have e : leerQ b a = leerQ a b := by unfold leerQ; rw [e1, e2]
  unfold leerW; rw [e]
theorem above_comm {k : Int} (a b : Nat) (h : k ≠ 3) : aboveW k b a = aboveW k a b := by
  unfold aboveW
  split
  · omega
  · split
    · omega
    · rfl
theorem slope_comm {k : Int} {a b : Nat} (h : k ≠ 3) : slopeW k b a = slopeW k a b := by
  unfold slopeW
  rw [Bool.and_comm (ltW 0 b), Bool.and_comm (ltW b 0), above_comm a b h, above_comm (op a) (op b) h]
theorem slope_comm3 {a b : Nat} (ha : W64 a) (hb : W64 b) (fa : mg a = 0 ∨ INF < mg a ∨ dbl (mg a) < INF) (fb : mg b = 0 ∨ INF < mg b ∨ dbl (mg b) < INF) : slopeW 3 b a = slopeW 3 a b := by
  have ha' : a < 2 ^ 64 := ha
  have hb' : b < 2 ^ 64 := hb
  unfold slopeW
  rw [Bool.and_comm (ltW 0 b), Bool.and_comm (ltW b 0)]
  cases h1 : ltW 0 a && ltW 0 b
  · cases h2 : ltW a 0 && ltW b 0
    · simp only [Bool.false_eq_true, if_false]
    · simp only [Bool.and_eq_true] at h2
      have pa := (neg_of ha h2.1).1
      have pb := (neg_of hb h2.2).1
      have e1 := pa.mg
      have e2 := pb.mg
      rw [mg_op ha'] at e1
      rw [mg_op hb'] at e2
      have g1 := pa.gt; have g2 := pa.le; have g3 := pb.gt; have g4 := pb.le
      have := leer_comm pa pb (by rw [← e1]; omega) (by rw [← e2]; omega)
      simp only [aboveW, if_true]
      simp [this]
  · simp only [Bool.and_eq_true] at h1
    have pa := pos_of ha h1.1
    have pb := pos_of hb h1.2
    have e1 := pa.mg
    have e2 := pb.mg
    have g1 := pa.gt; have g2 := pa.le; have g3 := pb.gt; have g4 := pb.le
    have := leer_comm pa pb (by rw [← e1]; omega) (by rw [← e2]; omega)
    simp only [aboveW, if_true]
    simp [this]

theorem ltW_op_left {a : Nat} (ha : W64 a) : ltW 0 (op a) = ltW a 0 := by
  have ha' : a < 2 ^ 64 := ha
  cases hn : isN a
  · rw [zero_ltW (by rw [isN_op ha]; exact hn), ltW_zero hn, mg_op ha', ng_op ha', Bool.not_not]
  · unfold ltW; rw [isN_op ha, hn]; simp
theorem ltW_op_right {a : Nat} (ha : W64 a) : ltW (op a) 0 = ltW 0 a := by
  have ha' : a < 2 ^ 64 := ha
  cases hn : isN a
  · rw [ltW_zero (by rw [isN_op ha]; exact hn), zero_ltW hn, mg_op ha', ng_op ha']
  · unfold ltW; rw [isN_op ha, hn]; simp
theorem both_ways {a : Nat} (ha : W64 a) (h : ltW 0 a = true) : ltW a 0 = false := by
  have p := pos_of ha h
  rw [ltW_zero p.isN, p.ng]; rfl
theorem aboveW_w64 (k : Int) {a b : Nat} (ha : Pos a) (hb : Pos b) : W64 (aboveW k a b) := by
  unfold aboveW
  split
  · exact (ha.min hb).w64
  · split
    · exact (((dbl_pos ha).min hb).max (ha.min (dbl_pos hb))).w64
    · split
      · obtain ⟨p, s, _, _, _, ⟨_, e⟩ | ⟨q, _, hq, ⟨_, e, _⟩ | ⟨_, e, _⟩⟩⟩ := leer_ways ha hb
        · rw [e]; exact show (0 : Nat) < 2 ^ 64 by decide
        · rw [e]; exact hq
        · rw [e]; exact show (0 : Nat) < 2 ^ 64 by decide
      · exact show (0 : Nat) < 2 ^ 64 by decide
theorem slope_op (k : Int) {a b : Nat} (ha : W64 a) (hb : W64 b) : slopeW k (op a) (op b) = canonW (op (slopeW k a b)) := by
  have ha' : a < 2 ^ 64 := ha
  have hb' : b < 2 ^ 64 := hb
  unfold slopeW
  rw [ltW_op_left ha, ltW_op_left hb, ltW_op_right ha, ltW_op_right hb, op_op ha', op_op hb']
  split
  · cases h1 : ltW 0 a && ltW 0 b
    · cases h2 : ltW a 0 && ltW b 0
      · simp only [Bool.false_eq_true, if_false]; decide
      · simp only [Bool.false_eq_true, if_false, if_true]
        simp only [Bool.and_eq_true] at h2
        have pa := (neg_of ha h2.1).1
        have pb := (neg_of hb h2.2).1
        have hw := aboveW_w64 k pa pb
        have hw' : aboveW k (op a) (op b) < 2 ^ 64 := hw
        rw [canon_op_canon hw.op, op_op hw']
    · simp only [Bool.and_eq_true] at h1
      have pa := pos_of ha h1.1
      have pb := pos_of hb h1.2
      rw [both_ways ha h1.1]
      simp only [Bool.false_and, Bool.false_eq_true, if_false, if_true]
      rw [canon_op_canon (aboveW_w64 k pa pb)]
  · decide
theorem slopeW_lt (k : Int) {a b : Nat} (ha : W64 a) (hb : W64 b) : W64 (slopeW k a b) := by
  have z : W64 0 := show (0 : Nat) < 2 ^ 64 by decide
  unfold slopeW
  split
  · cases h1 : ltW 0 a && ltW 0 b
    · cases h2 : ltW a 0 && ltW b 0
      · exact z
      · simp only [Bool.and_eq_true] at h2
        exact (aboveW_w64 k (neg_of ha h2.1).1 (neg_of hb h2.2).1).op.canon
    · simp only [Bool.and_eq_true] at h1
      exact (aboveW_w64 k (pos_of ha h1.1) (pos_of hb h1.2)).canon
  · exact z

/-- 2 * a, of any word. -/
theorem two_ways {a : Nat} (ha : W64 a) : (floatBits .mul .f64 4611686018427387904 a = none ∧ INF < mg a) ∨ ∃ d, floatBits .mul .f64 4611686018427387904 a = some d ∧ W64 d ∧ mg a ≤ INF ∧ (finB d = true → mg a = 0 ∨ INF < mg a ∨ dbl (mg a) < INF) := by
  have hI := INF_lt
  have ha' : a < 2 ^ 64 := ha
  have e2 : mg 4611686018427387904 = 4611686018427387904 := by decide
  rcases Nat.lt_trichotomy (mg a) INF with h | h | h
  · right
    refine ⟨_, mul_fin (by decide) h, wd_lt (by omega), by omega, ?_⟩
    rw [e2, rnd2_two]
    intro hf
    right; right
    have := finB_true.1 hf
    rw [mg_wd (by omega)] at this
    unfold dbl; rw [if_pos h]; exact this
  · right
    have e := mul_fin_inf (a := 4611686018427387904) (b := a) (by decide) h
    rw [if_neg (by decide)] at e
    refine ⟨_, e, wd_lt hI, by omega, ?_⟩
    intro hf
    have := finB_true.1 hf
    rw [mg_wd hI] at this
    omega
  · left
    exact ⟨mul_nan_right h, h⟩
end TF
