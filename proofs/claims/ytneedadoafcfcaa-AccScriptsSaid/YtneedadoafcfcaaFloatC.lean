/- More on words of binary64: opposites and differences; signed values; what is representable; bounds of one rounding. -/
import Derived.Test.YtneedadoafcfcaaFloatB
namespace TF
open Ieee

/-- The word with the other sign. -/
def op (w : Nat) : Nat := if ng w then w - 2 ^ 63 else w + 2 ^ 63

theorem mg_lt (w : Nat) : mg w < 2 ^ 63 := Nat.mod_lt _ (by omega)
theorem ng_iff {w : Nat} (h : w < 2 ^ 64) : ng w = true ↔ 2 ^ 63 ≤ w := by
  unfold ng; simp; omega
theorem ng_false_iff {w : Nat} (h : w < 2 ^ 64) : ng w = false ↔ w < 2 ^ 63 := by
  unfold ng; simp; omega
theorem word_split {w : Nat} (h : w < 2 ^ 64) : w = wd (ng w) (mg w) := by
  unfold wd mg
  by_cases e : ng w = true
  · rw [if_pos e]; rw [ng_iff h] at e; omega
  · rw [if_neg e]; rw [Bool.not_eq_true, ng_false_iff h] at e; omega
theorem mg_wd {s : Bool} {r : Nat} (h : r < 2 ^ 63) : mg (wd s r) = r := by
  unfold mg wd; cases s <;> simp <;> omega
theorem ng_wd {s : Bool} {r : Nat} (h : r < 2 ^ 63) : ng (wd s r) = s := by
  unfold ng wd
  cases s
  · have : r / 2 ^ 63 % 2 = 0 := by omega
    simp; omega
  · simp; omega
theorem wd_lt {s : Bool} {r : Nat} (h : r < 2 ^ 63) : wd s r < 2 ^ 64 := by
  unfold wd; cases s <;> simp <;> omega
theorem mg_op {w : Nat} (h : w < 2 ^ 64) : mg (op w) = mg w := by
  unfold op mg
  by_cases e : ng w = true
  · rw [if_pos e]; rw [ng_iff h] at e; omega
  · rw [if_neg e]; rw [Bool.not_eq_true, ng_false_iff h] at e; omega
theorem ng_op {w : Nat} (h : w < 2 ^ 64) : ng (op w) = !ng w := by
  unfold op
  by_cases e : ng w = true
  · rw [if_pos e, e]; rw [ng_iff h] at e; unfold ng; simp; omega
  · rw [if_neg e]; rw [Bool.not_eq_true] at e; rw [e]; rw [ng_false_iff h] at e; unfold ng; simp; omega
theorem op_lt {w : Nat} (h : w < 2 ^ 64) : op w < 2 ^ 64 := by
  unfold op
  by_cases e : ng w = true
  · rw [if_pos e]; omega
  · rw [if_neg e]; rw [Bool.not_eq_true, ng_false_iff h] at e; omega
theorem op_op {w : Nat} (h : w < 2 ^ 64) : op (op w) = w := by
  have h1 := op_lt h
  have e : op (op w) = wd (ng w) (mg w) := by
    rw [word_split (op_lt h1), mg_op h1, ng_op h1, mg_op h, ng_op h, Bool.not_not]
  rw [e, ← word_split h]
theorem iv_op {w : Nat} (h : w < 2 ^ 64) : iv (op w) = -iv w := by
  unfold iv; rw [mg_op h, ng_op h]; cases ng w <;> simp
theorem rk_op {w : Nat} (h : w < 2 ^ 64) : rk (op w) = -rk w := by
  unfold rk; rw [mg_op h, ng_op h]; cases ng w <;> simp
theorem read_op {w : Nat} (h : w < 2 ^ 64) : double.read (op w) = (double.read w).opposite := by
  by_cases h1 : mg w < INF
  · rw [read_fin h1, read_fin (by rw [mg_op h]; exact h1), mg_op h, ng_op h]; rfl
  · by_cases h2 : mg w = INF
    · rw [read_inf h2, read_inf (by rw [mg_op h]; exact h2), ng_op h]; rfl
    · rw [read_nan (by omega : INF < mg w), read_nan (by rw [mg_op h]; omega), mg_op h, ng_op h]; rfl
theorem sub_eq {a b : Nat} (hb : b < 2 ^ 64) : double.sub a b = double.add a (op b) := by
  unfold Format.sub Format.add; rw [read_op hb]

/-- The word of a whole number of units, rounded; of nought that with the sign z. -/
def rw' (z : Bool) (n : Int) : Nat := wd (if n = 0 then z else n < 0) (min (rnd n.natAbs) INF)

theorem add_word {a b : Nat} (ha : mg a < INF) (hb : mg b < INF) : double.add a b = some (rw' (ng a && ng b) (iv a + iv b)) := by
  rw [add_fin ha hb]; rfl
theorem sub_word {a b : Nat} (ha : mg a < INF) (hb' : b < 2 ^ 64) (hb : mg b < INF) : double.sub a b = some (rw' (ng a && !ng b) (iv a - iv b)) := by
  rw [sub_eq hb', add_word ha (by rw [mg_op hb']; exact hb), ng_op hb', iv_op hb', Int.sub_eq_add_neg]

theorem INF_lt : INF < 2 ^ 63 := by decide
theorem mg_rw (z : Bool) (n : Int) : mg (rw' z n) = min (rnd n.natAbs) INF := mg_wd (Nat.lt_of_le_of_lt (Nat.min_le_right ..) INF_lt)
theorem ng_rw (z : Bool) (n : Int) : ng (rw' z n) = if n = 0 then z else n < 0 := by
  unfold rw'; rw [ng_wd (Nat.lt_of_le_of_lt (Nat.min_le_right ..) INF_lt)]
theorem rw_lt (z : Bool) (n : Int) : rw' z n < 2 ^ 64 := wd_lt (Nat.lt_of_le_of_lt (Nat.min_le_right ..) INF_lt)

theorem rnd_V (r : Nat) : rnd (V r) = r :=
  (near_rnd (V r)).unique (by omega) (by have := near_self (r := r) (q := 1) (by omega); rwa [Nat.one_mul] at this)
theorem rnd_mono {m n : Nat} (h : m ≤ n) : rnd m ≤ rnd n :=
  (near_rnd m).le_of (by omega) (by omega) (near_rnd n) (by omega)
theorem rnd_le_of {n r : Nat} (h : n ≤ V r) : rnd n ≤ r := by have := rnd_mono h; rwa [rnd_V] at this
theorem le_rnd_of {n r : Nat} (h : V r ≤ n) : r ≤ rnd n := by have := rnd_mono h; rwa [rnd_V] at this
theorem rnd_zero : rnd 0 = 0 := by have := rnd_V 0; rwa [V_zero] at this
theorem rnd_eq_zero {n : Nat} : rnd n = 0 ↔ n = 0 := by
  constructor
  · intro h
    refine Classical.byContradiction fun hn => ?_
    have := le_rnd_of (n := n) (r := 1) (by rw [V_small (by omega)]; omega)
    omega
  · intro h; subst h; exact rnd_zero

/-- A whole number of units that is a rung's value. -/
def Rep (n : Nat) : Prop := ∃ r, V r = n
theorem rep_V (r : Nat) : Rep (V r) := ⟨r, rfl⟩
theorem Rep.eq {n : Nat} (h : Rep n) : V (rnd n) = n := by obtain ⟨r, rfl⟩ := h; rw [rnd_V]

theorem rep_block {k D : Nat} (h1 : 2 ^ 52 ≤ k) (h2 : k ≤ 2 ^ 53) : Rep (k * 2 ^ D) := ⟨D * 2 ^ 52 + k, V_block h1 h2⟩
/-- At most 53 bits, at whatever place. -/
theorem rep_bits (k D : Nat) (h : k ≤ 2 ^ 53) : Rep (k * 2 ^ D) := by
  induction D generalizing k with
  | zero => exact ⟨k, by rw [V_small h]; simp⟩
  | succ D ih =>
    by_cases h1 : 2 ^ 52 ≤ k
    · exact rep_block h1 h
    · have := ih (k * 2) (by omega)
      rwa [Nat.mul_assoc, ← Nat.pow_succ'] at this
theorem rep_dvd {n D : Nat} (h : 2 ^ D ∣ n) (hn : n ≤ 2 ^ 53 * 2 ^ D) : Rep n := by
  obtain ⟨k, rfl⟩ := h
  rw [Nat.mul_comm]
  refine rep_bits k D ?_
  rw [Nat.mul_comm] at hn
  exact Nat.le_of_mul_le_mul_right hn (Nat.two_pow_pos D)
theorem V_dvd {r k : Nat} (h : k ≤ E r) : 2 ^ k ∣ V r := by
  unfold V
  exact Nat.dvd_trans (Nat.pow_dvd_pow 2 h) ⟨M r, Nat.mul_comm ..⟩
theorem E_mono {r s : Nat} (h : r ≤ s) : E r ≤ E s := by
  unfold E; have := Nat.div_le_div_right (c := 2 ^ 52) h; omega
theorem V_lt_E (r : Nat) : V r < 2 ^ 53 * 2 ^ E r := by
  unfold V; exact Nat.mul_lt_mul_of_pos_right (M_lt r) (Nat.two_pow_pos _)

/-- No rung's value is nearer. -/
theorem near_best (n t : Nat) : ((V (rnd n) : Int) - n).natAbs ≤ ((V t : Int) - n).natAbs := by
  have h := near_rnd n
  generalize rnd n = r at *
  have hi := h.hi
  rcases Nat.lt_trichotomy t r with ht | ht | ht
  · obtain ⟨s, rfl⟩ : ∃ s, r = s + 1 := ⟨r - 1, by omega⟩
    have lo := h.lo s rfl
    have := V_le (show t ≤ s by omega)
    have := V_lt_succ s
    omega
  · subst ht; exact Nat.le_refl _
  · have := V_le (show r + 1 ≤ t by omega)
    have := V_lt_succ r
    omega
theorem near_best' (n : Nat) {m : Nat} (h : Rep m) : ((V (rnd n) : Int) - n).natAbs ≤ ((m : Int) - n).natAbs := by
  obtain ⟨t, rfl⟩ := h; exact near_best n t

/-- Where the step is fine enough nothing is rounded. -/
theorem rnd_exact {n k : Nat} (h : 2 ^ k ∣ n) (he : E (rnd n) ≤ k) : V (rnd n) = n := by
  have hr := near_rnd n
  generalize rnd n = r at *
  have hi := hr.hi
  rcases Nat.lt_trichotomy (V r) n with hlt | heq | hgt
  · exfalso
    have h1 := V_succ r
    have hlt2 : n < V (r + 1) := by have := V_lt_succ r; omega
    obtain ⟨c, hc⟩ := Nat.dvd_trans (Nat.pow_dvd_pow 2 he) h
    have hv : V r = 2 ^ E r * M r := by unfold V; exact Nat.mul_comm ..
    rw [h1, hv] at hlt2
    rw [hv] at hlt
    subst hc
    have a := Nat.lt_of_mul_lt_mul_left hlt
    rw [show 2 ^ E r * M r + 2 ^ E r = 2 ^ E r * (M r + 1) from by rw [Nat.mul_add, Nat.mul_one]] at hlt2
    have b := Nat.lt_of_mul_lt_mul_left hlt2
    omega
  · exact heq
  · exfalso
    obtain ⟨s, rfl⟩ : ∃ s, r = s + 1 := ⟨r - 1, by
      by_cases h0 : r = 0
      · subst h0; rw [V_zero] at hgt; omega
      · omega⟩
    have lo := hr.lo s rfl
    have h1 := V_succ s
    have hlt2 : V s < n := by have := V_lt_succ s; omega
    obtain ⟨c, hc⟩ := Nat.dvd_trans (Nat.pow_dvd_pow 2 (Nat.le_trans (E_mono (show s ≤ s + 1 by omega)) he)) h
    have hv : V s = 2 ^ E s * M s := by unfold V; exact Nat.mul_comm ..
    rw [h1, hv] at hgt
    rw [hv] at hlt2
    subst hc
    have a := Nat.lt_of_mul_lt_mul_left hlt2
    rw [show 2 ^ E s * M s + 2 ^ E s = 2 ^ E s * (M s + 1) from by rw [Nat.mul_add, Nat.mul_one]] at hgt
    have b := Nat.lt_of_mul_lt_mul_left hgt
    omega

/-- The signed value of what a whole number of units is rounded to (where it doesn't overflow). -/
def rI (n : Int) : Int := if n < 0 then -(V (rnd n.natAbs) : Int) else V (rnd n.natAbs)

theorem iv_rw {z : Bool} {n : Int} (h : rnd n.natAbs < INF) : iv (rw' z n) = rI n := by
  unfold iv rI
  rw [mg_rw, ng_rw, Nat.min_eq_left (by omega)]
  by_cases h0 : n = 0
  · subst h0
    have : V (rnd 0) = 0 := by decide
    simp [this]
  · rw [if_neg h0]; simp

theorem rI_rep {n : Int} (h : Rep n.natAbs) : rI n = n := by
  unfold rI; rw [h.eq]; split <;> omega
theorem rI_neg (n : Int) : rI (-n) = -rI n := by
  unfold rI
  rw [Int.natAbs_neg]
  by_cases h0 : n = 0
  · subst h0; decide
  · by_cases h1 : n < 0
    · rw [if_pos h1, if_neg (by omega)]; omega
    · rw [if_neg h1, if_pos (by omega)]
theorem rI_natAbs (n : Int) : (rI n).natAbs = V (rnd n.natAbs) := by
  unfold rI; split <;> omega
theorem rI_best (n x : Int) (h : Rep x.natAbs) : (rI n - n).natAbs ≤ (x - n).natAbs := by
  have h1 := near_best' n.natAbs h
  have h2 := near_best n.natAbs 0
  rw [V_zero] at h2
  unfold rI
  by_cases hn : n < 0
  · rw [if_pos hn]
    by_cases hx : 0 ≤ x
    · omega
    · omega
  · rw [if_neg hn]
    by_cases hx : x < 0
    · omega
    · omega
theorem rI_mono {m n : Int} (h : m ≤ n) : rI m ≤ rI n := by
  unfold rI
  by_cases h1 : m < 0
  · rw [if_pos h1]
    by_cases h2 : n < 0
    · rw [if_pos h2]
      have := V_le (rnd_mono (show n.natAbs ≤ m.natAbs by omega))
      omega
    · rw [if_neg h2]; omega
  · rw [if_neg h1, if_neg (by omega)]
    have := V_le (rnd_mono (show m.natAbs ≤ n.natAbs by omega))
    omega
theorem rep_iv (w : Nat) : Rep (iv w).natAbs := by
  unfold iv; refine ⟨mg w, ?_⟩; split <;> omega
theorem iv_natAbs (w : Nat) : (iv w).natAbs = V (mg w) := by
  unfold iv; split <;> omega

theorem write_inf (s : Bool) : double.write (.infinity s) = wd s INF := by
  show double.word s double.infRung = _
  rw [word_eq, show double.infRung = INF from by decide]
theorem add_inf_fin {a b : Nat} (ha : mg a = INF) (hb : mg b < INF) : double.add a b = some (wd (ng a) INF) := by
  unfold Format.add; rw [read_inf ha, read_fin hb]
  show some (double.write (.infinity _)) = _
  rw [write_inf]
theorem add_fin_inf {a b : Nat} (ha : mg a < INF) (hb : mg b = INF) : double.add a b = some (wd (ng b) INF) := by
  unfold Format.add; rw [read_fin ha, read_inf hb]
  show some (double.write (.infinity _)) = _
  rw [write_inf]
theorem add_inf_inf {a b : Nat} (ha : mg a = INF) (hb : mg b = INF) (h : ng a = ng b) : double.add a b = some (wd (ng a) INF) := by
  unfold Format.add; rw [read_inf ha, read_inf hb]
  show (if ng a = ng b then some (Datum.infinity (ng a)) else none).map double.write = _
  rw [if_pos h]
  show some (double.write (.infinity _)) = _
  rw [write_inf]
theorem add_inf_opp {a b : Nat} (ha : mg a = INF) (hb : mg b = INF) (h : ng a ≠ ng b) : double.add a b = none := by
  unfold Format.add; rw [read_inf ha, read_inf hb]
  show (if ng a = ng b then some (Datum.infinity (ng a)) else none).map double.write = _
  rw [if_neg h]; rfl
theorem add_nan_left {a b : Nat} (h : INF < mg a) : double.add a b = none := by
  unfold Format.add; rw [read_nan h]; rfl
theorem add_nan_right {a b : Nat} (h : INF < mg b) : double.add a b = none := by
  unfold Format.add; rw [read_nan h]; cases double.read a <;> rfl
theorem mul_inf_inf {a b : Nat} (ha : mg a = INF) (hb : mg b = INF) : double.mul a b = some (wd (ng a ^^ ng b) INF) := by
  unfold Format.mul; rw [read_inf ha, read_inf hb]
  show some (double.write (.infinity _)) = _
  rw [write_inf]
theorem M_eq_zero {r : Nat} : M r = 0 ↔ r = 0 := by unfold M; split <;> omega
theorem mul_inf_fin {a b : Nat} (ha : mg a = INF) (hb : mg b < INF) : double.mul a b = if mg b = 0 then none else some (wd (ng a ^^ ng b) INF) := by
  unfold Format.mul; rw [read_inf ha, read_fin hb]
  show (if M (mg b) = 0 then none else some (Datum.infinity (ng a ^^ ng b))).map double.write = _
  simp only [M_eq_zero]
  split
  · rfl
  · show some (double.write (.infinity _)) = _
    rw [write_inf]
theorem mul_fin_inf {a b : Nat} (ha : mg a < INF) (hb : mg b = INF) : double.mul a b = if mg a = 0 then none else some (wd (ng b ^^ ng a) INF) := by
  unfold Format.mul; rw [read_inf hb, read_fin ha]
  show (if M (mg a) = 0 then none else some (Datum.infinity (ng b ^^ ng a))).map double.write = _
  simp only [M_eq_zero]
  split
  · rfl
  · show some (double.write (.infinity _)) = _
    rw [write_inf]
theorem mul_nan_left {a b : Nat} (h : INF < mg a) : double.mul a b = none := by
  unfold Format.mul; rw [read_nan h]; rfl
theorem mul_nan_right {a b : Nat} (h : INF < mg b) : double.mul a b = none := by
  unfold Format.mul; rw [read_nan h]; cases double.read a <;> rfl
theorem V_INF : V INF = 2 ^ 53 * 2 ^ 2045 := by
  have := V_block (D := 2045) (k := 2 ^ 53) (by omega) (by omega)
  exact this
end TF
