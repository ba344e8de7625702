/- Sums of numbers among which is no -0; all of them scaled; whole numbers. -/
import Derived.Test.YtneedadoafcfcaaAccTw
import Derived.Test.YtneedadoafcfcaaTwinR
namespace TF
open Ieee Go Go.RowKit

structure NumG (g : AccG) (X : Int) (n : Nat) : Prop where
  ok : GOk g
  X : g.X = X * KA
  cnt : g.cnt = n
  nz : g.nz = 0
  up : g.up = false
  dn : g.dn = false
  nn : g.nn = false
theorem num_new : NumG newG 0 0 := ⟨new_ok, by unfold newG; simp, rfl, rfl, rfl, rfl, rfl⟩
theorem NumG.add {g : AccG} {X : Int} {n x : Nat} (h : NumG g X n) (hx : mg x < INF) (h0 : ¬ (mg x = 0 ∧ ng x = true)) (hc : n < 1048576) : NumG (addG g x) (X + iv x) (n + 1) := by
  have e := addG_fin g hx
  have hc' := h.cnt
  refine ⟨add_ok h.ok (by omega) x, ?_, ?_, ?_, ?_, ?_, ?_⟩
  all_goals rw [e]
  · show g.X + iv x * KA = _; rw [h.X, Int.add_mul]
  · show g.cnt + 1 = _; rw [h.cnt]; rfl
  · show g.nz + (if mg x = 0 ∧ ng x = true then 1 else 0) = 0
    rw [if_neg h0, h.nz]; rfl
  · exact h.up
  · exact h.dn
  · exact h.nn
theorem NumG.val {g : AccG} {X : Int} {n : Nat} (h : NumG g X n) (hn : n ≠ 0) : valG g = wd (decide (X < 0)) (min (rnd X.natAbs) INF) := by
  have hc := h.cnt
  have hz := h.nz
  exact valG_KA (by omega) h.nn h.up h.dn (by omega) h.X
theorem NumG.val0 {g : AccG} {X : Int} (h : NumG g X 0) : valG g = 0 := by
  have hc : g.cnt = 0 := h.cnt
  unfold valG; rw [if_pos hc]

/-- Twice the value is one block further. -/
theorem near_twice {n r : Nat} (h : Near n 1 r) (hr : 2 ^ 52 < r) : Near (2 * n) 1 (r + 2 ^ 52) where
  lo s hs := by
    obtain ⟨t, rfl⟩ : ∃ t, r = t + 1 := ⟨r - 1, by omega⟩
    obtain rfl : s = t + 2 ^ 52 := by omega
    have := h.lo t rfl
    rw [← V_double (by omega), ← V_double (by omega)]
    omega
  loe s hs he := by
    obtain ⟨t, rfl⟩ : ∃ t, r = t + 1 := ⟨r - 1, by omega⟩
    obtain rfl : s = t + 2 ^ 52 := by omega
    rw [← V_double (by omega), ← V_double (by omega)] at he
    have := h.loe t rfl (by omega)
    omega
  hi := by
    have := h.hi
    rw [show r + 2 ^ 52 + 1 = r + 1 + 2 ^ 52 from by omega, ← V_double (by omega), ← V_double (by omega)]
    omega
  hie he := by
    rw [show r + 2 ^ 52 + 1 = r + 1 + 2 ^ 52 from by omega, ← V_double (by omega), ← V_double (by omega)] at he
    have := h.hie (by omega)
    omega
theorem rnd_twice {n : Nat} (h : 2 ^ 52 < rnd n) : rnd (2 * n) = rnd n + 2 ^ 52 := (near_rnd (2 * n)).unique (by omega) (near_twice (near_rnd n) h)
theorem rnd_scale {n : Nat} (h : 2 ^ 52 < rnd n) : ∀ k, rnd (n * 2 ^ k) = rnd n + k * 2 ^ 52 := by
  intro k
  induction k with
  | zero => simp
  | succ k ih =>
    rw [show n * 2 ^ (k + 1) = 2 * (n * 2 ^ k) by rw [Nat.pow_succ]; rw [← Nat.mul_assoc, Nat.mul_comm], rnd_twice (by rw [ih]; omega), ih]; omega
theorem V_scale {r : Nat} (h : 2 ^ 52 ≤ r) : ∀ k, V (r + k * 2 ^ 52) = V r * 2 ^ k := by
  intro k
  induction k with
  | zero => simp
  | succ k ih =>
    rw [show r + (k + 1) * 2 ^ 52 = (r + k * 2 ^ 52) + 2 ^ 52 by omega, ← V_double (by omega), ih, Nat.pow_succ, Nat.mul_comm 2, Nat.mul_assoc]
/-- the power as a word. -/
def PW (K : Nat) : Nat := (1023 + K) * 2 ^ 52
theorem V_PW (K : Nat) : V (PW K) = 2 ^ K * Q := by
  have h := V_scale (r := 1023 * 2 ^ 52) (by omega) K
  have e : PW K = 1023 * 2 ^ 52 + K * 2 ^ 52 := by unfold PW; omega
  rw [e, h, show (1023 * 2 ^ 52 : Nat) = 4607182418800017408 by decide, V_one, Nat.mul_comm]
theorem PW_lt {K : Nat} (h : K < 400) : PW K < INF := by rw [INF_eq]; unfold PW; omega
theorem rnd2_PW (n K : Nat) : rnd2 (n * V (PW K)) = rnd (n * 2 ^ K) := by
  rw [V_PW, ← Nat.mul_assoc, Nat.mul_comm _ Q, rnd2_Q]
theorem mul_PW {x K : Nat} (hx : mg x < INF) (hK : K < 400) : double.mul x (PW K) = some (wd (ng x) (min (rnd (V (mg x) * 2 ^ K)) INF)) := by
  have hp := PW_lt hK
  have hI := INF_lt
  have hm : mg (PW K) = PW K := mg_small (by omega)
  have hg : ng (PW K) = false := ng_small (by omega)
  rw [mul_fin hx (by rw [hm]; exact hp), hm, hg, Bool.xor_false, rnd2_PW]
/-- of a middling size. -/
structure Sel (x : Nat) : Prop where
  lt : x < 2 ^ 64
  lo : 724 * 2 ^ 52 ≤ mg x
  hi : mg x < 1323 * 2 ^ 52
def sc (K x : Nat) : Nat := wd (ng x) (mg x + K * 2 ^ 52)
theorem Sel.fin {x : Nat} (h : Sel x) : mg x < INF := by rw [INF_eq]; have := h.hi; omega
theorem sc_mul {x K : Nat} (h : Sel x) (hK : K < 400) : double.mul x (PW K) = some (sc K x) := by
  have h1 := h.lo
  have h2 := h.hi
  rw [mul_PW h.fin hK, ← V_scale (by omega), rnd_V, Nat.min_eq_left (by rw [INF_eq]; omega)]; rfl
theorem sc_parts {x K : Nat} (h : Sel x) (hK : K < 400) : sc K x < 2 ^ 64 ∧ mg (sc K x) = mg x + K * 2 ^ 52 ∧ ng (sc K x) = ng x ∧ mg (sc K x) < INF := by
  have h2 := h.hi
  have hb : mg x + K * 2 ^ 52 < 2 ^ 63 := by omega
  exact ⟨wd_lt hb, mg_wd hb, ng_wd hb, by rw [show mg (sc K x) = mg x + K * 2 ^ 52 from mg_wd hb, INF_eq]; omega⟩
theorem sc_iv {x K : Nat} (h : Sel x) (hK : K < 400) : iv (sc K x) = iv x * 2 ^ K := by
  obtain ⟨-, h1, h2, -⟩ := sc_parts h hK
  unfold iv
  rw [h1, h2, V_scale (by have := h.lo; omega)]
  cases ng x
  · rw [if_neg (by decide), if_neg (by decide)]; simp
  · rw [if_pos rfl, if_pos rfl]; simp [Int.neg_mul]
def SI (f : Nat → Nat) : Nat → Int
  | 0 => 0
  | k + 1 => SI f k + iv (f k)
theorem SI_sc {f : Nat → Nat} {K n : Nat} (h : ∀ j, j < n → Sel (f j)) (hK : K < 400) : ∀ k, k ≤ n → SI (fun j => sc K (f j)) k = SI f k * 2 ^ K := by
  intro k
  induction k with
  | zero => intro _; simp [SI]
  | succ k ih =>
    intro hk
    show SI (fun j => sc K (f j)) k + iv (sc K (f k)) = (SI f k + iv (f k)) * 2 ^ K
    rw [ih (by omega), sc_iv (h k (by omega)) hK, Int.add_mul]
theorem SI_big {f : Nat → Nat} {n : Nat} (h : ∀ j, j < n → Sel (f j)) (c d : Nat) (hc : c = 1374) (hd : d = 723) : ∀ k, k ≤ n → (SI f k).natAbs ≤ k * 2 ^ c ∧ ((2 ^ d : Nat) : Int) ∣ SI f k := by
  intro k
  induction k with
  | zero => intro _; simp [SI]
  | succ k ih =>
    intro hk
    obtain ⟨h1, h2⟩ := ih (by omega)
    have hs := h k (by omega)
    have hv : V (mg (f k)) ≤ 2 ^ c := by
      have hh := V_block (D := c - 52) (k := 2 ^ 52) (by omega) (by omega)
      rw [← Nat.pow_add, show 52 + (c - 52) = c by omega] at hh
      rw [← hh]
      exact V_le (by have := hs.hi; omega)
    have hdv : 2 ^ d ∣ V (mg (f k)) := V_dvd (by have := hs.lo; unfold E; omega)
    have hn := iv_natAbs (f k)
    constructor
    · show (SI f k + iv (f k)).natAbs ≤ (k + 1) * 2 ^ c
      rw [Nat.succ_mul]
      generalize k * 2 ^ c = p at *
      generalize 2 ^ c = q at *
      omega
    · show ((2 ^ d : Nat) : Int) ∣ SI f k + iv (f k)
      refine Int.dvd_add h2 ?_
      rw [← Int.dvd_natAbs, hn]
      exact Int.natCast_dvd_natCast.2 hdv
/-- the sum's Value, scaled, is the Value of the scaled sum. -/
theorem val_sc {f : Nat → Nat} {g g' : AccG} {n K : Nat} (h : ∀ j, j < n → Sel (f j)) (hn : n ≤ 4096) (hK : K < 400) (h1 : NumG g (SI f n) n) (h2 : NumG g' (SI f n * 2 ^ K) n) :
    double.mul (valG g) (PW K) = some (valG g') := by
  have hI := INF_lt
  by_cases h0 : n = 0
  · subst h0
    rw [h1.val0, h2.val0, mul_PW (by decide) hK]
    have e : mg 0 = 0 := by decide
    rw [e, V_zero, Nat.zero_mul, rnd_zero]; rfl
  obtain ⟨c, hc⟩ : ∃ c : Nat, c = 1374 := ⟨_, rfl⟩
  obtain ⟨d, hd⟩ : ∃ c : Nat, c = 723 := ⟨_, rfl⟩
  obtain ⟨k1, k2⟩ := SI_big h c d hc hd n (Nat.le_refl _)
  rw [h1.val h0, h2.val h0]
  generalize SI f n = S at *
  have hp : (0 : Int) < 2 ^ K := Int.pow_pos (by decide)
  have hs : decide (S * 2 ^ K < 0) = decide (S < 0) := by
    by_cases hS : S < 0
    · rw [decide_eq_true hS, decide_eq_true (Int.mul_neg_of_neg_of_pos hS hp)]
    · rw [decide_eq_false hS, decide_eq_false (by have := Int.mul_nonneg (show 0 ≤ S by omega) (Int.le_of_lt hp); omega)]
  have hab : (S * 2 ^ K).natAbs = S.natAbs * 2 ^ K := by
    rw [Int.natAbs_mul, show (2 : Int) ^ K = ((2 ^ K : Nat) : Int) by simp, Int.natAbs_natCast]
  rw [hs, hab]
  have hle : S.natAbs ≤ 2 ^ (c + 12) := by
    rw [Nat.pow_add, Nat.mul_comm]
    exact Nat.le_trans k1 (Nat.mul_le_mul_right _ (by omega))
  have hr : rnd S.natAbs ≤ 1335 * 2 ^ 52 := by
    have hh := V_block (D := c + 12 - 52) (k := 2 ^ 52) (by omega) (by omega)
    rw [← Nat.pow_add, show 52 + (c + 12 - 52) = c + 12 by omega] at hh
    refine Nat.le_trans (rnd_le_of (r := (c + 12 - 52) * 2 ^ 52 + 2 ^ 52) (by rw [hh]; exact hle)) (by omega)
  have hf : rnd S.natAbs < INF := by rw [INF_eq]; omega
  have hm0 : min (rnd S.natAbs) INF = rnd S.natAbs := Nat.min_eq_left (by omega)
  have hb : rnd S.natAbs < 2 ^ 63 := by omega
  rw [hm0, mul_PW (by rw [mg_wd hb]; omega) hK, ng_wd hb, mg_wd hb]
  have key : rnd (V (rnd S.natAbs) * 2 ^ K) = rnd (S.natAbs * 2 ^ K) := by
    by_cases hS : S = 0
    · subst hS
      rw [Int.natAbs_zero, rnd_zero, V_zero]
    · have hS1 : 2 ^ d ≤ S.natAbs := by
        have : 2 ^ d ∣ S.natAbs := by have := Int.natAbs_dvd_natAbs.2 k2; rwa [Int.natAbs_natCast] at this
        exact Nat.le_of_dvd (by omega) this
      have hbig : 2 ^ 52 < rnd S.natAbs := by
        have hh := V_block (D := d - 52) (k := 2 ^ 52) (by omega) (by omega)
        rw [← Nat.pow_add, show 52 + (d - 52) = d by omega] at hh
        have := le_rnd_of (r := (d - 52) * 2 ^ 52 + 2 ^ 52) (n := S.natAbs) (by rw [hh]; exact hS1)
        omega
      rw [rnd_scale hbig, ← V_scale (by omega), rnd_V]
  rw [key]
/-- whole numbers. -/
theorem val_whole {g : AccG} {n : Nat} {N : Int} (h : NumG g (N * Q) n) (h0 : n = 0 → N = 0) (_hN : N.natAbs ≤ 2 ^ 53) : eqW (valG g) (floatOfInt .f64 N) = true := by
  by_cases hn : n = 0
  · subst hn
    have := h0 rfl
    subst this
    rw [h.val0]; decide
  · have hs : decide (N * (Q : Int) < 0) = decide (N < 0) := by
      have hp : (0 : Int) < (Q : Int) := by have := Q_pos; omega
      by_cases hS : N < 0
      · rw [decide_eq_true hS, decide_eq_true (Int.mul_neg_of_neg_of_pos hS hp)]
      · rw [decide_eq_false hS, decide_eq_false (by have := Int.mul_nonneg (show 0 ≤ N by omega) (Int.le_of_lt hp); omega)]
    rw [h.val hn, hs, Int.natAbs_mul, Int.natAbs_natCast, ← fi_eq, eqW_self, (fi_small _hN).2.1 |> fun h => isN_false.2 (Nat.le_of_lt h)]; rfl
end TF
