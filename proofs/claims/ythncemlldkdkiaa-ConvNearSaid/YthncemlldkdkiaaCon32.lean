/- Floats of 32 bits beside floats of 64 bits: the nearest one, its value. -/
import Derived.Test.YthncemlldkdkiaaSm32
import Derived.Test.YthncemlldkdkiaaLevI
namespace TF
open Ieee Go Go.RowKit

/-- so many units of 2^-1074 are one of 2^-149. -/
def T32 : Nat := 925
def U32 : Nat := 2 ^ T32
theorem U32_pos : 0 < U32 := Nat.two_pow_pos T32
theorem T32_eq : T32 = 925 := rfl
theorem I32_eq : TF32.INF = 2139095040 := rfl
theorem small32_word (m : Nat) (e : Int) : smallI m e 23 (-149) 2139095040 = ((min (TF32.rung m e) TF32.INF : Nat) : Int) := by
  have hI := I32_eq
  unfold smallI TF32.rung
  by_cases h0 : m = 0
  · rw [if_pos h0, if_pos h0]; simp
  · rw [if_neg h0, if_neg h0, cut_nrs, Nat.shiftLeft_eq]
    have hu : unitI m e 23 (-149) = max (e + (m.log2 : Int) - 23) (-149) := by
      unfold unitI lenN; rw [if_neg h0]; omega
    rw [hu]
    generalize nrs _ _ = k
    rw [show ((23 : Int).toNat) = 23 from rfl]
    have : max (e + (m.log2 : Int) - 23) (-149) - -149 = ((max (e + (m.log2 : Int) - 23) (-149) + 149).toNat : Int) := by omega
    rw [this]
    generalize (max (e + (m.log2 : Int) - 23) (-149) + 149).toNat = j
    omega
/-- the rung of 32 bits nearest to a finite float. -/
def n32 (x : Nat) : Nat := TF32.rung (M (mg x)) ((E (mg x) : Int) - 1074)
theorem near_n32 (x : Nat) : TF32.Near (V (mg x)) U32 (n32 x) := by
  have hT := T32_eq
  refine TF32.Near.ratio (Nat.two_pow_pos _) U32_pos (TF32.near_rung (mag := M (mg x)) ((E (mg x) : Int) - 1074)) ?_
  unfold V U32
  rw [Nat.mul_assoc, Nat.mul_assoc, ← Nat.pow_add, ← Nat.pow_add]
  congr 2; omega
theorem n32_mono {x y : Nat} (h : V (mg x) ≤ V (mg y)) : n32 x ≤ n32 y :=
  TF32.Near.le_of U32_pos U32_pos (near_n32 x) (near_n32 y) (Nat.mul_le_mul_right _ h)
/-- the word of such a rung. -/
def w32 (r : Nat) : Nat := rnd (TF32.V r * U32)
theorem rep32 (r : Nat) : Rep (TF32.V r * U32) := by
  unfold TF32.V U32
  rw [Nat.mul_assoc, ← Nat.pow_add]
  have := TF32.M_lt r
  exact rep_bits _ _ (by omega)
theorem V_w32 (r : Nat) : V (w32 r) = TF32.V r * U32 := (rep32 r).eq
theorem w32_lt {r s : Nat} (h : r < s) : w32 r < w32 s := by
  refine V_lt_iff.1 ?_
  rw [V_w32, V_w32]
  exact Nat.mul_lt_mul_of_pos_right (TF32.V_lt h) U32_pos
theorem w32_le {r s : Nat} (h : r ≤ s) : w32 r ≤ w32 s := by
  refine V_le_iff.1 ?_
  rw [V_w32, V_w32]
  exact Nat.mul_le_mul_right _ (TF32.V_le h)
theorem w32_fin {r : Nat} (h : r ≤ 2139095040) : w32 r < INF := by
  refine V_lt_iff.1 ?_
  obtain ⟨z, hz, hV⟩ : ∃ z : Nat, z = 2045 ∧ V INF = 2 ^ 53 * 2 ^ z := ⟨2045, rfl, V_INF⟩
  rw [V_w32, hV]
  have hT := T32_eq
  have hM := TF32.M_lt r
  have hE : TF32.E r ≤ 254 := by unfold TF32.E; omega
  unfold TF32.V U32
  rw [Nat.mul_assoc, ← Nat.pow_add]
  have h1 : 2 ^ (TF32.E r + T32) ≤ 2 ^ z := Nat.pow_le_pow_right (by omega) (by omega)
  have h2 : 0 < 2 ^ z := Nat.two_pow_pos _
  exact Nat.lt_of_le_of_lt (Nat.mul_le_mul_left _ h1) (Nat.mul_lt_mul_of_pos_right (by omega) h2)
theorem mg_w32 {r : Nat} (h : r ≤ 2139095040) : mg (w32 r) = w32 r := mg_small (Nat.lt_trans (w32_fin h) INF_lt)
/-- a small float comes back. -/
theorem n32_w32 {r : Nat} (h : r ≤ 2139095040) (s : Bool) : n32 (wd s (w32 r)) = r := by
  have h1 := near_n32 (wd s (w32 r))
  rw [mg_wd (Nat.lt_trans (w32_fin h) INF_lt), V_w32] at h1
  have h2 : TF32.Near (U32 * TF32.V r) U32 r := TF32.near_self U32_pos
  rw [Nat.mul_comm] at h2
  exact TF32.Near.unique U32_pos h1 h2
/-- the nearest float of 64 bits to a small one's number. -/
theorem rung_w32 {r : Nat} : rung (TF32.M r) ((TF32.E r : Int) - 149) = w32 r := by
  have hT := T32_eq
  have h1 := near_rung (mag := TF32.M r) ((TF32.E r : Int) - 149)
  have h2 := near_rnd (TF32.V r * U32)
  rw [show (-((TF32.E r : Int) - 149 + 1074)).toNat = 0 from by omega, Nat.pow_zero] at h1
  refine Near.unique' Nat.one_pos Nat.one_pos h1 h2 ?_
  rw [Nat.mul_one, Nat.mul_one]
  unfold TF32.V U32
  rw [Nat.mul_assoc, ← Nat.pow_add]
  congr 2; omega
/-- the infinity begins at the middle. -/
theorem n32_inf (x : Nat) : 2139095040 ≤ n32 x ↔ U32 * (TF32.V (2139095040 - 1) + TF32.V 2139095040) ≤ 2 * V (mg x) := by
  have h := near_n32 x
  constructor
  · intro hr
    have h1 := h.lo (n32 x - 1) (by omega)
    refine Nat.le_trans (Nat.mul_le_mul_left _ (Nat.add_le_add (TF32.V_le (by omega)) (TF32.V_le hr))) h1
  · intro hv
    rcases Nat.lt_or_ge (n32 x) 2139095040 with hr | hr
    · have h1 := h.hi
      have h2 : U32 * (TF32.V (n32 x) + TF32.V (n32 x + 1)) ≤ U32 * (TF32.V (2139095040 - 1) + TF32.V 2139095040) := Nat.mul_le_mul_left _ (Nat.add_le_add (TF32.V_le (by omega)) (TF32.V_le (by omega)))
      have h3 : U32 * (TF32.V (n32 x) + TF32.V (n32 x + 1)) = U32 * (TF32.V (2139095040 - 1) + TF32.V 2139095040) := by omega
      have h4 := Nat.eq_of_mul_eq_mul_left U32_pos h3
      have h5 : n32 x = 2139095040 - 1 := by
        rcases Nat.lt_or_ge (n32 x) (2139095040 - 1) with hc | hc
        · have := TF32.V_lt hc
          have := TF32.V_lt (show n32 x + 1 < 2139095040 by omega)
          omega
        · omega
      have h6 := h.hie (by omega)
      omega
    · exact hr
/-- the bits of 32. -/
def mg32 (b : Nat) : Nat := b % 2147483648
def ng32 (b : Nat) : Bool := b / 2147483648 % 2 == 1
def wd32 (s : Bool) (r : Nat) : Nat := if s then 2147483648 + r else r
/-- what a float becomes, and what a small one is. -/
def to32 (x : Nat) : Nat := if isN x then 2143289344 else wd32 (ng x) (if mg x = INF then 2139095040 else min (n32 x) 2139095040)
def from32 (b : Nat) : Nat := if 2139095040 < mg32 b then 9221120237041090561 else wd (ng32 b) (if mg32 b = 2139095040 then INF else w32 (mg32 b))
end TF
