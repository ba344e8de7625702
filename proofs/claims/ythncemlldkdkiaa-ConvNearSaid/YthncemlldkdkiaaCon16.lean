/- Floats of 16 bits beside floats of 64 bits: the nearest one, its value. -/
import Derived.Test.YthncemlldkdkiaaSm16
import Derived.Test.YthncemlldkdkiaaLevI
namespace TF
open Ieee Go Go.RowKit

/-- so many units of 2^-1074 are one of 2^-24. -/
def T16 : Nat := 1050
def U16 : Nat := 2 ^ T16
theorem U16_pos : 0 < U16 := Nat.two_pow_pos T16
theorem T16_eq : T16 = 1050 := rfl
theorem I16_eq : TF16.INF = 31744 := rfl
theorem small16_word (m : Nat) (e : Int) : smallI m e 10 (-24) 31744 = ((min (TF16.rung m e) TF16.INF : Nat) : Int) := by
  have hI := I16_eq
  unfold smallI TF16.rung
  by_cases h0 : m = 0
  · rw [if_pos h0, if_pos h0]; simp
  · rw [if_neg h0, if_neg h0, cut_nrs, Nat.shiftLeft_eq]
    have hu : unitI m e 10 (-24) = max (e + (m.log2 : Int) - 10) (-24) := by
      unfold unitI lenN; rw [if_neg h0]; omega
    rw [hu]
    generalize nrs _ _ = k
    rw [show ((10 : Int).toNat) = 10 from rfl]
    have : max (e + (m.log2 : Int) - 10) (-24) - -24 = ((max (e + (m.log2 : Int) - 10) (-24) + 24).toNat : Int) := by omega
    rw [this]
    generalize (max (e + (m.log2 : Int) - 10) (-24) + 24).toNat = j
    omega
/-- the rung of 16 bits nearest to a finite float. -/
def n16 (x : Nat) : Nat := TF16.rung (M (mg x)) ((E (mg x) : Int) - 1074)
theorem near_n16 (x : Nat) : TF16.Near (V (mg x)) U16 (n16 x) := by
  have hT := T16_eq
  refine TF16.Near.ratio (Nat.two_pow_pos _) U16_pos (TF16.near_rung (mag := M (mg x)) ((E (mg x) : Int) - 1074)) ?_
  unfold V U16
  rw [Nat.mul_assoc, Nat.mul_assoc, ← Nat.pow_add, ← Nat.pow_add]
  congr 2; omega
theorem n16_mono {x y : Nat} (h : V (mg x) ≤ V (mg y)) : n16 x ≤ n16 y :=
  TF16.Near.le_of U16_pos U16_pos (near_n16 x) (near_n16 y) (Nat.mul_le_mul_right _ h)
/-- the word of such a rung. -/
def w16 (r : Nat) : Nat := rnd (TF16.V r * U16)
theorem rep16 (r : Nat) : Rep (TF16.V r * U16) := by
  unfold TF16.V U16
  rw [Nat.mul_assoc, ← Nat.pow_add]
  have := TF16.M_lt r
  exact rep_bits _ _ (by omega)
theorem V_w16 (r : Nat) : V (w16 r) = TF16.V r * U16 := (rep16 r).eq
theorem w16_lt {r s : Nat} (h : r < s) : w16 r < w16 s := by
  refine V_lt_iff.1 ?_
  rw [V_w16, V_w16]
  exact Nat.mul_lt_mul_of_pos_right (TF16.V_lt h) U16_pos
theorem w16_le {r s : Nat} (h : r ≤ s) : w16 r ≤ w16 s := by
  refine V_le_iff.1 ?_
  rw [V_w16, V_w16]
  exact Nat.mul_le_mul_right _ (TF16.V_le h)
theorem w16_fin {r : Nat} (h : r ≤ 31744) : w16 r < INF := by
  refine V_lt_iff.1 ?_
  obtain ⟨z, hz, hV⟩ : ∃ z : Nat, z = 2045 ∧ V INF = 2 ^ 53 * 2 ^ z := ⟨2045, rfl, V_INF⟩
  rw [V_w16, hV]
  have hT := T16_eq
  have hM := TF16.M_lt r
  have hE : TF16.E r ≤ 254 := by unfold TF16.E; omega
  unfold TF16.V U16
  rw [Nat.mul_assoc, ← Nat.pow_add]
  have h1 : 2 ^ (TF16.E r + T16) ≤ 2 ^ z := Nat.pow_le_pow_right (by omega) (by omega)
  have h2 : 0 < 2 ^ z := Nat.two_pow_pos _
  exact Nat.lt_of_le_of_lt (Nat.mul_le_mul_left _ h1) (Nat.mul_lt_mul_of_pos_right (by omega) h2)
theorem mg_w16 {r : Nat} (h : r ≤ 31744) : mg (w16 r) = w16 r := mg_small (Nat.lt_trans (w16_fin h) INF_lt)
/-- a small float comes back. -/
theorem n16_w16 {r : Nat} (h : r ≤ 31744) (s : Bool) : n16 (wd s (w16 r)) = r := by
  have h1 := near_n16 (wd s (w16 r))
  rw [mg_wd (Nat.lt_trans (w16_fin h) INF_lt), V_w16] at h1
  have h2 : TF16.Near (U16 * TF16.V r) U16 r := TF16.near_self U16_pos
  rw [Nat.mul_comm] at h2
  exact TF16.Near.unique U16_pos h1 h2
/-- the nearest float of 64 bits to a small one's number. -/
theorem rung_w16 {r : Nat} : rung (TF16.M r) ((TF16.E r : Int) - 24) = w16 r := by
  have hT := T16_eq
  have h1 := near_rung (mag := TF16.M r) ((TF16.E r : Int) - 24)
  have h2 := near_rnd (TF16.V r * U16)
  rw [show (-((TF16.E r : Int) - 24 + 1074)).toNat = 0 from by omega, Nat.pow_zero] at h1
  refine Near.unique' Nat.one_pos Nat.one_pos h1 h2 ?_
  rw [Nat.mul_one, Nat.mul_one]
  unfold TF16.V U16
  rw [Nat.mul_assoc, ← Nat.pow_add]
  congr 2; omega
/-- the infinity begins at the middle. -/
theorem n16_inf (x : Nat) : 31744 ≤ n16 x ↔ U16 * (TF16.V (31744 - 1) + TF16.V 31744) ≤ 2 * V (mg x) := by
  have h := near_n16 x
  constructor
  · intro hr
    have h1 := h.lo (n16 x - 1) (by omega)
    refine Nat.le_trans (Nat.mul_le_mul_left _ (Nat.add_le_add (TF16.V_le (by omega)) (TF16.V_le hr))) h1
  · intro hv
    rcases Nat.lt_or_ge (n16 x) 31744 with hr | hr
    · have h1 := h.hi
      have h2 : U16 * (TF16.V (n16 x) + TF16.V (n16 x + 1)) ≤ U16 * (TF16.V (31744 - 1) + TF16.V 31744) := Nat.mul_le_mul_left _ (Nat.add_le_add (TF16.V_le (by omega)) (TF16.V_le (by omega)))
      have h3 : U16 * (TF16.V (n16 x) + TF16.V (n16 x + 1)) = U16 * (TF16.V (31744 - 1) + TF16.V 31744) := by omega
      have h4 := Nat.eq_of_mul_eq_mul_left U16_pos h3
      have h5 : n16 x = 31744 - 1 := by
        rcases Nat.lt_or_ge (n16 x) (31744 - 1) with hc | hc
        · have := TF16.V_lt hc
          have := TF16.V_lt (show n16 x + 1 < 31744 by omega)
          omega
        · omega
      have h6 := h.hie (by omega)
      omega
    · exact hr
/-- the bits of 16. -/
def mg16 (b : Nat) : Nat := b % 32768
def ng16 (b : Nat) : Bool := b / 32768 % 2 == 1
def wd16 (s : Bool) (r : Nat) : Nat := if s then 32768 + r else r
/-- what a float becomes, and what a small one is. -/
def to16 (x : Nat) : Nat := if isN x then 32256 else wd16 (ng x) (if mg x = INF then 31744 else min (n16 x) 31744)
def from16 (b : Nat) : Nat := if 31744 < mg16 b then 9221120237041090561 else wd (ng16 b) (if mg16 b = 31744 then INF else w16 (mg16 b))
end TF
