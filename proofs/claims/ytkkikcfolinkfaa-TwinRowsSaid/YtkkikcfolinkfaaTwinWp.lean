/- A float's parts, as the law of twin takes them; two numbers in words. -/
import Derived.Test.YtkkikcfolinkfaaTwinWd
import Derived.Test.YtkkikcfolinkfaaTwinS
namespace TF
open Ieee Go Go.RowKit

theorem wparts_cases {b : Nat} (hb : b < 2 ^ 64) (n m e : Int) (hn : n = b) (hm : m = M (mg b)) (he : e = E (mg b)) (hf : mg b < INF) : 0 ≤ n ∧ n ≤ 18446744073709551615 ∧ (n / 9223372036854775808 == 1) = ng b ∧
    (((n / 4503599627370496 % 2048 == 0) = true ∧ n % 4503599627370496 = m ∧ e = 0) ∨ ((n / 4503599627370496 % 2048 == 0) = false ∧ 1 ≤ n / 4503599627370496 % 2048 ∧ n % 4503599627370496 + 4503599627370496 = m ∧ n / 4503599627370496 % 2048 - 1 = e)) := by
  have hI := INF_eq
  subst hm he hn
  refine ⟨by omega, by omega, ?_, ?_⟩
  · rw [Bool.eq_iff_iff, ng_iff hb]; simp; omega
  · unfold M E
    unfold mg at *
    by_cases h : b % 2 ^ 63 < 2 ^ 52
    · left
      rw [if_pos h, Nat.div_eq_of_lt h]
      refine ⟨by simp; omega, by omega, by omega⟩
    · right
      rw [if_neg h]
      refine ⟨by simp; omega, by omega, by omega, by omega⟩
theorem wfin_case {b : Nat} (n : Int) (hn : n = b) : (n / 4503599627370496 % 2048 != 2047) = decide (mg b < INF ∨ INF + 4503599627370496 ≤ mg b) := by
  have hI := INF_eq
  subst hn
  unfold mg
  rw [Bool.eq_iff_iff]
  simp
  omega

/-- what a float is worth, in words. -/
theorem iv_parts (x : Nat) : iv x = if ng x then -(((M (mg x) : Nat) : Int) * 2 ^ (E (mg x))) else ((M (mg x) : Nat) : Int) * 2 ^ (E (mg x)) := by
  unfold iv V
  split <;> simp

/-- two numbers in words, at B and at C. -/
structure PW (w0 w : World) (B C : Nat) (U V : Nat → Int) (K : Int) : Prop where
  below : Below w0.heap.size w0 w
  o1 : w0.heap.size ≤ B
  o2 : w0.heap.size ≤ C
  ne : B ≠ C
  u : WAt w B U
  v : WAt w C V
  bu : ∀ i, i < 150 → 0 ≤ U i ∧ U i ≤ K
  bv : ∀ i, i < 150 → 0 ≤ V i ∧ V i ≤ K
theorem WAt.lt {w : World} {B : Nat} {U : Nat → Int} (h : WAt w B U) : B < w.heap.size := by
  obtain ⟨u0, -⟩ := h 0 (by omega)
  rcases Nat.lt_or_ge B w.heap.size with h1 | h1
  · exact h1
  · unfold World.cell? at u0; rw [Array.getElem?_eq_none h1] at u0; cases u0
theorem PW.ltB {w0 w : World} {B C : Nat} {U V : Nat → Int} {K : Int} (h : PW w0 w B C U V K) : B < w.heap.size := h.u.lt
theorem PW.swap {w0 w : World} {B C : Nat} {U V : Nat → Int} {K : Int} (h : PW w0 w B C U V K) : PW w0 w C B V U K := ⟨h.below, h.o2, h.o1, h.ne.symm, h.v, h.u, h.bv, h.bu⟩
theorem PW.onto {w0 w w' : World} {B C : Nat} {U V U' : Nat → Int} {K : Int} (h : PW w0 w B C U V K) (hU : WAt w' B U') (hb : ∀ i, i < 150 → 0 ≤ U' i ∧ U' i ≤ K + 8589934592) (ho : Only w w' B) : PW w0 w' B C U' V (K + 8589934592) :=
  ⟨ho.below _ _ h.o1 h.below, h.o1, h.o2, h.ne, hU, ho.other _ _ h.ne h.v, hb, fun i hi => by have := h.bv i hi; omega⟩
/-- what put leaves. -/
def PutP (w0 : World) (B C : Nat) (U V : Nat → Int) (K : Int) (x : Int) (e : Ending) (w' : World) : Prop :=
  e = .returned (.tuple #[]) ∧ ∃ U' V', PW w0 w' B C U' V' (K + 8589934592) ∧ S U' 150 - S V' 150 = S U 150 - S V 150 + x * 2 ^ 1074
theorem put_up {m : Int} {e : Nat} {x a b : Int} (hx : x = m * 2 ^ e) (h : a = b + m * 2 ^ (e + 1074)) (c : Int) : a - c = b - c + x * 2 ^ 1074 := by
  rw [h, hx, Int.pow_add]
  generalize (2 : Int) ^ e = p
  generalize (2 : Int) ^ 1074 = q
  grind
theorem put_down {m : Int} {e : Nat} {x a b : Int} (hx : x = -(m * 2 ^ e)) (h : a = b + m * 2 ^ (e + 1074)) (c : Int) : c - a = c - b + x * 2 ^ 1074 := by
  rw [h, hx, Int.pow_add]
  generalize (2 : Int) ^ e = p
  generalize (2 : Int) ^ 1074 = q
  grind
end TF
