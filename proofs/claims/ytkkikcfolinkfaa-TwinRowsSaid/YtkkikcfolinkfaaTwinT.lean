/- twin.Add as a plain function; constants of awake. -/
import Derived.Test.YtkkikcfolinkfaaTwinS
namespace TF
open Ieee Go Go.RowKit

def addW (hi lo x : Nat) : Nat × Nat :=
  match floatBits .add .f64 (sumW hi x).2 lo with
  | none => (9221120237041090561, 0)
  | some t => sumW (sumW hi x).1 t
theorem sumW_nan (a : Nat) {n : Nat} (h : INF < mg n) : sumW a n = (9221120237041090561, 0) := by unfold sumW; rw [add_nan_right h]
theorem add_ways (hi lo x : Nat) : (floatBits .add .f64 (sumW hi x).2 lo = none ∧ ∀ n, INF < mg n → sumW (sumW hi x).1 n = addW hi lo x) ∨
    ∃ t, floatBits .add .f64 (sumW hi x).2 lo = some t ∧ W64 t ∧ sumW (sumW hi x).1 t = addW hi lo x := by
  cases h : floatBits .add .f64 (sumW hi x).2 lo with
  | none => left; exact ⟨rfl, fun n hn => by unfold addW; rw [h, sumW_nan _ hn]⟩
  | some t => right; exact ⟨t, rfl, floatBits_lt h, by unfold addW; rw [h]⟩
theorem addW_lt (hi lo x : Nat) : W64 (addW hi lo x).1 ∧ W64 (addW hi lo x).2 := by
  unfold addW
  split
  · exact ⟨show (9221120237041090561 : Nat) < 2 ^ 64 by decide, show (0 : Nat) < 2 ^ 64 by decide⟩
  · exact sumW_lt _ _
theorem rsum_any_ways (a b : Nat) : (floatBits .add .f64 a b = none ∧ sumW a b = (9221120237041090561, 0)) ∨
    (∃ s, floatBits .add .f64 a b = some s ∧ INF ≤ mg s ∧ sumW a b = (canonW s, 0)) ∨ (∃ s, floatBits .add .f64 a b = some s ∧ mg s < INF) := by
  cases h : double.add a b with
  | none => left; exact ⟨h, by unfold sumW; rw [h]⟩
  | some s =>
    right
    by_cases hs : mg s < INF
    · right; exact ⟨s, h, hs⟩
    · left; exact ⟨s, h, by omega, by unfold sumW; rw [h]; simp only; rw [if_neg hs]⟩
end TF
