/- Edges: every side. -/
import Derived.Test.YtkjjecghbhppgaaGreatDoorKTopXf
namespace Go.Proofs.YtkjjecghbhppgaaGreatDoor
open Go Go.RowKit Go.Maps TF

set_option maxRecDepth 100000
set_option maxHeartbeats 8000000
theorem edges_bad (side : Int) (h : goodB side = false) (hs : side < 1 ∨ 32 < side) (hMV : ∀ w, Fr w → FrG w → Calls Tryz.prog 4 #[] w fun e w' => e = .returned (.bool true) ∧ Below w.heap.size w w') (w : World) (hF : Fr w) (hG : FrG w) :
    Calls Tryz.prog 3 #[.int .i64 side] w fun e w' => e = .returned (.bool true) ∧ Below w.heap.size w w' := by
  have KMV := Lib.hid (hMV w hF hG)
  have KN := Lib.hid (new_bad side h)
  clear h hMV hF hG
  by_cases h1 : side < 1
  · have d1 : decide (side < 1) = true := decide_eq_true h1
    go_enter Tryz.func3, Tryz.ntmps3
    go_wp2_with (first | (go_at_call 4; ((with_reducible refine (KMV.out).mono ?_)); rintro e w1 ⟨rfl, hB1⟩) | (go_at_call 5; ((with_reducible refine (KN.out _).mono ?_)); rintro e w2 ⟨rfl, rfl⟩))
    go_ret
    exact ⟨rfl, hB1⟩
  · have d1 : decide (side < 1) = false := decide_eq_false h1
    have d2 : decide (32 < side) = true := decide_eq_true (by omega)
    go_enter Tryz.func3, Tryz.ntmps3
    go_wp2_with (first | (go_at_call 4; ((with_reducible refine (KMV.out).mono ?_)); rintro e w1 ⟨rfl, hB1⟩) | (go_at_call 5; ((with_reducible refine (KN.out _).mono ?_)); rintro e w2 ⟨rfl, rfl⟩))
    go_ret
    exact ⟨rfl, hB1⟩
theorem edges_walk (hMV : ∀ w, Fr w → FrG w → Calls Tryz.prog 4 #[] w fun e w' => e = .returned (.bool true) ∧ Below w.heap.size w w') (side : Int) (w : World) (hF : Fr w) (hG : FrG w) :
    Calls Tryz.prog 3 #[.int .i64 side] w fun e w' => e = .returned (.bool true) ∧ Below w.heap.size w w' := by
  rcases good_cases side with ⟨e, h⟩ | ⟨e, h1, h2⟩ | ⟨e, h1, h2⟩
  · exact edges_bad side e (.inl h) hMV w hF hG
  · exact edges_bad side e (.inr h2) hMV w hF hG
  · obtain ⟨n, rfl⟩ := Int.eq_ofNat_of_zero_le (show 0 ≤ side by omega)
    exact edges_good (n := n) ⟨by omega, by omega⟩ hMV w hF hG
end Go.Proofs.YtkjjecghbhppgaaGreatDoor
