/- The statement CubePlaces: numbers and places. -/
import Derived.Test.YtbfbafoeifigfaaDoorCubeY
import Derived.Test.YtbfbafoeifigfaaDoorCubeM
namespace Go.Proofs.YtbfbafoeifigfaaDoor
open Go.RowKit TF

theorem ret_b {a b : Bool} (h : a = b) : Ending.returned (.bool a) = .returned (.bool b) := by rw [h]
set_option maxRecDepth 100000 in
set_option maxHeartbeats 4000000 in
theorem cubePlaces_walk (a0 a1 a2 a3 a4 a5 a6 a7 : Int) (w : World) (hF : Fr w) :
    Calls Tryd.prog 5 #[.agg #[.int .i64 a0, .int .i64 a1, .int .i64 a2, .int .i64 a3, .int .i64 a4, .int .i64 a5, .int .i64 a6, .int .i64 a7]] w fun e w' => e = .returned (.bool true) ∧ Below w.heap.size w w' := by
  have hsz := hF.size
  go_enter Tryd.func5, Tryd.ntmps5
  go_wp2_with (first | (go_at_call 11; ((with_reducible refine (belD (B := w.heap.size) (w := w) (awake_any _ (hF.below (bel1 _ _))) (bel1 _ _) (Nat.le_refl _)).mono ?_)); rintro e w1 ⟨rfl, hB, hR⟩; obtain ⟨hc, hf⟩ := bcell hR) | (go_at_call 24; ((with_reducible refine (within_any _ 32 (by omega) (by omega) _).mono ?_)); rintro e w2 ⟨r, hr0, hr1, rfl, rfl⟩; obtain ⟨q1, q2⟩ := six_bd hr0 hr1) | (go_at_call 24; ((with_reducible refine (within_any _ (6 * (1 + r) * (1 + r)) q1 (by omega) _).mono ?_)); rintro e w2 ⟨c, hc0, hc1, rfl, rfl⟩))
  obtain ⟨f, i, j, hO, hcc⟩ := on_of (n := 1 + r) (by omega) (by omega) hc0 hc1
  have h1 := hO.i0
  have h2 := hO.i1
  have h3 := hO.j0
  have h4 := hO.j1
  have h5 : (0 : Int) ≤ (f : Int) := by omega
  have h6 : (f : Int) < 6 := by have := hO.f6; omega
  have hcb : c < 6144 := by omega
  have CE : Hid (∀ w1 : World, Calls Tryd.prog 14 #[.int .i64 (1 + r)] w1 fun e w' => e = .returned (.int .i64 (6 * (1 + r) * (1 + r))) ∧ w1 = w') := Lib.hid (fun w1 => by
    have := cells_any (1 + r) w1
    rwa [show cellsI (1 + r) = 6 * (1 + r) * (1 + r) from by unfold cellsI; rw [good_of (by omega) (by omega)]; rfl] at this)
  have P1 : Hid (∀ w1 : World, Calls Tryd.prog 12 #[.int .i64 (1 + r), .int .i64 c] w1 fun e w' => e = .returned (.tuple #[.int .i64 f, .int .i64 i, .int .i64 j, .bool true]) ∧ Below w1.heap.size w1 w') := Lib.hid (fun w1 => by rw [hcc]; exact place_ok hO w1)
  have C1 : Hid (∀ w1 : World, Calls Tryd.prog 16 #[.int .i64 (1 + r), .int .i64 f, .int .i64 i, .int .i64 j] w1 fun e w' => e = .returned (.int .i64 c) ∧ w1 = w') := Lib.hid (fun w1 => by rw [hcc]; exact cell_ok hO w1)
  obtain ⟨d0, b0, g, x, y, BE, P2, hE⟩ : ∃ (d0 b0 : Int) (g : Nat) (x y : Int), Hid (∀ w1 : World, Fr w1 → Calls Tryd.prog 20 #[.int .i64 (1 + r), .int .i64 c, .int .i64 0] w1 fun e w' => e = .returned (.tuple #[.int .i64 d0, .int .i64 b0]) ∧ Below w1.heap.size w1 w') ∧
      Hid (∀ w1 : World, Calls Tryd.prog 12 #[.int .i64 (1 + r), .int .i64 d0] w1 fun e w' => e = .returned (.tuple #[.int .i64 g, .int .i64 x, .int .i64 y, .bool true]) ∧ Below w1.heap.size w1 w') ∧
      ((i + 1 < 1 + r ∧ d0 = c + 1 ∧ b0 = 2 ∧ g = f ∧ Hid (∀ w1 : World, Calls Tryd.prog 16 #[.int .i64 (1 + r), .int .i64 f, .int .i64 (i + 1), .int .i64 j] w1 fun e w' => e = .returned (.int .i64 (c + 1)) ∧ w1 = w')) ∨ (1 + r ≤ i + 1 ∧ ((g : Int) == (f : Int)) = false)) := by
    obtain ⟨hb, -⟩ := b_on hO (s := 0) (by omega)
    refine ⟨_, _, _, _, _, Lib.hid (fun w1 hF1 => by rw [hcc]; exact beside_ok hO (s := 0) (by omega) w1 hF1), Lib.hid (fun w1 => place_ok hb w1), ?_⟩
    by_cases hi : i + 1 < 1 + r
    · left
      obtain ⟨e1, e2, e3, e4, e5, e6⟩ := b_east hO hi
      exact ⟨hi, by rw [e1, e2, e3, e5, hcc], by rw [e4]; rfl, e1, Lib.hid (fun w1 => by rw [hcc, ← e5]; exact cell_ok e6 w1)⟩
    · right
      exact ⟨by omega, by have := b_east_out hO hi; simp; omega⟩
  obtain ⟨d1, b1, BN, hN⟩ : ∃ (d1 b1 : Int), Hid (∀ w1 : World, Fr w1 → Calls Tryd.prog 20 #[.int .i64 (1 + r), .int .i64 c, .int .i64 1] w1 fun e w' => e = .returned (.tuple #[.int .i64 d1, .int .i64 b1]) ∧ Below w1.heap.size w1 w') ∧
      ((j + 1 < 1 + r ∧ d1 = c + (1 + r) ∧ b1 = 3 ∧ Hid (∀ w1 : World, Calls Tryd.prog 16 #[.int .i64 (1 + r), .int .i64 f, .int .i64 i, .int .i64 (j + 1)] w1 fun e w' => e = .returned (.int .i64 (c + (1 + r))) ∧ w1 = w')) ∨ 1 + r ≤ j + 1) := by
    refine ⟨_, _, Lib.hid (fun w1 hF1 => by rw [hcc]; exact beside_ok hO (s := 1) (by omega) w1 hF1), ?_⟩
    by_cases hj : j + 1 < 1 + r
    · left
      obtain ⟨e1, e2, e3, e4, e5, e6⟩ := b_north hO hj
      exact ⟨hj, by rw [e1, e2, e3, e5, hcc], by rw [e4]; rfl, Lib.hid (fun w1 => by rw [hcc, ← e5]; exact cell_ok e6 w1)⟩
    · right; omega
  clear hcc hO hc hf
  rcases hE with ⟨i1, rfl, rfl, rfl, C2⟩ | ⟨i1, hg⟩ <;> rcases hN with ⟨j1, rfl, rfl, C3⟩ | j1
  · go_wp2_with (first | (go_at_call 14; ((with_reducible refine (CE.out _).mono ?_)); rintro e w3 ⟨rfl, rfl⟩) | (go_at_call 12; ((with_reducible refine (belC (B := w.heap.size) (w := w) (P1.out _) (by with_reducible assumption) (Nat.le_refl _)).mono ?_)); rintro e w3 ⟨rfl, hB⟩) | (go_at_call 12; ((with_reducible refine (belC (B := w.heap.size) (w := w) (P2.out _) (by with_reducible assumption) (Nat.le_refl _)).mono ?_)); rintro e w3 ⟨rfl, hB⟩) | (go_at_call 16; ((with_reducible refine (C1.out _).mono ?_)); rintro e w3 ⟨rfl, rfl⟩) | (go_at_call 16; ((with_reducible refine (C2.out _).mono ?_)); rintro e w3 ⟨rfl, rfl⟩) | (go_at_call 16; ((with_reducible refine (C3.out _).mono ?_)); rintro e w3 ⟨rfl, rfl⟩) | (go_at_call 20; ((with_reducible refine (belC (B := w.heap.size) (w := w) (BE.out _ (hF.below (by with_reducible assumption))) (by with_reducible assumption) (Nat.le_refl _)).mono ?_)); rintro e w3 ⟨rfl, hB⟩) | (go_at_call 20; ((with_reducible refine (belC (B := w.heap.size) (w := w) (BN.out _ (hF.below (by with_reducible assumption))) (by with_reducible assumption) (Nat.le_refl _)).mono ?_)); rintro e w3 ⟨rfl, hB⟩))
    go_ret
    exact ⟨rfl, by with_reducible assumption⟩
  · go_wp2_with (first | (go_at_call 14; ((with_reducible refine (CE.out _).mono ?_)); rintro e w3 ⟨rfl, rfl⟩) | (go_at_call 12; ((with_reducible refine (belC (B := w.heap.size) (w := w) (P1.out _) (by with_reducible assumption) (Nat.le_refl _)).mono ?_)); rintro e w3 ⟨rfl, hB⟩) | (go_at_call 12; ((with_reducible refine (belC (B := w.heap.size) (w := w) (P2.out _) (by with_reducible assumption) (Nat.le_refl _)).mono ?_)); rintro e w3 ⟨rfl, hB⟩) | (go_at_call 16; ((with_reducible refine (C1.out _).mono ?_)); rintro e w3 ⟨rfl, rfl⟩) | (go_at_call 16; ((with_reducible refine (C2.out _).mono ?_)); rintro e w3 ⟨rfl, rfl⟩) | (go_at_call 20; ((with_reducible refine (belC (B := w.heap.size) (w := w) (BE.out _ (hF.below (by with_reducible assumption))) (by with_reducible assumption) (Nat.le_refl _)).mono ?_)); rintro e w3 ⟨rfl, hB⟩) | (go_at_call 20; ((with_reducible refine (belC (B := w.heap.size) (w := w) (BN.out _ (hF.below (by with_reducible assumption))) (by with_reducible assumption) (Nat.le_refl _)).mono ?_)); rintro e w3 ⟨rfl, hB⟩))
    go_ret
    exact ⟨rfl, by with_reducible assumption⟩
  · go_wp2_with (first | (go_at_call 14; ((with_reducible refine (CE.out _).mono ?_)); rintro e w3 ⟨rfl, rfl⟩) | (go_at_call 12; ((with_reducible refine (belC (B := w.heap.size) (w := w) (P1.out _) (by with_reducible assumption) (Nat.le_refl _)).mono ?_)); rintro e w3 ⟨rfl, hB⟩) | (go_at_call 12; ((with_reducible refine (belC (B := w.heap.size) (w := w) (P2.out _) (by with_reducible assumption) (Nat.le_refl _)).mono ?_)); rintro e w3 ⟨rfl, hB⟩) | (go_at_call 16; ((with_reducible refine (C1.out _).mono ?_)); rintro e w3 ⟨rfl, rfl⟩) | (go_at_call 16; ((with_reducible refine (C3.out _).mono ?_)); rintro e w3 ⟨rfl, rfl⟩) | (go_at_call 20; ((with_reducible refine (belC (B := w.heap.size) (w := w) (BE.out _ (hF.below (by with_reducible assumption))) (by with_reducible assumption) (Nat.le_refl _)).mono ?_)); rintro e w3 ⟨rfl, hB⟩) | (go_at_call 20; ((with_reducible refine (belC (B := w.heap.size) (w := w) (BN.out _ (hF.below (by with_reducible assumption))) (by with_reducible assumption) (Nat.le_refl _)).mono ?_)); rintro e w3 ⟨rfl, hB⟩))
    go_ret
    exact ⟨ret_b (by simp; omega), by with_reducible assumption⟩
  · go_wp2_with (first | (go_at_call 14; ((with_reducible refine (CE.out _).mono ?_)); rintro e w3 ⟨rfl, rfl⟩) | (go_at_call 12; ((with_reducible refine (belC (B := w.heap.size) (w := w) (P1.out _) (by with_reducible assumption) (Nat.le_refl _)).mono ?_)); rintro e w3 ⟨rfl, hB⟩) | (go_at_call 12; ((with_reducible refine (belC (B := w.heap.size) (w := w) (P2.out _) (by with_reducible assumption) (Nat.le_refl _)).mono ?_)); rintro e w3 ⟨rfl, hB⟩) | (go_at_call 16; ((with_reducible refine (C1.out _).mono ?_)); rintro e w3 ⟨rfl, rfl⟩) | (go_at_call 20; ((with_reducible refine (belC (B := w.heap.size) (w := w) (BE.out _ (hF.below (by with_reducible assumption))) (by with_reducible assumption) (Nat.le_refl _)).mono ?_)); rintro e w3 ⟨rfl, hB⟩) | (go_at_call 20; ((with_reducible refine (belC (B := w.heap.size) (w := w) (BN.out _ (hF.below (by with_reducible assumption))) (by with_reducible assumption) (Nat.le_refl _)).mono ?_)); rintro e w3 ⟨rfl, hB⟩))
    go_ret
    exact ⟨ret_b (by simp; omega), by with_reducible assumption⟩
end Go.Proofs.YtbfbafoeifigfaaDoor
