/- What lies beside a cell: all numbers. -/
import Derived.Test.YtbfbafoeifigfaaDoorCubeD
namespace Go.Proofs.YtbfbafoeifigfaaDoor
open Go.RowKit TF

theorem cell_two (n f i j : Int) : cellI n f i j = -1 ∨ 0 ≤ cellI n f i j := by
  rcases cell_cases n f i j with ⟨e, _⟩ | ⟨e, _, _, _, h3, _, _, _, _, _, h, _⟩
  · exact .inl e
  · right; omega
theorem near0 (n f i j : Int) : cellI n f (i + 1) j = cellI n f (i + DX 0) (j + DY 0) := by simp [DX, DY]
theorem near1 (n f i j : Int) : cellI n f i (j + 1) = cellI n f (i + DX 1) (j + DY 1) := by simp [DX, DY]
theorem near2 (n f i j : Int) : cellI n f (i + -1) j = cellI n f (i + DX 2) (j + DY 2) := by simp [DX, DY]
theorem near3 (n f i j : Int) : cellI n f i (j + -1) = cellI n f (i + DX 3) (j + DY 3) := by simp [DX, DY]


set_option maxRecDepth 100000 in
set_option maxHeartbeats 4000000 in
theorem beside_near (n c i j : Int) (f s : Nat) (hs : s < 4) (hP : placeI n c = ((f : Int), i, j, true)) (h1 : 1 ≤ n) (h2 : n ≤ 32) (h3 : 0 ≤ i) (h4 : i < n) (h5 : 0 ≤ j) (h6 : j < n) (hnear : 0 ≤ cellI n f (i + DX s) (j + DY s)) (w : World) :
    Calls Tryd.prog 20 #[.int .i64 n, .int .i64 c, .int .i64 s] w fun e w' => e = .returned (.tuple #[.int .i64 (cellI n f (i + DX s) (j + DY s)), .int .i64 ((s + 2) % 4 : Nat)]) ∧ Below w.heap.size w w' := by
  have HP := Lib.hid hP
  clear hP
  have hs' : s = 0 ∨ s = 1 ∨ s = 2 ∨ s = 3 := by omega
  have e1 : IntKind.i64.wrap (i + 1) = i + 1 := IntWalk.i64_in _ (by omega)
  have e2 : IntKind.i64.wrap (i + -1) = i + -1 := IntWalk.i64_in _ (by omega)
  have e3 : IntKind.i64.wrap (j + 1) = j + 1 := IntWalk.i64_in _ (by omega)
  have e4 : IntKind.i64.wrap (j + -1) = j + -1 := IntWalk.i64_in _ (by omega)
  rcases hs' with rfl | rfl | rfl | rfl
  all_goals
    first
      | rw [← near0] at hnear ⊢
      | rw [← near1] at hnear ⊢
      | rw [← near2] at hnear ⊢
      | rw [← near3] at hnear ⊢
    go_enter Tryd.func20, Tryd.ntmps20
    go_wp2_with (first | (go_at_call 12; refine (place_at _ _ _ _ _ HP.out _).mono ?_; rintro e w1 ⟨rfl, hB0⟩))
    go_quiet ((first | (go_at_call 16; exact Calls.quiet_of_same (cell_q _ _ _ _ _))))
    go_wp2_with fail
    go_ret2
    exact ⟨rfl, below_drewN (hB0.alloc hB0.size _) _⟩

set_option maxRecDepth 100000 in
theorem beside_none (n c s : Int) (h : (placeI n c).2.2.2 = false ∨ ((placeI n c).2.2.2 = true ∧ s < 0) ∨ ((placeI n c).2.2.2 = true ∧ 0 ≤ s ∧ 4 ≤ s)) (w : World) :
    Calls Tryd.prog 20 #[.int .i64 n, .int .i64 c, .int .i64 s] w fun e w' => e = .returned (.tuple #[.int .i64 (-1), .int .i64 0]) ∧ Below w.heap.size w w' := by
  obtain ⟨p, hp⟩ : ∃ p, p = placeI n c := ⟨_, rfl⟩
  have HC : Hid (∀ w : World, Calls Tryd.prog 12 #[.int .i64 n, .int .i64 c] w fun e w' => e = .returned (.tuple #[.int .i64 p.1, .int .i64 p.2.1, .int .i64 p.2.2.1, .bool p.2.2.2]) ∧ Below w.heap.size w w') := Lib.hid (fun w => by
    rw [hp]; exact (place_any n c w).mono fun _ _ ⟨h1, k, h2⟩ => ⟨h1, by rw [h2]; exact below_drewN (Below.refl _ _) _⟩)
  rw [← hp] at h
  clear hp
  obtain ⟨p0, p1, p2, p3⟩ := p
  simp only at h
  have HC' : Hid (∀ w : World, Calls Tryd.prog 12 #[.int .i64 n, .int .i64 c] w fun e w' => e = .returned (.tuple #[.int .i64 p0, .int .i64 p1, .int .i64 p2, .bool p3]) ∧ Below w.heap.size w w') := HC
  clear HC
  rcases h with rfl | ⟨rfl, h⟩ | ⟨rfl, h, h'⟩
  all_goals
    go_enter Tryd.func20, Tryd.ntmps20
    go_wp2_with (go_at_call 12; refine (HC'.out _).mono ?_; rintro e w1 ⟨rfl, hB0⟩)
    go_ret2
    exact ⟨rfl, hB0⟩
end Go.Proofs.YtbfbafoeifigfaaDoor
