/- The cube's calls in the words of its pure functions. -/
import Derived.Test.YtbfbafoeifigfaaDoorCubeX
import Derived.Test.YtbfbafoeifigfaaDoorCubeE
import Derived.Test.YtbfbafoeifigfaaDoorCubeK
namespace Go.Proofs.YtbfbafoeifigfaaDoor
open Go.RowKit TF

theorem beside_ok {n i j : Int} {f s : Nat} (h : On n f i j) (hs : s < 4) (w : World) (hF : Fr w) :
    Calls Tryd.prog 20 #[.int .i64 n, .int .i64 (cellN n f i j), .int .i64 s] w fun e w' => e = .returned (.tuple #[.int .i64 (cellN n (bF n f s i j) (bX n f s i j) (bY n f s i j)), .int .i64 (bS n f s i j : Nat)]) ∧ Below w.heap.size w w' := by
  obtain ⟨hb, -⟩ := b_on h hs
  rw [← hb.cell]
  unfold bF bX bY bS
  by_cases ho : offI n s i j = n - 1
  · simp only [ho, if_true]
    obtain ⟨e1, e2⟩ := far_eval h hs ho
    rw [← e1, ← e2]
    exact beside_far n _ i j f s h.f6 hs h.place h.n1 h.n32 h.i0 h.i1 h.j0 h.j1 (step_out h hs ho) w hF
  · simp only [ho, if_false]
    have hb2 := (step_near h hs (by have := (h.off hs).2.1; omega)).2.2
    exact beside_near n _ i j f s hs h.place h.n1 h.n32 h.i0 h.i1 h.j0 h.j1 (by rw [hb2.cell]; exact hb2.bound.1) w
theorem turn_ok {n i j : Int} {f t : Nat} (h : On n f i j) (ht : t < 24) (w : World) (hF : Fr w) :
    Calls Tryd.prog 22 #[.int .i64 n, .int .i64 t, .int .i64 (cellN n f i j)] w fun e w' => e = .returned (.tuple #[.int .i64 (cellN n (tF t f) (uX n t f i j) (uY n t f i j)), .int .i64 (tQ t f : Nat)]) ∧ Below w.heap.size w w' := by
  rw [← (u_on h ht).cell]
  obtain ⟨e1, e2⟩ := turn_eval h ht
  unfold uX uY
  rw [← e1, ← e2]
  exact turn_at n _ i j f t h.f6 ht h.place h.n1 h.n32 h.i0 h.i1 h.j0 h.j1 w hF
theorem place_ok {n i j : Int} {f : Nat} (h : On n f i j) (w : World) :
    Calls Tryd.prog 12 #[.int .i64 n, .int .i64 (cellN n f i j)] w fun e w' => e = .returned (.tuple #[.int .i64 f, .int .i64 i, .int .i64 j, .bool true]) ∧ Below w.heap.size w w' := place_at n _ i j f h.place w
theorem cell_ok {n i j : Int} {f : Nat} (h : On n f i j) (w : World) :
    Calls Tryd.prog 16 #[.int .i64 n, .int .i64 f, .int .i64 i, .int .i64 j] w fun e w' => e = .returned (.int .i64 (cellN n f i j)) ∧ w = w' := by
  have := cell_any n f i j w
  rwa [h.cell] at this

/-- Of what 'within' answers: from 0 to n - 1. -/
def WithinR (n : Int) (w : World) (e : Ending) (w' : World) : Prop := ∃ r : Int, 0 ≤ r ∧ r < n ∧ e = .returned (.int .i64 r) ∧ w = w'
theorem u64_wrap (x : Int) : 0 ≤ IntKind.u64.wrap x := by
  show 0 ≤ x % 2 ^ 64
  exact Int.emod_nonneg _ (by decide)
theorem within_end (x n : Int) (h1 : 1 ≤ n) (h2 : n ≤ 10000) : 0 ≤ wrap64 ((IntKind.u64.wrap x).tmod n) ∧ wrap64 ((IntKind.u64.wrap x).tmod n) < n := by
  have h := u64_wrap x
  rw [Int.tmod_eq_emod_of_nonneg h]
  have a := Int.emod_nonneg (IntKind.u64.wrap x) (show n ≠ 0 by omega)
  have b := Int.emod_lt_of_pos (IntKind.u64.wrap x) (show 0 < n by omega)
  generalize IntKind.u64.wrap x % n = y at a b
  unfold wrap64
  omega
theorem within_any (x n : Int) (h1 : 1 ≤ n) (h2 : n ≤ 10000) (w : World) :
    Calls Tryd.prog 24 #[.int .i64 x, .int .i64 n] w (WithinR n w) := by
  have e := within_end x n h1 h2
  go_enter Tryd.func24, Tryd.ntmps24
  go_wp2_with fail
  go_ret
  exact ⟨_, e.1, e.2, rfl, rfl⟩

theorem b1_any (w : World) (hF : Fr w) : Calls Tryd.prog 20 #[.int .i64 2, .int .i64 1, .int .i64 0] w fun e w' => e = .returned (.tuple #[.int .i64 4, .int .i64 2]) ∧ Below w.heap.size w w' :=
  beside_ok (n := 2) (i := 1) (j := 0) (f := 0) (s := 0) ⟨by omega, by omega, by omega, by omega, by omega, by omega, by omega⟩ (by omega) w hF
theorem b2_any (w : World) (hF : Fr w) : Calls Tryd.prog 20 #[.int .i64 2, .int .i64 1, .int .i64 3] w fun e w' => e = .returned (.tuple #[.int .i64 23, .int .i64 1]) ∧ Below w.heap.size w w' :=
  beside_ok (n := 2) (i := 1) (j := 0) (f := 0) (s := 3) ⟨by omega, by omega, by omega, by omega, by omega, by omega, by omega⟩ (by omega) w hF
theorem t1_any (w : World) (hF : Fr w) : Calls Tryd.prog 22 #[.int .i64 2, .int .i64 4, .int .i64 1] w fun e w' => e = .returned (.tuple #[.int .i64 6, .int .i64 2]) ∧ Below w.heap.size w w' :=
  turn_ok (n := 2) (i := 1) (j := 0) (f := 0) (t := 4) ⟨by omega, by omega, by omega, by omega, by omega, by omega, by omega⟩ (by omega) w hF
theorem p1_any (w : World) : Calls Tryd.prog 12 #[.int .i64 3, .int .i64 44] w fun e w' => e = .returned (.tuple #[.int .i64 4, .int .i64 2, .int .i64 2, .bool true]) ∧ Below w.heap.size w w' :=
  place_ok (n := 3) (i := 2) (j := 2) (f := 4) ⟨by omega, by omega, by omega, by omega, by omega, by omega, by omega⟩ w
theorem a1_any (w : World) (hF : Fr w) : Calls Tryd.prog 18 #[.int .i64 1, .int .i64 4] w fun e w' => e = .returned (.int .i64 12) ∧ Below w.heap.size w w' := after_at 1 4 (by omega) (by omega) w hF
theorem c1_any (w : World) : Calls Tryd.prog 14 #[.int .i64 2] w fun e w' => e = .returned (.int .i64 24) ∧ w = w' := cells_any 2 w
theorem c2_any (w : World) : Calls Tryd.prog 16 #[.int .i64 3, .int .i64 4, .int .i64 2, .int .i64 2] w fun e w' => e = .returned (.int .i64 44) ∧ w = w' := cell_any 3 4 2 2 w
set_option maxRecDepth 100000 in
set_option maxHeartbeats 400000 in
theorem awake_any (w : World) (hF : Fr w) : Calls Tryd.prog 11 #[] w fun e w' => e = .returned (.bool true) ∧ Below w.heap.size w w' := by
  have h0 : Below w.heap.size w w := Below.refl _ _
  go_enter Tryd.func11, Tryd.ntmps11
  go_wp2_with (first | (go_at_call 20; ((with_reducible refine (belC (B := w.heap.size) (w := w) (b1_any _ (hF.below (by with_reducible assumption))) (by with_reducible assumption) (Nat.le_refl _)).mono ?_)); rintro e w1 ⟨rfl, hB⟩) | (go_at_call 20; ((with_reducible refine (belC (B := w.heap.size) (w := w) (b2_any _ (hF.below (by with_reducible assumption))) (by with_reducible assumption) (Nat.le_refl _)).mono ?_)); rintro e w1 ⟨rfl, hB⟩) | (go_at_call 22; ((with_reducible refine (belC (B := w.heap.size) (w := w) (t1_any _ (hF.below (by with_reducible assumption))) (by with_reducible assumption) (Nat.le_refl _)).mono ?_)); rintro e w1 ⟨rfl, hB⟩) | (go_at_call 12; ((with_reducible refine (belC (B := w.heap.size) (w := w) (p1_any _) (by with_reducible assumption) (Nat.le_refl _)).mono ?_)); rintro e w1 ⟨rfl, hB⟩) | (go_at_call 18; ((with_reducible refine (belC (B := w.heap.size) (w := w) (a1_any _ (hF.below (by with_reducible assumption))) (by with_reducible assumption) (Nat.le_refl _)).mono ?_)); rintro e w1 ⟨rfl, hB⟩) | (go_at_call 14; ((with_reducible refine (c1_any _).mono ?_)); rintro e w1 ⟨rfl, rfl⟩) | (go_at_call 16; ((with_reducible refine (c2_any _).mono ?_)); rintro e w1 ⟨rfl, rfl⟩))
  go_ret
  exact ⟨rfl, by assumption⟩
end Go.Proofs.YtbfbafoeifigfaaDoor
