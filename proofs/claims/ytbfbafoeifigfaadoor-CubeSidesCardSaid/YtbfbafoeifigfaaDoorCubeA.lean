/- The cube's leaves: ways in whole numbers. -/
import Derived.Test.YtbfbafoeifigfaaDoorRows
import Derived.Test.YtbfbafoeifigfaaDoorCubeF
import Derived.Laws.EntriesVeiled
import Derived.Outline
import Derived.Deep.QuietTactic
import Derived.BigQuiet
namespace Go.Proofs.YtbfbafoeifigfaaDoor
open Go.RowKit TF

theorem bel1 (w : World) (a : Obj) : Below w.heap.size w (w.alloc a) := (Below.refl _ _).alloc (Nat.le_refl _) _
theorem bel2 (w : World) (a b : Obj) : Below w.heap.size w ((w.alloc a).alloc b) := (bel1 w a).alloc (by simp) _
theorem bel3 (w : World) (a b c : Obj) : Below w.heap.size w (((w.alloc a).alloc b).alloc c) := (bel2 w a b).alloc (by simp; omega) _

/-- A way in a block of its own; a frame. -/
def wayBox (x y z : Int) : Obj := .cells #[.int .i64 x, .int .i64 y, .int .i64 z] 39
def frBox (a b c d e f g h i : Int) : Obj := .cells #[.int .i64 a, .int .i64 b, .int .i64 c, .int .i64 d, .int .i64 e, .int .i64 f, .int .i64 g, .int .i64 h, .int .i64 i] 41
theorem wayBox_eq (x y z : Int) : Obj.cells #[.int .i64 x, .int .i64 y, .int .i64 z] 39 = wayBox x y z := rfl

theorem times_ex (x y z k : Int) (hu : U3 x y z) (hk : In 4000 k) (w : World) :
    Calls Tryd.prog 42 #[.agg #[.int .i64 x, .int .i64 y, .int .i64 z], .int .i64 k] w fun e w' => e = .returned (.agg #[.int .i64 (k * x), .int .i64 (k * y), .int .i64 (k * z)]) ∧
      (w.alloc (.cells #[.int .i64 x, .int .i64 y, .int .i64 z] 39)).alloc (.cells #[.int .i64 (k * x), .int .i64 (k * y), .int .i64 (k * z)] 39) = w' := by
  obtain ⟨h1, h2⟩ := hk.mul hu.x (by omega)
  obtain ⟨h3, h4⟩ := hk.mul hu.y (by omega)
  obtain ⟨h5, h6⟩ := hk.mul hu.z (by omega)
  clear hu hk
  go_enter Tryd.func42, Tryd.ntmps42
  go_wp2_with fail
  exact bodyPost_ret (v := .agg #[.int .i64 (k * x), .int .i64 (k * y), .int .i64 (k * z)]) (by simp [results, Tryd.results42, go_sem]) rfl ⟨rfl, rfl⟩
theorem plus_ex (x y z a b c : Int) (hu : I3 4000 x y z) (hv : I3 4000 a b c) (w : World) :
    Calls Tryd.prog 33 #[.agg #[.int .i64 x, .int .i64 y, .int .i64 z], .agg #[.int .i64 a, .int .i64 b, .int .i64 c]] w fun e w' => e = .returned (.agg #[.int .i64 (x + a), .int .i64 (y + b), .int .i64 (z + c)]) ∧
      ((w.alloc (.cells #[.int .i64 x, .int .i64 y, .int .i64 z] 39)).alloc (.cells #[.int .i64 a, .int .i64 b, .int .i64 c] 39)).alloc (.cells #[.int .i64 (x + a), .int .i64 (y + b), .int .i64 (z + c)] 39) = w' := by
  obtain ⟨⟨h1, h2⟩, ⟨h3, h4⟩, ⟨h5, h6⟩⟩ := hu
  obtain ⟨⟨g1, g2⟩, ⟨g3, g4⟩, ⟨g5, g6⟩⟩ := hv
  go_enter Tryd.func33, Tryd.ntmps33
  go_wp2_with fail
  exact bodyPost_ret (v := .agg #[.int .i64 (x + a), .int .i64 (y + b), .int .i64 (z + c)]) (by simp [results, Tryd.results33, go_sem]) rfl ⟨rfl, rfl⟩
theorem dot_ex (x y z a b c : Int) (hu : I3 4000 x y z) (hv : U3 a b c) (w : World) :
    Calls Tryd.prog 35 #[.agg #[.int .i64 x, .int .i64 y, .int .i64 z], .agg #[.int .i64 a, .int .i64 b, .int .i64 c]] w fun e w' => e = .returned (.int .i64 (x * a + y * b + z * c)) ∧
      (w.alloc (.cells #[.int .i64 x, .int .i64 y, .int .i64 z] 39)).alloc (.cells #[.int .i64 a, .int .i64 b, .int .i64 c] 39) = w' := by
  obtain ⟨h1, h2⟩ := hu.x.mul hv.x (by omega)
  obtain ⟨h3, h4⟩ := hu.y.mul hv.y (by omega)
  obtain ⟨h5, h6⟩ := hu.z.mul hv.z (by omega)
  clear hu hv
  go_enter Tryd.func35, Tryd.ntmps35
  go_wp2_with fail
  go_ret
  exact ⟨rfl, rfl⟩
theorem times_any (x y z k : Int) (hu : U3 x y z) (hk : In 4000 k) (w : World) :
    Calls Tryd.prog 42 #[.agg #[.int .i64 x, .int .i64 y, .int .i64 z], .int .i64 k] w fun e w' => e = .returned (.agg #[.int .i64 (k * x), .int .i64 (k * y), .int .i64 (k * z)]) ∧ Below w.heap.size w w' :=
  (times_ex x y z k hu hk w).mono fun _ _ ⟨h1, h2⟩ => ⟨h1, h2 ▸ bel2 _ _ _⟩
theorem plus_any (x y z a b c : Int) (hu : I3 4000 x y z) (hv : I3 4000 a b c) (w : World) :
    Calls Tryd.prog 33 #[.agg #[.int .i64 x, .int .i64 y, .int .i64 z], .agg #[.int .i64 a, .int .i64 b, .int .i64 c]] w fun e w' => e = .returned (.agg #[.int .i64 (x + a), .int .i64 (y + b), .int .i64 (z + c)]) ∧ Below w.heap.size w w' :=
  (plus_ex x y z a b c hu hv w).mono fun _ _ ⟨h1, h2⟩ => ⟨h1, h2 ▸ bel3 _ _ _ _⟩
theorem dot_any (x y z a b c : Int) (hu : I3 4000 x y z) (hv : U3 a b c) (w : World) :
    Calls Tryd.prog 35 #[.agg #[.int .i64 x, .int .i64 y, .int .i64 z], .agg #[.int .i64 a, .int .i64 b, .int .i64 c]] w fun e w' => e = .returned (.int .i64 (x * a + y * b + z * c)) ∧ Below w.heap.size w w' :=
  (dot_ex x y z a b c hu hv w).mono fun _ _ ⟨h1, h2⟩ => ⟨h1, h2 ▸ bel2 _ _ _⟩
theorem good_any (n : Int) (w : World) :
    Calls Tryd.prog 25 #[.int .i64 n] w fun e w' => e = .returned (.bool (goodB n)) ∧ w = w' := by
  rcases good_cases n with ⟨e, h⟩ | ⟨e, h1, h2⟩ | ⟨e, h1, h2⟩
  · rw [e]; clear e
    go_enter Tryd.func25, Tryd.ntmps25
    go_wp2_with fail
    go_ret
    exact ⟨rfl, rfl⟩
  · have hd : decide (n ≤ 32) = false := by simpa using h2
    rw [e]; clear e
    go_enter Tryd.func25, Tryd.ntmps25
    go_wp2_with fail
    go_ret
    exact ⟨rfl, rfl⟩
  · have hd : decide (n ≤ 32) = true := by simpa using h2
    rw [e]; clear e
    go_enter Tryd.func25, Tryd.ntmps25
    go_wp2_with fail
    go_ret
    exact ⟨rfl, rfl⟩
theorem cells_any (n : Int) (w : World) :
    Calls Tryd.prog 14 #[.int .i64 n] w fun e w' => e = .returned (.int .i64 (cellsI n)) ∧ w = w' := by
  rcases cells_cases n with ⟨g, e⟩ | ⟨g, e, h1, h2, h3, h4⟩
  all_goals
    rw [e]; clear e
    go_enter Tryd.func14, Tryd.ntmps14
    go_wp2_with (go_at_call 25; refine (good_any _ _).mono ?_; rintro e w' ⟨rfl, rfl⟩)
    go_ret
    exact ⟨rfl, rfl⟩
theorem ret_int {k : IntKind} {a b : Int} (h : a = b) : Ending.returned (.int k a) = .returned (.int k b) := by rw [h]
theorem index_any (n a : Int) (h : In 20000 a) (h1 : 1 ≤ n) (h2 : n ≤ 32) (w : World) :
    Calls Tryd.prog 34 #[.int .i64 n, .int .i64 a] w fun e w' => e = .returned (.int .i64 (indexI n a)) ∧ w = w' := by
  obtain ⟨g1, g2⟩ := h
  unfold indexI
  go_enter Tryd.func34, Tryd.ntmps34
  go_wp2_with fail
  all_goals
    go_ret
    exact ⟨ret_int (by omega), rfl⟩
theorem cell_any (n f i j : Int) (w : World) :
    Calls Tryd.prog 16 #[.int .i64 n, .int .i64 f, .int .i64 i, .int .i64 j] w fun e w' => e = .returned (.int .i64 (cellI n f i j)) ∧ w = w' := by
  rcases cell_cases n f i j with ⟨e, C⟩ | ⟨e, g, h1, h2, h3, h4, h5, h6, C⟩
  · rw [e]; clear e
    rcases C with g | ⟨g, h⟩ | ⟨g, h1, h⟩ | ⟨g, h1, h2, h⟩ | ⟨g, h1, h2, h3, h⟩ | ⟨g, h1, h2, h3, h4, h⟩ | ⟨g, h1, h2, h3, h4, h5, h⟩
    all_goals
      go_enter Tryd.func16, Tryd.ntmps16
      go_wp2_with (go_at_call 25; refine (good_any _ _).mono ?_; rintro e w' ⟨rfl, rfl⟩)
      go_ret
      exact ⟨rfl, rfl⟩
  · rw [e]; clear e
    obtain ⟨c1, c2, c3, c4, c5, c6⟩ := C
    go_enter Tryd.func16, Tryd.ntmps16
    go_wp2_with (go_at_call 25; refine (good_any _ _).mono ?_; rintro e w' ⟨rfl, rfl⟩)
    go_ret
    exact ⟨rfl, rfl⟩
theorem place_any (n c : Int) (w : World) :
    Calls Tryd.prog 12 #[.int .i64 n, .int .i64 c] w fun e w' => e = .returned (.tuple #[.int .i64 (placeI n c).1, .int .i64 (placeI n c).2.1, .int .i64 (placeI n c).2.2.1, .bool (placeI n c).2.2.2]) ∧ ∃ k, w' = w.drewN k := by
  rcases place_cases n c with ⟨e, C⟩ | ⟨e, h1, h2, h3, h4, h5, h6, h7⟩
  · rw [e]; clear e
    rcases C with h | ⟨h1, h2⟩
    all_goals
      go_enter Tryd.func12, Tryd.ntmps12
      go_wp2_with (go_at_call 14; refine (cells_any _ _).mono ?_; rintro e w' ⟨rfl, rfl⟩)
      exact bodyPost_ret (v := .tuple #[.int .i64 0, .int .i64 0, .int .i64 0, .bool false]) (by simp [results, Tryd.results12, go_sem]) rfl ⟨rfl, 0, rfl⟩
  · rw [e]; clear e
    go_enter Tryd.func12, Tryd.ntmps12
    go_wp2_with (go_at_call 14; refine (cells_any _ _).mono ?_; rintro e w' ⟨rfl, rfl⟩)
    go_quiet (fail)
    go_wp2
    exact bodyPost_ret (v := .tuple #[.int .i64 (c / (n * n)), .int .i64 (c % n), .int .i64 (c / n % n), .bool true]) (by simp [results, Tryd.results12, go_sem, place_mod h1 h7 h3]) rfl ⟨rfl, _, rfl⟩
end Go.Proofs.YtbfbafoeifigfaaDoor
