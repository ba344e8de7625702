/- Lengths, gaps and areas. (Printed by gen_length.py.) -/
import Derived.Test.YtkjjecghbhppgaaGreatDoorK14
namespace Go.Proofs.YtkjjecghbhppgaaGreatDoor
open Go.RowKit TF

attribute [local go_sem] cmp_eq cmp_ne cmp_lt cmp_gt cmp_le cmp_ge run_store_float

theorem gap_in {args : Array Value} {W w1 : World} {r : Ending} (h : ∀ w1 : World, Calls Tryz.prog 27 args w1 fun e w' => e = r ∧ Below w1.heap.size w1 w') (hb : Below W.heap.size W w1) : Calls Tryz.prog 27 args w1 fun e w' => e = r ∧ Below W.heap.size W w' :=
  (h w1).mono fun _ _ ⟨he, hB⟩ => ⟨he, hb.trans (hB.mono hb.size)⟩

set_option maxRecDepth 100000 in
set_option maxHeartbeats 4000000 in
theorem length_0 (n f : Nat) (i j : Int) (h : On n f i j) (w : World) (hG : FrG w) :
    Calls Tryz.prog 11 #[.int .i64 n, .int .i64 (cellN n f i j), .int .i64 0] w fun e w' => e = .returned (.float .f64 (CG n f (i + 1) j (i + 1) (j + 1))) ∧ Below w.heap.size w w' := by
  obtain ⟨hf, g1, g2, i0, i1, j0, j1⟩ := (⟨h.f6, h.n1, h.n32, h.i0, h.i1, h.j0, h.j1⟩ : f < 6 ∧ 1 ≤ (n : Int) ∧ (n : Int) ≤ 32 ∧ 0 ≤ i ∧ i < n ∧ 0 ≤ j ∧ j < n)
  have h1 : 1 ≤ n := by omega
  have h2 : n ≤ 32 := by omega
  obtain ⟨fa, fb, fc⟩ := c_fw (i := i + 1) (j := j) h1 h2 hf (by omega) (by omega) (by omega) (by omega)
  obtain ⟨fx, fy, fz⟩ := c_fw (i := i + 1) (j := j + 1) h1 h2 hf (by omega) (by omega) (by omega) (by omega)
  have KG := Lib.hid (gap_any _ _ _ _ _ _ fa fb fc fx fy fz)
  have hcor := fun w => corners_any n f i j h w
  obtain ⟨N, hN⟩ : ∃ N : Int, N = n := ⟨_, rfl⟩
  obtain ⟨C, hC⟩ : ∃ C : Int, C = cellN n f i j := ⟨_, rfl⟩
  rw [← hC, ← hN] at hcor ⊢
  unfold CG
  generalize CX n f i j = c0 at hcor
  generalize CY n f i j = c1 at hcor
  generalize CZ n f i j = c2 at hcor
  generalize CX n f (i + 1) j = c3 at hcor KG ⊢
  generalize CY n f (i + 1) j = c4 at hcor KG ⊢
  generalize CZ n f (i + 1) j = c5 at hcor KG ⊢
  generalize CX n f (i + 1) (j + 1) = c6 at hcor KG ⊢
  generalize CY n f (i + 1) (j + 1) = c7 at hcor KG ⊢
  generalize CZ n f (i + 1) (j + 1) = c8 at hcor KG ⊢
  generalize CX n f i (j + 1) = c9 at hcor
  generalize CY n f i (j + 1) = c10 at hcor
  generalize CZ n f i (j + 1) = c11 at hcor
  generalize vgap c3 c4 c5 c6 c7 c8 = r at KG ⊢
  have KC := Lib.hid hcor
  have HG := Lib.hid hG
  clear hcor hN hC h h1 h2 hf g1 g2 i0 i1 j0 j1 hG fa fb fc fx fy fz
  have ki : ∀ w : World, (Instr.index 73 (.agg #[.int .i64 1, .int .i64 2, .int .i64 3, .int .i64 2, .int .i64 0, .int .i64 3, .int .i64 0, .int .i64 1]) (.int .i64 0)).run Tryz.prog w = .ok (.agg #[.int .i64 1, .int .i64 2]) w := fun w => by kernel_rfl
  go_enter Tryz.func11, Tryz.ntmps11
  go_wp2_with (first | (go_at_call 26; ((with_reducible refine (KC.out _ HG.out).mono ?_)); rintro e w1 ⟨rfl, hB1⟩))
  obtain ⟨W, hW⟩ : ∃ W : World, W = (w1.alloc (.cells #[.float .f64 c0, .float .f64 c1, .float .f64 c2, .float .f64 c3, .float .f64 c4, .float .f64 c5, .float .f64 c6, .float .f64 c7, .float .f64 c8, .float .f64 c9, .float .f64 c10, .float .f64 c11] 70)).alloc (.cells #[.int .i64 1, .int .i64 2] 64) := ⟨_, rfl⟩
  have hBW : Below w.heap.size w W := by rw [hW]; exact (hB1.alloc hB1.size _).alloc (by have := hB1.size; simp; omega) _
  have hcl : W.cell? ⟨w1.heap.size + 1, 0, none⟩ = some (.int .i64 1) ∧ W.cell? ⟨w1.heap.size + 1, 1, none⟩ = some (.int .i64 2) ∧ W.cell? ⟨w1.heap.size, 3, none⟩ = some (.float .f64 c3) ∧ W.cell? ⟨w1.heap.size, 4, none⟩ = some (.float .f64 c4) ∧ W.cell? ⟨w1.heap.size, 5, none⟩ = some (.float .f64 c5) ∧ W.cell? ⟨w1.heap.size, 6, none⟩ = some (.float .f64 c6) ∧ W.cell? ⟨w1.heap.size, 7, none⟩ = some (.float .f64 c7) ∧ W.cell? ⟨w1.heap.size, 8, none⟩ = some (.float .f64 c8) := by subst hW; exact ⟨by simp [go_sem], by simp [go_sem], by simp [go_sem], by simp [go_sem], by simp [go_sem], by simp [go_sem], by simp [go_sem], by simp [go_sem]⟩
  have hs1 : w1.heap.size + 1 < W.heap.size := by subst hW; simp
  rw [← hW]
  have KEEP : Hid (∀ v : World, Below W.heap.size W v → v.cell? ⟨w1.heap.size + 1, 0, none⟩ = some (.int .i64 1) ∧ v.cell? ⟨w1.heap.size + 1, 1, none⟩ = some (.int .i64 2) ∧ v.cell? ⟨w1.heap.size, 3, none⟩ = some (.float .f64 c3) ∧ v.cell? ⟨w1.heap.size, 4, none⟩ = some (.float .f64 c4) ∧ v.cell? ⟨w1.heap.size, 5, none⟩ = some (.float .f64 c5) ∧ v.cell? ⟨w1.heap.size, 6, none⟩ = some (.float .f64 c6) ∧ v.cell? ⟨w1.heap.size, 7, none⟩ = some (.float .f64 c7) ∧ v.cell? ⟨w1.heap.size, 8, none⟩ = some (.float .f64 c8) ∧ Below W.heap.size W v) := Lib.hid (fun v hv => by
    obtain ⟨hd, -⟩ := bcell hv
    obtain ⟨e0, e1, e2, e3, e4, e5, e6, e7⟩ := hcl
    exact ⟨(hd _ _ (by omega)).trans e0, (hd _ _ (by omega)).trans e1, (hd _ _ (by omega)).trans e2, (hd _ _ (by omega)).trans e3, (hd _ _ (by omega)).trans e4, (hd _ _ (by omega)).trans e5, (hd _ _ (by omega)).trans e6, (hd _ _ (by omega)).trans e7, hv⟩)
  have hw0 : Below W.heap.size W W := Below.refl _ _
  obtain ⟨e0, e1, e2, e3, e4, e5, e6, e7⟩ := hcl
  clear hW hB1
  go_region_held3 (fun v => v.cell? ⟨w1.heap.size + 1, 0, none⟩ = some (.int .i64 1) ∧ v.cell? ⟨w1.heap.size + 1, 1, none⟩ = some (.int .i64 2) ∧ v.cell? ⟨w1.heap.size, 3, none⟩ = some (.float .f64 c3) ∧ v.cell? ⟨w1.heap.size, 4, none⟩ = some (.float .f64 c4) ∧ v.cell? ⟨w1.heap.size, 5, none⟩ = some (.float .f64 c5) ∧ v.cell? ⟨w1.heap.size, 6, none⟩ = some (.float .f64 c6) ∧ v.cell? ⟨w1.heap.size, 7, none⟩ = some (.float .f64 c7) ∧ v.cell? ⟨w1.heap.size, 8, none⟩ = some (.float .f64 c8) ∧ Below W.heap.size W v)
    (first | exact KEEP.out _ (by with_reducible assumption) | exact KEEP.out _ (Below.drew (by with_reducible assumption)))
    (first | (go_at_call 27; ((with_reducible refine (gap_in KG.out (by first | with_reducible assumption | with_reducible exact Below.drew (by with_reducible assumption))).mono ?_)); rintro e w2 ⟨rfl, hB2⟩))
  go_wp2
  go_ret
  exact ⟨rfl, hBW.trans ((by first | with_reducible assumption | with_reducible exact Below.drew (by with_reducible assumption) : Below W.heap.size W _).mono hBW.size)⟩

set_option maxRecDepth 100000 in
set_option maxHeartbeats 4000000 in
theorem length_1 (n f : Nat) (i j : Int) (h : On n f i j) (w : World) (hG : FrG w) :
    Calls Tryz.prog 11 #[.int .i64 n, .int .i64 (cellN n f i j), .int .i64 1] w fun e w' => e = .returned (.float .f64 (CG n f i (j + 1) (i + 1) (j + 1))) ∧ Below w.heap.size w w' := by
  obtain ⟨hf, g1, g2, i0, i1, j0, j1⟩ := (⟨h.f6, h.n1, h.n32, h.i0, h.i1, h.j0, h.j1⟩ : f < 6 ∧ 1 ≤ (n : Int) ∧ (n : Int) ≤ 32 ∧ 0 ≤ i ∧ i < n ∧ 0 ≤ j ∧ j < n)
  have h1 : 1 ≤ n := by omega
  have h2 : n ≤ 32 := by omega
  obtain ⟨fa, fb, fc⟩ := c_fw (i := i) (j := j + 1) h1 h2 hf (by omega) (by omega) (by omega) (by omega)
  obtain ⟨fx, fy, fz⟩ := c_fw (i := i + 1) (j := j + 1) h1 h2 hf (by omega) (by omega) (by omega) (by omega)
  have KG := Lib.hid (gap_any _ _ _ _ _ _ fa fb fc fx fy fz)
  have hcor := fun w => corners_any n f i j h w
  obtain ⟨N, hN⟩ : ∃ N : Int, N = n := ⟨_, rfl⟩
  obtain ⟨C, hC⟩ : ∃ C : Int, C = cellN n f i j := ⟨_, rfl⟩
  rw [← hC, ← hN] at hcor ⊢
  unfold CG
  generalize CX n f i j = c0 at hcor
  generalize CY n f i j = c1 at hcor
  generalize CZ n f i j = c2 at hcor
  generalize CX n f (i + 1) j = c3 at hcor
  generalize CY n f (i + 1) j = c4 at hcor
  generalize CZ n f (i + 1) j = c5 at hcor
  generalize CX n f (i + 1) (j + 1) = c6 at hcor KG ⊢
  generalize CY n f (i + 1) (j + 1) = c7 at hcor KG ⊢
  generalize CZ n f (i + 1) (j + 1) = c8 at hcor KG ⊢
  generalize CX n f i (j + 1) = c9 at hcor KG ⊢
  generalize CY n f i (j + 1) = c10 at hcor KG ⊢
  generalize CZ n f i (j + 1) = c11 at hcor KG ⊢
  generalize vgap c9 c10 c11 c6 c7 c8 = r at KG ⊢
  have KC := Lib.hid hcor
  have HG := Lib.hid hG
  clear hcor hN hC h h1 h2 hf g1 g2 i0 i1 j0 j1 hG fa fb fc fx fy fz
  have ki : ∀ w : World, (Instr.index 73 (.agg #[.int .i64 1, .int .i64 2, .int .i64 3, .int .i64 2, .int .i64 0, .int .i64 3, .int .i64 0, .int .i64 1]) (.int .i64 1)).run Tryz.prog w = .ok (.agg #[.int .i64 3, .int .i64 2]) w := fun w => by kernel_rfl
  go_enter Tryz.func11, Tryz.ntmps11
  go_wp2_with (first | (go_at_call 26; ((with_reducible refine (KC.out _ HG.out).mono ?_)); rintro e w1 ⟨rfl, hB1⟩))
  obtain ⟨W, hW⟩ : ∃ W : World, W = (w1.alloc (.cells #[.float .f64 c0, .float .f64 c1, .float .f64 c2, .float .f64 c3, .float .f64 c4, .float .f64 c5, .float .f64 c6, .float .f64 c7, .float .f64 c8, .float .f64 c9, .float .f64 c10, .float .f64 c11] 70)).alloc (.cells #[.int .i64 3, .int .i64 2] 64) := ⟨_, rfl⟩
  have hBW : Below w.heap.size w W := by rw [hW]; exact (hB1.alloc hB1.size _).alloc (by have := hB1.size; simp; omega) _
  have hcl : W.cell? ⟨w1.heap.size + 1, 0, none⟩ = some (.int .i64 3) ∧ W.cell? ⟨w1.heap.size + 1, 1, none⟩ = some (.int .i64 2) ∧ W.cell? ⟨w1.heap.size, 6, none⟩ = some (.float .f64 c6) ∧ W.cell? ⟨w1.heap.size, 7, none⟩ = some (.float .f64 c7) ∧ W.cell? ⟨w1.heap.size, 8, none⟩ = some (.float .f64 c8) ∧ W.cell? ⟨w1.heap.size, 9, none⟩ = some (.float .f64 c9) ∧ W.cell? ⟨w1.heap.size, 10, none⟩ = some (.float .f64 c10) ∧ W.cell? ⟨w1.heap.size, 11, none⟩ = some (.float .f64 c11) := by subst hW; exact ⟨by simp [go_sem], by simp [go_sem], by simp [go_sem], by simp [go_sem], by simp [go_sem], by simp [go_sem], by simp [go_sem], by simp [go_sem]⟩
  have hs1 : w1.heap.size + 1 < W.heap.size := by subst hW; simp
  rw [← hW]
  have KEEP : Hid (∀ v : World, Below W.heap.size W v → v.cell? ⟨w1.heap.size + 1, 0, none⟩ = some (.int .i64 3) ∧ v.cell? ⟨w1.heap.size + 1, 1, none⟩ = some (.int .i64 2) ∧ v.cell? ⟨w1.heap.size, 6, none⟩ = some (.float .f64 c6) ∧ v.cell? ⟨w1.heap.size, 7, none⟩ = some (.float .f64 c7) ∧ v.cell? ⟨w1.heap.size, 8, none⟩ = some (.float .f64 c8) ∧ v.cell? ⟨w1.heap.size, 9, none⟩ = some (.float .f64 c9) ∧ v.cell? ⟨w1.heap.size, 10, none⟩ = some (.float .f64 c10) ∧ v.cell? ⟨w1.heap.size, 11, none⟩ = some (.float .f64 c11) ∧ Below W.heap.size W v) := Lib.hid (fun v hv => by
    obtain ⟨hd, -⟩ := bcell hv
    obtain ⟨e0, e1, e2, e3, e4, e5, e6, e7⟩ := hcl
    exact ⟨(hd _ _ (by omega)).trans e0, (hd _ _ (by omega)).trans e1, (hd _ _ (by omega)).trans e2, (hd _ _ (by omega)).trans e3, (hd _ _ (by omega)).trans e4, (hd _ _ (by omega)).trans e5, (hd _ _ (by omega)).trans e6, (hd _ _ (by omega)).trans e7, hv⟩)
  have hw0 : Below W.heap.size W W := Below.refl _ _
  obtain ⟨e0, e1, e2, e3, e4, e5, e6, e7⟩ := hcl
  clear hW hB1
  go_region_held3 (fun v => v.cell? ⟨w1.heap.size + 1, 0, none⟩ = some (.int .i64 3) ∧ v.cell? ⟨w1.heap.size + 1, 1, none⟩ = some (.int .i64 2) ∧ v.cell? ⟨w1.heap.size, 6, none⟩ = some (.float .f64 c6) ∧ v.cell? ⟨w1.heap.size, 7, none⟩ = some (.float .f64 c7) ∧ v.cell? ⟨w1.heap.size, 8, none⟩ = some (.float .f64 c8) ∧ v.cell? ⟨w1.heap.size, 9, none⟩ = some (.float .f64 c9) ∧ v.cell? ⟨w1.heap.size, 10, none⟩ = some (.float .f64 c10) ∧ v.cell? ⟨w1.heap.size, 11, none⟩ = some (.float .f64 c11) ∧ Below W.heap.size W v)
    (first | exact KEEP.out _ (by with_reducible assumption) | exact KEEP.out _ (Below.drew (by with_reducible assumption)))
    (first | (go_at_call 27; ((with_reducible refine (gap_in KG.out (by first | with_reducible assumption | with_reducible exact Below.drew (by with_reducible assumption))).mono ?_)); rintro e w2 ⟨rfl, hB2⟩))
  go_wp2
  go_ret
  exact ⟨rfl, hBW.trans ((by first | with_reducible assumption | with_reducible exact Below.drew (by with_reducible assumption) : Below W.heap.size W _).mono hBW.size)⟩

set_option maxRecDepth 100000 in
set_option maxHeartbeats 4000000 in
theorem length_2 (n f : Nat) (i j : Int) (h : On n f i j) (w : World) (hG : FrG w) :
    Calls Tryz.prog 11 #[.int .i64 n, .int .i64 (cellN n f i j), .int .i64 2] w fun e w' => e = .returned (.float .f64 (CG n f i j i (j + 1))) ∧ Below w.heap.size w w' := by
  obtain ⟨hf, g1, g2, i0, i1, j0, j1⟩ := (⟨h.f6, h.n1, h.n32, h.i0, h.i1, h.j0, h.j1⟩ : f < 6 ∧ 1 ≤ (n : Int) ∧ (n : Int) ≤ 32 ∧ 0 ≤ i ∧ i < n ∧ 0 ≤ j ∧ j < n)
  have h1 : 1 ≤ n := by omega
  have h2 : n ≤ 32 := by omega
  obtain ⟨fa, fb, fc⟩ := c_fw (i := i) (j := j) h1 h2 hf (by omega) (by omega) (by omega) (by omega)
  obtain ⟨fx, fy, fz⟩ := c_fw (i := i) (j := j + 1) h1 h2 hf (by omega) (by omega) (by omega) (by omega)
  have KG := Lib.hid (gap_any _ _ _ _ _ _ fa fb fc fx fy fz)
  have hcor := fun w => corners_any n f i j h w
  obtain ⟨N, hN⟩ : ∃ N : Int, N = n := ⟨_, rfl⟩
  obtain ⟨C, hC⟩ : ∃ C : Int, C = cellN n f i j := ⟨_, rfl⟩
  rw [← hC, ← hN] at hcor ⊢
  unfold CG
  generalize CX n f i j = c0 at hcor KG ⊢
  generalize CY n f i j = c1 at hcor KG ⊢
  generalize CZ n f i j = c2 at hcor KG ⊢
  generalize CX n f (i + 1) j = c3 at hcor
  generalize CY n f (i + 1) j = c4 at hcor
  generalize CZ n f (i + 1) j = c5 at hcor
  generalize CX n f (i + 1) (j + 1) = c6 at hcor
  generalize CY n f (i + 1) (j + 1) = c7 at hcor
  generalize CZ n f (i + 1) (j + 1) = c8 at hcor
  generalize CX n f i (j + 1) = c9 at hcor KG ⊢
  generalize CY n f i (j + 1) = c10 at hcor KG ⊢
  generalize CZ n f i (j + 1) = c11 at hcor KG ⊢
  generalize vgap c0 c1 c2 c9 c10 c11 = r at KG ⊢
  have KC := Lib.hid hcor
  have HG := Lib.hid hG
  clear hcor hN hC h h1 h2 hf g1 g2 i0 i1 j0 j1 hG fa fb fc fx fy fz
  have ki : ∀ w : World, (Instr.index 73 (.agg #[.int .i64 1, .int .i64 2, .int .i64 3, .int .i64 2, .int .i64 0, .int .i64 3, .int .i64 0, .int .i64 1]) (.int .i64 2)).run Tryz.prog w = .ok (.agg #[.int .i64 0, .int .i64 3]) w := fun w => by kernel_rfl
  go_enter Tryz.func11, Tryz.ntmps11
  go_wp2_with (first | (go_at_call 26; ((with_reducible refine (KC.out _ HG.out).mono ?_)); rintro e w1 ⟨rfl, hB1⟩))
  obtain ⟨W, hW⟩ : ∃ W : World, W = (w1.alloc (.cells #[.float .f64 c0, .float .f64 c1, .float .f64 c2, .float .f64 c3, .float .f64 c4, .float .f64 c5, .float .f64 c6, .float .f64 c7, .float .f64 c8, .float .f64 c9, .float .f64 c10, .float .f64 c11] 70)).alloc (.cells #[.int .i64 0, .int .i64 3] 64) := ⟨_, rfl⟩
  have hBW : Below w.heap.size w W := by rw [hW]; exact (hB1.alloc hB1.size _).alloc (by have := hB1.size; simp; omega) _
  have hcl : W.cell? ⟨w1.heap.size + 1, 0, none⟩ = some (.int .i64 0) ∧ W.cell? ⟨w1.heap.size + 1, 1, none⟩ = some (.int .i64 3) ∧ W.cell? ⟨w1.heap.size, 0, none⟩ = some (.float .f64 c0) ∧ W.cell? ⟨w1.heap.size, 1, none⟩ = some (.float .f64 c1) ∧ W.cell? ⟨w1.heap.size, 2, none⟩ = some (.float .f64 c2) ∧ W.cell? ⟨w1.heap.size, 9, none⟩ = some (.float .f64 c9) ∧ W.cell? ⟨w1.heap.size, 10, none⟩ = some (.float .f64 c10) ∧ W.cell? ⟨w1.heap.size, 11, none⟩ = some (.float .f64 c11) := by subst hW; exact ⟨by simp [go_sem], by simp [go_sem], by simp [go_sem], by simp [go_sem], by simp [go_sem], by simp [go_sem], by simp [go_sem], by simp [go_sem]⟩
  have hs1 : w1.heap.size + 1 < W.heap.size := by subst hW; simp
  rw [← hW]
  have KEEP : Hid (∀ v : World, Below W.heap.size W v → v.cell? ⟨w1.heap.size + 1, 0, none⟩ = some (.int .i64 0) ∧ v.cell? ⟨w1.heap.size + 1, 1, none⟩ = some (.int .i64 3) ∧ v.cell? ⟨w1.heap.size, 0, none⟩ = some (.float .f64 c0) ∧ v.cell? ⟨w1.heap.size, 1, none⟩ = some (.float .f64 c1) ∧ v.cell? ⟨w1.heap.size, 2, none⟩ = some (.float .f64 c2) ∧ v.cell? ⟨w1.heap.size, 9, none⟩ = some (.float .f64 c9) ∧ v.cell? ⟨w1.heap.size, 10, none⟩ = some (.float .f64 c10) ∧ v.cell? ⟨w1.heap.size, 11, none⟩ = some (.float .f64 c11) ∧ Below W.heap.size W v) := Lib.hid (fun v hv => by
    obtain ⟨hd, -⟩ := bcell hv
    obtain ⟨e0, e1, e2, e3, e4, e5, e6, e7⟩ := hcl
    exact ⟨(hd _ _ (by omega)).trans e0, (hd _ _ (by omega)).trans e1, (hd _ _ (by omega)).trans e2, (hd _ _ (by omega)).trans e3, (hd _ _ (by omega)).trans e4, (hd _ _ (by omega)).trans e5, (hd _ _ (by omega)).trans e6, (hd _ _ (by omega)).trans e7, hv⟩)
  have hw0 : Below W.heap.size W W := Below.refl _ _
  obtain ⟨e0, e1, e2, e3, e4, e5, e6, e7⟩ := hcl
  clear hW hB1
  go_region_held3 (fun v => v.cell? ⟨w1.heap.size + 1, 0, none⟩ = some (.int .i64 0) ∧ v.cell? ⟨w1.heap.size + 1, 1, none⟩ = some (.int .i64 3) ∧ v.cell? ⟨w1.heap.size, 0, none⟩ = some (.float .f64 c0) ∧ v.cell? ⟨w1.heap.size, 1, none⟩ = some (.float .f64 c1) ∧ v.cell? ⟨w1.heap.size, 2, none⟩ = some (.float .f64 c2) ∧ v.cell? ⟨w1.heap.size, 9, none⟩ = some (.float .f64 c9) ∧ v.cell? ⟨w1.heap.size, 10, none⟩ = some (.float .f64 c10) ∧ v.cell? ⟨w1.heap.size, 11, none⟩ = some (.float .f64 c11) ∧ Below W.heap.size W v)
    (first | exact KEEP.out _ (by with_reducible assumption) | exact KEEP.out _ (Below.drew (by with_reducible assumption)))
    (first | (go_at_call 27; ((with_reducible refine (gap_in KG.out (by first | with_reducible assumption | with_reducible exact Below.drew (by with_reducible assumption))).mono ?_)); rintro e w2 ⟨rfl, hB2⟩))
  go_wp2
  go_ret
  exact ⟨rfl, hBW.trans ((by first | with_reducible assumption | with_reducible exact Below.drew (by with_reducible assumption) : Below W.heap.size W _).mono hBW.size)⟩

set_option maxRecDepth 100000 in
set_option maxHeartbeats 4000000 in
theorem length_3 (n f : Nat) (i j : Int) (h : On n f i j) (w : World) (hG : FrG w) :
    Calls Tryz.prog 11 #[.int .i64 n, .int .i64 (cellN n f i j), .int .i64 3] w fun e w' => e = .returned (.float .f64 (CG n f i j (i + 1) j)) ∧ Below w.heap.size w w' := by
  obtain ⟨hf, g1, g2, i0, i1, j0, j1⟩ := (⟨h.f6, h.n1, h.n32, h.i0, h.i1, h.j0, h.j1⟩ : f < 6 ∧ 1 ≤ (n : Int) ∧ (n : Int) ≤ 32 ∧ 0 ≤ i ∧ i < n ∧ 0 ≤ j ∧ j < n)
  have h1 : 1 ≤ n := by omega
  have h2 : n ≤ 32 := by omega
  obtain ⟨fa, fb, fc⟩ := c_fw (i := i) (j := j) h1 h2 hf (by omega) (by omega) (by omega) (by omega)
  obtain ⟨fx, fy, fz⟩ := c_fw (i := i + 1) (j := j) h1 h2 hf (by omega) (by omega) (by omega) (by omega)
  have KG := Lib.hid (gap_any _ _ _ _ _ _ fa fb fc fx fy fz)
  have hcor := fun w => corners_any n f i j h w
  obtain ⟨N, hN⟩ : ∃ N : Int, N = n := ⟨_, rfl⟩
  obtain ⟨C, hC⟩ : ∃ C : Int, C = cellN n f i j := ⟨_, rfl⟩
  rw [← hC, ← hN] at hcor ⊢
  unfold CG
  generalize CX n f i j = c0 at hcor KG ⊢
  generalize CY n f i j = c1 at hcor KG ⊢
  generalize CZ n f i j = c2 at hcor KG ⊢
  generalize CX n f (i + 1) j = c3 at hcor KG ⊢
  generalize CY n f (i + 1) j = c4 at hcor KG ⊢
  generalize CZ n f (i + 1) j = c5 at hcor KG ⊢
  generalize CX n f (i + 1) (j + 1) = c6 at hcor
  generalize CY n f (i + 1) (j + 1) = c7 at hcor
  generalize CZ n f (i + 1) (j + 1) = c8 at hcor
  generalize CX n f i (j + 1) = c9 at hcor
  generalize CY n f i (j + 1) = c10 at hcor
  generalize CZ n f i (j + 1) = c11 at hcor
  generalize vgap c0 c1 c2 c3 c4 c5 = r at KG ⊢
  have KC := Lib.hid hcor
  have HG := Lib.hid hG
  clear hcor hN hC h h1 h2 hf g1 g2 i0 i1 j0 j1 hG fa fb fc fx fy fz
  have ki : ∀ w : World, (Instr.index 73 (.agg #[.int .i64 1, .int .i64 2, .int .i64 3, .int .i64 2, .int .i64 0, .int .i64 3, .int .i64 0, .int .i64 1]) (.int .i64 3)).run Tryz.prog w = .ok (.agg #[.int .i64 0, .int .i64 1]) w := fun w => by kernel_rfl
  go_enter Tryz.func11, Tryz.ntmps11
  go_wp2_with (first | (go_at_call 26; ((with_reducible refine (KC.out _ HG.out).mono ?_)); rintro e w1 ⟨rfl, hB1⟩))
  obtain ⟨W, hW⟩ : ∃ W : World, W = (w1.alloc (.cells #[.float .f64 c0, .float .f64 c1, .float .f64 c2, .float .f64 c3, .float .f64 c4, .float .f64 c5, .float .f64 c6, .float .f64 c7, .float .f64 c8, .float .f64 c9, .float .f64 c10, .float .f64 c11] 70)).alloc (.cells #[.int .i64 0, .int .i64 1] 64) := ⟨_, rfl⟩
  have hBW : Below w.heap.size w W := by rw [hW]; exact (hB1.alloc hB1.size _).alloc (by have := hB1.size; simp; omega) _
  have hcl : W.cell? ⟨w1.heap.size + 1, 0, none⟩ = some (.int .i64 0) ∧ W.cell? ⟨w1.heap.size + 1, 1, none⟩ = some (.int .i64 1) ∧ W.cell? ⟨w1.heap.size, 0, none⟩ = some (.float .f64 c0) ∧ W.cell? ⟨w1.heap.size, 1, none⟩ = some (.float .f64 c1) ∧ W.cell? ⟨w1.heap.size, 2, none⟩ = some (.float .f64 c2) ∧ W.cell? ⟨w1.heap.size, 3, none⟩ = some (.float .f64 c3) ∧ W.cell? ⟨w1.heap.size, 4, none⟩ = some (.float .f64 c4) ∧ W.cell? ⟨w1.heap.size, 5, none⟩ = some (.float .f64 c5) := by subst hW; exact ⟨by simp [go_sem], by simp [go_sem], by simp [go_sem], by simp [go_sem], by simp [go_sem], by simp [go_sem], by simp [go_sem], by simp [go_sem]⟩
  have hs1 : w1.heap.size + 1 < W.heap.size := by subst hW; simp
  rw [← hW]
  have KEEP : Hid (∀ v : World, Below W.heap.size W v → v.cell? ⟨w1.heap.size + 1, 0, none⟩ = some (.int .i64 0) ∧ v.cell? ⟨w1.heap.size + 1, 1, none⟩ = some (.int .i64 1) ∧ v.cell? ⟨w1.heap.size, 0, none⟩ = some (.float .f64 c0) ∧ v.cell? ⟨w1.heap.size, 1, none⟩ = some (.float .f64 c1) ∧ v.cell? ⟨w1.heap.size, 2, none⟩ = some (.float .f64 c2) ∧ v.cell? ⟨w1.heap.size, 3, none⟩ = some (.float .f64 c3) ∧ v.cell? ⟨w1.heap.size, 4, none⟩ = some (.float .f64 c4) ∧ v.cell? ⟨w1.heap.size, 5, none⟩ = some (.float .f64 c5) ∧ Below W.heap.size W v) := Lib.hid (fun v hv => by
    obtain ⟨hd, -⟩ := bcell hv
    obtain ⟨e0, e1, e2, e3, e4, e5, e6, e7⟩ := hcl
    exact ⟨(hd _ _ (by omega)).trans e0, (hd _ _ (by omega)).trans e1, (hd _ _ (by omega)).trans e2, (hd _ _ (by omega)).trans e3, (hd _ _ (by omega)).trans e4, (hd _ _ (by omega)).trans e5, (hd _ _ (by omega)).trans e6, (hd _ _ (by omega)).trans e7, hv⟩)
  have hw0 : Below W.heap.size W W := Below.refl _ _
  obtain ⟨e0, e1, e2, e3, e4, e5, e6, e7⟩ := hcl
  clear hW hB1
  go_region_held3 (fun v => v.cell? ⟨w1.heap.size + 1, 0, none⟩ = some (.int .i64 0) ∧ v.cell? ⟨w1.heap.size + 1, 1, none⟩ = some (.int .i64 1) ∧ v.cell? ⟨w1.heap.size, 0, none⟩ = some (.float .f64 c0) ∧ v.cell? ⟨w1.heap.size, 1, none⟩ = some (.float .f64 c1) ∧ v.cell? ⟨w1.heap.size, 2, none⟩ = some (.float .f64 c2) ∧ v.cell? ⟨w1.heap.size, 3, none⟩ = some (.float .f64 c3) ∧ v.cell? ⟨w1.heap.size, 4, none⟩ = some (.float .f64 c4) ∧ v.cell? ⟨w1.heap.size, 5, none⟩ = some (.float .f64 c5) ∧ Below W.heap.size W v)
    (first | exact KEEP.out _ (by with_reducible assumption) | exact KEEP.out _ (Below.drew (by with_reducible assumption)))
    (first | (go_at_call 27; ((with_reducible refine (gap_in KG.out (by first | with_reducible assumption | with_reducible exact Below.drew (by with_reducible assumption))).mono ?_)); rintro e w2 ⟨rfl, hB2⟩))
  go_wp2
  go_ret
  exact ⟨rfl, hBW.trans ((by first | with_reducible assumption | with_reducible exact Below.drew (by with_reducible assumption) : Below W.heap.size W _).mono hBW.size)⟩

end Go.Proofs.YtkjjecghbhppgaaGreatDoor
