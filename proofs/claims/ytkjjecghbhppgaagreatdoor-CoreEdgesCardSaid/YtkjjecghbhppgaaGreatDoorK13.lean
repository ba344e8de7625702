/- Laid together: CubeD, CubeE. -/
import Derived.Test.YtkjjecghbhppgaaGreatDoorKCubeC
import Derived.Deep.CutRange
import Derived.Deep.DeepCutAuto
/- What lies beside a cell: over the edge of its face. -/
namespace Go.Proofs.YtkjjecghbhppgaaGreatDoor
open Go.RowKit TF

theorem place_at (n c i j : Int) (f : Nat) (h : placeI n c = ((f : Int), i, j, true)) (w : World) :
    Calls Tryz.prog 40 #[.int .i64 n, .int .i64 c] w fun e w' => e = .returned (.tuple #[.int .i64 f, .int .i64 i, .int .i64 j, .bool true]) ∧ Below w.heap.size w w' := by
  have := cplace_any n c w
  rw [h] at this
  exact this.mono fun _ _ ⟨h1, k, h2⟩ => ⟨h1, by rw [h2]; exact below_drewN (Below.refl _ _) _⟩
theorem cell_q (n f i j : Int) (w : World) :
    Calls Tryz.prog 41 #[.int .i64 n, .int .i64 f, .int .i64 i, .int .i64 j] w fun e w' => e = .returned (.int .i64 (cellI n f i j)) ∧ w' = w :=
  (cell_any n f i j w).mono fun _ _ ⟨h1, h2⟩ => ⟨h1, h2.symm⟩
theorem far0 {n f i j : Int} (h : cellI n f (i + DX 0) (j + DY 0) = -1) : Value.int .i64 (cellI n f (i + 1) j) = .int .i64 (-1) := by
  have e : cellI n f (i + 1) j = -1 := by simpa [DX, DY] using h
  rw [e]
theorem far1 {n f i j : Int} (h : cellI n f (i + DX 1) (j + DY 1) = -1) : Value.int .i64 (cellI n f i (j + 1)) = .int .i64 (-1) := by
  have e : cellI n f i (j + 1) = -1 := by simpa [DX, DY] using h
  rw [e]
theorem far2 {n f i j : Int} (h : cellI n f (i + DX 2) (j + DY 2) = -1) : Value.int .i64 (cellI n f (i + -1) j) = .int .i64 (-1) := by
  have e : cellI n f (i + -1) j = -1 := by simpa [DX, DY] using h
  rw [e]
theorem far3 {n f i j : Int} (h : cellI n f (i + DX 3) (j + DY 3) = -1) : Value.int .i64 (cellI n f i (j + -1)) = .int .i64 (-1) := by
  have e : cellI n f i (j + -1) = -1 := by simpa [DX, DY] using h
  rw [e]
theorem own_alloc (w : World) (x y z : Value) : Own3 (w.alloc (.cells #[x, y, z] 99)) w.heap.size := ⟨by simp [cellOr, go_sem], by simp [cellOr, go_sem], by simp [cellOr, go_sem], by simp [go_sem], by simp [go_sem], by simp [go_sem]⟩
theorem own_alloc' (w : World) (x y z : Value) : Own3 (w.alloc (.cells #[x, y, z] 99)).drew w.heap.size := (own_alloc w x y z).below (Below.drew (Below.refl _ _))
theorem belD {F : FuncId} {args : Array Value} {B : Nat} {w w1 : World} {r : Ending} (h : Calls Tryz.prog F args w1 fun e w' => e = r ∧ Below w1.heap.size w1 w') (hb : Below B w w1) (hB : B ≤ w.heap.size) : Calls Tryz.prog F args w1 fun e w' => e = r ∧ Below B w w' ∧ Below w1.heap.size w1 w' :=
  h.mono fun _ _ ⟨h1, h2⟩ => ⟨h1, hb.trans (h2.mono (Nat.le_trans hB hb.size)), h2⟩
theorem belC {F : FuncId} {args : Array Value} {B : Nat} {w w1 : World} {r : Ending} (h : Calls Tryz.prog F args w1 fun e w' => e = r ∧ Below w1.heap.size w1 w') (hb : Below B w w1) (hB : B ≤ w.heap.size) : Calls Tryz.prog F args w1 fun e w' => e = r ∧ Below B w w' :=
  h.mono fun _ _ ⟨h1, h2⟩ => ⟨h1, hb.trans (h2.mono (Nat.le_trans hB hb.size))⟩

theorem MI_i3 {n i j : Int} {f : Nat} (hf : f < 6) (h1 : 1 ≤ n) (h2 : n ≤ 32) (h3 : -33 ≤ i) (h4 : i ≤ 33) (h5 : -33 ≤ j) (h6 : j ≤ 33) : I3 4000 (MI n f i j 0) (MI n f i j 1) (MI n f i j 2) := by
  have a := MI_in hf h1 h2 h3 h4 h5 h6 0 (by omega)
  have b := MI_in hf h1 h2 h3 h4 h5 h6 1 (by omega)
  have c := MI_in hf h1 h2 h3 h4 h5 h6 2 (by omega)
  exact ⟨⟨by have := a.1; omega, by have := a.2; omega⟩, ⟨by have := b.1; omega, by have := b.2; omega⟩, ⟨by have := c.1; omega, by have := c.2; omega⟩⟩
theorem OU_i3 {s : Nat} {a b c x y z : Int} (h : U3 a b c) (g : U3 x y z) : I3 4000 (OU s a x) (OU s b y) (OU s c z) := by
  have p := OU_in (s := s) h.x g.x
  have q := OU_in (s := s) h.y g.y
  have r := OU_in (s := s) h.z g.z
  exact ⟨⟨by have := p.1; omega, by have := p.2; omega⟩, ⟨by have := q.1; omega, by have := q.2; omega⟩, ⟨by have := r.1; omega, by have := r.2; omega⟩⟩
theorem set3' {B : Nat} {w w1 : World} (h : Below B w w1) {b : Nat} (hb : B ≤ b) (x y z : Value) : Below B w (((w1.setCell ⟨b, 0, none⟩ x).setCell ⟨b, 1, none⟩ y).setCell ⟨b, 2, none⟩ z) := set3 h hb x y z
theorem PI_i3 {n i j : Int} {f s : Nat} (hf : f < 6) (h1 : 1 ≤ n) (h2 : n ≤ 32) (h3 : -33 ≤ i) (h4 : i ≤ 33) (h5 : -33 ≤ j) (h6 : j ≤ 33) : I3 4000 (PI n f s i j 0) (PI n f s i j 1) (PI n f s i j 2) := by
  have a := PI_in (s := s) hf h1 h2 h3 h4 h5 h6 0 (by omega)
  have b := PI_in (s := s) hf h1 h2 h3 h4 h5 h6 1 (by omega)
  have c := PI_in (s := s) hf h1 h2 h3 h4 h5 h6 2 (by omega)
  exact ⟨⟨by have := a.1; omega, by have := a.2; omega⟩, ⟨by have := b.1; omega, by have := b.2; omega⟩, ⟨by have := c.1; omega, by have := c.2; omega⟩⟩
theorem fin_set {w W w1 : World} {b c : Nat} {g : Nat → Int} (hO : Own3 w1 b) (hB : Below W.heap.size W w1) (hN : Nine W c g) (hW : Below w.heap.size w W) (hb : W.heap.size ≤ b) (x y z : Value) :
    ∃ B, Value.pointer (some ⟨b, 0, none⟩) = .pointer (some ⟨B, 0, none⟩) ∧ (((w1.setCell ⟨b, 0, none⟩ x).setCell ⟨b, 1, none⟩ y).setCell ⟨b, 2, none⟩ z).cell? ⟨B, 0, none⟩ = some x ∧ (((w1.setCell ⟨b, 0, none⟩ x).setCell ⟨b, 1, none⟩ y).setCell ⟨b, 2, none⟩ z).cell? ⟨B, 1, none⟩ = some y ∧
      (((w1.setCell ⟨b, 0, none⟩ x).setCell ⟨b, 1, none⟩ y).setCell ⟨b, 2, none⟩ z).cell? ⟨B, 2, none⟩ = some z ∧ Nine (((w1.setCell ⟨b, 0, none⟩ x).setCell ⟨b, 1, none⟩ y).setCell ⟨b, 2, none⟩ z) c g ∧ Below w.heap.size w (((w1.setCell ⟨b, 0, none⟩ x).setCell ⟨b, 1, none⟩ y).setCell ⟨b, 2, none⟩ z) := by
  have h0 := hO.c0
  have h1 := hO.c1
  have h2 := hO.c2
  have lc : c < W.heap.size := lt_of_some hN.c0
  have hne : b ≠ c := by omega
  refine ⟨b, rfl, by simp [go_sem, h0], by simp [go_sem, h1], by simp [go_sem, h2], (((hN.below hB).set hne _ _).set hne _ _).set hne _ _, set3 (hW.trans (hB.mono hW.size)) (by have := hW.size; omega) _ _ _⟩
theorem fin_alloc {w W w1 : World} {c : Nat} {g : Nat → Int} (hB : Below W.heap.size W w1) (hN : Nine W c g) (hW : Below w.heap.size w W) (x y z : Value) :
    ∃ B, Value.pointer (some ⟨w1.heap.size, 0, none⟩) = .pointer (some ⟨B, 0, none⟩) ∧ (w1.alloc (.cells #[x, y, z] 99)).cell? ⟨B, 0, none⟩ = some x ∧ (w1.alloc (.cells #[x, y, z] 99)).cell? ⟨B, 1, none⟩ = some y ∧
      (w1.alloc (.cells #[x, y, z] 99)).cell? ⟨B, 2, none⟩ = some z ∧ Nine (w1.alloc (.cells #[x, y, z] 99)) c g ∧ Below w.heap.size w (w1.alloc (.cells #[x, y, z] 99)) := by
  refine ⟨w1.heap.size, rfl, by simp [go_sem], by simp [go_sem], by simp [go_sem], (hN.below hB).below (bel1 _ _), (hW.trans (hB.mono hW.size)).alloc (hW.trans (hB.mono hW.size)).size _⟩
attribute [local go_sem] eq_way eq_way' eq_guard
set_option maxRecDepth 100000 in
set_option maxHeartbeats 4000000 in
theorem beside_far (n c i j : Int) (f s : Nat) (hf : f < 6) (hs : s < 4) (hP : placeI n c = ((f : Int), i, j, true)) (h1 : 1 ≤ n) (h2 : n ≤ 32) (h3 : 0 ≤ i) (h4 : i < n) (h5 : 0 ≤ j) (h6 : j < n) (hfar : cellI n f (i + DX s) (j + DY s) = -1) (w : World) (hF : Fr w) :
    Calls Tryz.prog 24 #[.int .i64 n, .int .i64 c, .int .i64 s] w fun e w' => e = .returned (.tuple #[.int .i64 (cellI n (nbF f s) (indexI n (SI n f s i j (nbF f s) 3)) (indexI n (SI n f s i j (nbF f s) 6))), .int .i64 (nbB f s)]) ∧ Below w.heap.size w w' := by
  have hfi0 : (0 : Int) ≤ (f : Int) := by omega
  have hfi6 : (f : Int) < 6 := by omega
  have HP := Lib.hid hP
  have hs' : s = 0 ∨ s = 1 ∨ s = 2 ∨ s = 3 := by omega
  clear hP
  have HX := Lib.hid hfar
  clear hfar
  go_enter Tryz.func24, Tryz.ntmps24
  go_wp2_with (first | (go_at_call 40; refine (place_at _ _ _ _ _ HP.out _).mono ?_; rintro e w1 ⟨rfl, hB0⟩))
  go_cut [13] (fun t wc => t = .int .i64 (-1) ∧ Below w.heap.size w wc)
  case first =>
    rcases hs' with rfl | rfl | rfl | rfl
    all_goals
      have e1 : IntKind.i64.wrap (i + 1) = i + 1 := IntWalk.i64_in _ (by omega)
      have e2 : IntKind.i64.wrap (i + -1) = i + -1 := IntWalk.i64_in _ (by omega)
      have e3 : IntKind.i64.wrap (j + 1) = j + 1 := IntWalk.i64_in _ (by omega)
      have e4 : IntKind.i64.wrap (j + -1) = j + -1 := IntWalk.i64_in _ (by omega)
      go_quiet ((first | (go_at_call 41; exact Calls.quiet_of_same (cell_q _ _ _ _ _))))
      go_wp2_with fail
      go_meet
      exact ⟨by first | exact far0 HX.out | exact far1 HX.out | exact far2 HX.out | exact far3 HX.out, below_drewN (hB0.alloc hB0.size _) _⟩
  case rest =>
    obtain ⟨rfl, hBc⟩ := hcut
    obtain ⟨g1, g2, g3, g4, g5, g6, g7, g8, g9⟩ := nb_fact f hf s hs
    have HN := Lib.hid (And.intro g4 (And.intro g5 g6))
    have HM := Lib.hid (And.intro g7 (And.intro g8 g9))
    have HS := Lib.hid (nb_only f hf s hs)
    clear g4 g5 g6 g7 g8 g9
    have HG := Lib.hid g1
    have hFc := hF.below hBc
    obtain ⟨a0, a1, a2, a3, a4, a5, a6, a7, a8⟩ := hFc.face hf
    have u3 : U3 (FR f 3) (FR f 4) (FR f 5) := FR_u hf (by omega)
    have u6 : U3 (FR f 6) (FR f 7) (FR f 8) := FR_u hf (by omega)
    clear HX
    go_upto_region 9 with (first | (go_at_call 43; refine (belC (B := w.heap.size) (w := w) (out_any _ _ _ _ _ _ _ _ _ _ hs (by assumption) (by assumption) _) (by first | assumption | exact Below.drew (by assumption)) (Nat.le_refl _)).mono ?_; rintro e w1 ⟨rfl, hB⟩) | (go_at_call 42; refine (belC (B := w.heap.size) (w := w) (faceAt_any _ _ _ _ HG.out HN.out.1 HN.out.2.1 HN.out.2.2 _ (hF.below (by assumption))) (by assumption) (Nat.le_refl _)).mono ?_; rintro e w1 ⟨rfl, hB⟩))
    have hF9 := hF.below hB
    obtain ⟨b0, b1, b2, b3, b4, b5, b6, b7, b8⟩ := hF9.face g1
    have hsz := hF9.size
    clear a0 a1 a2 a3 a4 a5 a6 a7 a8
    obtain ⟨a0, a1, a2, a3, a4, a5, a6, a7, a8⟩ := hF9.face hf
    go_wp2_with fail
    clear b0 b1 b2 b3 b4 b5 b6 b7 b8
    go_cut [16] (fun p wc => ∃ B, p = .pointer (some ⟨B, 0, none⟩) ∧ wc.cell? ⟨B, 0, none⟩ = some (.int .i64 (PI n f s i j 0)) ∧ wc.cell? ⟨B, 1, none⟩ = some (.int .i64 (PI n f s i j 1)) ∧ wc.cell? ⟨B, 2, none⟩ = some (.int .i64 (PI n f s i j 2)) ∧ Nine wc w1.heap.size (FR (nbF f s)) ∧ Below w.heap.size w wc)
    case first =>
      obtain ⟨W, hW⟩ : ∃ W : World, W = w1.alloc (.cells #[.int .i64 (FR (nbF f s) 0), .int .i64 (FR (nbF f s) 1), .int .i64 (FR (nbF f s) 2), .int .i64 (FR (nbF f s) 3), .int .i64 (FR (nbF f s) 4), .int .i64 (FR (nbF f s) 5), .int .i64 (FR (nbF f s) 6), .int .i64 (FR (nbF f s) 7), .int .i64 (FR (nbF f s) 8)] 101) := ⟨_, rfl⟩
      rw [← hW]
      have hBW : Below w.heap.size w W := by rw [hW]; exact hB.alloc hB.size _
      have hFW := hF.below hBW
      have hN : Nine W w1.heap.size (FR (nbF f s)) := by rw [hW]; exact ⟨by simp [go_sem], by simp [go_sem], by simp [go_sem], by simp [go_sem], by simp [go_sem], by simp [go_sem], by simp [go_sem], by simp [go_sem], by simp [go_sem]⟩
      clear a0 a1 a2 a3 a4 a5 a6 a7 a8 hW
      obtain ⟨a0, a1, a2, a3, a4, a5, a6, a7, a8⟩ := hFW.face hf
      have KEEP : Hid (∀ x : World, Below W.heap.size W x → x.cell? ⟨1, f * 9, none⟩ = some (.int .i64 (FR f 0)) ∧ x.cell? ⟨1, f * 9 + 1, none⟩ = some (.int .i64 (FR f 1)) ∧ x.cell? ⟨1, f * 9 + 2, none⟩ = some (.int .i64 (FR f 2)) ∧ x.cell? ⟨1, f * 9 + 3, none⟩ = some (.int .i64 (FR f 3)) ∧ x.cell? ⟨1, f * 9 + 4, none⟩ = some (.int .i64 (FR f 4)) ∧ x.cell? ⟨1, f * 9 + 5, none⟩ = some (.int .i64 (FR f 5)) ∧ x.cell? ⟨1, f * 9 + 6, none⟩ = some (.int .i64 (FR f 6)) ∧ x.cell? ⟨1, f * 9 + 7, none⟩ = some (.int .i64 (FR f 7)) ∧ x.cell? ⟨1, f * 9 + 8, none⟩ = some (.int .i64 (FR f 8)) ∧ Below W.heap.size W x) := Lib.hid (fun x h => by
        obtain ⟨c0, c1, c2, c3, c4, c5, c6, c7, c8⟩ := (hFW.below h).face hf
        exact ⟨c0, c1, c2, c3, c4, c5, c6, c7, c8, h⟩)
      have hW0 : Below W.heap.size W W := Below.refl _ _
      have iM : I3 4000 (MI n f i j 0) (MI n f i j 1) (MI n f i j 2) := MI_i3 hf h1 h2 (by omega) (by omega) (by omega) (by omega)
      have iO : I3 4000 (OU s (FR f 3) (FR f 6)) (OU s (FR f 4) (FR f 7)) (OU s (FR f 5) (FR f 8)) := OU_i3 u3 u6
      go_region_held3 (fun x => x.cell? ⟨1, f * 9, none⟩ = some (.int .i64 (FR f 0)) ∧ x.cell? ⟨1, f * 9 + 1, none⟩ = some (.int .i64 (FR f 1)) ∧ x.cell? ⟨1, f * 9 + 2, none⟩ = some (.int .i64 (FR f 2)) ∧ x.cell? ⟨1, f * 9 + 3, none⟩ = some (.int .i64 (FR f 3)) ∧ x.cell? ⟨1, f * 9 + 4, none⟩ = some (.int .i64 (FR f 4)) ∧ x.cell? ⟨1, f * 9 + 5, none⟩ = some (.int .i64 (FR f 5)) ∧ x.cell? ⟨1, f * 9 + 6, none⟩ = some (.int .i64 (FR f 6)) ∧ x.cell? ⟨1, f * 9 + 7, none⟩ = some (.int .i64 (FR f 7)) ∧ x.cell? ⟨1, f * 9 + 8, none⟩ = some (.int .i64 (FR f 8)) ∧ Below W.heap.size W x)
        (first | exact KEEP.out _ (by assumption) | exact KEEP.out _ (Below.drew (by assumption)) | exact KEEP.out _ (Below.drew (Below.alloc (by assumption) (Nat.le_refl _) _)) | exact KEEP.out _ (Below.alloc (by assumption) (by exact Below.size (by assumption)) _) | exact KEEP.out _ (set3' (by first | assumption | exact Below.alloc (by assumption) (by exact Below.size (by assumption)) _) (by first | exact Nat.le_refl _ | exact Below.size (by assumption)) _ _ _))
        (first | (go_at_call 44; refine (belD (B := W.heap.size) (w := W) (middle_any _ _ _ _ hf h1 h2 (by omega) (by omega) (by omega) (by omega) _ (hFW.below (by first | assumption | exact Below.drew (by assumption) | exact Below.drew (Below.alloc (by assumption) (Nat.le_refl _) _)))) (by first | assumption | exact Below.drew (by assumption) | exact Below.drew (Below.alloc (by assumption) (Nat.le_refl _) _)) (Nat.le_refl _)).mono ?_; rintro e w2 ⟨rfl, hB2, hR⟩; first | (have hO : Own3 w2 W.heap.size := Own3.below (own_alloc' W _ _ _) hR) | skip) | (go_at_call 43; refine (belD (B := W.heap.size) (w := W) (out_any _ _ _ _ _ _ _ _ _ _ hs (by assumption) (by assumption) _) (by first | assumption | exact Below.alloc (by assumption) (by exact Below.size (by assumption)) _) (Nat.le_refl _)).mono ?_; rintro e w2 ⟨rfl, hB2, hR⟩; first | (have hO := Own3.below (by assumption) hR) | (have hO := Own3.below (own_alloc _ _ _ _) hR) | skip) | (go_at_call 45; refine (belD (B := W.heap.size) (w := W) (plus_any _ _ _ _ _ _ (by assumption) (by assumption) _) (by first | assumption | exact Below.alloc (by assumption) (by exact Below.size (by assumption)) _) (Nat.le_refl _)).mono ?_; rintro e w2 ⟨rfl, hB2, hR⟩; first | (have hO := Own3.below (by assumption) hR; obtain ⟨o0, o1, o2, o3, o4, o5⟩ := hO) | (have hO := Own3.below (own_alloc _ _ _ _) hR; obtain ⟨o0, o1, o2, o3, o4, o5⟩ := hO) | skip))
      all_goals
        go_wp2_with fail
        go_meet
        first
          | exact fin_set ⟨o0, o1, o2, o3, o4, o5⟩ hB2 hN hBW (by first | exact Nat.le_refl _ | exact Below.size (by assumption)) _ _ _
          | exact fin_alloc hB2 hN hBW _ _ _
    case rest =>
      obtain ⟨B, rfl, p0, p1, p2, hN, hBd⟩ := hcut
      clear a0 a1 a2 a3 a4 a5 a6 a7 a8
      have v3 : U3 (FR (nbF f s) 3) (FR (nbF f s) 4) (FR (nbF f s) 5) := FR_u g1 (by omega)
      have v6 : U3 (FR (nbF f s) 6) (FR (nbF f s) 7) (FR (nbF f s) 8) := FR_u g1 (by omega)
      have iP : I3 4000 (PI n f s i j 0) (PI n f s i j 1) (PI n f s i j 2) := PI_i3 hf h1 h2 (by omega) (by omega) (by omega) (by omega)
      have iS : In 20000 (PI n f s i j 0 * FR (nbF f s) 3 + PI n f s i j 1 * FR (nbF f s) 4 + PI n f s i j 2 * FR (nbF f s) 5) := SI_in (k := 3) hf g1 (by omega) h1 h2 (by omega) (by omega) (by omega) (by omega)
      have iT : In 20000 (PI n f s i j 0 * FR (nbF f s) 6 + PI n f s i j 1 * FR (nbF f s) 7 + PI n f s i j 2 * FR (nbF f s) 8) := SI_in (k := 6) hf g1 (by omega) h1 h2 (by omega) (by omega) (by omega) (by omega)
      obtain ⟨W, hW⟩ : ∃ W : World, W = wc := ⟨_, rfl⟩
      rw [← hW]
      rw [← hW] at p0 p1 p2 hN hBd
      clear hW
      have d3 := hN.c3
      have d4 := hN.c4
      have d5 := hN.c5
      have d6 := hN.c6
      have d7 := hN.c7
      have d8 := hN.c8
      have lB : B < W.heap.size := lt_of_some p0
      have KEEP : Hid (∀ x : World, Below W.heap.size W x → x.cell? ⟨B, 0, none⟩ = some (.int .i64 (PI n f s i j 0)) ∧ x.cell? ⟨B, 1, none⟩ = some (.int .i64 (PI n f s i j 1)) ∧ x.cell? ⟨B, 2, none⟩ = some (.int .i64 (PI n f s i j 2)) ∧ x.cell? ⟨w1.heap.size, 3, none⟩ = some (.int .i64 (FR (nbF f s) 3)) ∧ x.cell? ⟨w1.heap.size, 4, none⟩ = some (.int .i64 (FR (nbF f s) 4)) ∧ x.cell? ⟨w1.heap.size, 5, none⟩ = some (.int .i64 (FR (nbF f s) 5)) ∧ x.cell? ⟨w1.heap.size, 6, none⟩ = some (.int .i64 (FR (nbF f s) 6)) ∧ x.cell? ⟨w1.heap.size, 7, none⟩ = some (.int .i64 (FR (nbF f s) 7)) ∧ x.cell? ⟨w1.heap.size, 8, none⟩ = some (.int .i64 (FR (nbF f s) 8)) ∧ Below W.heap.size W x) := Lib.hid (fun x h => by
        have hx := hN.below h
        exact ⟨(h.cell (p := ⟨B, 0, none⟩) lB).trans p0, (h.cell (p := ⟨B, 1, none⟩) lB).trans p1, (h.cell (p := ⟨B, 2, none⟩) lB).trans p2, hx.c3, hx.c4, hx.c5, hx.c6, hx.c7, hx.c8, h⟩)
      have hW0 : Below W.heap.size W W := Below.refl _ _
      go_wp2_with fail
      go_region_held3 (fun x => x.cell? ⟨B, 0, none⟩ = some (.int .i64 (PI n f s i j 0)) ∧ x.cell? ⟨B, 1, none⟩ = some (.int .i64 (PI n f s i j 1)) ∧ x.cell? ⟨B, 2, none⟩ = some (.int .i64 (PI n f s i j 2)) ∧ x.cell? ⟨w1.heap.size, 3, none⟩ = some (.int .i64 (FR (nbF f s) 3)) ∧ x.cell? ⟨w1.heap.size, 4, none⟩ = some (.int .i64 (FR (nbF f s) 4)) ∧ x.cell? ⟨w1.heap.size, 5, none⟩ = some (.int .i64 (FR (nbF f s) 5)) ∧ x.cell? ⟨w1.heap.size, 6, none⟩ = some (.int .i64 (FR (nbF f s) 6)) ∧ x.cell? ⟨w1.heap.size, 7, none⟩ = some (.int .i64 (FR (nbF f s) 7)) ∧ x.cell? ⟨w1.heap.size, 8, none⟩ = some (.int .i64 (FR (nbF f s) 8)) ∧ Below W.heap.size W x)
        (first | exact KEEP.out _ (by assumption) | exact KEEP.out _ (Below.drew (by assumption)))
        (first | (go_at_call 47; refine (belC (B := W.heap.size) (w := W) (dot_any _ _ _ _ _ _ (by assumption) (by assumption) _) (by first | assumption | exact Below.drew (by assumption)) (Nat.le_refl _)).mono ?_; rintro e w2 ⟨rfl, hB2⟩) | (go_at_call 46; refine (index_any _ _ (by assumption) h1 h2 _).mono ?_; rintro e w2 ⟨rfl, rfl⟩) | (go_at_call 41; refine (cell_any _ _ _ _ _).mono ?_; rintro e w2 ⟨rfl, rfl⟩))
      clear p0 p1 p2 d3 d4 d5 d6 d7 d8
      go_wp2
      go_loopw [98] (fun t wr => ∃ k : Nat, k ≤ nbB f s ∧ t = .int .i64 k ∧ Below W.heap.size W wr) (fun t _ => 4 - (intOf t).toNat)
      case atStart => exact ⟨0, Nat.zero_le _, rfl, by assumption⟩
      case round =>
        obtain ⟨k, hk, rfl, hwr⟩ := hrel
        have hk4 : k < 4 := by omega
        have hNr := hN.below hwr
        have hFr := hF.below (hBd.trans (hwr.mono hBd.size))
        obtain ⟨c0, c1, c2, -⟩ := hFr.face hf
        obtain ⟨d0, d1, d2, d3, d4, d5, d6, d7, d8⟩ := hNr
        have KEEP2 : Hid (∀ x : World, Below wr.heap.size wr x → x.cell? ⟨1, f * 9, none⟩ = some (.int .i64 (FR f 0)) ∧ x.cell? ⟨1, f * 9 + 1, none⟩ = some (.int .i64 (FR f 1)) ∧ x.cell? ⟨1, f * 9 + 2, none⟩ = some (.int .i64 (FR f 2)) ∧ x.cell? ⟨w1.heap.size, 0, none⟩ = some (.int .i64 (FR (nbF f s) 0)) ∧ x.cell? ⟨w1.heap.size, 1, none⟩ = some (.int .i64 (FR (nbF f s) 1)) ∧ x.cell? ⟨w1.heap.size, 2, none⟩ = some (.int .i64 (FR (nbF f s) 2)) ∧ x.cell? ⟨w1.heap.size, 3, none⟩ = some (.int .i64 (FR (nbF f s) 3)) ∧ x.cell? ⟨w1.heap.size, 4, none⟩ = some (.int .i64 (FR (nbF f s) 4)) ∧ x.cell? ⟨w1.heap.size, 5, none⟩ = some (.int .i64 (FR (nbF f s) 5)) ∧ x.cell? ⟨w1.heap.size, 6, none⟩ = some (.int .i64 (FR (nbF f s) 6)) ∧ x.cell? ⟨w1.heap.size, 7, none⟩ = some (.int .i64 (FR (nbF f s) 7)) ∧ x.cell? ⟨w1.heap.size, 8, none⟩ = some (.int .i64 (FR (nbF f s) 8)) ∧ Below wr.heap.size wr x) := Lib.hid (fun x h => by
          have hx := (hN.below hwr).below h
          obtain ⟨c0, c1, c2, -⟩ := (hFr.below h).face hf
          exact ⟨c0, c1, c2, hx.c0, hx.c1, hx.c2, hx.c3, hx.c4, hx.c5, hx.c6, hx.c7, hx.c8, h⟩)
        have hw0 : Below wr.heap.size wr wr := Below.refl _ _
        by_cases hlt : k = nbB f s
        · have he : eq3 (OU k (FR (nbF f s) 3) (FR (nbF f s) 6)) (OU k (FR (nbF f s) 4) (FR (nbF f s) 7)) (OU k (FR (nbF f s) 5) (FR (nbF f s) 8)) (FR f 0) (FR f 1) (FR f 2) = true := by rw [hlt]; exact eq3_true HM.out.1 HM.out.2.1 HM.out.2.2
          have HK := Lib.hid hlt
          clear hlt
          go_wp2
          go_region_held3 (fun x => x.cell? ⟨1, f * 9, none⟩ = some (.int .i64 (FR f 0)) ∧ x.cell? ⟨1, f * 9 + 1, none⟩ = some (.int .i64 (FR f 1)) ∧ x.cell? ⟨1, f * 9 + 2, none⟩ = some (.int .i64 (FR f 2)) ∧ x.cell? ⟨w1.heap.size, 0, none⟩ = some (.int .i64 (FR (nbF f s) 0)) ∧ x.cell? ⟨w1.heap.size, 1, none⟩ = some (.int .i64 (FR (nbF f s) 1)) ∧ x.cell? ⟨w1.heap.size, 2, none⟩ = some (.int .i64 (FR (nbF f s) 2)) ∧ x.cell? ⟨w1.heap.size, 3, none⟩ = some (.int .i64 (FR (nbF f s) 3)) ∧ x.cell? ⟨w1.heap.size, 4, none⟩ = some (.int .i64 (FR (nbF f s) 4)) ∧ x.cell? ⟨w1.heap.size, 5, none⟩ = some (.int .i64 (FR (nbF f s) 5)) ∧ x.cell? ⟨w1.heap.size, 6, none⟩ = some (.int .i64 (FR (nbF f s) 6)) ∧ x.cell? ⟨w1.heap.size, 7, none⟩ = some (.int .i64 (FR (nbF f s) 7)) ∧ x.cell? ⟨w1.heap.size, 8, none⟩ = some (.int .i64 (FR (nbF f s) 8)) ∧ Below wr.heap.size wr x)
            (first | exact KEEP2.out _ (by assumption) | exact KEEP2.out _ (Below.drew (by assumption)))
            (first | (go_at_call 43; refine (belC (B := wr.heap.size) (w := wr) (out_any _ _ _ _ _ _ _ _ _ _ hk4 (by assumption) (by assumption) _) (by first | assumption | exact Below.drew (by assumption)) (Nat.le_refl _)).mono ?_; rintro e w2 ⟨rfl, hB2⟩))
          go_wp2
          go_ret2
          exact ⟨by rw [HK.out]; rfl, by have hb := ‹Below wr.heap.size wr w2›; have hc := hwr.trans (hb.mono hwr.size); exact hBd.trans (hc.mono hBd.size)⟩
        · have he : eq3 (OU k (FR (nbF f s) 3) (FR (nbF f s) 6)) (OU k (FR (nbF f s) 4) (FR (nbF f s) 7)) (OU k (FR (nbF f s) 5) (FR (nbF f s) 8)) (FR f 0) (FR f 1) (FR f 2) = false := eq3_false (fun h => hlt (HS.out k hk4 h))
          have hkl : k < nbB f s := by omega
          clear hlt
          go_wp2
          go_region_held3 (fun x => x.cell? ⟨1, f * 9, none⟩ = some (.int .i64 (FR f 0)) ∧ x.cell? ⟨1, f * 9 + 1, none⟩ = some (.int .i64 (FR f 1)) ∧ x.cell? ⟨1, f * 9 + 2, none⟩ = some (.int .i64 (FR f 2)) ∧ x.cell? ⟨w1.heap.size, 0, none⟩ = some (.int .i64 (FR (nbF f s) 0)) ∧ x.cell? ⟨w1.heap.size, 1, none⟩ = some (.int .i64 (FR (nbF f s) 1)) ∧ x.cell? ⟨w1.heap.size, 2, none⟩ = some (.int .i64 (FR (nbF f s) 2)) ∧ x.cell? ⟨w1.heap.size, 3, none⟩ = some (.int .i64 (FR (nbF f s) 3)) ∧ x.cell? ⟨w1.heap.size, 4, none⟩ = some (.int .i64 (FR (nbF f s) 4)) ∧ x.cell? ⟨w1.heap.size, 5, none⟩ = some (.int .i64 (FR (nbF f s) 5)) ∧ x.cell? ⟨w1.heap.size, 6, none⟩ = some (.int .i64 (FR (nbF f s) 6)) ∧ x.cell? ⟨w1.heap.size, 7, none⟩ = some (.int .i64 (FR (nbF f s) 7)) ∧ x.cell? ⟨w1.heap.size, 8, none⟩ = some (.int .i64 (FR (nbF f s) 8)) ∧ Below wr.heap.size wr x)
            (first | exact KEEP2.out _ (by assumption) | exact KEEP2.out _ (Below.drew (by assumption)))
            (first | (go_at_call 43; refine (belC (B := wr.heap.size) (w := wr) (out_any _ _ _ _ _ _ _ _ _ _ hk4 (by assumption) (by assumption) _) (by first | assumption | exact Below.drew (by assumption)) (Nat.le_refl _)).mono ?_; rintro e w2 ⟨rfl, hB2⟩))
          go_wp2
          go_roundw
          case rel => exact ⟨k + 1, by omega, by go_num, by have hb := ‹Below wr.heap.size wr w2›; exact hwr.trans (hb.mono hwr.size)⟩
          case measure => simp [intOf]; omega
end Go.Proofs.YtkjjecghbhppgaaGreatDoor
/- What lies beside a cell: all numbers. -/
namespace Go.Proofs.YtkjjecghbhppgaaGreatDoor
open Go.RowKit TF

theorem cell_two (n f i j : Int) : cellI n f i j = -1 ∨ 0 ≤ cellI n f i j := by
  rcases cell_cases n f i j with ⟨e, _⟩ | ⟨e, _, _, _, h3, _, _, _, _, _, h, _⟩
  · exact .inl e
  · right; omega
theorem near0 (n f i j : Int) : cellI n f (i + 1) j = cellI n f (i + DX 0) (j + DY 0) := by simp [DX, DY]
theorem near1 (n f i j : Int) : cellI n f i (j + 1) = cellI n f (i + DX 1) (j + DY 1) := by simp [DX, DY]
theorem near2 (n f i j : Int) : cellI n f (i + -1) j = cellI n f (i + DX 2) (j + DY 2) := by simp [DX, DY]
theorem near3 (n f i j : Int) : cellI n f i (j + -1) = cellI n f (i + DX 3) (j + DY 3) := by simp [DX, DY]


set_option maxRecDepth 100000 in
set_option maxHeartbeats 4000000 in
theorem beside_near (n c i j : Int) (f s : Nat) (hs : s < 4) (hP : placeI n c = ((f : Int), i, j, true)) (h1 : 1 ≤ n) (h2 : n ≤ 32) (h3 : 0 ≤ i) (h4 : i < n) (h5 : 0 ≤ j) (h6 : j < n) (hnear : 0 ≤ cellI n f (i + DX s) (j + DY s)) (w : World) :
    Calls Tryz.prog 24 #[.int .i64 n, .int .i64 c, .int .i64 s] w fun e w' => e = .returned (.tuple #[.int .i64 (cellI n f (i + DX s) (j + DY s)), .int .i64 ((s + 2) % 4 : Nat)]) ∧ Below w.heap.size w w' := by
  have HP := Lib.hid hP
  clear hP
  have hs' : s = 0 ∨ s = 1 ∨ s = 2 ∨ s = 3 := by omega
  have e1 : IntKind.i64.wrap (i + 1) = i + 1 := IntWalk.i64_in _ (by omega)
  have e2 : IntKind.i64.wrap (i + -1) = i + -1 := IntWalk.i64_in _ (by omega)
  have e3 : IntKind.i64.wrap (j + 1) = j + 1 := IntWalk.i64_in _ (by omega)
  have e4 : IntKind.i64.wrap (j + -1) = j + -1 := IntWalk.i64_in _ (by omega)
  rcases hs' with rfl | rfl | rfl | rfl
  all_goals
    first
      | rw [← near0] at hnear ⊢
      | rw [← near1] at hnear ⊢
      | rw [← near2] at hnear ⊢
      | rw [← near3] at hnear ⊢
    go_enter Tryz.func24, Tryz.ntmps24
    go_wp2_with (first | (go_at_call 40; refine (place_at _ _ _ _ _ HP.out _).mono ?_; rintro e w1 ⟨rfl, hB0⟩))
    go_quiet ((first | (go_at_call 41; exact Calls.quiet_of_same (cell_q _ _ _ _ _))))
    go_wp2_with fail
    go_ret2
    exact ⟨rfl, below_drewN (hB0.alloc hB0.size _) _⟩

set_option maxRecDepth 100000 in
theorem beside_none (n c s : Int) (h : (placeI n c).2.2.2 = false ∨ ((placeI n c).2.2.2 = true ∧ s < 0) ∨ ((placeI n c).2.2.2 = true ∧ 0 ≤ s ∧ 4 ≤ s)) (w : World) :
    Calls Tryz.prog 24 #[.int .i64 n, .int .i64 c, .int .i64 s] w fun e w' => e = .returned (.tuple #[.int .i64 (-1), .int .i64 0]) ∧ Below w.heap.size w w' := by
  obtain ⟨p, hp⟩ : ∃ p, p = placeI n c := ⟨_, rfl⟩
  have HC : Hid (∀ w : World, Calls Tryz.prog 40 #[.int .i64 n, .int .i64 c] w fun e w' => e = .returned (.tuple #[.int .i64 p.1, .int .i64 p.2.1, .int .i64 p.2.2.1, .bool p.2.2.2]) ∧ Below w.heap.size w w') := Lib.hid (fun w => by
    rw [hp]; exact (cplace_any n c w).mono fun _ _ ⟨h1, k, h2⟩ => ⟨h1, by rw [h2]; exact below_drewN (Below.refl _ _) _⟩)
  rw [← hp] at h
  clear hp
  obtain ⟨p0, p1, p2, p3⟩ := p
  simp only at h
  have HC' : Hid (∀ w : World, Calls Tryz.prog 40 #[.int .i64 n, .int .i64 c] w fun e w' => e = .returned (.tuple #[.int .i64 p0, .int .i64 p1, .int .i64 p2, .bool p3]) ∧ Below w.heap.size w w') := HC
  clear HC
  rcases h with rfl | ⟨rfl, h⟩ | ⟨rfl, h, h'⟩
  all_goals
    go_enter Tryz.func24, Tryz.ntmps24
    go_wp2_with (go_at_call 40; refine (HC'.out _).mono ?_; rintro e w1 ⟨rfl, hB0⟩)
    go_ret2
    exact ⟨rfl, hB0⟩
end Go.Proofs.YtkjjecghbhppgaaGreatDoor
