/- A cell turned. -/
import Derived.Test.YtbfbafoeifigfaaDoorCubeU
import Derived.Test.YtbfbafoeifigfaaDoorCubeD
namespace Go.Proofs.YtbfbafoeifigfaaDoor
open Go.RowKit TF

attribute [local go_sem] eq_way eq_way' eq_guard
theorem MI_i1 {n i j : Int} {f : Nat} (hf : f < 6) (h1 : 1 ≤ n) (h2 : n ≤ 32) (h3 : -33 ≤ i) (h4 : i ≤ 33) (h5 : -33 ≤ j) (h6 : j ≤ 33) : I3 1001 (MI n f i j 0) (MI n f i j 1) (MI n f i j 2) := by
  have a := MI_in hf h1 h2 h3 h4 h5 h6 0 (by omega)
  have b := MI_in hf h1 h2 h3 h4 h5 h6 1 (by omega)
  have c := MI_in hf h1 h2 h3 h4 h5 h6 2 (by omega)
  exact ⟨⟨by have := a.1; omega, by have := a.2; omega⟩, ⟨by have := b.1; omega, by have := b.2; omega⟩, ⟨by have := c.1; omega, by have := c.2; omega⟩⟩
theorem U_i1 {a b c : Int} (h : U3 a b c) : I3 1001 a b c := ⟨⟨by have := h.x.1; omega, by have := h.x.2; omega⟩, ⟨by have := h.y.1; omega, by have := h.y.2; omega⟩, ⟨by have := h.z.1; omega, by have := h.z.2; omega⟩⟩
theorem TV_i3 {t : Nat} (ht : t < 24) {x y z : Int} (h : I3 1001 x y z) : I3 4000 (TV t x y z 0) (TV t x y z 1) (TV t x y z 2) := by
  have e : ∀ k, k < 3 → In 4000 (TV t x y z k) := fun k hk => by
    obtain ⟨p1, p2⟩ := h.x.mul (AX_in t ht k (by omega)) (by omega)
    obtain ⟨p3, p4⟩ := h.y.mul (AX_in t ht (3 + k) (by omega)) (by omega)
    obtain ⟨p5, p6⟩ := h.z.mul (AX_in t ht (6 + k) (by omega)) (by omega)
    unfold TV
    exact ⟨by omega, by omega⟩
  exact ⟨e 0 (by omega), e 1 (by omega), e 2 (by omega)⟩
/-- The turned middle's number k; seen from face g. -/
def QI (n : Int) (t f : Nat) (i j : Int) (k : Nat) : Int := TV t (MI n f i j 0) (MI n f i j 1) (MI n f i j 2) k
def RI (n : Int) (t f : Nat) (i j : Int) (g k : Nat) : Int := QI n t f i j 0 * FR g k + QI n t f i j 1 * FR g (k + 1) + QI n t f i j 2 * FR g (k + 2)
theorem RI_in {n i j : Int} {t f g k : Nat} (h : I3 4000 (QI n t f i j 0) (QI n t f i j 1) (QI n t f i j 2)) (hg : g < 6) (hk : k + 2 < 9) : In 20000 (RI n t f i j g k) := by
  obtain ⟨p1, p2⟩ := h.x.mul (FR_in g hg k (by omega)) (by omega)
  obtain ⟨p3, p4⟩ := h.y.mul (FR_in g hg (k + 1) (by omega)) (by omega)
  obtain ⟨p5, p6⟩ := h.z.mul (FR_in g hg (k + 2) (by omega)) (by omega)
  unfold RI
  exact ⟨by omega, by omega⟩
theorem way_set {w1 : World} {b : Nat} (hO : Own3 w1 b) (x y z : Int) : Three (((w1.setCell ⟨b, 0, none⟩ (.int .i64 x)).setCell ⟨b, 1, none⟩ (.int .i64 y)).setCell ⟨b, 2, none⟩ (.int .i64 z)) b x y z := by
  have h0 := hO.c0
  have h1 := hO.c1
  have h2 := hO.c2
  exact ⟨by simp [go_sem, h0], by simp [go_sem, h1], by simp [go_sem, h2]⟩
theorem way_alloc (w1 : World) (x y z : Int) : Three (w1.alloc (.cells #[.int .i64 x, .int .i64 y, .int .i64 z] 39)) w1.heap.size x y z := ⟨by simp [go_sem], by simp [go_sem], by simp [go_sem]⟩
theorem fin3_set {W w1 : World} {b : Nat} (hO : Own3 w1 b) (hB : Below W.heap.size W w1) (hb : W.heap.size ≤ b) (x y z : Int) : ∃ B, Value.pointer (some ⟨b, 0, none⟩) = .pointer (some ⟨B, 0, none⟩) ∧ Three (((w1.setCell ⟨b, 0, none⟩ (.int .i64 x)).setCell ⟨b, 1, none⟩ (.int .i64 y)).setCell ⟨b, 2, none⟩ (.int .i64 z)) B x y z ∧ Below W.heap.size W (((w1.setCell ⟨b, 0, none⟩ (.int .i64 x)).setCell ⟨b, 1, none⟩ (.int .i64 y)).setCell ⟨b, 2, none⟩ (.int .i64 z)) :=
  ⟨b, rfl, way_set hO x y z, set3 hB hb _ _ _⟩
theorem fin3_alloc {W w1 : World} (hB : Below W.heap.size W w1) (x y z : Int) : ∃ B, Value.pointer (some ⟨w1.heap.size, 0, none⟩) = .pointer (some ⟨B, 0, none⟩) ∧ Three (w1.alloc (.cells #[.int .i64 x, .int .i64 y, .int .i64 z] 39)) B x y z ∧ Below W.heap.size W (w1.alloc (.cells #[.int .i64 x, .int .i64 y, .int .i64 z] 39)) :=
  ⟨_, rfl, way_alloc w1 x y z, hB.alloc hB.size _⟩

set_option maxRecDepth 100000 in
set_option maxHeartbeats 8000000 in
theorem turn_at (n c i j : Int) (f t : Nat) (hf : f < 6) (ht : t < 24) (hP : placeI n c = ((f : Int), i, j, true)) (h1 : 1 ≤ n) (h2 : n ≤ 32) (h3 : 0 ≤ i) (h4 : i < n) (h5 : 0 ≤ j) (h6 : j < n) (w : World) (hF : Fr w) :
    Calls Tryd.prog 22 #[.int .i64 n, .int .i64 t, .int .i64 c] w fun e w' => e = .returned (.tuple #[.int .i64 (cellI n (tF t f) (indexI n (RI n t f i j (tF t f) 3)) (indexI n (RI n t f i j (tF t f) 6))), .int .i64 (tQ t f)]) ∧ Below w.heap.size w w' := by
  have hfi0 : (0 : Int) ≤ (f : Int) := by omega
  have hfi6 : (f : Int) < 6 := by omega
  have HP := Lib.hid hP
  clear hP
  obtain ⟨g1, g2, g4, g5, g6⟩ := turn_face t ht f hf
  have HN := Lib.hid (And.intro g4 (And.intro g5 g6))
  have HM := Lib.hid (turn_east t ht f hf)
  have HS := Lib.hid (turn_only t ht f hf)
  have HG := Lib.hid g1
  clear g4 g5 g6
  have u0 : U3 (FR f 0) (FR f 1) (FR f 2) := FR_u hf (by omega)
  have u3 : U3 (FR f 3) (FR f 4) (FR f 5) := FR_u hf (by omega)
  have u6 : U3 (FR f 6) (FR f 7) (FR f 8) := FR_u hf (by omega)
  have j0 := U_i1 u0
  have jM := MI_i1 hf h1 h2 (show -33 ≤ i by omega) (show i ≤ 33 by omega) (show -33 ≤ j by omega) (show j ≤ 33 by omega)
  have iQ : I3 4000 (QI n t f i j 0) (QI n t f i j 1) (QI n t f i j 2) := TV_i3 ht jM
  go_enter Tryd.func22, Tryd.ntmps22
  go_wp2_with (first | (go_at_call 12; refine (place_at _ _ _ _ _ HP.out _).mono ?_; rintro e w1 ⟨rfl, hB0⟩) | (go_at_call 26; refine (belC (B := w.heap.size) (w := w) (axes_any t ht _ (hF.below (by first | assumption | exact hB0))) (by assumption) (Nat.le_refl _)).mono ?_; rintro e w2 ⟨rfl, hBa⟩))
  have hBv : Below w.heap.size w (w2.alloc (.cells #[.int .i64 (AX t 0), .int .i64 (AX t 1), .int .i64 (AX t 2), .int .i64 (AX t 3), .int .i64 (AX t 4), .int .i64 (AX t 5), .int .i64 (AX t 6), .int .i64 (AX t 7), .int .i64 (AX t 8)] 41)) := hBa.alloc hBa.size _
  go_cut [13] (fun x wc => x = .int .i64 (tF t f : Nat) ∧ Nine wc w2.heap.size (AX t) ∧ Below w.heap.size w wc)
  case first =>
    obtain ⟨W, hW⟩ : ∃ W : World, W = w2.alloc (.cells #[.int .i64 (AX t 0), .int .i64 (AX t 1), .int .i64 (AX t 2), .int .i64 (AX t 3), .int .i64 (AX t 4), .int .i64 (AX t 5), .int .i64 (AX t 6), .int .i64 (AX t 7), .int .i64 (AX t 8)] 41) := ⟨_, rfl⟩
    rw [← hW]
    rw [← hW] at hBv
    have hN : Nine W w2.heap.size (AX t) := by rw [hW]; exact ⟨by simp [go_sem], by simp [go_sem], by simp [go_sem], by simp [go_sem], by simp [go_sem], by simp [go_sem], by simp [go_sem], by simp [go_sem], by simp [go_sem]⟩
    clear hW
    have hFW := hF.below hBv
    have hW0 : Below W.heap.size W W := Below.refl _ _
    have KEEP : Hid (∀ x : World, Below W.heap.size W x → x.cell? ⟨w2.heap.size, 0, none⟩ = some (.int .i64 (AX t 0)) ∧ x.cell? ⟨w2.heap.size, 1, none⟩ = some (.int .i64 (AX t 1)) ∧ x.cell? ⟨w2.heap.size, 2, none⟩ = some (.int .i64 (AX t 2)) ∧ x.cell? ⟨w2.heap.size, 3, none⟩ = some (.int .i64 (AX t 3)) ∧ x.cell? ⟨w2.heap.size, 4, none⟩ = some (.int .i64 (AX t 4)) ∧ x.cell? ⟨w2.heap.size, 5, none⟩ = some (.int .i64 (AX t 5)) ∧ x.cell? ⟨w2.heap.size, 6, none⟩ = some (.int .i64 (AX t 6)) ∧ x.cell? ⟨w2.heap.size, 7, none⟩ = some (.int .i64 (AX t 7)) ∧ x.cell? ⟨w2.heap.size, 8, none⟩ = some (.int .i64 (AX t 8)) ∧ x.cell? ⟨0, f * 9, none⟩ = some (.int .i64 (FR f 0)) ∧ x.cell? ⟨0, f * 9 + 1, none⟩ = some (.int .i64 (FR f 1)) ∧ x.cell? ⟨0, f * 9 + 2, none⟩ = some (.int .i64 (FR f 2)) ∧ Below W.heap.size W x) := Lib.hid (fun x h => by
      have hx := hN.below h
      obtain ⟨c0, c1, c2, -⟩ := (hFW.below h).face hf
      exact ⟨hx.c0, hx.c1, hx.c2, hx.c3, hx.c4, hx.c5, hx.c6, hx.c7, hx.c8, c0, c1, c2, h⟩)
    go_region_held3 (fun x => x.cell? ⟨w2.heap.size, 0, none⟩ = some (.int .i64 (AX t 0)) ∧ x.cell? ⟨w2.heap.size, 1, none⟩ = some (.int .i64 (AX t 1)) ∧ x.cell? ⟨w2.heap.size, 2, none⟩ = some (.int .i64 (AX t 2)) ∧ x.cell? ⟨w2.heap.size, 3, none⟩ = some (.int .i64 (AX t 3)) ∧ x.cell? ⟨w2.heap.size, 4, none⟩ = some (.int .i64 (AX t 4)) ∧ x.cell? ⟨w2.heap.size, 5, none⟩ = some (.int .i64 (AX t 5)) ∧ x.cell? ⟨w2.heap.size, 6, none⟩ = some (.int .i64 (AX t 6)) ∧ x.cell? ⟨w2.heap.size, 7, none⟩ = some (.int .i64 (AX t 7)) ∧ x.cell? ⟨w2.heap.size, 8, none⟩ = some (.int .i64 (AX t 8)) ∧ x.cell? ⟨0, f * 9, none⟩ = some (.int .i64 (FR f 0)) ∧ x.cell? ⟨0, f * 9 + 1, none⟩ = some (.int .i64 (FR f 1)) ∧ x.cell? ⟨0, f * 9 + 2, none⟩ = some (.int .i64 (FR f 2)) ∧ Below W.heap.size W x)
      (first | exact KEEP.out _ (by assumption) | exact KEEP.out _ (Below.drew (by assumption)))
      (first | (go_at_call 27; refine (belC (B := W.heap.size) (w := W) (turned_any t ht _ _ _ (by assumption) _) (by first | assumption | exact Below.drew (by assumption)) (Nat.le_refl _)).mono ?_; rintro e w3 ⟨rfl, hB3⟩) | (go_at_call 30; refine (belC (B := W.heap.size) (w := W) (faceAt_any _ _ _ _ HG.out HN.out.1 HN.out.2.1 HN.out.2.2 _ (hFW.below (by assumption))) (by assumption) (Nat.le_refl _)).mono ?_; rintro e w3 ⟨rfl, hB3⟩))
    go_wp2_with fail
    go_meet
    exact ⟨rfl, hN.below (by assumption), hBv.trans (Below.mono (by assumption) hBv.size)⟩
  case rest =>
    obtain ⟨rfl, hN, hBc⟩ := hcut
    obtain ⟨wa, rfl⟩ : ∃ wa : World, wa = wc := ⟨_, rfl⟩
    have hFc := hF.below hBc
    obtain ⟨b0, b1, b2, b3, b4, b5, b6, b7, b8⟩ := hFc.face g1
    have hsz := hFc.size
    have hg6 : ((tF t f : Nat) : Int) < 6 := by omega
    go_wp2_with fail
    clear b0 b1 b2 b3 b4 b5 b6 b7 b8
    go_cut [15] (fun p wx => ∃ B, p = .pointer (some ⟨B, 0, none⟩) ∧ Three wx B (QI n t f i j 0) (QI n t f i j 1) (QI n t f i j 2) ∧ Nine wx wa.heap.size (FR (tF t f)) ∧ Nine wx w2.heap.size (AX t) ∧ Below w.heap.size w wx)
    case first =>
      obtain ⟨W, hW⟩ : ∃ W : World, W = wa.alloc (.cells #[.int .i64 (FR (tF t f) 0), .int .i64 (FR (tF t f) 1), .int .i64 (FR (tF t f) 2), .int .i64 (FR (tF t f) 3), .int .i64 (FR (tF t f) 4), .int .i64 (FR (tF t f) 5), .int .i64 (FR (tF t f) 6), .int .i64 (FR (tF t f) 7), .int .i64 (FR (tF t f) 8)] 41) := ⟨_, rfl⟩
      rw [← hW]
      have hBW : Below w.heap.size w W := by rw [hW]; exact hBc.alloc hBc.size _
      have hFW := hF.below hBW
      have hNg : Nine W wa.heap.size (FR (tF t f)) := by rw [hW]; exact ⟨by simp [go_sem], by simp [go_sem], by simp [go_sem], by simp [go_sem], by simp [go_sem], by simp [go_sem], by simp [go_sem], by simp [go_sem], by simp [go_sem]⟩
      have hNa : Nine W w2.heap.size (AX t) := by rw [hW]; exact hN.below (bel1 _ _)
      clear hW
      have hW0 : Below W.heap.size W W := Below.refl _ _
      have KEEP : Hid (∀ x : World, Below W.heap.size W x → x.cell? ⟨w2.heap.size, 0, none⟩ = some (.int .i64 (AX t 0)) ∧ x.cell? ⟨w2.heap.size, 1, none⟩ = some (.int .i64 (AX t 1)) ∧ x.cell? ⟨w2.heap.size, 2, none⟩ = some (.int .i64 (AX t 2)) ∧ x.cell? ⟨w2.heap.size, 3, none⟩ = some (.int .i64 (AX t 3)) ∧ x.cell? ⟨w2.heap.size, 4, none⟩ = some (.int .i64 (AX t 4)) ∧ x.cell? ⟨w2.heap.size, 5, none⟩ = some (.int .i64 (AX t 5)) ∧ x.cell? ⟨w2.heap.size, 6, none⟩ = some (.int .i64 (AX t 6)) ∧ x.cell? ⟨w2.heap.size, 7, none⟩ = some (.int .i64 (AX t 7)) ∧ x.cell? ⟨w2.heap.size, 8, none⟩ = some (.int .i64 (AX t 8)) ∧ Below W.heap.size W x) := Lib.hid (fun x h => by
        have hx := hNa.below h
        exact ⟨hx.c0, hx.c1, hx.c2, hx.c3, hx.c4, hx.c5, hx.c6, hx.c7, hx.c8, h⟩)
      go_region_held3 (fun x => x.cell? ⟨w2.heap.size, 0, none⟩ = some (.int .i64 (AX t 0)) ∧ x.cell? ⟨w2.heap.size, 1, none⟩ = some (.int .i64 (AX t 1)) ∧ x.cell? ⟨w2.heap.size, 2, none⟩ = some (.int .i64 (AX t 2)) ∧ x.cell? ⟨w2.heap.size, 3, none⟩ = some (.int .i64 (AX t 3)) ∧ x.cell? ⟨w2.heap.size, 4, none⟩ = some (.int .i64 (AX t 4)) ∧ x.cell? ⟨w2.heap.size, 5, none⟩ = some (.int .i64 (AX t 5)) ∧ x.cell? ⟨w2.heap.size, 6, none⟩ = some (.int .i64 (AX t 6)) ∧ x.cell? ⟨w2.heap.size, 7, none⟩ = some (.int .i64 (AX t 7)) ∧ x.cell? ⟨w2.heap.size, 8, none⟩ = some (.int .i64 (AX t 8)) ∧ Below W.heap.size W x)
        (first | exact KEEP.out _ (by assumption) | exact KEEP.out _ (Below.drew (by assumption)) | exact KEEP.out _ (Below.drew (Below.alloc (by assumption) (Nat.le_refl _) _)) | exact KEEP.out _ (Below.alloc (by assumption) (by exact Below.size (by assumption)) _) | exact KEEP.out _ (set3' (by first | assumption | exact Below.alloc (by assumption) (by exact Below.size (by assumption)) _) (by first | exact Nat.le_refl _ | exact Below.size (by assumption)) _ _ _))
        (first | (go_at_call 32; refine (belD (B := W.heap.size) (w := W) (middle_any _ _ _ _ hf h1 h2 (by omega) (by omega) (by omega) (by omega) _ (hFW.below (by first | assumption | exact Below.drew (by assumption) | exact Below.drew (Below.alloc (by assumption) (Nat.le_refl _) _)))) (by first | assumption | exact Below.drew (by assumption) | exact Below.drew (Below.alloc (by assumption) (Nat.le_refl _) _)) (Nat.le_refl _)).mono ?_; rintro e w4 ⟨rfl, hB2, hR⟩; first | (have hO : Own3 w4 W.heap.size := Own3.below (own_alloc' W _ _ _) hR) | skip) | (go_at_call 27; refine (belD (B := W.heap.size) (w := W) (turned_any t ht _ _ _ (by assumption) _) (by first | assumption | exact Below.alloc (by assumption) (by exact Below.size (by assumption)) _) (Nat.le_refl _)).mono ?_; rintro e w4 ⟨rfl, hB2, hR⟩; first | (have hO := Own3.below (by assumption) hR; obtain ⟨o0, o1, o2, o3, o4, o5⟩ := hO) | (have hO := Own3.below (own_alloc _ _ _ _) hR; obtain ⟨o0, o1, o2, o3, o4, o5⟩ := hO) | skip))
      all_goals
        go_wp2_with fail
        go_meet
        first
          | (obtain ⟨B, e1, e2, e3⟩ := fin3_set ⟨o0, o1, o2, o3, o4, o5⟩ hB2 (by first | exact Nat.le_refl _ | exact Below.size (by assumption)) (QI n t f i j 0) (QI n t f i j 1) (QI n t f i j 2); exact ⟨B, e1, e2, hNg.below e3, hNa.below e3, hBW.trans (e3.mono hBW.size)⟩)
          | (obtain ⟨B, e1, e2, e3⟩ := fin3_alloc hB2 (QI n t f i j 0) (QI n t f i j 1) (QI n t f i j 2); exact ⟨B, e1, e2, hNg.below e3, hNa.below e3, hBW.trans (e3.mono hBW.size)⟩)
    case rest =>
      obtain ⟨B, rfl, hT, hNg, hNa, hBx⟩ := hcut
      have v3 : U3 (FR (tF t f) 3) (FR (tF t f) 4) (FR (tF t f) 5) := FR_u g1 (by omega)
      have v6 : U3 (FR (tF t f) 6) (FR (tF t f) 7) (FR (tF t f) 8) := FR_u g1 (by omega)
      have iS : In 20000 (QI n t f i j 0 * FR (tF t f) 3 + QI n t f i j 1 * FR (tF t f) 4 + QI n t f i j 2 * FR (tF t f) 5) := RI_in (k := 3) iQ g1 (by omega)
      have iT : In 20000 (QI n t f i j 0 * FR (tF t f) 6 + QI n t f i j 1 * FR (tF t f) 7 + QI n t f i j 2 * FR (tF t f) 8) := RI_in (k := 6) iQ g1 (by omega)
      obtain ⟨W, rfl⟩ : ∃ W : World, W = wc := ⟨_, rfl⟩
      go_wp2_with fail
      have hW0 : Below W.heap.size W W := Below.refl _ _
      have hFW := hF.below hBx
      go_cut [16] (fun x wy => x = .int .i64 (cellI n (tF t f) (indexI n (RI n t f i j (tF t f) 3)) (indexI n (RI n t f i j (tF t f) 6))) ∧ Below W.heap.size W wy)
      case first =>
        have KEEP : Hid (∀ x : World, Below W.heap.size W x → x.cell? ⟨B, 0, none⟩ = some (.int .i64 (QI n t f i j 0)) ∧ x.cell? ⟨B, 1, none⟩ = some (.int .i64 (QI n t f i j 1)) ∧ x.cell? ⟨B, 2, none⟩ = some (.int .i64 (QI n t f i j 2)) ∧ x.cell? ⟨wa.heap.size, 3, none⟩ = some (.int .i64 (FR (tF t f) 3)) ∧ x.cell? ⟨wa.heap.size, 4, none⟩ = some (.int .i64 (FR (tF t f) 4)) ∧ x.cell? ⟨wa.heap.size, 5, none⟩ = some (.int .i64 (FR (tF t f) 5)) ∧ x.cell? ⟨wa.heap.size, 6, none⟩ = some (.int .i64 (FR (tF t f) 6)) ∧ x.cell? ⟨wa.heap.size, 7, none⟩ = some (.int .i64 (FR (tF t f) 7)) ∧ x.cell? ⟨wa.heap.size, 8, none⟩ = some (.int .i64 (FR (tF t f) 8)) ∧ Below W.heap.size W x) := Lib.hid (fun x h => by
          have ht := hT.below h
          have hg := hNg.below h
          exact ⟨ht.c0, ht.c1, ht.c2, hg.c3, hg.c4, hg.c5, hg.c6, hg.c7, hg.c8, h⟩)
        go_region_held3 (fun x => x.cell? ⟨B, 0, none⟩ = some (.int .i64 (QI n t f i j 0)) ∧ x.cell? ⟨B, 1, none⟩ = some (.int .i64 (QI n t f i j 1)) ∧ x.cell? ⟨B, 2, none⟩ = some (.int .i64 (QI n t f i j 2)) ∧ x.cell? ⟨wa.heap.size, 3, none⟩ = some (.int .i64 (FR (tF t f) 3)) ∧ x.cell? ⟨wa.heap.size, 4, none⟩ = some (.int .i64 (FR (tF t f) 4)) ∧ x.cell? ⟨wa.heap.size, 5, none⟩ = some (.int .i64 (FR (tF t f) 5)) ∧ x.cell? ⟨wa.heap.size, 6, none⟩ = some (.int .i64 (FR (tF t f) 6)) ∧ x.cell? ⟨wa.heap.size, 7, none⟩ = some (.int .i64 (FR (tF t f) 7)) ∧ x.cell? ⟨wa.heap.size, 8, none⟩ = some (.int .i64 (FR (tF t f) 8)) ∧ Below W.heap.size W x)
          (first | exact KEEP.out _ (by assumption) | exact KEEP.out _ (Below.drew (by assumption)))
          (first | (go_at_call 35; refine (belC (B := W.heap.size) (w := W) (dot_any _ _ _ _ _ _ (by assumption) (by assumption) _) (by first | assumption | exact Below.drew (by assumption)) (Nat.le_refl _)).mono ?_; rintro e w3 ⟨rfl, hB3⟩) | (go_at_call 34; refine (index_any _ _ (by assumption) h1 h2 _).mono ?_; rintro e w3 ⟨rfl, rfl⟩) | (go_at_call 16; refine (cell_any _ _ _ _ _).mono ?_; rintro e w3 ⟨rfl, rfl⟩))
        go_wp2_with fail
        go_meet
        exact ⟨rfl, by assumption⟩
      case rest =>
        obtain ⟨rfl, hBy⟩ := hcut
        have hNg2 := hNg.below hBy
        have hNa2 := hNa.below hBy
        have hBw := hBx.trans (hBy.mono hBx.size)
        clear hT hNg hNa hW0 hFW hBx hBy iS iT
        clear W
        obtain ⟨W, rfl⟩ : ∃ W : World, W = wc := ⟨_, rfl⟩
        have hW0 : Below W.heap.size W W := Below.refl _ _
        have hFW := hF.below hBw
        have jE : I3 1001 (OU 0 (FR f 3) (FR f 6)) (OU 0 (FR f 4) (FR f 7)) (OU 0 (FR f 5) (FR f 8)) := U_i1 u3
        go_wp2_with fail
        go_cut [17] (fun p wx => ∃ B, p = .pointer (some ⟨B, 0, none⟩) ∧ Three wx B (TV t (FR f 3) (FR f 4) (FR f 5) 0) (TV t (FR f 3) (FR f 4) (FR f 5) 1) (TV t (FR f 3) (FR f 4) (FR f 5) 2) ∧ Below W.heap.size W wx)
        case first =>
          have KEEP : Hid (∀ x : World, Below W.heap.size W x → x.cell? ⟨w2.heap.size, 0, none⟩ = some (.int .i64 (AX t 0)) ∧ x.cell? ⟨w2.heap.size, 1, none⟩ = some (.int .i64 (AX t 1)) ∧ x.cell? ⟨w2.heap.size, 2, none⟩ = some (.int .i64 (AX t 2)) ∧ x.cell? ⟨w2.heap.size, 3, none⟩ = some (.int .i64 (AX t 3)) ∧ x.cell? ⟨w2.heap.size, 4, none⟩ = some (.int .i64 (AX t 4)) ∧ x.cell? ⟨w2.heap.size, 5, none⟩ = some (.int .i64 (AX t 5)) ∧ x.cell? ⟨w2.heap.size, 6, none⟩ = some (.int .i64 (AX t 6)) ∧ x.cell? ⟨w2.heap.size, 7, none⟩ = some (.int .i64 (AX t 7)) ∧ x.cell? ⟨w2.heap.size, 8, none⟩ = some (.int .i64 (AX t 8)) ∧ x.cell? ⟨0, f * 9, none⟩ = some (.int .i64 (FR f 0)) ∧ x.cell? ⟨0, f * 9 + 1, none⟩ = some (.int .i64 (FR f 1)) ∧ x.cell? ⟨0, f * 9 + 2, none⟩ = some (.int .i64 (FR f 2)) ∧ x.cell? ⟨0, f * 9 + 3, none⟩ = some (.int .i64 (FR f 3)) ∧ x.cell? ⟨0, f * 9 + 4, none⟩ = some (.int .i64 (FR f 4)) ∧ x.cell? ⟨0, f * 9 + 5, none⟩ = some (.int .i64 (FR f 5)) ∧ x.cell? ⟨0, f * 9 + 6, none⟩ = some (.int .i64 (FR f 6)) ∧ x.cell? ⟨0, f * 9 + 7, none⟩ = some (.int .i64 (FR f 7)) ∧ x.cell? ⟨0, f * 9 + 8, none⟩ = some (.int .i64 (FR f 8)) ∧ Below W.heap.size W x) := Lib.hid (fun x h => by
            have hx := hNa2.below h
            obtain ⟨c0, c1, c2, c3, c4, c5, c6, c7, c8⟩ := (hFW.below h).face hf
            exact ⟨hx.c0, hx.c1, hx.c2, hx.c3, hx.c4, hx.c5, hx.c6, hx.c7, hx.c8, c0, c1, c2, c3, c4, c5, c6, c7, c8, h⟩)
          go_region_held3 (fun x => x.cell? ⟨w2.heap.size, 0, none⟩ = some (.int .i64 (AX t 0)) ∧ x.cell? ⟨w2.heap.size, 1, none⟩ = some (.int .i64 (AX t 1)) ∧ x.cell? ⟨w2.heap.size, 2, none⟩ = some (.int .i64 (AX t 2)) ∧ x.cell? ⟨w2.heap.size, 3, none⟩ = some (.int .i64 (AX t 3)) ∧ x.cell? ⟨w2.heap.size, 4, none⟩ = some (.int .i64 (AX t 4)) ∧ x.cell? ⟨w2.heap.size, 5, none⟩ = some (.int .i64 (AX t 5)) ∧ x.cell? ⟨w2.heap.size, 6, none⟩ = some (.int .i64 (AX t 6)) ∧ x.cell? ⟨w2.heap.size, 7, none⟩ = some (.int .i64 (AX t 7)) ∧ x.cell? ⟨w2.heap.size, 8, none⟩ = some (.int .i64 (AX t 8)) ∧ x.cell? ⟨0, f * 9, none⟩ = some (.int .i64 (FR f 0)) ∧ x.cell? ⟨0, f * 9 + 1, none⟩ = some (.int .i64 (FR f 1)) ∧ x.cell? ⟨0, f * 9 + 2, none⟩ = some (.int .i64 (FR f 2)) ∧ x.cell? ⟨0, f * 9 + 3, none⟩ = some (.int .i64 (FR f 3)) ∧ x.cell? ⟨0, f * 9 + 4, none⟩ = some (.int .i64 (FR f 4)) ∧ x.cell? ⟨0, f * 9 + 5, none⟩ = some (.int .i64 (FR f 5)) ∧ x.cell? ⟨0, f * 9 + 6, none⟩ = some (.int .i64 (FR f 6)) ∧ x.cell? ⟨0, f * 9 + 7, none⟩ = some (.int .i64 (FR f 7)) ∧ x.cell? ⟨0, f * 9 + 8, none⟩ = some (.int .i64 (FR f 8)) ∧ Below W.heap.size W x)
            (first | exact KEEP.out _ (by assumption) | exact KEEP.out _ (Below.drew (by assumption)) | exact KEEP.out _ (Below.drew (Below.alloc (by assumption) (Nat.le_refl _) _)) | exact KEEP.out _ (Below.alloc (by assumption) (by exact Below.size (by assumption)) _) | exact KEEP.out _ (set3' (by first | assumption | exact Below.alloc (by assumption) (by exact Below.size (by assumption)) _) (by first | exact Nat.le_refl _ | exact Below.size (by assumption)) _ _ _))
            (first | (go_at_call 31; refine (belD (B := W.heap.size) (w := W) (out_any _ _ _ _ _ _ _ _ _ 0 (by omega) u3 u6 _) (by first | assumption | exact Below.drew (by assumption) | exact Below.drew (Below.alloc (by assumption) (Nat.le_refl _) _)) (Nat.le_refl _)).mono ?_; rintro e w4 ⟨rfl, hB2, hR⟩; first | (have hO : Own3 w4 W.heap.size := Own3.below (own_alloc' W _ _ _) hR) | skip) | (go_at_call 27; refine (belD (B := W.heap.size) (w := W) (turned_any t ht _ _ _ (by assumption) _) (by first | assumption | exact Below.alloc (by assumption) (by exact Below.size (by assumption)) _) (Nat.le_refl _)).mono ?_; rintro e w4 ⟨rfl, hB2, hR⟩; first | (have hO := Own3.below (by assumption) hR; obtain ⟨o0, o1, o2, o3, o4, o5⟩ := hO) | (have hO := Own3.below (own_alloc _ _ _ _) hR; obtain ⟨o0, o1, o2, o3, o4, o5⟩ := hO) | skip))
          all_goals
            go_wp2_with fail
            go_meet
            first
              | exact fin3_set ⟨o0, o1, o2, o3, o4, o5⟩ hB2 (by first | exact Nat.le_refl _ | exact Below.size (by assumption)) (TV t (FR f 3) (FR f 4) (FR f 5) 0) (TV t (FR f 3) (FR f 4) (FR f 5) 1) (TV t (FR f 3) (FR f 4) (FR f 5) 2)
              | exact fin3_alloc hB2 (TV t (FR f 3) (FR f 4) (FR f 5) 0) (TV t (FR f 3) (FR f 4) (FR f 5) 1) (TV t (FR f 3) (FR f 4) (FR f 5) 2)
        case rest =>
          obtain ⟨E, rfl, hE, hBz⟩ := hcut
          have hNg3 := hNg2.below hBz
          have hBq := hBw.trans (hBz.mono hBw.size)
          clear hNg2 hNa2 hW0 hFW hBw hBz jE
          clear W
          obtain ⟨W, rfl⟩ : ∃ W : World, W = wc := ⟨_, rfl⟩
          go_wp2
          go_loopw [77] (fun x wr => ∃ k : Nat, k ≤ tQ t f ∧ x = .int .i64 k ∧ Below W.heap.size W wr) (fun x _ => 4 - (intOf x).toNat)
          case atStart => exact ⟨0, Nat.zero_le _, rfl, Below.refl _ _⟩
          case round =>
            obtain ⟨k, hk, rfl, hwr⟩ := hrel
            have hk4 : k < 4 := by omega
            have hNr := hNg3.below hwr
            have hEr := hE.below hwr
            have hw0 : Below wr.heap.size wr wr := Below.refl _ _
            have KEEP : Hid (∀ x : World, Below wr.heap.size wr x → x.cell? ⟨wa.heap.size, 0, none⟩ = some (.int .i64 (FR (tF t f) 0)) ∧ x.cell? ⟨wa.heap.size, 1, none⟩ = some (.int .i64 (FR (tF t f) 1)) ∧ x.cell? ⟨wa.heap.size, 2, none⟩ = some (.int .i64 (FR (tF t f) 2)) ∧ x.cell? ⟨wa.heap.size, 3, none⟩ = some (.int .i64 (FR (tF t f) 3)) ∧ x.cell? ⟨wa.heap.size, 4, none⟩ = some (.int .i64 (FR (tF t f) 4)) ∧ x.cell? ⟨wa.heap.size, 5, none⟩ = some (.int .i64 (FR (tF t f) 5)) ∧ x.cell? ⟨wa.heap.size, 6, none⟩ = some (.int .i64 (FR (tF t f) 6)) ∧ x.cell? ⟨wa.heap.size, 7, none⟩ = some (.int .i64 (FR (tF t f) 7)) ∧ x.cell? ⟨wa.heap.size, 8, none⟩ = some (.int .i64 (FR (tF t f) 8)) ∧ x.cell? ⟨E, 0, none⟩ = some (.int .i64 (TV t (FR f 3) (FR f 4) (FR f 5) 0)) ∧ x.cell? ⟨E, 1, none⟩ = some (.int .i64 (TV t (FR f 3) (FR f 4) (FR f 5) 1)) ∧ x.cell? ⟨E, 2, none⟩ = some (.int .i64 (TV t (FR f 3) (FR f 4) (FR f 5) 2)) ∧ Below wr.heap.size wr x) := Lib.hid (fun x h => by
              have hg := hNr.below h
              have he := hEr.below h
              exact ⟨hg.c0, hg.c1, hg.c2, hg.c3, hg.c4, hg.c5, hg.c6, hg.c7, hg.c8, he.c0, he.c1, he.c2, h⟩)
            by_cases hlt : k = tQ t f
            · have he : eq3 (OU k (FR (tF t f) 3) (FR (tF t f) 6)) (OU k (FR (tF t f) 4) (FR (tF t f) 7)) (OU k (FR (tF t f) 5) (FR (tF t f) 8)) (TV t (FR f 3) (FR f 4) (FR f 5) 0) (TV t (FR f 3) (FR f 4) (FR f 5) 1) (TV t (FR f 3) (FR f 4) (FR f 5) 2) = true := by rw [hlt]; exact eq3_true HM.out.1 HM.out.2.1 HM.out.2.2
              have HK := Lib.hid hlt
              clear hlt
              go_wp2
              go_region_held3 (fun x => x.cell? ⟨wa.heap.size, 0, none⟩ = some (.int .i64 (FR (tF t f) 0)) ∧ x.cell? ⟨wa.heap.size, 1, none⟩ = some (.int .i64 (FR (tF t f) 1)) ∧ x.cell? ⟨wa.heap.size, 2, none⟩ = some (.int .i64 (FR (tF t f) 2)) ∧ x.cell? ⟨wa.heap.size, 3, none⟩ = some (.int .i64 (FR (tF t f) 3)) ∧ x.cell? ⟨wa.heap.size, 4, none⟩ = some (.int .i64 (FR (tF t f) 4)) ∧ x.cell? ⟨wa.heap.size, 5, none⟩ = some (.int .i64 (FR (tF t f) 5)) ∧ x.cell? ⟨wa.heap.size, 6, none⟩ = some (.int .i64 (FR (tF t f) 6)) ∧ x.cell? ⟨wa.heap.size, 7, none⟩ = some (.int .i64 (FR (tF t f) 7)) ∧ x.cell? ⟨wa.heap.size, 8, none⟩ = some (.int .i64 (FR (tF t f) 8)) ∧ x.cell? ⟨E, 0, none⟩ = some (.int .i64 (TV t (FR f 3) (FR f 4) (FR f 5) 0)) ∧ x.cell? ⟨E, 1, none⟩ = some (.int .i64 (TV t (FR f 3) (FR f 4) (FR f 5) 1)) ∧ x.cell? ⟨E, 2, none⟩ = some (.int .i64 (TV t (FR f 3) (FR f 4) (FR f 5) 2)) ∧ Below wr.heap.size wr x)
                (first | exact KEEP.out _ (by assumption) | exact KEEP.out _ (Below.drew (by assumption)))
                (first | (go_at_call 31; refine (belC (B := wr.heap.size) (w := wr) (out_any _ _ _ _ _ _ _ _ _ _ hk4 v3 v6 _) (by first | assumption | exact Below.drew (by assumption)) (Nat.le_refl _)).mono ?_; rintro e w3 ⟨rfl, hB3⟩))
              go_wp2
              go_ret2
              exact ⟨by rw [HK.out]; rfl, by have hb := ‹Below wr.heap.size wr w3›; have hc := hwr.trans (hb.mono hwr.size); exact hBq.trans (hc.mono hBq.size)⟩
            · have he : eq3 (OU k (FR (tF t f) 3) (FR (tF t f) 6)) (OU k (FR (tF t f) 4) (FR (tF t f) 7)) (OU k (FR (tF t f) 5) (FR (tF t f) 8)) (TV t (FR f 3) (FR f 4) (FR f 5) 0) (TV t (FR f 3) (FR f 4) (FR f 5) 1) (TV t (FR f 3) (FR f 4) (FR f 5) 2) = false := eq3_false (fun h => hlt (HS.out k hk4 h))
              have hkl : k < tQ t f := by omega
              clear hlt
              go_wp2
              go_region_held3 (fun x => x.cell? ⟨wa.heap.size, 0, none⟩ = some (.int .i64 (FR (tF t f) 0)) ∧ x.cell? ⟨wa.heap.size, 1, none⟩ = some (.int .i64 (FR (tF t f) 1)) ∧ x.cell? ⟨wa.heap.size, 2, none⟩ = some (.int .i64 (FR (tF t f) 2)) ∧ x.cell? ⟨wa.heap.size, 3, none⟩ = some (.int .i64 (FR (tF t f) 3)) ∧ x.cell? ⟨wa.heap.size, 4, none⟩ = some (.int .i64 (FR (tF t f) 4)) ∧ x.cell? ⟨wa.heap.size, 5, none⟩ = some (.int .i64 (FR (tF t f) 5)) ∧ x.cell? ⟨wa.heap.size, 6, none⟩ = some (.int .i64 (FR (tF t f) 6)) ∧ x.cell? ⟨wa.heap.size, 7, none⟩ = some (.int .i64 (FR (tF t f) 7)) ∧ x.cell? ⟨wa.heap.size, 8, none⟩ = some (.int .i64 (FR (tF t f) 8)) ∧ x.cell? ⟨E, 0, none⟩ = some (.int .i64 (TV t (FR f 3) (FR f 4) (FR f 5) 0)) ∧ x.cell? ⟨E, 1, none⟩ = some (.int .i64 (TV t (FR f 3) (FR f 4) (FR f 5) 1)) ∧ x.cell? ⟨E, 2, none⟩ = some (.int .i64 (TV t (FR f 3) (FR f 4) (FR f 5) 2)) ∧ Below wr.heap.size wr x)
                (first | exact KEEP.out _ (by assumption) | exact KEEP.out _ (Below.drew (by assumption)))
                (first | (go_at_call 31; refine (belC (B := wr.heap.size) (w := wr) (out_any _ _ _ _ _ _ _ _ _ _ hk4 v3 v6 _) (by first | assumption | exact Below.drew (by assumption)) (Nat.le_refl _)).mono ?_; rintro e w3 ⟨rfl, hB3⟩))
              go_wp2
              go_roundw
              case rel => exact ⟨k + 1, by omega, by go_num, by have hb := ‹Below wr.heap.size wr w3›; exact hwr.trans (hb.mono hwr.size)⟩
              case measure => simp [intOf]; omega
end Go.Proofs.YtbfbafoeifigfaaDoor
