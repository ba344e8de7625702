/- One turn behind another. -/
import Derived.Test.YtbfbafoeifigfaaDoorCubeW
import Derived.Test.YtbfbafoeifigfaaDoorArrNine
namespace Go.Proofs.YtbfbafoeifigfaaDoor
open Go.RowKit TF

theorem eq_frame (w : World) (a b c d g h i j k a' b' c' d' g' h' i' j' k' : Int) : (Op.equalIn 10000 41 (.agg #[.int .i64 a, .int .i64 b, .int .i64 c, .int .i64 d, .int .i64 g, .int .i64 h, .int .i64 i, .int .i64 j, .int .i64 k]) (.agg #[.int .i64 a', .int .i64 b', .int .i64 c', .int .i64 d', .int .i64 g', .int .i64 h', .int .i64 i', .int .i64 j', .int .i64 k'])).run Tryd.prog w
      = .ok (eq3 a b c a' b' c' && (eq3 d g h d' g' h' && eq3 i j k i' j' k')) w :=
  equalIn_nine w a b c d g h i j k a' b' c' d' g' h' i' j' k' Tryd.underlying41 Tryd.underlying39 Tryd.underlying3 (by kernel_rfl) (by kernel_rfl)
theorem eq_guard9 (w : World) (op : BinOp) (x y : Operand) (xs ys : Array Value) : (eqGuard op 41 x y (.agg xs) (.agg ys)).run Tryd.prog w = .ok () w := run_eqGuard_agg w op _ x y xs ys (by kernel_rfl)
attribute [local go_sem] eq_frame eq_guard9
theorem own9_alloc (w : World) (a b c d g h i j k : Value) : Own9 (w.alloc (.cells #[a, b, c, d, g, h, i, j, k] 41)) w.heap.size :=
  ⟨⟨by simp [cellOr, go_sem], by simp [cellOr, go_sem], by simp [cellOr, go_sem], by simp [go_sem], by simp [go_sem], by simp [go_sem]⟩, by simp [cellOr, go_sem], by simp [cellOr, go_sem], by simp [cellOr, go_sem], by simp [cellOr, go_sem], by simp [cellOr, go_sem], by simp [cellOr, go_sem],
    by simp [go_sem], by simp [go_sem], by simp [go_sem], by simp [go_sem], by simp [go_sem], by simp [go_sem]⟩
theorem own9_alloc' (w : World) (a b c d g h i j k : Value) : Own9 (w.alloc (.cells #[a, b, c, d, g, h, i, j, k] 41)).drew w.heap.size := (own9_alloc w a b c d g h i j k).below (Below.drew (Below.refl _ _))
theorem AX_i1 {t : Nat} (h : t < 24) {k : Nat} (hk : k + 2 < 9) : I3 1001 (AX t k) (AX t (k + 1)) (AX t (k + 2)) := U_i1 (AX_u h hk)
theorem af_eqs {u t : Nat} (hu : u < 24) (ht : t < 24) : AX (afF u t) 0 = TV u (AX t 0) (AX t 1) (AX t 2) 0 ∧ AX (afF u t) 1 = TV u (AX t 0) (AX t 1) (AX t 2) 1 ∧ AX (afF u t) 2 = TV u (AX t 0) (AX t 1) (AX t 2) 2 ∧
    AX (afF u t) 3 = TV u (AX t 3) (AX t 4) (AX t 5) 0 ∧ AX (afF u t) 4 = TV u (AX t 3) (AX t 4) (AX t 5) 1 ∧ AX (afF u t) 5 = TV u (AX t 3) (AX t 4) (AX t 5) 2 ∧
    AX (afF u t) 6 = TV u (AX t 6) (AX t 7) (AX t 8) 0 ∧ AX (afF u t) 7 = TV u (AX t 6) (AX t 7) (AX t 8) 1 ∧ AX (afF u t) 8 = TV u (AX t 6) (AX t 7) (AX t 8) 2 := by
  have h := (af_fact u hu t ht).2
  exact ⟨h 0 (by omega) 0 (by omega), h 0 (by omega) 1 (by omega), h 0 (by omega) 2 (by omega), h 1 (by omega) 0 (by omega), h 1 (by omega) 1 (by omega), h 1 (by omega) 2 (by omega), h 2 (by omega) 0 (by omega), h 2 (by omega) 1 (by omega), h 2 (by omega) 2 (by omega)⟩
theorem fin9_set {W w1 : World} {b : Nat} {g : Nat → Int} {v0 v1 v2 v3 v4 v5 v6 v7 v8 : Int} (hO : Own9 w1 b) (hB : Below W.heap.size W w1) (hb : W.heap.size ≤ b) (e : g 0 = v0 ∧ g 1 = v1 ∧ g 2 = v2 ∧ g 3 = v3 ∧ g 4 = v4 ∧ g 5 = v5 ∧ g 6 = v6 ∧ g 7 = v7 ∧ g 8 = v8) :
    ∃ B, Value.pointer (some ⟨b, 0, none⟩) = .pointer (some ⟨B, 0, none⟩) ∧ Nine (((((((((w1.setCell ⟨b, 0, none⟩ (.int .i64 v0)).setCell ⟨b, 1, none⟩ (.int .i64 v1)).setCell ⟨b, 2, none⟩ (.int .i64 v2)).setCell ⟨b, 3, none⟩ (.int .i64 v3)).setCell ⟨b, 4, none⟩ (.int .i64 v4)).setCell ⟨b, 5, none⟩ (.int .i64 v5)).setCell ⟨b, 6, none⟩ (.int .i64 v6)).setCell ⟨b, 7, none⟩ (.int .i64 v7)).setCell ⟨b, 8, none⟩ (.int .i64 v8)) B g ∧
      Below W.heap.size W (((((((((w1.setCell ⟨b, 0, none⟩ (.int .i64 v0)).setCell ⟨b, 1, none⟩ (.int .i64 v1)).setCell ⟨b, 2, none⟩ (.int .i64 v2)).setCell ⟨b, 3, none⟩ (.int .i64 v3)).setCell ⟨b, 4, none⟩ (.int .i64 v4)).setCell ⟨b, 5, none⟩ (.int .i64 v5)).setCell ⟨b, 6, none⟩ (.int .i64 v6)).setCell ⟨b, 7, none⟩ (.int .i64 v7)).setCell ⟨b, 8, none⟩ (.int .i64 v8)) := by
  obtain ⟨e0, e1, e2, e3, e4, e5, e6, e7, e8⟩ := e
  exact ⟨b, rfl, nine_store hO e0 e1 e2 e3 e4 e5 e6 e7 e8, ((((((((hB.setCell hb _).setCell hb _).setCell hb _).setCell hb _).setCell hb _).setCell hb _).setCell hb _).setCell hb _).setCell hb _⟩
theorem fin9_alloc {W w1 : World} {g : Nat → Int} {v0 v1 v2 v3 v4 v5 v6 v7 v8 : Int} (hB : Below W.heap.size W w1) (e : g 0 = v0 ∧ g 1 = v1 ∧ g 2 = v2 ∧ g 3 = v3 ∧ g 4 = v4 ∧ g 5 = v5 ∧ g 6 = v6 ∧ g 7 = v7 ∧ g 8 = v8) :
    ∃ B, Value.pointer (some ⟨w1.heap.size, 0, none⟩) = .pointer (some ⟨B, 0, none⟩) ∧ Nine (w1.alloc (.cells #[.int .i64 v0, .int .i64 v1, .int .i64 v2, .int .i64 v3, .int .i64 v4, .int .i64 v5, .int .i64 v6, .int .i64 v7, .int .i64 v8] 41)) B g ∧
      Below W.heap.size W (w1.alloc (.cells #[.int .i64 v0, .int .i64 v1, .int .i64 v2, .int .i64 v3, .int .i64 v4, .int .i64 v5, .int .i64 v6, .int .i64 v7, .int .i64 v8] 41)) := by
  obtain ⟨rfl, rfl, rfl, rfl, rfl, rfl, rfl, rfl, rfl⟩ := e
  exact ⟨_, rfl, ⟨by simp [go_sem], by simp [go_sem], by simp [go_sem], by simp [go_sem], by simp [go_sem], by simp [go_sem], by simp [go_sem], by simp [go_sem], by simp [go_sem]⟩, hB.alloc hB.size _⟩

set_option maxRecDepth 100000 in
set_option maxHeartbeats 8000000 in
theorem after_at (u t : Nat) (hu : u < 24) (ht : t < 24) (w : World) (hF : Fr w) :
    Calls Tryd.prog 18 #[.int .i64 u, .int .i64 t] w fun e w' => e = .returned (.int .i64 (afF u t : Nat)) ∧ Below w.heap.size w w' := by
  have HE := Lib.hid (af_eqs hu ht)
  have ha24 := (af_fact u hu t ht).1
  have HI := Lib.hid (fun k hk => ax_inj k hk (afF u t) ha24)
  have i0 : I3 1001 (AX t 0) (AX t 1) (AX t 2) := AX_i1 ht (by omega)
  have i3 : I3 1001 (AX t 3) (AX t 4) (AX t 5) := AX_i1 ht (by omega)
  have i6 : I3 1001 (AX t 6) (AX t 7) (AX t 8) := AX_i1 ht (by omega)
  go_enter Tryd.func18, Tryd.ntmps18
  go_wp2_with (first | (go_at_call 26; refine (belC (B := w.heap.size) (w := w) (axes_any u hu _ (hF.below hB1)) hB1 (Nat.le_refl _)).mono ?_; rintro e w2 ⟨rfl, hB2⟩) | (go_at_call 26; refine (belC (B := w.heap.size) (w := w) (axes_any t ht _ hF) (Below.refl _ _) (Nat.le_refl _)).mono ?_; rintro e w1 ⟨rfl, hB1⟩))
  have hBv : Below w.heap.size w ((w2.alloc (.cells #[.int .i64 (AX t 0), .int .i64 (AX t 1), .int .i64 (AX t 2), .int .i64 (AX t 3), .int .i64 (AX t 4), .int .i64 (AX t 5), .int .i64 (AX t 6), .int .i64 (AX t 7), .int .i64 (AX t 8)] 41)).alloc (.cells #[.int .i64 (AX u 0), .int .i64 (AX u 1), .int .i64 (AX u 2), .int .i64 (AX u 3), .int .i64 (AX u 4), .int .i64 (AX u 5), .int .i64 (AX u 6), .int .i64 (AX u 7), .int .i64 (AX u 8)] 41)) := (hB2.alloc hB2.size _).alloc (by simp; have := hB2.size; omega) _
  go_cut [7] (fun p wc => ∃ B, p = .pointer (some ⟨B, 0, none⟩) ∧ Nine wc B (AX (afF u t)) ∧ Below w.heap.size w wc)
  case first =>
    obtain ⟨W, hW⟩ : ∃ W : World, W = (w2.alloc (.cells #[.int .i64 (AX t 0), .int .i64 (AX t 1), .int .i64 (AX t 2), .int .i64 (AX t 3), .int .i64 (AX t 4), .int .i64 (AX t 5), .int .i64 (AX t 6), .int .i64 (AX t 7), .int .i64 (AX t 8)] 41)).alloc (.cells #[.int .i64 (AX u 0), .int .i64 (AX u 1), .int .i64 (AX u 2), .int .i64 (AX u 3), .int .i64 (AX u 4), .int .i64 (AX u 5), .int .i64 (AX u 6), .int .i64 (AX u 7), .int .i64 (AX u 8)] 41) := ⟨_, rfl⟩
    rw [← hW]
    rw [← hW] at hBv
    have hN1 : Nine W w2.heap.size (AX t) := by rw [hW]; exact ⟨by simp [go_sem], by simp [go_sem], by simp [go_sem], by simp [go_sem], by simp [go_sem], by simp [go_sem], by simp [go_sem], by simp [go_sem], by simp [go_sem]⟩
    have hN2 : Nine W (w2.heap.size + 1) (AX u) := by rw [hW]; exact ⟨by simp [go_sem], by simp [go_sem], by simp [go_sem], by simp [go_sem], by simp [go_sem], by simp [go_sem], by simp [go_sem], by simp [go_sem], by simp [go_sem]⟩
    clear hW
    have hW0 : Below W.heap.size W W := Below.refl _ _
    have KEEP : Hid (∀ x : World, Below W.heap.size W x → x.cell? ⟨w2.heap.size, 0, none⟩ = some (.int .i64 (AX t 0)) ∧ x.cell? ⟨w2.heap.size, 1, none⟩ = some (.int .i64 (AX t 1)) ∧ x.cell? ⟨w2.heap.size, 2, none⟩ = some (.int .i64 (AX t 2)) ∧ x.cell? ⟨w2.heap.size, 3, none⟩ = some (.int .i64 (AX t 3)) ∧ x.cell? ⟨w2.heap.size, 4, none⟩ = some (.int .i64 (AX t 4)) ∧ x.cell? ⟨w2.heap.size, 5, none⟩ = some (.int .i64 (AX t 5)) ∧ x.cell? ⟨w2.heap.size, 6, none⟩ = some (.int .i64 (AX t 6)) ∧ x.cell? ⟨w2.heap.size, 7, none⟩ = some (.int .i64 (AX t 7)) ∧ x.cell? ⟨w2.heap.size, 8, none⟩ = some (.int .i64 (AX t 8)) ∧ x.cell? ⟨w2.heap.size + 1, 0, none⟩ = some (.int .i64 (AX u 0)) ∧ x.cell? ⟨w2.heap.size + 1, 1, none⟩ = some (.int .i64 (AX u 1)) ∧ x.cell? ⟨w2.heap.size + 1, 2, none⟩ = some (.int .i64 (AX u 2)) ∧ x.cell? ⟨w2.heap.size + 1, 3, none⟩ = some (.int .i64 (AX u 3)) ∧ x.cell? ⟨w2.heap.size + 1, 4, none⟩ = some (.int .i64 (AX u 4)) ∧ x.cell? ⟨w2.heap.size + 1, 5, none⟩ = some (.int .i64 (AX u 5)) ∧ x.cell? ⟨w2.heap.size + 1, 6, none⟩ = some (.int .i64 (AX u 6)) ∧ x.cell? ⟨w2.heap.size + 1, 7, none⟩ = some (.int .i64 (AX u 7)) ∧ x.cell? ⟨w2.heap.size + 1, 8, none⟩ = some (.int .i64 (AX u 8)) ∧ Below W.heap.size W x) := Lib.hid (fun x h => by
      have hx := hN1.below h
      have hy := hN2.below h
      exact ⟨hx.c0, hx.c1, hx.c2, hx.c3, hx.c4, hx.c5, hx.c6, hx.c7, hx.c8, hy.c0, hy.c1, hy.c2, hy.c3, hy.c4, hy.c5, hy.c6, hy.c7, hy.c8, h⟩)
    go_region_held3 (fun x => x.cell? ⟨w2.heap.size, 0, none⟩ = some (.int .i64 (AX t 0)) ∧ x.cell? ⟨w2.heap.size, 1, none⟩ = some (.int .i64 (AX t 1)) ∧ x.cell? ⟨w2.heap.size, 2, none⟩ = some (.int .i64 (AX t 2)) ∧ x.cell? ⟨w2.heap.size, 3, none⟩ = some (.int .i64 (AX t 3)) ∧ x.cell? ⟨w2.heap.size, 4, none⟩ = some (.int .i64 (AX t 4)) ∧ x.cell? ⟨w2.heap.size, 5, none⟩ = some (.int .i64 (AX t 5)) ∧ x.cell? ⟨w2.heap.size, 6, none⟩ = some (.int .i64 (AX t 6)) ∧ x.cell? ⟨w2.heap.size, 7, none⟩ = some (.int .i64 (AX t 7)) ∧ x.cell? ⟨w2.heap.size, 8, none⟩ = some (.int .i64 (AX t 8)) ∧ x.cell? ⟨w2.heap.size + 1, 0, none⟩ = some (.int .i64 (AX u 0)) ∧ x.cell? ⟨w2.heap.size + 1, 1, none⟩ = some (.int .i64 (AX u 1)) ∧ x.cell? ⟨w2.heap.size + 1, 2, none⟩ = some (.int .i64 (AX u 2)) ∧ x.cell? ⟨w2.heap.size + 1, 3, none⟩ = some (.int .i64 (AX u 3)) ∧ x.cell? ⟨w2.heap.size + 1, 4, none⟩ = some (.int .i64 (AX u 4)) ∧ x.cell? ⟨w2.heap.size + 1, 5, none⟩ = some (.int .i64 (AX u 5)) ∧ x.cell? ⟨w2.heap.size + 1, 6, none⟩ = some (.int .i64 (AX u 6)) ∧ x.cell? ⟨w2.heap.size + 1, 7, none⟩ = some (.int .i64 (AX u 7)) ∧ x.cell? ⟨w2.heap.size + 1, 8, none⟩ = some (.int .i64 (AX u 8)) ∧ Below W.heap.size W x)
      ((refine KEEP.out _ ?_; repeat (first | with_reducible assumption | (with_reducible refine Below.drew ?_) | (with_reducible refine Below.setCell ?_ (by (first | exact Nat.le_refl _ | exact Below.size (by with_reducible assumption))) _) | (with_reducible refine Below.alloc ?_ (by (first | exact Nat.le_refl _ | exact Below.size (by with_reducible assumption))) _))))
      (first | (go_at_call 27; refine (belD (B := W.heap.size) (w := W) (turned_any u hu _ _ _ (by with_reducible assumption) _) (by repeat (first | with_reducible assumption | (with_reducible refine Below.drew ?_) | (with_reducible refine Below.setCell ?_ (by (first | exact Nat.le_refl _ | exact Below.size (by with_reducible assumption))) _) | (with_reducible refine Below.alloc ?_ (by (first | exact Nat.le_refl _ | exact Below.size (by with_reducible assumption))) _))) (Nat.le_refl _)).mono ?_; rintro e w4 ⟨rfl, hB4, hR⟩; first | (have hO : Own9 w4 W.heap.size := Own9.below (own9_alloc' W _ _ _ _ _ _ _ _ _) hR; have q := hO; obtain ⟨⟨p0, p1, p2, p3, p4, p5⟩, p6, p7, p8, p9, p10, p11, p12, p13, p14, p15, p16, p17⟩ := q) | (have hO := Own9.below (by with_reducible assumption) hR; have q := hO; obtain ⟨⟨p0, p1, p2, p3, p4, p5⟩, p6, p7, p8, p9, p10, p11, p12, p13, p14, p15, p16, p17⟩ := q) | (have hO := Own9.below (own9_alloc _ _ _ _ _ _ _ _ _ _) hR; have q := hO; obtain ⟨⟨p0, p1, p2, p3, p4, p5⟩, p6, p7, p8, p9, p10, p11, p12, p13, p14, p15, p16, p17⟩ := q) | skip))
    all_goals
      go_wp2_with fail
      go_meet
      first
        | (obtain ⟨B, e1, e2, e3⟩ := fin9_set hO hB4 (by first | exact Nat.le_refl _ | exact Below.size (by with_reducible assumption)) HE.out; exact ⟨B, e1, e2, hBv.trans (e3.mono hBv.size)⟩)
        | (obtain ⟨B, e1, e2, e3⟩ := fin9_alloc hB4 HE.out; exact ⟨B, e1, e2, hBv.trans (e3.mono hBv.size)⟩)
  case rest =>
    obtain ⟨B, rfl, hN, hBc⟩ := hcut
    obtain ⟨W, rfl⟩ : ∃ W : World, W = wc := ⟨_, rfl⟩
    go_wp2
    go_loopw [40] (fun x wr => ∃ k : Nat, k ≤ afF u t ∧ x = .int .i64 k ∧ Below W.heap.size W wr) (fun x _ => 24 - (intOf x).toNat)
    case atStart => exact ⟨0, Nat.zero_le _, rfl, Below.refl _ _⟩
    case round =>
      obtain ⟨k, hk, rfl, hwr⟩ := hrel
      have hk24 : k < 24 := by omega
      have hNr := hN.below hwr
      have hFr := hF.below (hBc.trans (hwr.mono hBc.size))
      have hw0 : Below wr.heap.size wr wr := Below.refl _ _
      have KEEP : Hid (∀ x : World, Below wr.heap.size wr x → x.cell? ⟨B, 0, none⟩ = some (.int .i64 (AX (afF u t) 0)) ∧ x.cell? ⟨B, 1, none⟩ = some (.int .i64 (AX (afF u t) 1)) ∧ x.cell? ⟨B, 2, none⟩ = some (.int .i64 (AX (afF u t) 2)) ∧ x.cell? ⟨B, 3, none⟩ = some (.int .i64 (AX (afF u t) 3)) ∧ x.cell? ⟨B, 4, none⟩ = some (.int .i64 (AX (afF u t) 4)) ∧ x.cell? ⟨B, 5, none⟩ = some (.int .i64 (AX (afF u t) 5)) ∧ x.cell? ⟨B, 6, none⟩ = some (.int .i64 (AX (afF u t) 6)) ∧ x.cell? ⟨B, 7, none⟩ = some (.int .i64 (AX (afF u t) 7)) ∧ x.cell? ⟨B, 8, none⟩ = some (.int .i64 (AX (afF u t) 8)) ∧ Below wr.heap.size wr x) := Lib.hid (fun x h => by
        have hg := hNr.below h
        exact ⟨hg.c0, hg.c1, hg.c2, hg.c3, hg.c4, hg.c5, hg.c6, hg.c7, hg.c8, h⟩)
      by_cases hlt : k = afF u t
      · have he : (eq3 (AX k 0) (AX k 1) (AX k 2) (AX (afF u t) 0) (AX (afF u t) 1) (AX (afF u t) 2) && (eq3 (AX k 3) (AX k 4) (AX k 5) (AX (afF u t) 3) (AX (afF u t) 4) (AX (afF u t) 5) && eq3 (AX k 6) (AX k 7) (AX k 8) (AX (afF u t) 6) (AX (afF u t) 7) (AX (afF u t) 8))) = true := by rw [hlt]; simp [eq3]
        have HK := Lib.hid hlt
        clear hlt
        go_wp2
        go_region_held3 (fun x => x.cell? ⟨B, 0, none⟩ = some (.int .i64 (AX (afF u t) 0)) ∧ x.cell? ⟨B, 1, none⟩ = some (.int .i64 (AX (afF u t) 1)) ∧ x.cell? ⟨B, 2, none⟩ = some (.int .i64 (AX (afF u t) 2)) ∧ x.cell? ⟨B, 3, none⟩ = some (.int .i64 (AX (afF u t) 3)) ∧ x.cell? ⟨B, 4, none⟩ = some (.int .i64 (AX (afF u t) 4)) ∧ x.cell? ⟨B, 5, none⟩ = some (.int .i64 (AX (afF u t) 5)) ∧ x.cell? ⟨B, 6, none⟩ = some (.int .i64 (AX (afF u t) 6)) ∧ x.cell? ⟨B, 7, none⟩ = some (.int .i64 (AX (afF u t) 7)) ∧ x.cell? ⟨B, 8, none⟩ = some (.int .i64 (AX (afF u t) 8)) ∧ Below wr.heap.size wr x)
          ((refine KEEP.out _ ?_; repeat (first | with_reducible assumption | (with_reducible refine Below.drew ?_) | (with_reducible refine Below.setCell ?_ (by (first | exact Nat.le_refl _ | exact Below.size (by with_reducible assumption))) _) | (with_reducible refine Below.alloc ?_ (by (first | exact Nat.le_refl _ | exact Below.size (by with_reducible assumption))) _))))
          (first | (go_at_call 26; refine (belC (B := wr.heap.size) (w := wr) (axes_any k hk24 _ (hFr.below (by first | with_reducible assumption | exact Below.drew (by with_reducible assumption)))) (by first | with_reducible assumption | exact Below.drew (by with_reducible assumption)) (Nat.le_refl _)).mono ?_; rintro e w5 ⟨rfl, hB5⟩))
        go_wp2
        go_ret
        exact ⟨by rw [HK.out]; rfl, by have hb := ‹Below wr.heap.size wr w5›; have hc := hwr.trans (hb.mono hwr.size); exact hBc.trans (hc.mono hBc.size)⟩
      · have he : (eq3 (AX k 0) (AX k 1) (AX k 2) (AX (afF u t) 0) (AX (afF u t) 1) (AX (afF u t) 2) && (eq3 (AX k 3) (AX k 4) (AX k 5) (AX (afF u t) 3) (AX (afF u t) 4) (AX (afF u t) 5) && eq3 (AX k 6) (AX k 7) (AX k 8) (AX (afF u t) 6) (AX (afF u t) 7) (AX (afF u t) 8))) = false := by
          rw [Bool.eq_false_iff]
          intro h
          simp only [eq3, Bool.and_eq_true, decide_eq_true_eq] at h
          obtain ⟨⟨q0, q1, q2⟩, ⟨q3, q4, q5⟩, q6, q7, q8⟩ := h
          exact hlt (HI.out k hk24 (fun m hm => by
            match m, hm with
            | 0, _ => exact q0
            | 1, _ => exact q1
            | 2, _ => exact q2
            | 3, _ => exact q3
            | 4, _ => exact q4
            | 5, _ => exact q5
            | 6, _ => exact q6
            | 7, _ => exact q7
            | 8, _ => exact q8))
        have hkl : k < afF u t := by omega
        clear hlt
        go_wp2
        go_region_held3 (fun x => x.cell? ⟨B, 0, none⟩ = some (.int .i64 (AX (afF u t) 0)) ∧ x.cell? ⟨B, 1, none⟩ = some (.int .i64 (AX (afF u t) 1)) ∧ x.cell? ⟨B, 2, none⟩ = some (.int .i64 (AX (afF u t) 2)) ∧ x.cell? ⟨B, 3, none⟩ = some (.int .i64 (AX (afF u t) 3)) ∧ x.cell? ⟨B, 4, none⟩ = some (.int .i64 (AX (afF u t) 4)) ∧ x.cell? ⟨B, 5, none⟩ = some (.int .i64 (AX (afF u t) 5)) ∧ x.cell? ⟨B, 6, none⟩ = some (.int .i64 (AX (afF u t) 6)) ∧ x.cell? ⟨B, 7, none⟩ = some (.int .i64 (AX (afF u t) 7)) ∧ x.cell? ⟨B, 8, none⟩ = some (.int .i64 (AX (afF u t) 8)) ∧ Below wr.heap.size wr x)
          ((refine KEEP.out _ ?_; repeat (first | with_reducible assumption | (with_reducible refine Below.drew ?_) | (with_reducible refine Below.setCell ?_ (by (first | exact Nat.le_refl _ | exact Below.size (by with_reducible assumption))) _) | (with_reducible refine Below.alloc ?_ (by (first | exact Nat.le_refl _ | exact Below.size (by with_reducible assumption))) _))))
          (first | (go_at_call 26; refine (belC (B := wr.heap.size) (w := wr) (axes_any k hk24 _ (hFr.below (by first | with_reducible assumption | exact Below.drew (by with_reducible assumption)))) (by first | with_reducible assumption | exact Below.drew (by with_reducible assumption)) (Nat.le_refl _)).mono ?_; rintro e w5 ⟨rfl, hB5⟩))
        go_wp2
        go_roundw
        case rel => exact ⟨k + 1, by omega, by go_num, by have hb := ‹Below wr.heap.size wr w5›; exact hwr.trans (hb.mono hwr.size)⟩
        case measure => simp [intOf]; omega

theorem after_none (u t : Int) (h : t < 0 ∨ (0 ≤ t ∧ 24 ≤ t) ∨ (0 ≤ t ∧ t < 24 ∧ u < 0) ∨ (0 ≤ t ∧ t < 24 ∧ 0 ≤ u ∧ 24 ≤ u)) (w : World) :
    Calls Tryd.prog 18 #[.int .i64 u, .int .i64 t] w fun e w' => e = .returned (.int .i64 (-1)) ∧ w = w' := by
  rcases h with h | ⟨h, h1⟩ | ⟨h, h1, h2⟩ | ⟨h, h1, h2, h3⟩
  all_goals
    go_enter Tryd.func18, Tryd.ntmps18
    go_wp2_with fail
    go_ret
    exact ⟨rfl, rfl⟩
set_option maxRecDepth 100000 in
theorem turn_none (n c t : Int) (h : (placeI n c).2.2.2 = false ∨ ((placeI n c).2.2.2 = true ∧ t < 0) ∨ ((placeI n c).2.2.2 = true ∧ 0 ≤ t ∧ 24 ≤ t)) (w : World) :
    Calls Tryd.prog 22 #[.int .i64 n, .int .i64 t, .int .i64 c] w fun e w' => e = .returned (.tuple #[.int .i64 (-1), .int .i64 0]) ∧ Below w.heap.size w w' := by
  obtain ⟨p, hp⟩ : ∃ p, p = placeI n c := ⟨_, rfl⟩
  have HC : Hid (∀ w : World, Calls Tryd.prog 12 #[.int .i64 n, .int .i64 c] w fun e w' => e = .returned (.tuple #[.int .i64 p.1, .int .i64 p.2.1, .int .i64 p.2.2.1, .bool p.2.2.2]) ∧ Below w.heap.size w w') := Lib.hid (fun w => by
    rw [hp]; exact (place_any n c w).mono fun _ _ ⟨h1, k, h2⟩ => ⟨h1, by rw [h2]; exact below_drewN (Below.refl _ _) _⟩)
  rw [← hp] at h
  clear hp
  obtain ⟨p0, p1, p2, p3⟩ := p
  simp only at h
  have HC' : Hid (∀ w : World, Calls Tryd.prog 12 #[.int .i64 n, .int .i64 c] w fun e w' => e = .returned (.tuple #[.int .i64 p0, .int .i64 p1, .int .i64 p2, .bool p3]) ∧ Below w.heap.size w w') := HC
  clear HC
  rcases h with rfl | ⟨rfl, h⟩ | ⟨rfl, h, h'⟩
  all_goals
    go_enter Tryd.func22, Tryd.ntmps22
    go_wp2_with (go_at_call 12; refine (HC'.out _).mono ?_; rintro e w1 ⟨rfl, hB0⟩)
    go_ret2
    exact ⟨rfl, hB0⟩
end Go.Proofs.YtbfbafoeifigfaaDoor
