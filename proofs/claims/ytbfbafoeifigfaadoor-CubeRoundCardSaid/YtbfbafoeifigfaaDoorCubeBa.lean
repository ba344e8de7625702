/- The statement CubeBack: what lies beside leads back. -/
import Derived.Test.YtbfbafoeifigfaaDoorCubeZ
import Derived.Test.YtbfbafoeifigfaaDoorCubeP
namespace Go.Proofs.YtbfbafoeifigfaaDoor
open Go.RowKit TF

theorem besideW {n : Int} {f w : Nat} {l o : Int} (h : OnW n f w l o) : BesideAt n (cW n f w l o) w (cW n (nF n f w o) (nW n f w o) l (nO n o)) (((nW n f w o + 2) % 4 : Nat)) := by
  have := besideAt h.on h.w4
  rw [(step_w h).1, (step_w h).2] at this
  exact this
theorem besideBack {n : Int} {f w : Nat} {l o : Int} (h : OnW n f w l o) : BesideAt n (cW n (nF n f w o) (nW n f w o) l (nO n o)) (((nW n f w o + 2) % 4 : Nat)) (cW n f w l o) w := by
  have := besideW h.next.flip
  obtain ⟨e1, e2, e3⟩ := back_w h
  rw [flip_w _ _ h.next.w4, e1, e2, e3, flip_w _ _ h.w4] at this
  rwa [show ((w + 2) % 4 + 2) % 4 = w from by have := h.w4; omega] at this
theorem back_pack {n c : Int} (h1 : 1 ≤ n) (h2 : n ≤ 32) (hc0 : 0 ≤ c) (hc1 : c < 6 * n * n) :
    ∃ D B : Nat → Int, (∀ s : Nat, s < 4 → BesideAt n c s (D s) (B s) ∧ BesideAt n (D s) (B s) c s ∧ 0 ≤ D s ∧ D s < 6 * n * n ∧ ((D s == c) = false) ∧ 0 ≤ B s ∧ B s ≤ 3) ∧ ∀ s : Nat, s < 4 → ∀ u : Nat, u < 4 → s ≠ u → (D s == D u) = false := by
  obtain ⟨f, i, j, hO, rfl⟩ := on_of h1 h2 hc0 hc1
  refine ⟨fun s => cellN n (bF n f s i j) (bX n f s i j) (bY n f s i j), fun s => ((bS n f s i j : Nat) : Int), fun s hs => ?_, fun s hs u hu hne => by simpa using b_apart hO hs hu hne⟩
  obtain ⟨hB, hW, hS, -⟩ := b_on hO hs
  obtain ⟨e, hw⟩ := cell_w hO hs
  obtain ⟨e1, e2⟩ := step_w hw
  obtain ⟨p1, p2⟩ := pos_off (n := n) hs i j
  rw [p1, p2] at e1 e2
  refine ⟨besideAt hO hs, ?_, hB.bound.1, hB.bound.2, by simpa using b_self hO hs, by show (0 : Int) ≤ ((bS n f s i j : Nat) : Int); omega, by show ((bS n f s i j : Nat) : Int) ≤ 3; omega⟩
  show BesideAt n (cellN n (bF n f s i j) (bX n f s i j) (bY n f s i j)) ((bS n f s i j : Nat) : Int) (cellN n f i j) s
  rw [e1, e2, e]
  exact besideBack hw

/-- Four numbers in a block that may be written. -/
structure Four (w : World) (b : Nat) (x0 x1 x2 x3 : Int) : Prop where
  c0 : w.cell? ⟨b, 0, none⟩ = some (.int .i64 x0)
  c1 : w.cell? ⟨b, 1, none⟩ = some (.int .i64 x1)
  c2 : w.cell? ⟨b, 2, none⟩ = some (.int .i64 x2)
  c3 : w.cell? ⟨b, 3, none⟩ = some (.int .i64 x3)
  f0 : w.frozen? ⟨b, 0, none⟩ = false
  f1 : w.frozen? ⟨b, 1, none⟩ = false
  f2 : w.frozen? ⟨b, 2, none⟩ = false
  f3 : w.frozen? ⟨b, 3, none⟩ = false
theorem Four.below {w w1 : World} {b : Nat} {x0 x1 x2 x3 : Int} (h : Four w b x0 x1 x2 x3) (hb : Below w.heap.size w w1) : Four w1 b x0 x1 x2 x3 := by
  have hlt : b < w.heap.size := lt_of_some h.c0
  have e : ∀ j, w1.cell? ⟨b, j, none⟩ = w.cell? ⟨b, j, none⟩ := fun j => hb.cell (p := ⟨b, j, none⟩) hlt
  have g : ∀ j, w1.frozen? ⟨b, j, none⟩ = w.frozen? ⟨b, j, none⟩ := fun j => hb.frozen (p := ⟨b, j, none⟩) hlt
  exact ⟨(e 0).trans h.c0, (e 1).trans h.c1, (e 2).trans h.c2, (e 3).trans h.c3, (g 0).trans h.f0, (g 1).trans h.f1, (g 2).trans h.f2, (g 3).trans h.f3⟩
theorem Four.set0 {w : World} {b : Nat} {x0 x1 x2 x3 : Int} (h : Four w b x0 x1 x2 x3) (v : Int) : Four (w.setCell ⟨b, 0, none⟩ (.int .i64 v)) b v x1 x2 x3 := by
  obtain ⟨p0, p1, p2, p3, q0, q1, q2, q3⟩ := h
  exact ⟨by simp [go_sem, p0], by simp [go_sem, p1], by simp [go_sem, p2], by simp [go_sem, p3], by simp [go_sem, q0], by simp [go_sem, q1], by simp [go_sem, q2], by simp [go_sem, q3]⟩
theorem Four.set1 {w : World} {b : Nat} {x0 x1 x2 x3 : Int} (h : Four w b x0 x1 x2 x3) (v : Int) : Four (w.setCell ⟨b, 1, none⟩ (.int .i64 v)) b x0 v x2 x3 := by
  obtain ⟨p0, p1, p2, p3, q0, q1, q2, q3⟩ := h
  exact ⟨by simp [go_sem, p0], by simp [go_sem, p1], by simp [go_sem, p2], by simp [go_sem, p3], by simp [go_sem, q0], by simp [go_sem, q1], by simp [go_sem, q2], by simp [go_sem, q3]⟩
theorem Four.set2 {w : World} {b : Nat} {x0 x1 x2 x3 : Int} (h : Four w b x0 x1 x2 x3) (v : Int) : Four (w.setCell ⟨b, 2, none⟩ (.int .i64 v)) b x0 x1 v x3 := by
  obtain ⟨p0, p1, p2, p3, q0, q1, q2, q3⟩ := h
  exact ⟨by simp [go_sem, p0], by simp [go_sem, p1], by simp [go_sem, p2], by simp [go_sem, p3], by simp [go_sem, q0], by simp [go_sem, q1], by simp [go_sem, q2], by simp [go_sem, q3]⟩
theorem Four.set3 {w : World} {b : Nat} {x0 x1 x2 x3 : Int} (h : Four w b x0 x1 x2 x3) (v : Int) : Four (w.setCell ⟨b, 3, none⟩ (.int .i64 v)) b x0 x1 x2 v := by
  obtain ⟨p0, p1, p2, p3, q0, q1, q2, q3⟩ := h
  exact ⟨by simp [go_sem, p0], by simp [go_sem, p1], by simp [go_sem, p2], by simp [go_sem, p3], by simp [go_sem, q0], by simp [go_sem, q1], by simp [go_sem, q2], by simp [go_sem, q3]⟩
theorem four_of {w : World} {b : Nat} {x0 x1 x2 x3 y0 y1 y2 y3 : Int} (h : Four w b x0 x1 x2 x3) (e0 : x0 = y0) (e1 : x1 = y1) (e2 : x2 = y2) (e3 : x3 = y3) : Four w b y0 y1 y2 y3 := by subst e0 e1 e2 e3; exact h
theorem bel_set {w1 w3 : World} (h : Below w1.heap.size w1 w3) (j : Nat) (v : Value) : Below w1.heap.size w1 (w3.setCell ⟨w1.heap.size, j, none⟩ v) := h.setCell (Nat.le_refl _) v
def pre (D : Nat → Int) (k s : Nat) : Int := if s < k then D s else 0

set_option maxRecDepth 100000 in
set_option maxHeartbeats 4000000 in
theorem cubeBack_walk (a0 a1 a2 a3 a4 a5 a6 a7 : Int) (w : World) (hF : Fr w) :
    Calls Tryd.prog 6 #[.agg #[.int .i64 a0, .int .i64 a1, .int .i64 a2, .int .i64 a3, .int .i64 a4, .int .i64 a5, .int .i64 a6, .int .i64 a7]] w fun e w' => e = .returned (.bool true) ∧ Below w.heap.size w w' := by
  have hsz := hF.size
  go_enter Tryd.func6, Tryd.ntmps6
  go_wp2_with (first | (go_at_call 11; ((with_reducible refine (belD (B := w.heap.size) (w := w) (awake_any _ (hF.below (bel1 _ _))) (bel1 _ _) (Nat.le_refl _)).mono ?_)); rintro e w1 ⟨rfl, hB0, hR⟩; obtain ⟨hc, hf⟩ := bcell hR; have hF1 := hF.below hB0; have hB := Below.refl w1.heap.size w1; have hlt : w.heap.size < w1.heap.size := (box_lt hR)) | (go_at_call 24; ((with_reducible refine (within_any _ 32 (by omega) (by omega) _).mono ?_)); rintro e w2 ⟨r, hr0, hr1, rfl, rfl⟩; obtain ⟨q1, q2⟩ := six_bd hr0 hr1) | (go_at_call 24; ((with_reducible refine (within_any _ (6 * (1 + r) * (1 + r)) q1 (by omega) _).mono ?_)); rintro e w2 ⟨c, hc0, hc1, rfl, rfl⟩))
  obtain ⟨D, B, HD, HA⟩ := back_pack (n := 1 + r) (c := c) (by omega) (by omega) hc0 hc1
  have HH := Lib.hid HD
  have HP := Lib.hid HA
  clear HD HA
  go_loopw [6] (fun i wr => ∃ k : Nat, k ≤ 4 ∧ i = .int .i64 k ∧ Four wr w1.heap.size (pre D k 0) (pre D k 1) (pre D k 2) (pre D k 3) ∧ Below w1.heap.size w1 wr) (fun i _ => 4 - (intOf i).toNat)
  case atStart => exact ⟨0, by omega, rfl, ⟨by simp [go_sem, pre], by simp [go_sem, pre], by simp [go_sem, pre], by simp [go_sem, pre], by simp [go_sem], by simp [go_sem], by simp [go_sem], by simp [go_sem]⟩, bel1 _ _⟩
  case round =>
    obtain ⟨k, hk, rfl, h4, hB⟩ := hrel
    obtain ⟨p0, p1, p2, p3, q0, q1, q2, q3⟩ := id h4
    obtain rfl | rfl | rfl | rfl | rfl : k = 0 ∨ k = 1 ∨ k = 2 ∨ k = 3 ∨ k = 4 := by omega
    · obtain ⟨BE, BN, d0, d1, d2, b0, b1⟩ : BesideAt (1 + r) c 0 (D 0) (B 0) ∧ BesideAt (1 + r) (D 0) (B 0) c 0 ∧ 0 ≤ D 0 ∧ D 0 < 6 * (1 + r) * (1 + r) ∧ ((D 0 == c) = false) ∧ 0 ≤ B 0 ∧ B 0 ≤ 3 := HH.out 0 (by omega)
      go_wp2_with (first | (go_at_call 20; ((with_reducible refine (belD (B := w1.heap.size) (w := w1) (BE.out _ (hF1.below (by with_reducible assumption))) (by with_reducible assumption) (Nat.le_refl _)).mono ?_)); rintro e w3 ⟨rfl, hB, hR⟩; have hq := Four.below (by with_reducible assumption) hR; obtain ⟨p0, p1, p2, p3, q0, q1, q2, q3⟩ := id hq) | (go_at_call 20; ((with_reducible refine (belD (B := w1.heap.size) (w := w1) (BN.out _ (hF1.below (by with_reducible assumption))) (by with_reducible assumption) (Nat.le_refl _)).mono ?_)); rintro e w3 ⟨rfl, hB, hR⟩; have hq := Four.below (by with_reducible assumption) hR; obtain ⟨p0, p1, p2, p3, q0, q1, q2, q3⟩ := id hq))
      go_roundw
      case rel => exact ⟨1, by omega, by go_num, four_of (Four.set0 (by with_reducible assumption) _) (by simp [pre]) (by simp [pre]) (by simp [pre]) (by simp [pre]), bel_set (by with_reducible assumption) _ _⟩
      case measure => simp [intOf]
    · obtain ⟨BE, BN, d0, d1, d2, b0, b1⟩ : BesideAt (1 + r) c 1 (D 1) (B 1) ∧ BesideAt (1 + r) (D 1) (B 1) c 1 ∧ 0 ≤ D 1 ∧ D 1 < 6 * (1 + r) * (1 + r) ∧ ((D 1 == c) = false) ∧ 0 ≤ B 1 ∧ B 1 ≤ 3 := HH.out 1 (by omega)
      go_wp2_with (first | (go_at_call 20; ((with_reducible refine (belD (B := w1.heap.size) (w := w1) (BE.out _ (hF1.below (by with_reducible assumption))) (by with_reducible assumption) (Nat.le_refl _)).mono ?_)); rintro e w3 ⟨rfl, hB, hR⟩; have hq := Four.below (by with_reducible assumption) hR; obtain ⟨p0, p1, p2, p3, q0, q1, q2, q3⟩ := id hq) | (go_at_call 20; ((with_reducible refine (belD (B := w1.heap.size) (w := w1) (BN.out _ (hF1.below (by with_reducible assumption))) (by with_reducible assumption) (Nat.le_refl _)).mono ?_)); rintro e w3 ⟨rfl, hB, hR⟩; have hq := Four.below (by with_reducible assumption) hR; obtain ⟨p0, p1, p2, p3, q0, q1, q2, q3⟩ := id hq))
      go_roundw
      case rel => exact ⟨2, by omega, by go_num, four_of (Four.set1 (by with_reducible assumption) _) (by simp [pre]) (by simp [pre]) (by simp [pre]) (by simp [pre]), bel_set (by with_reducible assumption) _ _⟩
      case measure => simp [intOf]
    · obtain ⟨BE, BN, d0, d1, d2, b0, b1⟩ : BesideAt (1 + r) c 2 (D 2) (B 2) ∧ BesideAt (1 + r) (D 2) (B 2) c 2 ∧ 0 ≤ D 2 ∧ D 2 < 6 * (1 + r) * (1 + r) ∧ ((D 2 == c) = false) ∧ 0 ≤ B 2 ∧ B 2 ≤ 3 := HH.out 2 (by omega)
      go_wp2_with (first | (go_at_call 20; ((with_reducible refine (belD (B := w1.heap.size) (w := w1) (BE.out _ (hF1.below (by with_reducible assumption))) (by with_reducible assumption) (Nat.le_refl _)).mono ?_)); rintro e w3 ⟨rfl, hB, hR⟩; have hq := Four.below (by with_reducible assumption) hR; obtain ⟨p0, p1, p2, p3, q0, q1, q2, q3⟩ := id hq) | (go_at_call 20; ((with_reducible refine (belD (B := w1.heap.size) (w := w1) (BN.out _ (hF1.below (by with_reducible assumption))) (by with_reducible assumption) (Nat.le_refl _)).mono ?_)); rintro e w3 ⟨rfl, hB, hR⟩; have hq := Four.below (by with_reducible assumption) hR; obtain ⟨p0, p1, p2, p3, q0, q1, q2, q3⟩ := id hq))
      go_roundw
      case rel => exact ⟨3, by omega, by go_num, four_of (Four.set2 (by with_reducible assumption) _) (by simp [pre]) (by simp [pre]) (by simp [pre]) (by simp [pre]), bel_set (by with_reducible assumption) _ _⟩
      case measure => simp [intOf]
    · obtain ⟨BE, BN, d0, d1, d2, b0, b1⟩ : BesideAt (1 + r) c 3 (D 3) (B 3) ∧ BesideAt (1 + r) (D 3) (B 3) c 3 ∧ 0 ≤ D 3 ∧ D 3 < 6 * (1 + r) * (1 + r) ∧ ((D 3 == c) = false) ∧ 0 ≤ B 3 ∧ B 3 ≤ 3 := HH.out 3 (by omega)
      go_wp2_with (first | (go_at_call 20; ((with_reducible refine (belD (B := w1.heap.size) (w := w1) (BE.out _ (hF1.below (by with_reducible assumption))) (by with_reducible assumption) (Nat.le_refl _)).mono ?_)); rintro e w3 ⟨rfl, hB, hR⟩; have hq := Four.below (by with_reducible assumption) hR; obtain ⟨p0, p1, p2, p3, q0, q1, q2, q3⟩ := id hq) | (go_at_call 20; ((with_reducible refine (belD (B := w1.heap.size) (w := w1) (BN.out _ (hF1.below (by with_reducible assumption))) (by with_reducible assumption) (Nat.le_refl _)).mono ?_)); rintro e w3 ⟨rfl, hB, hR⟩; have hq := Four.below (by with_reducible assumption) hR; obtain ⟨p0, p1, p2, p3, q0, q1, q2, q3⟩ := id hq))
      go_roundw
      case rel => exact ⟨4, by omega, by go_num, four_of (Four.set3 (by with_reducible assumption) _) (by simp [pre]) (by simp [pre]) (by simp [pre]) (by simp [pre]), bel_set (by with_reducible assumption) _ _⟩
      case measure => simp [intOf]
    · obtain ⟨n01, n02, n03, n12, n13, n23⟩ : ((D 0 == D 1) = false) ∧ ((D 0 == D 2) = false) ∧ ((D 0 == D 3) = false) ∧ ((D 1 == D 2) = false) ∧ ((D 1 == D 3) = false) ∧ ((D 2 == D 3) = false) := ⟨HP.out 0 (by omega) 1 (by omega) (by omega), HP.out 0 (by omega) 2 (by omega) (by omega), HP.out 0 (by omega) 3 (by omega) (by omega), HP.out 1 (by omega) 2 (by omega) (by omega), HP.out 1 (by omega) 3 (by omega) (by omega), HP.out 2 (by omega) 3 (by omega) (by omega)⟩
      simp only [pre] at p0 p1 p2 p3
      simp at p0 p1 p2 p3
      have m01 : ¬ D 0 = D 1 := by simpa using n01
      have m02 : ¬ D 0 = D 2 := by simpa using n02
      have m03 : ¬ D 0 = D 3 := by simpa using n03
      have m12 : ¬ D 1 = D 2 := by simpa using n12
      have m13 : ¬ D 1 = D 3 := by simpa using n13
      have m23 : ¬ D 2 = D 3 := by simpa using n23
      go_wp2
      go_ret
      exact ⟨ret_b (by simp [m01, m02, m03, m12, m13, m23]), bel_end hB0 (by with_reducible assumption)⟩
end Go.Proofs.YtbfbafoeifigfaaDoor
