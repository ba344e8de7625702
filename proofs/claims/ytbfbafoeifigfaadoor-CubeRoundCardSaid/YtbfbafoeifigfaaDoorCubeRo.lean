/- The statement CubeRound: straight on, round the cube. -/
import Derived.Test.YtbfbafoeifigfaaDoorCubeBa
import Derived.Test.YtbfbafoeifigfaaDoorCubeS
namespace Go.Proofs.YtbfbafoeifigfaaDoor
open Go.RowKit TF

/-- Six numbers in a block that may be written. -/
structure Six (w : World) (b : Nat) (x : Nat → Int) : Prop where
  c0 : w.cell? ⟨b, 0, none⟩ = some (.int .i64 (x 0))
  c1 : w.cell? ⟨b, 1, none⟩ = some (.int .i64 (x 1))
  c2 : w.cell? ⟨b, 2, none⟩ = some (.int .i64 (x 2))
  c3 : w.cell? ⟨b, 3, none⟩ = some (.int .i64 (x 3))
  c4 : w.cell? ⟨b, 4, none⟩ = some (.int .i64 (x 4))
  c5 : w.cell? ⟨b, 5, none⟩ = some (.int .i64 (x 5))
  f0 : w.frozen? ⟨b, 0, none⟩ = false
  f1 : w.frozen? ⟨b, 1, none⟩ = false
  f2 : w.frozen? ⟨b, 2, none⟩ = false
  f3 : w.frozen? ⟨b, 3, none⟩ = false
  f4 : w.frozen? ⟨b, 4, none⟩ = false
  f5 : w.frozen? ⟨b, 5, none⟩ = false
theorem Six.below {w w1 : World} {b : Nat} {x : Nat → Int} (h : Six w b x) (hb : Below w.heap.size w w1) : Six w1 b x := by
  have hlt : b < w.heap.size := lt_of_some h.c0
  have e : ∀ j, w1.cell? ⟨b, j, none⟩ = w.cell? ⟨b, j, none⟩ := fun j => hb.cell (p := ⟨b, j, none⟩) hlt
  have g : ∀ j, w1.frozen? ⟨b, j, none⟩ = w.frozen? ⟨b, j, none⟩ := fun j => hb.frozen (p := ⟨b, j, none⟩) hlt
  exact ⟨(e 0).trans h.c0, (e 1).trans h.c1, (e 2).trans h.c2, (e 3).trans h.c3, (e 4).trans h.c4, (e 5).trans h.c5, (g 0).trans h.f0, (g 1).trans h.f1, (g 2).trans h.f2, (g 3).trans h.f3, (g 4).trans h.f4, (g 5).trans h.f5⟩
theorem Six.set0 {w : World} {b : Nat} {x y : Nat → Int} (h : Six w b x) (v : Int) (e : y 0 = v ∧ y 1 = x 1 ∧ y 2 = x 2 ∧ y 3 = x 3 ∧ y 4 = x 4 ∧ y 5 = x 5) : Six (w.setCell ⟨b, 0, none⟩ (.int .i64 v)) b y := by
  obtain ⟨p0, p1, p2, p3, p4, p5, q0, q1, q2, q3, q4, q5⟩ := h
  obtain ⟨e0, e1, e2, e3, e4, e5⟩ := e
  exact ⟨by simp [go_sem, p0, e0], by simp [go_sem, p1, e1], by simp [go_sem, p2, e2], by simp [go_sem, p3, e3], by simp [go_sem, p4, e4], by simp [go_sem, p5, e5], by simp [go_sem, q0], by simp [go_sem, q1], by simp [go_sem, q2], by simp [go_sem, q3], by simp [go_sem, q4], by simp [go_sem, q5]⟩
theorem Six.set1 {w : World} {b : Nat} {x y : Nat → Int} (h : Six w b x) (v : Int) (e : y 0 = x 0 ∧ y 1 = v ∧ y 2 = x 2 ∧ y 3 = x 3 ∧ y 4 = x 4 ∧ y 5 = x 5) : Six (w.setCell ⟨b, 1, none⟩ (.int .i64 v)) b y := by
  obtain ⟨p0, p1, p2, p3, p4, p5, q0, q1, q2, q3, q4, q5⟩ := h
  obtain ⟨e0, e1, e2, e3, e4, e5⟩ := e
  exact ⟨by simp [go_sem, p0, e0], by simp [go_sem, p1, e1], by simp [go_sem, p2, e2], by simp [go_sem, p3, e3], by simp [go_sem, p4, e4], by simp [go_sem, p5, e5], by simp [go_sem, q0], by simp [go_sem, q1], by simp [go_sem, q2], by simp [go_sem, q3], by simp [go_sem, q4], by simp [go_sem, q5]⟩
theorem Six.set2 {w : World} {b : Nat} {x y : Nat → Int} (h : Six w b x) (v : Int) (e : y 0 = x 0 ∧ y 1 = x 1 ∧ y 2 = v ∧ y 3 = x 3 ∧ y 4 = x 4 ∧ y 5 = x 5) : Six (w.setCell ⟨b, 2, none⟩ (.int .i64 v)) b y := by
  obtain ⟨p0, p1, p2, p3, p4, p5, q0, q1, q2, q3, q4, q5⟩ := h
  obtain ⟨e0, e1, e2, e3, e4, e5⟩ := e
  exact ⟨by simp [go_sem, p0, e0], by simp [go_sem, p1, e1], by simp [go_sem, p2, e2], by simp [go_sem, p3, e3], by simp [go_sem, p4, e4], by simp [go_sem, p5, e5], by simp [go_sem, q0], by simp [go_sem, q1], by simp [go_sem, q2], by simp [go_sem, q3], by simp [go_sem, q4], by simp [go_sem, q5]⟩
theorem Six.set3 {w : World} {b : Nat} {x y : Nat → Int} (h : Six w b x) (v : Int) (e : y 0 = x 0 ∧ y 1 = x 1 ∧ y 2 = x 2 ∧ y 3 = v ∧ y 4 = x 4 ∧ y 5 = x 5) : Six (w.setCell ⟨b, 3, none⟩ (.int .i64 v)) b y := by
  obtain ⟨p0, p1, p2, p3, p4, p5, q0, q1, q2, q3, q4, q5⟩ := h
  obtain ⟨e0, e1, e2, e3, e4, e5⟩ := e
  exact ⟨by simp [go_sem, p0, e0], by simp [go_sem, p1, e1], by simp [go_sem, p2, e2], by simp [go_sem, p3, e3], by simp [go_sem, p4, e4], by simp [go_sem, p5, e5], by simp [go_sem, q0], by simp [go_sem, q1], by simp [go_sem, q2], by simp [go_sem, q3], by simp [go_sem, q4], by simp [go_sem, q5]⟩
theorem Six.set4 {w : World} {b : Nat} {x y : Nat → Int} (h : Six w b x) (v : Int) (e : y 0 = x 0 ∧ y 1 = x 1 ∧ y 2 = x 2 ∧ y 3 = x 3 ∧ y 4 = v ∧ y 5 = x 5) : Six (w.setCell ⟨b, 4, none⟩ (.int .i64 v)) b y := by
  obtain ⟨p0, p1, p2, p3, p4, p5, q0, q1, q2, q3, q4, q5⟩ := h
  obtain ⟨e0, e1, e2, e3, e4, e5⟩ := e
  exact ⟨by simp [go_sem, p0, e0], by simp [go_sem, p1, e1], by simp [go_sem, p2, e2], by simp [go_sem, p3, e3], by simp [go_sem, p4, e4], by simp [go_sem, p5, e5], by simp [go_sem, q0], by simp [go_sem, q1], by simp [go_sem, q2], by simp [go_sem, q3], by simp [go_sem, q4], by simp [go_sem, q5]⟩
theorem Six.set5 {w : World} {b : Nat} {x y : Nat → Int} (h : Six w b x) (v : Int) (e : y 0 = x 0 ∧ y 1 = x 1 ∧ y 2 = x 2 ∧ y 3 = x 3 ∧ y 4 = x 4 ∧ y 5 = v) : Six (w.setCell ⟨b, 5, none⟩ (.int .i64 v)) b y := by
  obtain ⟨p0, p1, p2, p3, p4, p5, q0, q1, q2, q3, q4, q5⟩ := h
  obtain ⟨e0, e1, e2, e3, e4, e5⟩ := e
  exact ⟨by simp [go_sem, p0, e0], by simp [go_sem, p1, e1], by simp [go_sem, p2, e2], by simp [go_sem, p3, e3], by simp [go_sem, p4, e4], by simp [go_sem, p5, e5], by simp [go_sem, q0], by simp [go_sem, q1], by simp [go_sem, q2], by simp [go_sem, q3], by simp [go_sem, q4], by simp [go_sem, q5]⟩

/-- The walk round, in numbers. -/
structure Rnd (n c so : Int) (N : Nat) (F : Nat → Nat) (I J A W B : Nat → Int) (C : Nat → Nat → Int) (T : Nat → Bool) (K : Nat → Nat) : Prop where
  a0 : A 0 = c
  w0 : W 0 = so
  am : A N = c
  wm : W N = so
  place : ∀ k : Nat, Hid (∀ w1 : World, Calls Tryd.prog 12 #[.int .i64 n, .int .i64 (A k)] w1 fun e w' => e = .returned (.tuple #[.int .i64 (F k), .int .i64 (I k), .int .i64 (J k), .bool true]) ∧ Below w1.heap.size w1 w')
  six : ∀ k : Nat, F k < 6
  each : ∀ k : Nat, BesideAt n (A k) (W k) (A (k + 1)) (B k) ∧ (B k + 2) % 4 = W (k + 1) ∧ 0 ≤ B k ∧ B k ≤ 3
  off : ∀ k : Nat, k + 1 < N → ¬ A (k + 1) = c
  c0 : ∀ g, C 0 g = 0
  cs : ∀ k g : Nat, C (k + 1) g = C k g + if F k = g then 1 else 0
  cb : ∀ k g : Nat, 0 ≤ C k g ∧ C k g ≤ k
  all : ∀ g : Nat, g < 6 → C N g = if T g = true then n else 0
  k0 : K 0 = 0
  ks : ∀ g : Nat, K (g + 1) = K g + if T g = true then 1 else 0
  k6 : K 6 = 4
  kb : ∀ g : Nat, K g ≤ g
theorem round_pack {n c so : Int} (h1 : 1 ≤ n) (h2 : n ≤ 32) (hc0 : 0 ≤ c) (hc1 : c < 6 * n * n) (hs0 : 0 ≤ so) (hs1 : so < 4) (N : Nat) (hN : (N : Int) = 4 * n) :
    ∃ (F : Nat → Nat) (I J A W B : Nat → Int) (C : Nat → Nat → Int) (T : Nat → Bool) (K : Nat → Nat), Rnd n c so N F I J A W B C T K := by
  obtain ⟨f, i, j, hO, rfl⟩ := on_of h1 h2 hc0 hc1
  obtain ⟨s, rfl⟩ : ∃ s : Nat, so = s := ⟨so.toNat, by omega⟩
  have hs : s < 4 := by omega
  obtain ⟨e, hw⟩ := cell_w hO hs
  rw [e]
  generalize laneI n s i j = l at hw
  generalize offI n s i j = o at hw
  have hI := fun k => Q.is_go (n := n) (q := ⟨f, s, l, o⟩) hw k
  have gb := go_back hw hN
  refine ⟨fun k => ((Q.mk f s l o).go n k).f, _, _, fun k => ((Q.mk f s l o).go n k).cell n, fun k => ((((Q.mk f s l o).go n k).w : Nat) : Int), fun k => (((nW n ((Q.mk f s l o).go n k).f ((Q.mk f s l o).go n k).w ((Q.mk f s l o).go n k).o + 2) % 4 : Nat) : Int), fun k g => cntQ n ⟨f, s, l, o⟩ g k, four' f s, cntF f s,
    ⟨rfl, rfl, by show ((Q.mk f s l o).go n N).cell n = _; rw [gb]; rfl, by show ((((Q.mk f s l o).go n N).w : Nat) : Int) = _; rw [gb], fun k => Lib.hid (fun w1 => place_ok (OnW.on (hI k)) w1), fun k => (hI k).f6, fun k => ?_, fun k hk => go_off hw (by omega) (by omega), fun g => rfl, fun k g => rfl, fun k g => cntQ_le _ _ _ _, fun g hg => cnt_all hw hg hN, rfl, fun g => rfl, cntF_six f hw.f6 s hs, fun g => cntF_le _ _ _⟩⟩
  have hb := besideW (hI k)
  refine ⟨hb, ?_, by omega, by omega⟩
  have hnx := (OnW.next (hI k)).w4
  show _ = ((nW n ((Q.mk f s l o).go n k).f ((Q.mk f s l o).go n k).w ((Q.mk f s l o).go n k).o : Nat) : Int)
  omega

set_option maxRecDepth 100000 in
set_option maxHeartbeats 8000000 in
theorem cubeRound_walk (a0 a1 a2 a3 a4 a5 a6 a7 : Int) (w : World) (hF : Fr w) :
    Calls Tryd.prog 7 #[.agg #[.int .i64 a0, .int .i64 a1, .int .i64 a2, .int .i64 a3, .int .i64 a4, .int .i64 a5, .int .i64 a6, .int .i64 a7]] w fun e w' => e = .returned (.bool true) ∧ Below w.heap.size w w' := by
  have hsz := hF.size
  go_enter Tryd.func7, Tryd.ntmps7
  go_wp2_with (first | (go_at_call 11; ((with_reducible refine (belD (B := w.heap.size) (w := w) (awake_any _ (hF.below (bel1 _ _))) (bel1 _ _) (Nat.le_refl _)).mono ?_)); rintro e w1 ⟨rfl, hB0, hR⟩; obtain ⟨hc, hf⟩ := bcell hR; have hF1 := hF.below hB0; have hB := Below.refl w1.heap.size w1; have hlt : w.heap.size < w1.heap.size := (box_lt hR)) | (go_at_call 24; ((with_reducible refine (within_any _ 32 (by omega) (by omega) _).mono ?_)); rintro e w2 ⟨r, hr0, hr1, rfl, rfl⟩; obtain ⟨q1, q2⟩ := six_bd hr0 hr1) | (go_at_call 24; ((with_reducible refine (within_any _ (6 * (1 + r) * (1 + r)) q1 (by omega) _).mono ?_)); rintro e w2 ⟨c, hc0, hc1, rfl, rfl⟩) | (go_at_call 24; ((with_reducible refine (within_any _ 4 (by omega) (by omega) _).mono ?_)); rintro e w2 ⟨so, hs0, hs1, rfl, rfl⟩))
  obtain ⟨N, hN⟩ : ∃ N : Nat, (N : Int) = 4 * (1 + r) := ⟨(4 * (1 + r)).toNat, by omega⟩
  obtain ⟨F, I, J, A, W, B, C, T, K, HS0⟩ := round_pack (n := 1 + r) (c := c) (so := so) (by omega) (by omega) hc0 hc1 hs0 hs1 N hN
  have HS := Lib.hid HS0
  have ea := HS0.a0
  have ew := HS0.w0
  have am := HS0.am
  have wm := HS0.wm
  clear HS0
  go_loopw [6, 7, 9] (fun x y z wr => ∃ k : Nat, k ≤ N ∧ z = .int .i64 k ∧ x = .int .i64 (A k) ∧ y = .int .i64 (W k) ∧ Six wr w1.heap.size (C k) ∧ Below w1.heap.size w1 wr) (fun _ _ z _ => 200 - (intOf z).toNat)
  case atStart => exact ⟨0, by omega, rfl, by rw [ea], by rw [ew], ⟨by simp [go_sem, HS.out.c0], by simp [go_sem, HS.out.c0], by simp [go_sem, HS.out.c0], by simp [go_sem, HS.out.c0], by simp [go_sem, HS.out.c0], by simp [go_sem, HS.out.c0], by simp [go_sem], by simp [go_sem], by simp [go_sem], by simp [go_sem], by simp [go_sem], by simp [go_sem]⟩, bel1 _ _⟩
  case round =>
    obtain ⟨k, hk, rfl, rfl, rfl, h6, hB⟩ := hrel
    by_cases hlt : k < N
    · obtain ⟨BE, e3, b0, b3⟩ := HS.out.each k
      have P1 := HS.out.place k
      have hF6 := HS.out.six k
      have hcs := HS.out.cs k
      have cb0 := HS.out.cb k 0
      have cb1 := HS.out.cb k 1
      have cb2 := HS.out.cb k 2
      have cb3 := HS.out.cb k 3
      have cb4 := HS.out.cb k 4
      have cb5 := HS.out.cb k 5
      generalize hFk : F k = fk at P1 hF6 hcs
      clear hFk ea ew
      obtain rfl | rfl | rfl | rfl | rfl | rfl : fk = 0 ∨ fk = 1 ∨ fk = 2 ∨ fk = 3 ∨ fk = 4 ∨ fk = 5 := by omega
      · replace P1 : Hid (∀ w1 : World, Calls Tryd.prog 12 #[.int .i64 (1 + r), .int .i64 (A k)] w1 fun e w' => e = .returned (.tuple #[.int .i64 0, .int .i64 (I k), .int .i64 (J k), .bool true]) ∧ Below w1.heap.size w1 w') := P1
        have h7 : C (k + 1) 0 = C k 0 + 1 ∧ C (k + 1) 1 = C k 1 ∧ C (k + 1) 2 = C k 2 ∧ C (k + 1) 3 = C k 3 ∧ C (k + 1) 4 = C k 4 ∧ C (k + 1) 5 = C k 5 := ⟨by simp [hcs], by simp [hcs], by simp [hcs], by simp [hcs], by simp [hcs], by simp [hcs]⟩
        clear hcs
        by_cases hl : k + 1 < N
        · have hoff := HS.out.off k hl
          go_wp2_with (first | (go_at_call 12; ((with_reducible refine (belD (B := w1.heap.size) (w := w1) (P1.out _) (by with_reducible assumption) (Nat.le_refl _)).mono ?_)); rintro e w3 ⟨rfl, hB, hR⟩; have hq := Six.below h6 hR; obtain ⟨p0, p1, p2, p3, p4, p5, q0, q1, q2, q3, q4, q5⟩ := id hq) | (go_at_call 20; ((with_reducible refine (belD (B := w1.heap.size) (w := w1) (BE.out _ (hF1.below (bel_set (by with_reducible assumption) _ _))) (bel_set (by with_reducible assumption) _ _) (Nat.le_refl _)).mono ?_)); rintro e w4 ⟨rfl, hB4, hR4⟩))
          go_roundw
          case rel => exact ⟨k + 1, by omega, by go_num, rfl, by rw [← e3], (Six.set0 hq _ h7).below hR4, hB4⟩
          case measure => simp [intOf] <;> omega
        · go_wp2_with (first | (go_at_call 12; ((with_reducible refine (belD (B := w1.heap.size) (w := w1) (P1.out _) (by with_reducible assumption) (Nat.le_refl _)).mono ?_)); rintro e w3 ⟨rfl, hB, hR⟩; have hq := Six.below h6 hR; obtain ⟨p0, p1, p2, p3, p4, p5, q0, q1, q2, q3, q4, q5⟩ := id hq) | (go_at_call 20; ((with_reducible refine (belD (B := w1.heap.size) (w := w1) (BE.out _ (hF1.below (bel_set (by with_reducible assumption) _ _))) (bel_set (by with_reducible assumption) _ _) (Nat.le_refl _)).mono ?_)); rintro e w4 ⟨rfl, hB4, hR4⟩))
          go_roundw
          case rel => exact ⟨k + 1, by omega, by go_num, rfl, by rw [← e3], (Six.set0 hq _ h7).below hR4, hB4⟩
          case measure => simp [intOf] <;> omega
      · replace P1 : Hid (∀ w1 : World, Calls Tryd.prog 12 #[.int .i64 (1 + r), .int .i64 (A k)] w1 fun e w' => e = .returned (.tuple #[.int .i64 1, .int .i64 (I k), .int .i64 (J k), .bool true]) ∧ Below w1.heap.size w1 w') := P1
        have h7 : C (k + 1) 0 = C k 0 ∧ C (k + 1) 1 = C k 1 + 1 ∧ C (k + 1) 2 = C k 2 ∧ C (k + 1) 3 = C k 3 ∧ C (k + 1) 4 = C k 4 ∧ C (k + 1) 5 = C k 5 := ⟨by simp [hcs], by simp [hcs], by simp [hcs], by simp [hcs], by simp [hcs], by simp [hcs]⟩
        clear hcs
        by_cases hl : k + 1 < N
        · have hoff := HS.out.off k hl
          go_wp2_with (first | (go_at_call 12; ((with_reducible refine (belD (B := w1.heap.size) (w := w1) (P1.out _) (by with_reducible assumption) (Nat.le_refl _)).mono ?_)); rintro e w3 ⟨rfl, hB, hR⟩; have hq := Six.below h6 hR; obtain ⟨p0, p1, p2, p3, p4, p5, q0, q1, q2, q3, q4, q5⟩ := id hq) | (go_at_call 20; ((with_reducible refine (belD (B := w1.heap.size) (w := w1) (BE.out _ (hF1.below (bel_set (by with_reducible assumption) _ _))) (bel_set (by with_reducible assumption) _ _) (Nat.le_refl _)).mono ?_)); rintro e w4 ⟨rfl, hB4, hR4⟩))
          go_roundw
          case rel => exact ⟨k + 1, by omega, by go_num, rfl, by rw [← e3], (Six.set1 hq _ h7).below hR4, hB4⟩
          case measure => simp [intOf] <;> omega
        · go_wp2_with (first | (go_at_call 12; ((with_reducible refine (belD (B := w1.heap.size) (w := w1) (P1.out _) (by with_reducible assumption) (Nat.le_refl _)).mono ?_)); rintro e w3 ⟨rfl, hB, hR⟩; have hq := Six.below h6 hR; obtain ⟨p0, p1, p2, p3, p4, p5, q0, q1, q2, q3, q4, q5⟩ := id hq) | (go_at_call 20; ((with_reducible refine (belD (B := w1.heap.size) (w := w1) (BE.out _ (hF1.below (bel_set (by with_reducible assumption) _ _))) (bel_set (by with_reducible assumption) _ _) (Nat.le_refl _)).mono ?_)); rintro e w4 ⟨rfl, hB4, hR4⟩))
          go_roundw
          case rel => exact ⟨k + 1, by omega, by go_num, rfl, by rw [← e3], (Six.set1 hq _ h7).below hR4, hB4⟩
          case measure => simp [intOf] <;> omega
      · replace P1 : Hid (∀ w1 : World, Calls Tryd.prog 12 #[.int .i64 (1 + r), .int .i64 (A k)] w1 fun e w' => e = .returned (.tuple #[.int .i64 2, .int .i64 (I k), .int .i64 (J k), .bool true]) ∧ Below w1.heap.size w1 w') := P1
        have h7 : C (k + 1) 0 = C k 0 ∧ C (k + 1) 1 = C k 1 ∧ C (k + 1) 2 = C k 2 + 1 ∧ C (k + 1) 3 = C k 3 ∧ C (k + 1) 4 = C k 4 ∧ C (k + 1) 5 = C k 5 := ⟨by simp [hcs], by simp [hcs], by simp [hcs], by simp [hcs], by simp [hcs], by simp [hcs]⟩
        clear hcs
        by_cases hl : k + 1 < N
        · have hoff := HS.out.off k hl
          go_wp2_with (first | (go_at_call 12; ((with_reducible refine (belD (B := w1.heap.size) (w := w1) (P1.out _) (by with_reducible assumption) (Nat.le_refl _)).mono ?_)); rintro e w3 ⟨rfl, hB, hR⟩; have hq := Six.below h6 hR; obtain ⟨p0, p1, p2, p3, p4, p5, q0, q1, q2, q3, q4, q5⟩ := id hq) | (go_at_call 20; ((with_reducible refine (belD (B := w1.heap.size) (w := w1) (BE.out _ (hF1.below (bel_set (by with_reducible assumption) _ _))) (bel_set (by with_reducible assumption) _ _) (Nat.le_refl _)).mono ?_)); rintro e w4 ⟨rfl, hB4, hR4⟩))
          go_roundw
          case rel => exact ⟨k + 1, by omega, by go_num, rfl, by rw [← e3], (Six.set2 hq _ h7).below hR4, hB4⟩
          case measure => simp [intOf] <;> omega
        · go_wp2_with (first | (go_at_call 12; ((with_reducible refine (belD (B := w1.heap.size) (w := w1) (P1.out _) (by with_reducible assumption) (Nat.le_refl _)).mono ?_)); rintro e w3 ⟨rfl, hB, hR⟩; have hq := Six.below h6 hR; obtain ⟨p0, p1, p2, p3, p4, p5, q0, q1, q2, q3, q4, q5⟩ := id hq) | (go_at_call 20; ((with_reducible refine (belD (B := w1.heap.size) (w := w1) (BE.out _ (hF1.below (bel_set (by with_reducible assumption) _ _))) (bel_set (by with_reducible assumption) _ _) (Nat.le_refl _)).mono ?_)); rintro e w4 ⟨rfl, hB4, hR4⟩))
          go_roundw
          case rel => exact ⟨k + 1, by omega, by go_num, rfl, by rw [← e3], (Six.set2 hq _ h7).below hR4, hB4⟩
          case measure => simp [intOf] <;> omega
      · replace P1 : Hid (∀ w1 : World, Calls Tryd.prog 12 #[.int .i64 (1 + r), .int .i64 (A k)] w1 fun e w' => e = .returned (.tuple #[.int .i64 3, .int .i64 (I k), .int .i64 (J k), .bool true]) ∧ Below w1.heap.size w1 w') := P1
        have h7 : C (k + 1) 0 = C k 0 ∧ C (k + 1) 1 = C k 1 ∧ C (k + 1) 2 = C k 2 ∧ C (k + 1) 3 = C k 3 + 1 ∧ C (k + 1) 4 = C k 4 ∧ C (k + 1) 5 = C k 5 := ⟨by simp [hcs], by simp [hcs], by simp [hcs], by simp [hcs], by simp [hcs], by simp [hcs]⟩
        clear hcs
        by_cases hl : k + 1 < N
        · have hoff := HS.out.off k hl
          go_wp2_with (first | (go_at_call 12; ((with_reducible refine (belD (B := w1.heap.size) (w := w1) (P1.out _) (by with_reducible assumption) (Nat.le_refl _)).mono ?_)); rintro e w3 ⟨rfl, hB, hR⟩; have hq := Six.below h6 hR; obtain ⟨p0, p1, p2, p3, p4, p5, q0, q1, q2, q3, q4, q5⟩ := id hq) | (go_at_call 20; ((with_reducible refine (belD (B := w1.heap.size) (w := w1) (BE.out _ (hF1.below (bel_set (by with_reducible assumption) _ _))) (bel_set (by with_reducible assumption) _ _) (Nat.le_refl _)).mono ?_)); rintro e w4 ⟨rfl, hB4, hR4⟩))
          go_roundw
          case rel => exact ⟨k + 1, by omega, by go_num, rfl, by rw [← e3], (Six.set3 hq _ h7).below hR4, hB4⟩
          case measure => simp [intOf] <;> omega
        · go_wp2_with (first | (go_at_call 12; ((with_reducible refine (belD (B := w1.heap.size) (w := w1) (P1.out _) (by with_reducible assumption) (Nat.le_refl _)).mono ?_)); rintro e w3 ⟨rfl, hB, hR⟩; have hq := Six.below h6 hR; obtain ⟨p0, p1, p2, p3, p4, p5, q0, q1, q2, q3, q4, q5⟩ := id hq) | (go_at_call 20; ((with_reducible refine (belD (B := w1.heap.size) (w := w1) (BE.out _ (hF1.below (bel_set (by with_reducible assumption) _ _))) (bel_set (by with_reducible assumption) _ _) (Nat.le_refl _)).mono ?_)); rintro e w4 ⟨rfl, hB4, hR4⟩))
          go_roundw
          case rel => exact ⟨k + 1, by omega, by go_num, rfl, by rw [← e3], (Six.set3 hq _ h7).below hR4, hB4⟩
          case measure => simp [intOf] <;> omega
      · replace P1 : Hid (∀ w1 : World, Calls Tryd.prog 12 #[.int .i64 (1 + r), .int .i64 (A k)] w1 fun e w' => e = .returned (.tuple #[.int .i64 4, .int .i64 (I k), .int .i64 (J k), .bool true]) ∧ Below w1.heap.size w1 w') := P1
        have h7 : C (k + 1) 0 = C k 0 ∧ C (k + 1) 1 = C k 1 ∧ C (k + 1) 2 = C k 2 ∧ C (k + 1) 3 = C k 3 ∧ C (k + 1) 4 = C k 4 + 1 ∧ C (k + 1) 5 = C k 5 := ⟨by simp [hcs], by simp [hcs], by simp [hcs], by simp [hcs], by simp [hcs], by simp [hcs]⟩
        clear hcs
        by_cases hl : k + 1 < N
        · have hoff := HS.out.off k hl
          go_wp2_with (first | (go_at_call 12; ((with_reducible refine (belD (B := w1.heap.size) (w := w1) (P1.out _) (by with_reducible assumption) (Nat.le_refl _)).mono ?_)); rintro e w3 ⟨rfl, hB, hR⟩; have hq := Six.below h6 hR; obtain ⟨p0, p1, p2, p3, p4, p5, q0, q1, q2, q3, q4, q5⟩ := id hq) | (go_at_call 20; ((with_reducible refine (belD (B := w1.heap.size) (w := w1) (BE.out _ (hF1.below (bel_set (by with_reducible assumption) _ _))) (bel_set (by with_reducible assumption) _ _) (Nat.le_refl _)).mono ?_)); rintro e w4 ⟨rfl, hB4, hR4⟩))
          go_roundw
          case rel => exact ⟨k + 1, by omega, by go_num, rfl, by rw [← e3], (Six.set4 hq _ h7).below hR4, hB4⟩
          case measure => simp [intOf] <;> omega
        · go_wp2_with (first | (go_at_call 12; ((with_reducible refine (belD (B := w1.heap.size) (w := w1) (P1.out _) (by with_reducible assumption) (Nat.le_refl _)).mono ?_)); rintro e w3 ⟨rfl, hB, hR⟩; have hq := Six.below h6 hR; obtain ⟨p0, p1, p2, p3, p4, p5, q0, q1, q2, q3, q4, q5⟩ := id hq) | (go_at_call 20; ((with_reducible refine (belD (B := w1.heap.size) (w := w1) (BE.out _ (hF1.below (bel_set (by with_reducible assumption) _ _))) (bel_set (by with_reducible assumption) _ _) (Nat.le_refl _)).mono ?_)); rintro e w4 ⟨rfl, hB4, hR4⟩))
          go_roundw
          case rel => exact ⟨k + 1, by omega, by go_num, rfl, by rw [← e3], (Six.set4 hq _ h7).below hR4, hB4⟩
          case measure => simp [intOf] <;> omega
      · replace P1 : Hid (∀ w1 : World, Calls Tryd.prog 12 #[.int .i64 (1 + r), .int .i64 (A k)] w1 fun e w' => e = .returned (.tuple #[.int .i64 5, .int .i64 (I k), .int .i64 (J k), .bool true]) ∧ Below w1.heap.size w1 w') := P1
        have h7 : C (k + 1) 0 = C k 0 ∧ C (k + 1) 1 = C k 1 ∧ C (k + 1) 2 = C k 2 ∧ C (k + 1) 3 = C k 3 ∧ C (k + 1) 4 = C k 4 ∧ C (k + 1) 5 = C k 5 + 1 := ⟨by simp [hcs], by simp [hcs], by simp [hcs], by simp [hcs], by simp [hcs], by simp [hcs]⟩
        clear hcs
        by_cases hl : k + 1 < N
        · have hoff := HS.out.off k hl
          go_wp2_with (first | (go_at_call 12; ((with_reducible refine (belD (B := w1.heap.size) (w := w1) (P1.out _) (by with_reducible assumption) (Nat.le_refl _)).mono ?_)); rintro e w3 ⟨rfl, hB, hR⟩; have hq := Six.below h6 hR; obtain ⟨p0, p1, p2, p3, p4, p5, q0, q1, q2, q3, q4, q5⟩ := id hq) | (go_at_call 20; ((with_reducible refine (belD (B := w1.heap.size) (w := w1) (BE.out _ (hF1.below (bel_set (by with_reducible assumption) _ _))) (bel_set (by with_reducible assumption) _ _) (Nat.le_refl _)).mono ?_)); rintro e w4 ⟨rfl, hB4, hR4⟩))
          go_roundw
          case rel => exact ⟨k + 1, by omega, by go_num, rfl, by rw [← e3], (Six.set5 hq _ h7).below hR4, hB4⟩
          case measure => simp [intOf] <;> omega
        · go_wp2_with (first | (go_at_call 12; ((with_reducible refine (belD (B := w1.heap.size) (w := w1) (P1.out _) (by with_reducible assumption) (Nat.le_refl _)).mono ?_)); rintro e w3 ⟨rfl, hB, hR⟩; have hq := Six.below h6 hR; obtain ⟨p0, p1, p2, p3, p4, p5, q0, q1, q2, q3, q4, q5⟩ := id hq) | (go_at_call 20; ((with_reducible refine (belD (B := w1.heap.size) (w := w1) (BE.out _ (hF1.below (bel_set (by with_reducible assumption) _ _))) (bel_set (by with_reducible assumption) _ _) (Nat.le_refl _)).mono ?_)); rintro e w4 ⟨rfl, hB4, hR4⟩))
          go_roundw
          case rel => exact ⟨k + 1, by omega, by go_num, rfl, by rw [← e3], (Six.set5 hq _ h7).below hR4, hB4⟩
          case measure => simp [intOf] <;> omega
    · obtain rfl : k = N := by omega
      rw [am, wm]
      clear ea ew hlt hk
      go_wp2
      clear hN
      go_loopw [16, 17] (fun x y wx => ∃ g : Nat, g ≤ 6 ∧ y = .int .i64 g ∧ x = .int .i64 (K g : Nat) ∧ Six wx w1.heap.size (C k) ∧ Below w1.heap.size w1 wx) (fun _ y _ => 10 - (intOf y).toNat)
      case atStart => exact ⟨0, by omega, rfl, by rw [HS.out.k0]; rfl, h6, hB⟩
      case round =>
        obtain ⟨g, hg, rfl, rfl, h6', hB'⟩ := hrel
        obtain ⟨p0, p1, p2, p3, p4, p5, q0, q1, q2, q3, q4, q5⟩ := id h6'
        by_cases hg6 : g < 6
        · have ca := HS.out.all g hg6
          have ks := HS.out.ks g
          have kb := HS.out.kb g
          by_cases hT : T g = true
          · rw [if_pos hT] at ca ks
            clear hT
            obtain rfl | rfl | rfl | rfl | rfl | rfl : g = 0 ∨ g = 1 ∨ g = 2 ∨ g = 3 ∨ g = 4 ∨ g = 5 := by omega
            · rw [ca] at p0
              go_wp2
              go_roundw
              case rel => exact ⟨1, by omega, by go_num, by rw [ks]; go_num, h6', hB'⟩
              case measure => simp [intOf] <;> omega
            · rw [ca] at p1
              go_wp2
              go_roundw
              case rel => exact ⟨2, by omega, by go_num, by rw [ks]; go_num, h6', hB'⟩
              case measure => simp [intOf] <;> omega
            · rw [ca] at p2
              go_wp2
              go_roundw
              case rel => exact ⟨3, by omega, by go_num, by rw [ks]; go_num, h6', hB'⟩
              case measure => simp [intOf] <;> omega
            · rw [ca] at p3
              go_wp2
              go_roundw
              case rel => exact ⟨4, by omega, by go_num, by rw [ks]; go_num, h6', hB'⟩
              case measure => simp [intOf] <;> omega
            · rw [ca] at p4
              go_wp2
              go_roundw
              case rel => exact ⟨5, by omega, by go_num, by rw [ks]; go_num, h6', hB'⟩
              case measure => simp [intOf] <;> omega
            · rw [ca] at p5
              go_wp2
              go_roundw
              case rel => exact ⟨6, by omega, by go_num, by rw [ks]; go_num, h6', hB'⟩
              case measure => simp [intOf] <;> omega
          · rw [if_neg hT] at ca ks
            clear hT
            obtain rfl | rfl | rfl | rfl | rfl | rfl : g = 0 ∨ g = 1 ∨ g = 2 ∨ g = 3 ∨ g = 4 ∨ g = 5 := by omega
            · rw [ca] at p0
              go_wp2
              go_roundw
              case rel => exact ⟨1, by omega, by go_num, by rw [ks]; go_num, h6', hB'⟩
              case measure => simp [intOf] <;> omega
            · rw [ca] at p1
              go_wp2
              go_roundw
              case rel => exact ⟨2, by omega, by go_num, by rw [ks]; go_num, h6', hB'⟩
              case measure => simp [intOf] <;> omega
            · rw [ca] at p2
              go_wp2
              go_roundw
              case rel => exact ⟨3, by omega, by go_num, by rw [ks]; go_num, h6', hB'⟩
              case measure => simp [intOf] <;> omega
            · rw [ca] at p3
              go_wp2
              go_roundw
              case rel => exact ⟨4, by omega, by go_num, by rw [ks]; go_num, h6', hB'⟩
              case measure => simp [intOf] <;> omega
            · rw [ca] at p4
              go_wp2
              go_roundw
              case rel => exact ⟨5, by omega, by go_num, by rw [ks]; go_num, h6', hB'⟩
              case measure => simp [intOf] <;> omega
            · rw [ca] at p5
              go_wp2
              go_roundw
              case rel => exact ⟨6, by omega, by go_num, by rw [ks]; go_num, h6', hB'⟩
              case measure => simp [intOf] <;> omega
        · obtain rfl : g = 6 := by omega
          rw [HS.out.k6]
          go_wp2
          go_ret
          exact ⟨ret_b (by simp), bel_end hB0 hB'⟩
end Go.Proofs.YtbfbafoeifigfaaDoor
