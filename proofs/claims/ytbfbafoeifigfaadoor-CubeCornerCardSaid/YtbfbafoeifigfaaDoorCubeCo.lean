/- The statement CubeCorner: around a corner of cells. -/
import Derived.Test.YtbfbafoeifigfaaDoorCubeBa
import Derived.Test.YtbfbafoeifigfaaDoorCubeQ
namespace Go.Proofs.YtbfbafoeifigfaaDoor
open Go.RowKit TF

def CornerAt (n i j so : Int) : Prop := (((so = 0 ∨ so = 3) ∧ i = n - 1) ∨ (¬ (so = 0 ∨ so = 3) ∧ i = 0)) ∧ (((so = 0 ∨ so = 1) ∧ j = n - 1) ∨ (¬ (so = 0 ∨ so = 1) ∧ j = 0))
/-- The steps around. -/
structure Steps (n c so : Int) (m : Nat) (A W B : Nat → Int) : Prop where
  a0 : A 0 = c
  w0 : W 0 = so
  am : A m = c
  wm : W m = so
  each : ∀ k : Nat, k < m → BesideAt n (A k) (W k) (A (k + 1)) (B k) ∧ (B k + 3) % 4 = W (k + 1) ∧ 0 ≤ B k ∧ B k ≤ 3
  off : ∀ k : Nat, 0 < k → k < m → ¬ A k = c
theorem run_steps {n : Int} {f w : Nat} {l o : Int} (h : OnW n f w l o) (m : Nat) (hm : (Q.mk f w l o).run n m = ⟨f, w, l, o⟩) (hne : ∀ k : Nat, 0 < k → k < m → ((Q.mk f w l o).run n k).cell n ≠ cW n f w l o) :
    Steps n (cW n f w l o) w m (fun k => ((Q.mk f w l o).run n k).cell n) (fun k => (((Q.mk f w l o).run n k).w : Nat)) (fun k => (((nW n ((Q.mk f w l o).run n k).f ((Q.mk f w l o).run n k).w ((Q.mk f w l o).run n k).o + 2) % 4 : Nat) : Int)) := by
  refine ⟨rfl, rfl, by show ((Q.mk f w l o).run n m).cell n = _; rw [hm]; rfl, by show ((((Q.mk f w l o).run n m).w : Nat) : Int) = _; rw [hm], fun k hk => ?_, hne⟩
  have hi := Q.is_run (q := ⟨f, w, l, o⟩) h k
  generalize hq : (Q.mk f w l o).run n k = q at hi
  have e : (Q.mk f w l o).run n (k + 1) = q.nx n := by show ((Q.mk f w l o).run n k).nx n = _; rw [hq]
  simp only [e]
  have hb := besideW hi
  have hnx := OnW.next hi
  refine ⟨?_, ?_, by omega, by omega⟩
  · have e2 : (q.nx n).cell n = cW n (nF n q.f q.w q.o) (nW n q.f q.w q.o) q.l (nO n q.o) := left_w n _ hnx.w4 _ _
    rw [e2]
    exact hb
  · show _ = (((nW n q.f q.w q.o + 1) % 4 : Nat) : Int)
    omega
theorem corner_pack {n c so : Int} (h1 : 1 ≤ n) (h2 : n ≤ 32) (hc0 : 0 ≤ c) (hc1 : c < 6 * n * n) (hs0 : 0 ≤ so) (hs1 : so < 4) :
    ∃ (f i j : Int) (m : Nat) (A W B : Nat → Int), Hid (∀ w1 : World, Calls Tryd.prog 12 #[.int .i64 n, .int .i64 c] w1 fun e w' => e = .returned (.tuple #[.int .i64 f, .int .i64 i, .int .i64 j, .bool true]) ∧ Below w1.heap.size w1 w') ∧
      ((m = 3 ∧ CornerAt n i j so) ∨ (m = 4 ∧ ¬ CornerAt n i j so)) ∧ Hid (Steps n c so m A W B) := by
  obtain ⟨f, i, j, hO, rfl⟩ := on_of h1 h2 hc0 hc1
  obtain ⟨s, rfl⟩ : ∃ s : Nat, so = s := ⟨so.toNat, by omega⟩
  have hs : s < 4 := by omega
  obtain ⟨e, hw⟩ := cell_w hO hs
  have hci : (laneI n s i j = n - 1 ∧ offI n s i j = n - 1) ↔ CornerAt n i j s := by
    rw [corner_is hs]
    unfold CornerAt
    rw [show ((s : Int) = 0) ↔ s = 0 from by omega, show ((s : Int) = 1) ↔ s = 1 from by omega, show ((s : Int) = 3) ↔ s = 3 from by omega]
  by_cases hq : laneI n s i j = n - 1 ∧ offI n s i j = n - 1
  · obtain ⟨r1, r2⟩ := run_three hw hq.1 hq.2
    exact ⟨_, _, _, 3, _, _, _, Lib.hid (fun w1 => place_ok hO w1), Or.inl ⟨rfl, hci.1 hq⟩, Lib.hid (by rw [e]; exact run_steps hw 3 r1 r2)⟩
  · obtain ⟨r1, r2⟩ := run_four hw hq
    exact ⟨_, _, _, 4, _, _, _, Lib.hid (fun w1 => place_ok hO w1), Or.inr ⟨rfl, fun h => hq (hci.2 h)⟩, Lib.hid (by rw [e]; exact run_steps hw 4 r1 r2)⟩

set_option maxRecDepth 100000 in
set_option maxHeartbeats 8000000 in
theorem cubeCorner_walk (a0 a1 a2 a3 a4 a5 a6 a7 : Int) (w : World) (hF : Fr w) :
    Calls Tryd.prog 8 #[.agg #[.int .i64 a0, .int .i64 a1, .int .i64 a2, .int .i64 a3, .int .i64 a4, .int .i64 a5, .int .i64 a6, .int .i64 a7]] w fun e w' => e = .returned (.bool true) ∧ Below w.heap.size w w' := by
  have hsz := hF.size
  go_enter Tryd.func8, Tryd.ntmps8
  go_wp2_with (first | (go_at_call 11; ((with_reducible refine (belD (B := w.heap.size) (w := w) (awake_any _ (hF.below (bel1 _ _))) (bel1 _ _) (Nat.le_refl _)).mono ?_)); rintro e w1 ⟨rfl, hB0, hR⟩; obtain ⟨hc, hf⟩ := bcell hR; have hF1 := hF.below hB0; have hB := Below.refl w1.heap.size w1; have hlt : w.heap.size < w1.heap.size := (box_lt hR)) | (go_at_call 24; ((with_reducible refine (within_any _ 32 (by omega) (by omega) _).mono ?_)); rintro e w2 ⟨r, hr0, hr1, rfl, rfl⟩; obtain ⟨q1, q2⟩ := six_bd hr0 hr1) | (go_at_call 24; ((with_reducible refine (within_any _ (6 * (1 + r) * (1 + r)) q1 (by omega) _).mono ?_)); rintro e w2 ⟨c, hc0, hc1, rfl, rfl⟩) | (go_at_call 24; ((with_reducible refine (within_any _ 4 (by omega) (by omega) _).mono ?_)); rintro e w2 ⟨so, hs0, hs1, rfl, rfl⟩))
  obtain ⟨f, i, j, m, A, W, B, P1, hm, HS⟩ := corner_pack (n := 1 + r) (c := c) (so := so) (by omega) (by omega) hc0 hc1 hs0 hs1
  have ea := HS.out.a0
  have ew := HS.out.w0
  unfold CornerAt at hm
  obtain rfl | rfl | rfl | rfl : so = 0 ∨ so = 1 ∨ so = 2 ∨ so = 3 := by omega
  · rcases hm with ⟨hm3, hm⟩ | ⟨hm3, hm⟩
    · have hi : i = 1 + r - 1 := by omega
      have hj : j = 1 + r - 1 := by omega
      clear hm
      go_wp2_with (first | (go_at_call 12; ((with_reducible refine (belC (B := w1.heap.size) (w := w1) (P1.out _) (by with_reducible assumption) (Nat.le_refl _)).mono ?_)); rintro e w3 ⟨rfl, hB⟩; have hcx := (bcell hB).1))
      clear hi
      try clear hj
      try clear hjb
      go_loopw [13, 14, 16] (fun x y z wr => ∃ k : Nat, k ≤ m ∧ z = .int .i64 k ∧ x = .int .i64 (A k) ∧ y = .int .i64 (W k) ∧ Below w1.heap.size w1 wr) (fun _ _ z _ => 4 - (intOf z).toNat)
      case atStart => exact ⟨0, by omega, rfl, by rw [ea], by rw [ew], by with_reducible assumption⟩
      case round =>
        obtain ⟨k, hk, rfl, rfl, rfl, hB⟩ := hrel
        by_cases hlt : k < m
        · obtain ⟨BE, e3, b0, b3⟩ := HS.out.each k hlt
          by_cases h0 : k = 0
          · subst h0
            replace BE : BesideAt (1 + r) c 0 (A 1) (B 0) := by have := BE; rwa [ea, ew] at this
            rw [ea, ew]
            go_wp2_with (first | (go_at_call 20; ((with_reducible refine (belC (B := w1.heap.size) (w := w1) (BE.out _ (hF1.below (by with_reducible assumption))) (by with_reducible assumption) (Nat.le_refl _)).mono ?_)); rintro e w3 ⟨rfl, hB⟩; have hcx := (bcell hB).1))
            go_roundw
            case rel => exact ⟨1, by omega, by go_num, rfl, by rw [← e3], by with_reducible assumption⟩
            case measure => simp [intOf] <;> omega
          · have hoff := HS.out.off k (by omega) hlt
            go_wp2_with (first | (go_at_call 20; ((with_reducible refine (belC (B := w1.heap.size) (w := w1) (BE.out _ (hF1.below (by with_reducible assumption))) (by with_reducible assumption) (Nat.le_refl _)).mono ?_)); rintro e w3 ⟨rfl, hB⟩; have hcx := (bcell hB).1))
            go_roundw
            case rel => exact ⟨k + 1, by omega, by go_num, rfl, by rw [← e3], by with_reducible assumption⟩
            case measure => simp [intOf] <;> omega
        · obtain rfl : k = m := by omega
          have am := HS.out.am
          have wm := HS.out.wm
          rw [am, wm]
          go_wp2
          go_ret
          exact ⟨ret_b (by simp), bel_end hB0 hB⟩
    · by_cases hi : i = 1 + r - 1
      · have hj : ¬ j = 1 + r - 1 := by omega
        have hjb : (j == 1 + r - 1) = false := by simpa using hj
        clear hm
        go_wp2_with (first | (go_at_call 12; ((with_reducible refine (belC (B := w1.heap.size) (w := w1) (P1.out _) (by with_reducible assumption) (Nat.le_refl _)).mono ?_)); rintro e w3 ⟨rfl, hB⟩; have hcx := (bcell hB).1))
        clear hi
        try clear hj
        try clear hjb
        go_loopw [13, 14, 16] (fun x y z wr => ∃ k : Nat, k ≤ m ∧ z = .int .i64 k ∧ x = .int .i64 (A k) ∧ y = .int .i64 (W k) ∧ Below w1.heap.size w1 wr) (fun _ _ z _ => 4 - (intOf z).toNat)
        case atStart => exact ⟨0, by omega, rfl, by rw [ea], by rw [ew], by with_reducible assumption⟩
        case round =>
          obtain ⟨k, hk, rfl, rfl, rfl, hB⟩ := hrel
          by_cases hlt : k < m
          · obtain ⟨BE, e3, b0, b3⟩ := HS.out.each k hlt
            by_cases h0 : k = 0
            · subst h0
              replace BE : BesideAt (1 + r) c 0 (A 1) (B 0) := by have := BE; rwa [ea, ew] at this
              rw [ea, ew]
              go_wp2_with (first | (go_at_call 20; ((with_reducible refine (belC (B := w1.heap.size) (w := w1) (BE.out _ (hF1.below (by with_reducible assumption))) (by with_reducible assumption) (Nat.le_refl _)).mono ?_)); rintro e w3 ⟨rfl, hB⟩; have hcx := (bcell hB).1))
              go_roundw
              case rel => exact ⟨1, by omega, by go_num, rfl, by rw [← e3], by with_reducible assumption⟩
              case measure => simp [intOf] <;> omega
            · have hoff := HS.out.off k (by omega) hlt
              go_wp2_with (first | (go_at_call 20; ((with_reducible refine (belC (B := w1.heap.size) (w := w1) (BE.out _ (hF1.below (by with_reducible assumption))) (by with_reducible assumption) (Nat.le_refl _)).mono ?_)); rintro e w3 ⟨rfl, hB⟩; have hcx := (bcell hB).1))
              go_roundw
              case rel => exact ⟨k + 1, by omega, by go_num, rfl, by rw [← e3], by with_reducible assumption⟩
              case measure => simp [intOf] <;> omega
          · obtain rfl : k = m := by omega
            have am := HS.out.am
            have wm := HS.out.wm
            rw [am, wm]
            go_wp2
            go_ret
            exact ⟨ret_b (by simp), bel_end hB0 hB⟩
      · clear hm
        go_wp2_with (first | (go_at_call 12; ((with_reducible refine (belC (B := w1.heap.size) (w := w1) (P1.out _) (by with_reducible assumption) (Nat.le_refl _)).mono ?_)); rintro e w3 ⟨rfl, hB⟩; have hcx := (bcell hB).1))
        clear hi
        try clear hj
        try clear hjb
        go_loopw [13, 14, 16] (fun x y z wr => ∃ k : Nat, k ≤ m ∧ z = .int .i64 k ∧ x = .int .i64 (A k) ∧ y = .int .i64 (W k) ∧ Below w1.heap.size w1 wr) (fun _ _ z _ => 4 - (intOf z).toNat)
        case atStart => exact ⟨0, by omega, rfl, by rw [ea], by rw [ew], by with_reducible assumption⟩
        case round =>
          obtain ⟨k, hk, rfl, rfl, rfl, hB⟩ := hrel
          by_cases hlt : k < m
          · obtain ⟨BE, e3, b0, b3⟩ := HS.out.each k hlt
            by_cases h0 : k = 0
            · subst h0
              replace BE : BesideAt (1 + r) c 0 (A 1) (B 0) := by have := BE; rwa [ea, ew] at this
              rw [ea, ew]
              go_wp2_with (first | (go_at_call 20; ((with_reducible refine (belC (B := w1.heap.size) (w := w1) (BE.out _ (hF1.below (by with_reducible assumption))) (by with_reducible assumption) (Nat.le_refl _)).mono ?_)); rintro e w3 ⟨rfl, hB⟩; have hcx := (bcell hB).1))
              go_roundw
              case rel => exact ⟨1, by omega, by go_num, rfl, by rw [← e3], by with_reducible assumption⟩
              case measure => simp [intOf] <;> omega
            · have hoff := HS.out.off k (by omega) hlt
              go_wp2_with (first | (go_at_call 20; ((with_reducible refine (belC (B := w1.heap.size) (w := w1) (BE.out _ (hF1.below (by with_reducible assumption))) (by with_reducible assumption) (Nat.le_refl _)).mono ?_)); rintro e w3 ⟨rfl, hB⟩; have hcx := (bcell hB).1))
              go_roundw
              case rel => exact ⟨k + 1, by omega, by go_num, rfl, by rw [← e3], by with_reducible assumption⟩
              case measure => simp [intOf] <;> omega
          · obtain rfl : k = m := by omega
            have am := HS.out.am
            have wm := HS.out.wm
            rw [am, wm]
            go_wp2
            go_ret
            exact ⟨ret_b (by simp), bel_end hB0 hB⟩
  · rcases hm with ⟨hm3, hm⟩ | ⟨hm3, hm⟩
    · have hi : i = 0 := by omega
      have hj : j = 1 + r - 1 := by omega
      clear hm
      go_wp2_with (first | (go_at_call 12; ((with_reducible refine (belC (B := w1.heap.size) (w := w1) (P1.out _) (by with_reducible assumption) (Nat.le_refl _)).mono ?_)); rintro e w3 ⟨rfl, hB⟩; have hcx := (bcell hB).1))
      clear hi
      try clear hj
      try clear hjb
      go_loopw [13, 14, 16] (fun x y z wr => ∃ k : Nat, k ≤ m ∧ z = .int .i64 k ∧ x = .int .i64 (A k) ∧ y = .int .i64 (W k) ∧ Below w1.heap.size w1 wr) (fun _ _ z _ => 4 - (intOf z).toNat)
      case atStart => exact ⟨0, by omega, rfl, by rw [ea], by rw [ew], by with_reducible assumption⟩
      case round =>
        obtain ⟨k, hk, rfl, rfl, rfl, hB⟩ := hrel
        by_cases hlt : k < m
        · obtain ⟨BE, e3, b0, b3⟩ := HS.out.each k hlt
          by_cases h0 : k = 0
          · subst h0
            replace BE : BesideAt (1 + r) c 1 (A 1) (B 0) := by have := BE; rwa [ea, ew] at this
            rw [ea, ew]
            go_wp2_with (first | (go_at_call 20; ((with_reducible refine (belC (B := w1.heap.size) (w := w1) (BE.out _ (hF1.below (by with_reducible assumption))) (by with_reducible assumption) (Nat.le_refl _)).mono ?_)); rintro e w3 ⟨rfl, hB⟩; have hcx := (bcell hB).1))
            go_roundw
            case rel => exact ⟨1, by omega, by go_num, rfl, by rw [← e3], by with_reducible assumption⟩
            case measure => simp [intOf] <;> omega
          · have hoff := HS.out.off k (by omega) hlt
            go_wp2_with (first | (go_at_call 20; ((with_reducible refine (belC (B := w1.heap.size) (w := w1) (BE.out _ (hF1.below (by with_reducible assumption))) (by with_reducible assumption) (Nat.le_refl _)).mono ?_)); rintro e w3 ⟨rfl, hB⟩; have hcx := (bcell hB).1))
            go_roundw
            case rel => exact ⟨k + 1, by omega, by go_num, rfl, by rw [← e3], by with_reducible assumption⟩
            case measure => simp [intOf] <;> omega
        · obtain rfl : k = m := by omega
          have am := HS.out.am
          have wm := HS.out.wm
          rw [am, wm]
          go_wp2
          go_ret
          exact ⟨ret_b (by simp), bel_end hB0 hB⟩
    · by_cases hi : i = 0
      · have hj : ¬ j = 1 + r - 1 := by omega
        have hjb : (j == 1 + r - 1) = false := by simpa using hj
        clear hm
        go_wp2_with (first | (go_at_call 12; ((with_reducible refine (belC (B := w1.heap.size) (w := w1) (P1.out _) (by with_reducible assumption) (Nat.le_refl _)).mono ?_)); rintro e w3 ⟨rfl, hB⟩; have hcx := (bcell hB).1))
        clear hi
        try clear hj
        try clear hjb
        go_loopw [13, 14, 16] (fun x y z wr => ∃ k : Nat, k ≤ m ∧ z = .int .i64 k ∧ x = .int .i64 (A k) ∧ y = .int .i64 (W k) ∧ Below w1.heap.size w1 wr) (fun _ _ z _ => 4 - (intOf z).toNat)
        case atStart => exact ⟨0, by omega, rfl, by rw [ea], by rw [ew], by with_reducible assumption⟩
        case round =>
          obtain ⟨k, hk, rfl, rfl, rfl, hB⟩ := hrel
          by_cases hlt : k < m
          · obtain ⟨BE, e3, b0, b3⟩ := HS.out.each k hlt
            by_cases h0 : k = 0
            · subst h0
              replace BE : BesideAt (1 + r) c 1 (A 1) (B 0) := by have := BE; rwa [ea, ew] at this
              rw [ea, ew]
              go_wp2_with (first | (go_at_call 20; ((with_reducible refine (belC (B := w1.heap.size) (w := w1) (BE.out _ (hF1.below (by with_reducible assumption))) (by with_reducible assumption) (Nat.le_refl _)).mono ?_)); rintro e w3 ⟨rfl, hB⟩; have hcx := (bcell hB).1))
              go_roundw
              case rel => exact ⟨1, by omega, by go_num, rfl, by rw [← e3], by with_reducible assumption⟩
              case measure => simp [intOf] <;> omega
            · have hoff := HS.out.off k (by omega) hlt
              go_wp2_with (first | (go_at_call 20; ((with_reducible refine (belC (B := w1.heap.size) (w := w1) (BE.out _ (hF1.below (by with_reducible assumption))) (by with_reducible assumption) (Nat.le_refl _)).mono ?_)); rintro e w3 ⟨rfl, hB⟩; have hcx := (bcell hB).1))
              go_roundw
              case rel => exact ⟨k + 1, by omega, by go_num, rfl, by rw [← e3], by with_reducible assumption⟩
              case measure => simp [intOf] <;> omega
          · obtain rfl : k = m := by omega
            have am := HS.out.am
            have wm := HS.out.wm
            rw [am, wm]
            go_wp2
            go_ret
            exact ⟨ret_b (by simp), bel_end hB0 hB⟩
      · clear hm
        go_wp2_with (first | (go_at_call 12; ((with_reducible refine (belC (B := w1.heap.size) (w := w1) (P1.out _) (by with_reducible assumption) (Nat.le_refl _)).mono ?_)); rintro e w3 ⟨rfl, hB⟩; have hcx := (bcell hB).1))
        clear hi
        try clear hj
        try clear hjb
        go_loopw [13, 14, 16] (fun x y z wr => ∃ k : Nat, k ≤ m ∧ z = .int .i64 k ∧ x = .int .i64 (A k) ∧ y = .int .i64 (W k) ∧ Below w1.heap.size w1 wr) (fun _ _ z _ => 4 - (intOf z).toNat)
        case atStart => exact ⟨0, by omega, rfl, by rw [ea], by rw [ew], by with_reducible assumption⟩
        case round =>
          obtain ⟨k, hk, rfl, rfl, rfl, hB⟩ := hrel
          by_cases hlt : k < m
          · obtain ⟨BE, e3, b0, b3⟩ := HS.out.each k hlt
            by_cases h0 : k = 0
            · subst h0
              replace BE : BesideAt (1 + r) c 1 (A 1) (B 0) := by have := BE; rwa [ea, ew] at this
              rw [ea, ew]
              go_wp2_with (first | (go_at_call 20; ((with_reducible refine (belC (B := w1.heap.size) (w := w1) (BE.out _ (hF1.below (by with_reducible assumption))) (by with_reducible assumption) (Nat.le_refl _)).mono ?_)); rintro e w3 ⟨rfl, hB⟩; have hcx := (bcell hB).1))
              go_roundw
              case rel => exact ⟨1, by omega, by go_num, rfl, by rw [← e3], by with_reducible assumption⟩
              case measure => simp [intOf] <;> omega
            · have hoff := HS.out.off k (by omega) hlt
              go_wp2_with (first | (go_at_call 20; ((with_reducible refine (belC (B := w1.heap.size) (w := w1) (BE.out _ (hF1.below (by with_reducible assumption))) (by with_reducible assumption) (Nat.le_refl _)).mono ?_)); rintro e w3 ⟨rfl, hB⟩; have hcx := (bcell hB).1))
              go_roundw
              case rel => exact ⟨k + 1, by omega, by go_num, rfl, by rw [← e3], by with_reducible assumption⟩
              case measure => simp [intOf] <;> omega
          · obtain rfl : k = m := by omega
            have am := HS.out.am
            have wm := HS.out.wm
            rw [am, wm]
            go_wp2
            go_ret
            exact ⟨ret_b (by simp), bel_end hB0 hB⟩
  · rcases hm with ⟨hm3, hm⟩ | ⟨hm3, hm⟩
    · have hi : i = 0 := by omega
      have hj : j = 0 := by omega
      clear hm
      go_wp2_with (first | (go_at_call 12; ((with_reducible refine (belC (B := w1.heap.size) (w := w1) (P1.out _) (by with_reducible assumption) (Nat.le_refl _)).mono ?_)); rintro e w3 ⟨rfl, hB⟩; have hcx := (bcell hB).1))
      clear hi
      try clear hj
      try clear hjb
      go_loopw [13, 14, 16] (fun x y z wr => ∃ k : Nat, k ≤ m ∧ z = .int .i64 k ∧ x = .int .i64 (A k) ∧ y = .int .i64 (W k) ∧ Below w1.heap.size w1 wr) (fun _ _ z _ => 4 - (intOf z).toNat)
      case atStart => exact ⟨0, by omega, rfl, by rw [ea], by rw [ew], by with_reducible assumption⟩
      case round =>
        obtain ⟨k, hk, rfl, rfl, rfl, hB⟩ := hrel
        by_cases hlt : k < m
        · obtain ⟨BE, e3, b0, b3⟩ := HS.out.each k hlt
          by_cases h0 : k = 0
          · subst h0
            replace BE : BesideAt (1 + r) c 2 (A 1) (B 0) := by have := BE; rwa [ea, ew] at this
            rw [ea, ew]
            go_wp2_with (first | (go_at_call 20; ((with_reducible refine (belC (B := w1.heap.size) (w := w1) (BE.out _ (hF1.below (by with_reducible assumption))) (by with_reducible assumption) (Nat.le_refl _)).mono ?_)); rintro e w3 ⟨rfl, hB⟩; have hcx := (bcell hB).1))
            go_roundw
            case rel => exact ⟨1, by omega, by go_num, rfl, by rw [← e3], by with_reducible assumption⟩
            case measure => simp [intOf] <;> omega
          · have hoff := HS.out.off k (by omega) hlt
            go_wp2_with (first | (go_at_call 20; ((with_reducible refine (belC (B := w1.heap.size) (w := w1) (BE.out _ (hF1.below (by with_reducible assumption))) (by with_reducible assumption) (Nat.le_refl _)).mono ?_)); rintro e w3 ⟨rfl, hB⟩; have hcx := (bcell hB).1))
            go_roundw
            case rel => exact ⟨k + 1, by omega, by go_num, rfl, by rw [← e3], by with_reducible assumption⟩
            case measure => simp [intOf] <;> omega
        · obtain rfl : k = m := by omega
          have am := HS.out.am
          have wm := HS.out.wm
          rw [am, wm]
          go_wp2
          go_ret
          exact ⟨ret_b (by simp), bel_end hB0 hB⟩
    · by_cases hi : i = 0
      · have hj : ¬ j = 0 := by omega
        have hjb : (j == 0) = false := by simpa using hj
        clear hm
        go_wp2_with (first | (go_at_call 12; ((with_reducible refine (belC (B := w1.heap.size) (w := w1) (P1.out _) (by with_reducible assumption) (Nat.le_refl _)).mono ?_)); rintro e w3 ⟨rfl, hB⟩; have hcx := (bcell hB).1))
        clear hi
        try clear hj
        try clear hjb
        go_loopw [13, 14, 16] (fun x y z wr => ∃ k : Nat, k ≤ m ∧ z = .int .i64 k ∧ x = .int .i64 (A k) ∧ y = .int .i64 (W k) ∧ Below w1.heap.size w1 wr) (fun _ _ z _ => 4 - (intOf z).toNat)
        case atStart => exact ⟨0, by omega, rfl, by rw [ea], by rw [ew], by with_reducible assumption⟩
        case round =>
          obtain ⟨k, hk, rfl, rfl, rfl, hB⟩ := hrel
          by_cases hlt : k < m
          · obtain ⟨BE, e3, b0, b3⟩ := HS.out.each k hlt
            by_cases h0 : k = 0
            · subst h0
              replace BE : BesideAt (1 + r) c 2 (A 1) (B 0) := by have := BE; rwa [ea, ew] at this
              rw [ea, ew]
              go_wp2_with (first | (go_at_call 20; ((with_reducible refine (belC (B := w1.heap.size) (w := w1) (BE.out _ (hF1.below (by with_reducible assumption))) (by with_reducible assumption) (Nat.le_refl _)).mono ?_)); rintro e w3 ⟨rfl, hB⟩; have hcx := (bcell hB).1))
              go_roundw
              case rel => exact ⟨1, by omega, by go_num, rfl, by rw [← e3], by with_reducible assumption⟩
              case measure => simp [intOf] <;> omega
            · have hoff := HS.out.off k (by omega) hlt
              go_wp2_with (first | (go_at_call 20; ((with_reducible refine (belC (B := w1.heap.size) (w := w1) (BE.out _ (hF1.below (by with_reducible assumption))) (by with_reducible assumption) (Nat.le_refl _)).mono ?_)); rintro e w3 ⟨rfl, hB⟩; have hcx := (bcell hB).1))
              go_roundw
              case rel => exact ⟨k + 1, by omega, by go_num, rfl, by rw [← e3], by with_reducible assumption⟩
              case measure => simp [intOf] <;> omega
          · obtain rfl : k = m := by omega
            have am := HS.out.am
            have wm := HS.out.wm
            rw [am, wm]
            go_wp2
            go_ret
            exact ⟨ret_b (by simp), bel_end hB0 hB⟩
      · clear hm
        go_wp2_with (first | (go_at_call 12; ((with_reducible refine (belC (B := w1.heap.size) (w := w1) (P1.out _) (by with_reducible assumption) (Nat.le_refl _)).mono ?_)); rintro e w3 ⟨rfl, hB⟩; have hcx := (bcell hB).1))
        clear hi
        try clear hj
        try clear hjb
        go_loopw [13, 14, 16] (fun x y z wr => ∃ k : Nat, k ≤ m ∧ z = .int .i64 k ∧ x = .int .i64 (A k) ∧ y = .int .i64 (W k) ∧ Below w1.heap.size w1 wr) (fun _ _ z _ => 4 - (intOf z).toNat)
        case atStart => exact ⟨0, by omega, rfl, by rw [ea], by rw [ew], by with_reducible assumption⟩
        case round =>
          obtain ⟨k, hk, rfl, rfl, rfl, hB⟩ := hrel
          by_cases hlt : k < m
          · obtain ⟨BE, e3, b0, b3⟩ := HS.out.each k hlt
            by_cases h0 : k = 0
            · subst h0
              replace BE : BesideAt (1 + r) c 2 (A 1) (B 0) := by have := BE; rwa [ea, ew] at this
              rw [ea, ew]
              go_wp2_with (first | (go_at_call 20; ((with_reducible refine (belC (B := w1.heap.size) (w := w1) (BE.out _ (hF1.below (by with_reducible assumption))) (by with_reducible assumption) (Nat.le_refl _)).mono ?_)); rintro e w3 ⟨rfl, hB⟩; have hcx := (bcell hB).1))
              go_roundw
              case rel => exact ⟨1, by omega, by go_num, rfl, by rw [← e3], by with_reducible assumption⟩
              case measure => simp [intOf] <;> omega
            · have hoff := HS.out.off k (by omega) hlt
              go_wp2_with (first | (go_at_call 20; ((with_reducible refine (belC (B := w1.heap.size) (w := w1) (BE.out _ (hF1.below (by with_reducible assumption))) (by with_reducible assumption) (Nat.le_refl _)).mono ?_)); rintro e w3 ⟨rfl, hB⟩; have hcx := (bcell hB).1))
              go_roundw
              case rel => exact ⟨k + 1, by omega, by go_num, rfl, by rw [← e3], by with_reducible assumption⟩
              case measure => simp [intOf] <;> omega
          · obtain rfl : k = m := by omega
            have am := HS.out.am
            have wm := HS.out.wm
            rw [am, wm]
            go_wp2
            go_ret
            exact ⟨ret_b (by simp), bel_end hB0 hB⟩
  · rcases hm with ⟨hm3, hm⟩ | ⟨hm3, hm⟩
    · have hi : i = 1 + r - 1 := by omega
      have hj : j = 0 := by omega
      clear hm
      go_wp2_with (first | (go_at_call 12; ((with_reducible refine (belC (B := w1.heap.size) (w := w1) (P1.out _) (by with_reducible assumption) (Nat.le_refl _)).mono ?_)); rintro e w3 ⟨rfl, hB⟩; have hcx := (bcell hB).1))
      clear hi
      try clear hj
      try clear hjb
      go_loopw [13, 14, 16] (fun x y z wr => ∃ k : Nat, k ≤ m ∧ z = .int .i64 k ∧ x = .int .i64 (A k) ∧ y = .int .i64 (W k) ∧ Below w1.heap.size w1 wr) (fun _ _ z _ => 4 - (intOf z).toNat)
      case atStart => exact ⟨0, by omega, rfl, by rw [ea], by rw [ew], by with_reducible assumption⟩
      case round =>
        obtain ⟨k, hk, rfl, rfl, rfl, hB⟩ := hrel
        by_cases hlt : k < m
        · obtain ⟨BE, e3, b0, b3⟩ := HS.out.each k hlt
          by_cases h0 : k = 0
          · subst h0
            replace BE : BesideAt (1 + r) c 3 (A 1) (B 0) := by have := BE; rwa [ea, ew] at this
            rw [ea, ew]
            go_wp2_with (first | (go_at_call 20; ((with_reducible refine (belC (B := w1.heap.size) (w := w1) (BE.out _ (hF1.below (by with_reducible assumption))) (by with_reducible assumption) (Nat.le_refl _)).mono ?_)); rintro e w3 ⟨rfl, hB⟩; have hcx := (bcell hB).1))
            go_roundw
            case rel => exact ⟨1, by omega, by go_num, rfl, by rw [← e3], by with_reducible assumption⟩
            case measure => simp [intOf] <;> omega
          · have hoff := HS.out.off k (by omega) hlt
            go_wp2_with (first | (go_at_call 20; ((with_reducible refine (belC (B := w1.heap.size) (w := w1) (BE.out _ (hF1.below (by with_reducible assumption))) (by with_reducible assumption) (Nat.le_refl _)).mono ?_)); rintro e w3 ⟨rfl, hB⟩; have hcx := (bcell hB).1))
            go_roundw
            case rel => exact ⟨k + 1, by omega, by go_num, rfl, by rw [← e3], by with_reducible assumption⟩
            case measure => simp [intOf] <;> omega
        · obtain rfl : k = m := by omega
          have am := HS.out.am
          have wm := HS.out.wm
          rw [am, wm]
          go_wp2
          go_ret
          exact ⟨ret_b (by simp), bel_end hB0 hB⟩
    · by_cases hi : i = 1 + r - 1
      · have hj : ¬ j = 0 := by omega
        have hjb : (j == 0) = false := by simpa using hj
        clear hm
        go_wp2_with (first | (go_at_call 12; ((with_reducible refine (belC (B := w1.heap.size) (w := w1) (P1.out _) (by with_reducible assumption) (Nat.le_refl _)).mono ?_)); rintro e w3 ⟨rfl, hB⟩; have hcx := (bcell hB).1))
        clear hi
        try clear hj
        try clear hjb
        go_loopw [13, 14, 16] (fun x y z wr => ∃ k : Nat, k ≤ m ∧ z = .int .i64 k ∧ x = .int .i64 (A k) ∧ y = .int .i64 (W k) ∧ Below w1.heap.size w1 wr) (fun _ _ z _ => 4 - (intOf z).toNat)
        case atStart => exact ⟨0, by omega, rfl, by rw [ea], by rw [ew], by with_reducible assumption⟩
        case round =>
          obtain ⟨k, hk, rfl, rfl, rfl, hB⟩ := hrel
          by_cases hlt : k < m
          · obtain ⟨BE, e3, b0, b3⟩ := HS.out.each k hlt
            by_cases h0 : k = 0
            · subst h0
              replace BE : BesideAt (1 + r) c 3 (A 1) (B 0) := by have := BE; rwa [ea, ew] at this
              rw [ea, ew]
              go_wp2_with (first | (go_at_call 20; ((with_reducible refine (belC (B := w1.heap.size) (w := w1) (BE.out _ (hF1.below (by with_reducible assumption))) (by with_reducible assumption) (Nat.le_refl _)).mono ?_)); rintro e w3 ⟨rfl, hB⟩; have hcx := (bcell hB).1))
              go_roundw
              case rel => exact ⟨1, by omega, by go_num, rfl, by rw [← e3], by with_reducible assumption⟩
              case measure => simp [intOf] <;> omega
            · have hoff := HS.out.off k (by omega) hlt
              go_wp2_with (first | (go_at_call 20; ((with_reducible refine (belC (B := w1.heap.size) (w := w1) (BE.out _ (hF1.below (by with_reducible assumption))) (by with_reducible assumption) (Nat.le_refl _)).mono ?_)); rintro e w3 ⟨rfl, hB⟩; have hcx := (bcell hB).1))
              go_roundw
              case rel => exact ⟨k + 1, by omega, by go_num, rfl, by rw [← e3], by with_reducible assumption⟩
              case measure => simp [intOf] <;> omega
          · obtain rfl : k = m := by omega
            have am := HS.out.am
            have wm := HS.out.wm
            rw [am, wm]
            go_wp2
            go_ret
            exact ⟨ret_b (by simp), bel_end hB0 hB⟩
      · clear hm
        go_wp2_with (first | (go_at_call 12; ((with_reducible refine (belC (B := w1.heap.size) (w := w1) (P1.out _) (by with_reducible assumption) (Nat.le_refl _)).mono ?_)); rintro e w3 ⟨rfl, hB⟩; have hcx := (bcell hB).1))
        clear hi
        try clear hj
        try clear hjb
        go_loopw [13, 14, 16] (fun x y z wr => ∃ k : Nat, k ≤ m ∧ z = .int .i64 k ∧ x = .int .i64 (A k) ∧ y = .int .i64 (W k) ∧ Below w1.heap.size w1 wr) (fun _ _ z _ => 4 - (intOf z).toNat)
        case atStart => exact ⟨0, by omega, rfl, by rw [ea], by rw [ew], by with_reducible assumption⟩
        case round =>
          obtain ⟨k, hk, rfl, rfl, rfl, hB⟩ := hrel
          by_cases hlt : k < m
          · obtain ⟨BE, e3, b0, b3⟩ := HS.out.each k hlt
            by_cases h0 : k = 0
            · subst h0
              replace BE : BesideAt (1 + r) c 3 (A 1) (B 0) := by have := BE; rwa [ea, ew] at this
              rw [ea, ew]
              go_wp2_with (first | (go_at_call 20; ((with_reducible refine (belC (B := w1.heap.size) (w := w1) (BE.out _ (hF1.below (by with_reducible assumption))) (by with_reducible assumption) (Nat.le_refl _)).mono ?_)); rintro e w3 ⟨rfl, hB⟩; have hcx := (bcell hB).1))
              go_roundw
              case rel => exact ⟨1, by omega, by go_num, rfl, by rw [← e3], by with_reducible assumption⟩
              case measure => simp [intOf] <;> omega
            · have hoff := HS.out.off k (by omega) hlt
              go_wp2_with (first | (go_at_call 20; ((with_reducible refine (belC (B := w1.heap.size) (w := w1) (BE.out _ (hF1.below (by with_reducible assumption))) (by with_reducible assumption) (Nat.le_refl _)).mono ?_)); rintro e w3 ⟨rfl, hB⟩; have hcx := (bcell hB).1))
              go_roundw
              case rel => exact ⟨k + 1, by omega, by go_num, rfl, by rw [← e3], by with_reducible assumption⟩
              case measure => simp [intOf] <;> omega
          · obtain rfl : k = m := by omega
            have am := HS.out.am
            have wm := HS.out.wm
            rw [am, wm]
            go_wp2
            go_ret
            exact ⟨ret_b (by simp), bel_end hB0 hB⟩
end Go.Proofs.YtbfbafoeifigfaaDoor
