/- The statement CubeGroup: turns behind turns. -/
import Derived.Test.YtbfbafoeifigfaaDoorCubeZ
namespace Go.Proofs.YtbfbafoeifigfaaDoor
open Go.RowKit TF

theorem group_pack {n c tn uo vo : Int} (h1 : 1 ≤ n) (h2 : n ≤ 32) (hc0 : 0 ≤ c) (hc1 : c < 6 * n * n) (ht0 : 0 ≤ tn) (ht1 : tn < 24) (hu0 : 0 ≤ uo) (hu1 : uo < 24) (hv0 : 0 ≤ vo) (hv1 : vo < 24) :
    ∃ x q y p a b d : Int, TurnAt n tn c x q ∧ TurnAt n uo x y p ∧ AfterAt uo tn a ∧ TurnAt n a c y ((q + p) % 4) ∧ AfterAt vo a d ∧ AfterAt vo uo b ∧ AfterAt b tn d ∧ AfterAt 0 tn tn ∧ AfterAt tn 0 tn ∧ 0 ≤ q ∧ q ≤ 3 ∧ 0 ≤ p ∧ p ≤ 3 ∧
      ∃ t : Nat, tn = t ∧ t < 24 := by
  obtain ⟨f, i, j, hO, rfl⟩ := on_of h1 h2 hc0 hc1
  obtain ⟨t, rfl⟩ : ∃ t : Nat, tn = t := ⟨tn.toNat, by omega⟩
  obtain ⟨u, rfl⟩ : ∃ u : Nat, uo = u := ⟨uo.toNat, by omega⟩
  obtain ⟨v, rfl⟩ : ∃ v : Nat, vo = v := ⟨vo.toNat, by omega⟩
  have ht : t < 24 := by omega
  have hu : u < 24 := by omega
  have hv : v < 24 := by omega
  have hU := u_on hO ht
  have ha := (af_fact u hu t ht).1
  have hb := (af_fact v hv u hu).1
  have q1 := (turn_face t ht f hO.f6).2.1
  have q2 := (turn_face u hu _ hU.f6).2.1
  obtain ⟨e1, e2⟩ := turned_twice hO ht hu
  obtain ⟨z1, z2⟩ := af_zero t ht
  refine ⟨_, _, _, _, _, _, _, turnAt hO ht, turnAt hU hu, afterAt hu ht, ?_, afterAt hv ha, afterAt hv hu, ?_, ?_, ?_, by omega, by omega, by omega, by omega, t, rfl, ht⟩
  · have := turnAt hO ha
    rw [← e1, ← e2] at this
    rw [show ((tQ t f : Nat) : Int) + (tQ u (tF t f) : Nat) = ((tQ t f + tQ u (tF t f) : Nat) : Int) from by omega, show (((tQ t f + tQ u (tF t f) : Nat) : Int)) % 4 = (((tQ t f + tQ u (tF t f)) % 4 : Nat) : Int) from by omega]
    exact this
  · have := afterAt hb ht
    rwa [← af_assoc v hv u hu t ht] at this
  · have := afterAt (u := 0) (by omega) ht
    rwa [z1] at this
  · have := afterAt ht (t := 0) (by omega)
    rwa [z2] at this

set_option maxRecDepth 100000 in
set_option maxHeartbeats 4000000 in
theorem cubeGroup_walk (a0 a1 a2 a3 a4 a5 a6 a7 : Int) (w : World) (hF : Fr w) :
    Calls Tryd.prog 10 #[.agg #[.int .i64 a0, .int .i64 a1, .int .i64 a2, .int .i64 a3, .int .i64 a4, .int .i64 a5, .int .i64 a6, .int .i64 a7]] w fun e w' => e = .returned (.bool true) ∧ Below w.heap.size w w' := by
  have hsz := hF.size
  go_enter Tryd.func10, Tryd.ntmps10
  go_wp2_with (first | (go_at_call 11; ((with_reducible refine (belD (B := w.heap.size) (w := w) (awake_any _ (hF.below (bel1 _ _))) (bel1 _ _) (Nat.le_refl _)).mono ?_)); rintro e w1 ⟨rfl, hB0, hR⟩; obtain ⟨hc, hf⟩ := bcell hR; have hF1 := hF.below hB0; have hB := Below.refl w1.heap.size w1; have hlt : w.heap.size < w1.heap.size := (box_lt hR)) | (go_at_call 24; ((with_reducible refine (within_any _ 32 (by omega) (by omega) _).mono ?_)); rintro e w2 ⟨r, hr0, hr1, rfl, rfl⟩; obtain ⟨q1, q2⟩ := six_bd hr0 hr1) | (go_at_call 24; ((with_reducible refine (within_any _ (6 * (1 + r) * (1 + r)) q1 (by omega) _).mono ?_)); rintro e w2 ⟨c, hc0, hc1, rfl, rfl⟩) | (go_at_call 24; ((with_reducible refine (within_any a6 24 (by omega) (by omega) _).mono ?_)); rintro e w2 ⟨tn, ht0, ht1, rfl, rfl⟩) | (go_at_call 24; ((with_reducible refine (within_any a7 24 (by omega) (by omega) _).mono ?_)); rintro e w2 ⟨uo, hu0, hu1, rfl, rfl⟩) | (go_at_call 24; ((with_reducible refine (within_any a2 24 (by omega) (by omega) _).mono ?_)); rintro e w2 ⟨vo, hv0, hv1, rfl, rfl⟩))
  obtain ⟨x, q, y, p, a, b, d, T1, T2, AF1, T3, AF2, AF3, AF4, AF5, AF6, q0, q3, p0, p3, t, rfl, ht⟩ := group_pack (n := 1 + r) (c := c) (tn := tn) (uo := uo) (vo := vo) (by omega) (by omega) hc0 hc1 ht0 ht1 hu0 hu1 hv0 hv1
  go_wp2_with (first | (go_at_call 22; ((with_reducible refine (belC (B := w1.heap.size) (w := w1) (T1.out _ (hF1.below (by with_reducible assumption))) (by with_reducible assumption) (Nat.le_refl _)).mono ?_)); rintro e w3 ⟨rfl, hB⟩; have hcx := (bcell hB).1) | (go_at_call 22; ((with_reducible refine (belC (B := w1.heap.size) (w := w1) (T2.out _ (hF1.below (by with_reducible assumption))) (by with_reducible assumption) (Nat.le_refl _)).mono ?_)); rintro e w3 ⟨rfl, hB⟩; have hcx := (bcell hB).1) | (go_at_call 18; ((with_reducible refine (belC (B := w1.heap.size) (w := w1) (AF1.out _ (hF1.below (by with_reducible assumption))) (by with_reducible assumption) (Nat.le_refl _)).mono ?_)); rintro e w3 ⟨rfl, hB⟩; have hcx := (bcell hB).1) | (go_at_call 22; ((with_reducible refine (belC (B := w1.heap.size) (w := w1) (T3.out _ (hF1.below (by with_reducible assumption))) (by with_reducible assumption) (Nat.le_refl _)).mono ?_)); rintro e w3 ⟨rfl, hB⟩; have hcx := (bcell hB).1) | (go_at_call 18; ((with_reducible refine (belC (B := w1.heap.size) (w := w1) (AF2.out _ (hF1.below (by with_reducible assumption))) (by with_reducible assumption) (Nat.le_refl _)).mono ?_)); rintro e w3 ⟨rfl, hB⟩; have hcx := (bcell hB).1) | (go_at_call 18; ((with_reducible refine (belC (B := w1.heap.size) (w := w1) (AF3.out _ (hF1.below (by with_reducible assumption))) (by with_reducible assumption) (Nat.le_refl _)).mono ?_)); rintro e w3 ⟨rfl, hB⟩; have hcx := (bcell hB).1) | (go_at_call 18; ((with_reducible refine (belC (B := w1.heap.size) (w := w1) (AF4.out _ (hF1.below (by with_reducible assumption))) (by with_reducible assumption) (Nat.le_refl _)).mono ?_)); rintro e w3 ⟨rfl, hB⟩; have hcx := (bcell hB).1) | (go_at_call 18; ((with_reducible refine (belC (B := w1.heap.size) (w := w1) (AF5.out _ (hF1.below (by with_reducible assumption))) (by with_reducible assumption) (Nat.le_refl _)).mono ?_)); rintro e w3 ⟨rfl, hB⟩; have hcx := (bcell hB).1) | (go_at_call 18; ((with_reducible refine (belC (B := w1.heap.size) (w := w1) (AF6.out _ (hF1.below (by with_reducible assumption))) (by with_reducible assumption) (Nat.le_refl _)).mono ?_)); rintro e w3 ⟨rfl, hB⟩; have hcx := (bcell hB).1))
  go_loopw [14, 15] (fun un i wr => ∃ k : Nat, k ≤ 24 ∧ i = .int .i64 k ∧ un = .int .i64 (cntU t k : Nat) ∧ Below w1.heap.size w1 wr) (fun _ i _ => 24 - (intOf i).toNat)
  case atStart => exact ⟨0, by omega, rfl, rfl, by with_reducible assumption⟩
  case round =>
    obtain ⟨k, hk, rfl, rfl, hB⟩ := hrel
    have hcl := undo_le t k
    by_cases hlt : k < 24
    · by_cases hz : afF k t = 0
      · have AF7 : AfterAt k t 0 := by have := afterAt hlt ht; rwa [hz] at this
        have AF8 : AfterAt t k 0 := by have := afterAt ht hlt; rwa [undo_both t ht k hlt hz] at this
        have hcn : cntU t (k + 1) = cntU t k + 1 := by simp [cntU, hz]
        go_wp2_with (first | (go_at_call 18; ((with_reducible refine (belC (B := w1.heap.size) (w := w1) (AF7.out _ (hF1.below (by with_reducible assumption))) (by with_reducible assumption) (Nat.le_refl _)).mono ?_)); rintro e w3 ⟨rfl, hB⟩; have hcx := (bcell hB).1) | (go_at_call 18; ((with_reducible refine (belC (B := w1.heap.size) (w := w1) (AF8.out _ (hF1.below (by with_reducible assumption))) (by with_reducible assumption) (Nat.le_refl _)).mono ?_)); rintro e w3 ⟨rfl, hB⟩; have hcx := (bcell hB).1))
        go_roundw
        case rel => exact ⟨k + 1, by omega, by go_num, by rw [hcn]; go_num, by with_reducible assumption⟩
        case measure => simp [intOf]; omega
      · obtain ⟨a9, ha9, AF7⟩ : ∃ a9 : Int, ((a9 : Int) == 0) = false ∧ AfterAt k t a9 := ⟨_, by simpa using hz, afterAt hlt ht⟩
        have hcn : cntU t (k + 1) = cntU t k := by simp [cntU, hz]
        go_wp2_with (first | (go_at_call 18; ((with_reducible refine (belC (B := w1.heap.size) (w := w1) (AF7.out _ (hF1.below (by with_reducible assumption))) (by with_reducible assumption) (Nat.le_refl _)).mono ?_)); rintro e w3 ⟨rfl, hB⟩; have hcx := (bcell hB).1))
        go_roundw
        case rel => exact ⟨k + 1, by omega, by go_num, by rw [hcn], by with_reducible assumption⟩
        case measure => simp [intOf]; omega
    · obtain rfl : k = 24 := by omega
      have hone := undo_one t ht
      rw [hone]
      go_wp2
      go_ret
      exact ⟨rfl, bel_end hB0 hB⟩
end Go.Proofs.YtbfbafoeifigfaaDoor
