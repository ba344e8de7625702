/- The cube's frames in memory. -/
import Derived.Test.YtbfbafoeifigfaaDoorCubeA
import Derived.Test.YtbfbafoeifigfaaDoorArrEq
namespace Go.Proofs.YtbfbafoeifigfaaDoor
open Go.RowKit TF

/-- The frames lie in the first block, number by number. -/
def Fr (w : World) : Prop := ∀ f < 6, ∀ k < 9, w.cell? ⟨0, f * 9 + k, none⟩ = some (.int .i64 (FR f k))
theorem Fr.size {w : World} (h : Fr w) : 0 < w.heap.size := by
  have h0 := h 0 (by omega) 0 (by omega)
  rcases Nat.lt_or_ge 0 w.heap.size with h1 | h1
  · exact h1
  · unfold World.cell? at h0; rw [Array.getElem?_eq_none h1] at h0; cases h0
theorem Fr.below {w w' : World} (h : Fr w) (hb : Below w.heap.size w w') : Fr w' := fun f hf k hk => by
  rw [hb.cell (p := ⟨0, f * 9 + k, none⟩) h.size]; exact h f hf k hk
theorem Fr.face {w : World} (h : Fr w) {f : Nat} (hf : f < 6) : w.cell? ⟨0, f * 9, none⟩ = some (.int .i64 (FR f 0)) ∧ w.cell? ⟨0, f * 9 + 1, none⟩ = some (.int .i64 (FR f 1)) ∧ w.cell? ⟨0, f * 9 + 2, none⟩ = some (.int .i64 (FR f 2)) ∧
    w.cell? ⟨0, f * 9 + 3, none⟩ = some (.int .i64 (FR f 3)) ∧ w.cell? ⟨0, f * 9 + 4, none⟩ = some (.int .i64 (FR f 4)) ∧ w.cell? ⟨0, f * 9 + 5, none⟩ = some (.int .i64 (FR f 5)) ∧
    w.cell? ⟨0, f * 9 + 6, none⟩ = some (.int .i64 (FR f 6)) ∧ w.cell? ⟨0, f * 9 + 7, none⟩ = some (.int .i64 (FR f 7)) ∧ w.cell? ⟨0, f * 9 + 8, none⟩ = some (.int .i64 (FR f 8)) :=
  ⟨h f hf 0 (by omega), h f hf 1 (by omega), h f hf 2 (by omega), h f hf 3 (by omega), h f hf 4 (by omega), h f hf 5 (by omega), h f hf 6 (by omega), h f hf 7 (by omega), h f hf 8 (by omega)⟩

theorem bcell {W w1 : World} (hb : Below W.heap.size W w1) : (∀ b o, b < W.heap.size → w1.cell? ⟨b, o, none⟩ = W.cell? ⟨b, o, none⟩) ∧ (∀ b o, b < W.heap.size → w1.frozen? ⟨b, o, none⟩ = W.frozen? ⟨b, o, none⟩) :=
  ⟨fun b o h => hb.cell (p := ⟨b, o, none⟩) h, fun b o h => hb.frozen (p := ⟨b, o, none⟩) h⟩
theorem set3 {B : Nat} {w w1 : World} (h : Below B w w1) {b : Nat} (hb : B ≤ b) (x y z : Value) : Below B w (((w1.setCell ⟨b, 0, none⟩ x).setCell ⟨b, 1, none⟩ y).setCell ⟨b, 2, none⟩ z) := ((h.setCell hb _).setCell hb _).setCell hb _
theorem times_neg (x y z : Int) (hu : U3 x y z) (w : World) :
    Calls Tryd.prog 42 #[.agg #[.int .i64 x, .int .i64 y, .int .i64 z], .int .i64 (-1)] w fun e w' => e = .returned (.agg #[.int .i64 (-x), .int .i64 (-y), .int .i64 (-z)]) ∧ Below w.heap.size w w' := by
  have h := times_any x y z (-1) hu ⟨by omega, by omega⟩ w
  rwa [Int.neg_one_mul, Int.neg_one_mul, Int.neg_one_mul] at h
theorem out_any (c0 c1 c2 r0 r1 r2 u0 u1 u2 : Int) (s : Nat) (hs : s < 4) (hr : U3 r0 r1 r2) (hu : U3 u0 u1 u2) (w : World) :
    Calls Tryd.prog 31 #[.agg #[.int .i64 c0, .int .i64 c1, .int .i64 c2, .int .i64 r0, .int .i64 r1, .int .i64 r2, .int .i64 u0, .int .i64 u1, .int .i64 u2], .int .i64 s] w
      fun e w' => e = .returned (.agg #[.int .i64 (OU s r0 u0), .int .i64 (OU s r1 u1), .int .i64 (OU s r2 u2)]) ∧ Below w.heap.size w w' := by
  have : s = 0 ∨ s = 1 ∨ s = 2 ∨ s = 3 := by omega
  rcases this with rfl | rfl | rfl | rfl
  · show Calls Tryd.prog 31 _ w fun e w' => e = .returned (.agg #[.int .i64 r0, .int .i64 r1, .int .i64 r2]) ∧ Below w.heap.size w w'
    go_enter Tryd.func31, Tryd.ntmps31
    go_wp2_with fail

    exact bodyPost_ret (v := .agg #[.int .i64 r0, .int .i64 r1, .int .i64 r2]) (by simp [results, Tryd.results31, go_sem]) rfl ⟨rfl, bel2 _ _ _⟩
  · show Calls Tryd.prog 31 _ w fun e w' => e = .returned (.agg #[.int .i64 u0, .int .i64 u1, .int .i64 u2]) ∧ Below w.heap.size w w'
    go_enter Tryd.func31, Tryd.ntmps31
    go_wp2_with fail
    exact bodyPost_ret (v := .agg #[.int .i64 u0, .int .i64 u1, .int .i64 u2]) (by simp [results, Tryd.results31, go_sem]) rfl ⟨rfl, bel2 _ _ _⟩
  · show Calls Tryd.prog 31 _ w fun e w' => e = .returned (.agg #[.int .i64 (-r0), .int .i64 (-r1), .int .i64 (-r2)]) ∧ Below w.heap.size w w'
    go_enter Tryd.func31, Tryd.ntmps31
    go_wp2_with (go_at_call 42; refine (times_neg _ _ _ (by assumption) _).mono ?_; rintro e w1 ⟨rfl, hB⟩; obtain ⟨hc, hf⟩ := bcell hB)


    exact bodyPost_ret (v := .agg #[.int .i64 (-r0), .int .i64 (-r1), .int .i64 (-r2)]) (by simp [results, Tryd.results31, go_sem, hc]) rfl ⟨rfl, set3 ((bel2 _ _ _).trans (hB.mono (by simp; omega))) (by omega) _ _ _⟩
  · show Calls Tryd.prog 31 _ w fun e w' => e = .returned (.agg #[.int .i64 (-u0), .int .i64 (-u1), .int .i64 (-u2)]) ∧ Below w.heap.size w w'
    go_enter Tryd.func31, Tryd.ntmps31
    go_wp2_with (go_at_call 42; refine (times_neg _ _ _ (by assumption) _).mono ?_; rintro e w1 ⟨rfl, hB⟩; obtain ⟨hc, hf⟩ := bcell hB)
    exact bodyPost_ret (v := .agg #[.int .i64 (-u0), .int .i64 (-u1), .int .i64 (-u2)]) (by simp [results, Tryd.results31, go_sem, hc]) rfl ⟨rfl, set3 ((bel2 _ _ _).trans (hB.mono (by simp; omega))) (by omega) _ _ _⟩


theorem eq_way (w : World) (a b c x y z : Int) : (binOp .eql 39 (.agg #[.int .i64 a, .int .i64 b, .int .i64 c]) (.agg #[.int .i64 x, .int .i64 y, .int .i64 z])).run Tryd.prog w = .ok (.bool (eq3 a b c x y z)) w :=
  run_eql_three w a b c x y z Tryd.underlying39 Tryd.underlying3 (by kernel_rfl)
theorem eq_way' (w : World) (a b c x y z : Int) : (Op.equalIn 10000 39 (.agg #[.int .i64 a, .int .i64 b, .int .i64 c]) (.agg #[.int .i64 x, .int .i64 y, .int .i64 z])).run Tryd.prog w = .ok (eq3 a b c x y z) w :=
  equalIn_three w 9998 a b c x y z Tryd.underlying39 Tryd.underlying3 (by kernel_rfl)
theorem eq_guard (w : World) (op : BinOp) (x y : Operand) (xs ys : Array Value) : (eqGuard op 39 x y (.agg xs) (.agg ys)).run Tryd.prog w = .ok () w := run_eqGuard_agg w op _ x y xs ys (by kernel_rfl)
attribute [local go_sem] eq_way eq_way' eq_guard
theorem faceAt_any (c0 c1 c2 : Int) (f0 : Nat) (hf0 : f0 < 6) (h0 : c0 = FR f0 0) (h1 : c1 = FR f0 1) (h2 : c2 = FR f0 2) (w : World) (hF : Fr w) :
    Calls Tryd.prog 30 #[.agg #[.int .i64 c0, .int .i64 c1, .int .i64 c2]] w fun e w' => e = .returned (.int .i64 f0) ∧ Below w.heap.size w w' := by
  have H0 := Lib.hid h0
  have H1 := Lib.hid h1
  have H2 := Lib.hid h2
  clear h0 h1 h2
  go_enter Tryd.func30, Tryd.ntmps30
  go_wp2_with fail
  go_loopw [4] (fun i wr => ∃ k : Nat, k ≤ f0 ∧ i = .int .i64 k ∧ ∃ n, wr = (w.alloc (wayBox c0 c1 c2)).drewN n) (fun i _ => 6 - (intOf i).toNat)
  case atStart => exact ⟨0, Nat.zero_le _, rfl, 0, rfl⟩
  case round =>
    obtain ⟨k, hk, rfl, hw⟩ := hrel
    have hk6 : k < 6 := by omega
    have HW := Lib.hid hw
    obtain ⟨a0, a1, a2, -⟩ := hF.face hk6
    have g0 : wr.cell? ⟨0, k * 9, none⟩ = some (.int .i64 (FR k 0)) := by obtain ⟨n, rfl⟩ := hw; rw [← a0]; exact (bel1 w _).cell (p := ⟨0, k * 9, none⟩) hF.size
    have g1 : wr.cell? ⟨0, k * 9 + 1, none⟩ = some (.int .i64 (FR k 1)) := by obtain ⟨n, rfl⟩ := hw; rw [← a1]; exact (bel1 w _).cell (p := ⟨0, k * 9 + 1, none⟩) hF.size
    have g2 : wr.cell? ⟨0, k * 9 + 2, none⟩ = some (.int .i64 (FR k 2)) := by obtain ⟨n, rfl⟩ := hw; rw [← a2]; exact (bel1 w _).cell (p := ⟨0, k * 9 + 2, none⟩) hF.size
    have b0 : wr.cell? ⟨w.heap.size, 0, none⟩ = some (.int .i64 c0) := by obtain ⟨n, rfl⟩ := hw; unfold wayBox; go_simp
    have b1 : wr.cell? ⟨w.heap.size, 1, none⟩ = some (.int .i64 c1) := by obtain ⟨n, rfl⟩ := hw; unfold wayBox; go_simp
    have b2 : wr.cell? ⟨w.heap.size, 2, none⟩ = some (.int .i64 c2) := by obtain ⟨n, rfl⟩ := hw; unfold wayBox; go_simp
    clear hw a0 a1 a2 hF
    by_cases hlt : k = f0
    · have he : eq3 (FR k 0) (FR k 1) (FR k 2) c0 c1 c2 = true := by rw [H0.out, H1.out, H2.out, hlt]; exact eq3_true rfl rfl rfl
      obtain rfl := hlt
      go_wp2
      go_quiet (fail)
      go_wp2
      go_ret
      exact ⟨rfl, by obtain ⟨n, rfl⟩ := HW.out; rw [World.drewN_drewN]; exact below_drewN (bel1 _ _) _⟩
    · have he : eq3 (FR k 0) (FR k 1) (FR k 2) c0 c1 c2 = false := eq3_false (by rw [H0.out, H1.out, H2.out]; exact fun h => hlt (FR_inj k hk6 f0 hf0 h.1 h.2.1 h.2.2))
      have hk' : k < f0 := by omega
      go_wp2
      go_quiet (fail)
      go_wp2
      go_roundw
      case rel => exact ⟨k + 1, by omega, by go_num, by obtain ⟨n, hn⟩ := HW.out; exact ⟨_, by rw [hn, World.drewN_drewN]⟩⟩
      case measure => simp [intOf]; omega
end Go.Proofs.YtbfbafoeifigfaaDoor
