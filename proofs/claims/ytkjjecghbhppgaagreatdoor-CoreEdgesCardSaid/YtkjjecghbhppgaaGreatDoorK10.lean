/- Laid together: CubeB, TopV. -/
import Derived.Test.YtkjjecghbhppgaaGreatDoorK09
import Derived.Test.YtkjjecghbhppgaaGreatDoorK05
import Derived.Test.YtkjjecghbhppgaaGreatDoorK04
/- The cube's frames in memory. -/
namespace Go.Proofs.YtkjjecghbhppgaaGreatDoor
open Go.RowKit TF

/-- The frames lie in the first block, number by number. -/
def Fr (w : World) : Prop := ∀ f < 6, ∀ k < 9, w.cell? ⟨1, f * 9 + k, none⟩ = some (.int .i64 (FR f k))
theorem Fr.size {w : World} (h : Fr w) : 1 < w.heap.size := by
  have h0 := h 0 (by omega) 0 (by omega)
  rcases Nat.lt_or_ge 1 w.heap.size with h1 | h1
  · exact h1
  · unfold World.cell? at h0; rw [Array.getElem?_eq_none h1] at h0; cases h0
theorem Fr.below {w w' : World} (h : Fr w) (hb : Below w.heap.size w w') : Fr w' := fun f hf k hk => by
  rw [hb.cell (p := ⟨1, f * 9 + k, none⟩) h.size]; exact h f hf k hk
theorem Fr.face {w : World} (h : Fr w) {f : Nat} (hf : f < 6) : w.cell? ⟨1, f * 9, none⟩ = some (.int .i64 (FR f 0)) ∧ w.cell? ⟨1, f * 9 + 1, none⟩ = some (.int .i64 (FR f 1)) ∧ w.cell? ⟨1, f * 9 + 2, none⟩ = some (.int .i64 (FR f 2)) ∧
    w.cell? ⟨1, f * 9 + 3, none⟩ = some (.int .i64 (FR f 3)) ∧ w.cell? ⟨1, f * 9 + 4, none⟩ = some (.int .i64 (FR f 4)) ∧ w.cell? ⟨1, f * 9 + 5, none⟩ = some (.int .i64 (FR f 5)) ∧
    w.cell? ⟨1, f * 9 + 6, none⟩ = some (.int .i64 (FR f 6)) ∧ w.cell? ⟨1, f * 9 + 7, none⟩ = some (.int .i64 (FR f 7)) ∧ w.cell? ⟨1, f * 9 + 8, none⟩ = some (.int .i64 (FR f 8)) :=
  ⟨h f hf 0 (by omega), h f hf 1 (by omega), h f hf 2 (by omega), h f hf 3 (by omega), h f hf 4 (by omega), h f hf 5 (by omega), h f hf 6 (by omega), h f hf 7 (by omega), h f hf 8 (by omega)⟩

theorem bcell {W w1 : World} (hb : Below W.heap.size W w1) : (∀ b o, b < W.heap.size → w1.cell? ⟨b, o, none⟩ = W.cell? ⟨b, o, none⟩) ∧ (∀ b o, b < W.heap.size → w1.frozen? ⟨b, o, none⟩ = W.frozen? ⟨b, o, none⟩) :=
  ⟨fun b o h => hb.cell (p := ⟨b, o, none⟩) h, fun b o h => hb.frozen (p := ⟨b, o, none⟩) h⟩
theorem set3 {B : Nat} {w w1 : World} (h : Below B w w1) {b : Nat} (hb : B ≤ b) (x y z : Value) : Below B w (((w1.setCell ⟨b, 0, none⟩ x).setCell ⟨b, 1, none⟩ y).setCell ⟨b, 2, none⟩ z) := ((h.setCell hb _).setCell hb _).setCell hb _
theorem times_neg (x y z : Int) (hu : U3 x y z) (w : World) :
    Calls Tryz.prog 79 #[.agg #[.int .i64 x, .int .i64 y, .int .i64 z], .int .i64 (-1)] w fun e w' => e = .returned (.agg #[.int .i64 (-x), .int .i64 (-y), .int .i64 (-z)]) ∧ Below w.heap.size w w' := by
  have h := times_any x y z (-1) hu ⟨by omega, by omega⟩ w
  rwa [Int.neg_one_mul, Int.neg_one_mul, Int.neg_one_mul] at h
theorem out_any (c0 c1 c2 r0 r1 r2 u0 u1 u2 : Int) (s : Nat) (hs : s < 4) (hr : U3 r0 r1 r2) (hu : U3 u0 u1 u2) (w : World) :
    Calls Tryz.prog 43 #[.agg #[.int .i64 c0, .int .i64 c1, .int .i64 c2, .int .i64 r0, .int .i64 r1, .int .i64 r2, .int .i64 u0, .int .i64 u1, .int .i64 u2], .int .i64 s] w
      fun e w' => e = .returned (.agg #[.int .i64 (OU s r0 u0), .int .i64 (OU s r1 u1), .int .i64 (OU s r2 u2)]) ∧ Below w.heap.size w w' := by
  have : s = 0 ∨ s = 1 ∨ s = 2 ∨ s = 3 := by omega
  rcases this with rfl | rfl | rfl | rfl
  · show Calls Tryz.prog 43 _ w fun e w' => e = .returned (.agg #[.int .i64 r0, .int .i64 r1, .int .i64 r2]) ∧ Below w.heap.size w w'
    go_enter Tryz.func43, Tryz.ntmps43
    go_wp2_with fail

    exact bodyPost_ret (v := .agg #[.int .i64 r0, .int .i64 r1, .int .i64 r2]) (by simp [results, Tryz.results43, go_sem]) rfl ⟨rfl, bel2 _ _ _⟩
  · show Calls Tryz.prog 43 _ w fun e w' => e = .returned (.agg #[.int .i64 u0, .int .i64 u1, .int .i64 u2]) ∧ Below w.heap.size w w'
    go_enter Tryz.func43, Tryz.ntmps43
    go_wp2_with fail
    exact bodyPost_ret (v := .agg #[.int .i64 u0, .int .i64 u1, .int .i64 u2]) (by simp [results, Tryz.results43, go_sem]) rfl ⟨rfl, bel2 _ _ _⟩
  · show Calls Tryz.prog 43 _ w fun e w' => e = .returned (.agg #[.int .i64 (-r0), .int .i64 (-r1), .int .i64 (-r2)]) ∧ Below w.heap.size w w'
    go_enter Tryz.func43, Tryz.ntmps43
    go_wp2_with (go_at_call 79; refine (times_neg _ _ _ (by assumption) _).mono ?_; rintro e w1 ⟨rfl, hB⟩; obtain ⟨hc, hf⟩ := bcell hB)


    exact bodyPost_ret (v := .agg #[.int .i64 (-r0), .int .i64 (-r1), .int .i64 (-r2)]) (by simp [results, Tryz.results43, go_sem, hc]) rfl ⟨rfl, set3 ((bel2 _ _ _).trans (hB.mono (by simp; omega))) (by omega) _ _ _⟩
  · show Calls Tryz.prog 43 _ w fun e w' => e = .returned (.agg #[.int .i64 (-u0), .int .i64 (-u1), .int .i64 (-u2)]) ∧ Below w.heap.size w w'
    go_enter Tryz.func43, Tryz.ntmps43
    go_wp2_with (go_at_call 79; refine (times_neg _ _ _ (by assumption) _).mono ?_; rintro e w1 ⟨rfl, hB⟩; obtain ⟨hc, hf⟩ := bcell hB)
    exact bodyPost_ret (v := .agg #[.int .i64 (-u0), .int .i64 (-u1), .int .i64 (-u2)]) (by simp [results, Tryz.results43, go_sem, hc]) rfl ⟨rfl, set3 ((bel2 _ _ _).trans (hB.mono (by simp; omega))) (by omega) _ _ _⟩


theorem eq_way (w : World) (a b c x y z : Int) : (binOp .eql 99 (.agg #[.int .i64 a, .int .i64 b, .int .i64 c]) (.agg #[.int .i64 x, .int .i64 y, .int .i64 z])).run Tryz.prog w = .ok (.bool (eq3 a b c x y z)) w :=
  run_eql_three w a b c x y z Tryz.underlying99 Tryz.underlying3 (by kernel_rfl)
theorem eq_way' (w : World) (a b c x y z : Int) : (Op.equalIn 10000 99 (.agg #[.int .i64 a, .int .i64 b, .int .i64 c]) (.agg #[.int .i64 x, .int .i64 y, .int .i64 z])).run Tryz.prog w = .ok (eq3 a b c x y z) w :=
  equalIn_three w 9998 a b c x y z Tryz.underlying99 Tryz.underlying3 (by kernel_rfl)
theorem eq_guard (w : World) (op : BinOp) (x y : Operand) (xs ys : Array Value) : (eqGuard op 99 x y (.agg xs) (.agg ys)).run Tryz.prog w = .ok () w := run_eqGuard_agg w op _ x y xs ys (by kernel_rfl)
attribute [local go_sem] eq_way eq_way' eq_guard
theorem faceAt_any (c0 c1 c2 : Int) (f0 : Nat) (hf0 : f0 < 6) (h0 : c0 = FR f0 0) (h1 : c1 = FR f0 1) (h2 : c2 = FR f0 2) (w : World) (hF : Fr w) :
    Calls Tryz.prog 42 #[.agg #[.int .i64 c0, .int .i64 c1, .int .i64 c2]] w fun e w' => e = .returned (.int .i64 f0) ∧ Below w.heap.size w w' := by
  have H0 := Lib.hid h0
  have H1 := Lib.hid h1
  have H2 := Lib.hid h2
  clear h0 h1 h2
  go_enter Tryz.func42, Tryz.ntmps42
  go_wp2_with fail
  go_loopw [4] (fun i wr => ∃ k : Nat, k ≤ f0 ∧ i = .int .i64 k ∧ ∃ n, wr = (w.alloc (wayBox c0 c1 c2)).drewN n) (fun i _ => 6 - (intOf i).toNat)
  case atStart => exact ⟨0, Nat.zero_le _, rfl, 0, rfl⟩
  case round =>
    obtain ⟨k, hk, rfl, hw⟩ := hrel
    have hk6 : k < 6 := by omega
    have HW := Lib.hid hw
    obtain ⟨a0, a1, a2, -⟩ := hF.face hk6
    have g0 : wr.cell? ⟨1, k * 9, none⟩ = some (.int .i64 (FR k 0)) := by obtain ⟨n, rfl⟩ := hw; rw [← a0]; exact (bel1 w _).cell (p := ⟨1, k * 9, none⟩) hF.size
    have g1 : wr.cell? ⟨1, k * 9 + 1, none⟩ = some (.int .i64 (FR k 1)) := by obtain ⟨n, rfl⟩ := hw; rw [← a1]; exact (bel1 w _).cell (p := ⟨1, k * 9 + 1, none⟩) hF.size
    have g2 : wr.cell? ⟨1, k * 9 + 2, none⟩ = some (.int .i64 (FR k 2)) := by obtain ⟨n, rfl⟩ := hw; rw [← a2]; exact (bel1 w _).cell (p := ⟨1, k * 9 + 2, none⟩) hF.size
    have b0 : wr.cell? ⟨w.heap.size, 0, none⟩ = some (.int .i64 c0) := by obtain ⟨n, rfl⟩ := hw; unfold wayBox; go_simp
    have b1 : wr.cell? ⟨w.heap.size, 1, none⟩ = some (.int .i64 c1) := by obtain ⟨n, rfl⟩ := hw; unfold wayBox; go_simp
    have b2 : wr.cell? ⟨w.heap.size, 2, none⟩ = some (.int .i64 c2) := by obtain ⟨n, rfl⟩ := hw; unfold wayBox; go_simp
    clear hw a0 a1 a2 hF
    by_cases hlt : k = f0
    · have he : eq3 (FR k 0) (FR k 1) (FR k 2) c0 c1 c2 = true := by rw [H0.out, H1.out, H2.out, hlt]; exact eq3_true rfl rfl rfl
      obtain rfl := hlt
      go_wp2
      go_quiet (fail)
      go_wp2
      go_ret
      exact ⟨rfl, by obtain ⟨n, rfl⟩ := HW.out; rw [World.drewN_drewN]; exact below_drewN (bel1 _ _) _⟩
    · have he : eq3 (FR k 0) (FR k 1) (FR k 2) c0 c1 c2 = false := eq3_false (by rw [H0.out, H1.out, H2.out]; exact fun h => hlt (FR_inj k hk6 f0 hf0 h.1 h.2.1 h.2.2))
      have hk' : k < f0 := by omega
      go_wp2
      go_quiet (fail)
      go_wp2
      go_roundw
      case rel => exact ⟨k + 1, by omega, by go_num, by obtain ⟨n, hn⟩ := HW.out; exact ⟨_, by rw [hn, World.drewN_drewN]⟩⟩
      case measure => simp [intOf]; omega
end Go.Proofs.YtkjjecghbhppgaaGreatDoor
/- Vectors. -/
namespace Go.Proofs.YtkjjecghbhppgaaGreatDoor
open Go.RowKit TF

attribute [local go_sem] cmp_eq cmp_ne cmp_lt cmp_gt cmp_le cmp_ge run_store_float

theorem vcanon_any (x y z : Nat) (w : World) :
    Calls Tryz.prog 54 #[.float .f64 x, .float .f64 y, .float .f64 z] w fun e w' => e = .returned (.agg #[.float .f64 (canonW x), .float .f64 (canonW y), .float .f64 (canonW z)]) ∧ Below w.heap.size w w' := by
  go_enter Tryz.func54, Tryz.ntmps54
  go_wp2_with (first | (go_at_call 51; ((with_reducible refine (canon_any _ _).mono ?_)); rintro e w' ⟨rfl, rfl⟩))
  exact bodyPost_ret (v := .agg #[.float .f64 (canonW x), .float .f64 (canonW y), .float .f64 (canonW z)]) (by simp [results, Tryz.results54, go_sem]) rfl ⟨rfl, (Below.refl _ _).alloc (Nat.le_refl _) _⟩

theorem run_sqrt {b r : Nat} (h : Ieee.double.sqrt b = some r) (w : World) : (callFunc 82 #[.float .f64 b]).run Tryz.prog w = .ok (.value (.float .f64 r)) w := by
  rw [run_callFunc_extern Tryz.func82 (by kernel_rfl) (by kernel_rfl) (by kernel_rfl) (e := Extern.MathSqrt.sqrt) (by kernel_rfl)]
  have hE : Extern.MathSqrt.sqrt #[.float .f64 b] = (pure (Value.float .f64 r) : Sem Value) := by
    unfold Extern.MathSqrt.sqrt
    show (match FloatKind.f64.format.sqrt b with | some r => _ | none => _) = _
    rw [f64, h]
  rw [hE]; rfl
theorem sqrt_any (b r : Nat) (h : Ieee.double.sqrt b = some r) (w : World) : Calls Tryz.prog 52 #[.float .f64 b] w fun e w' => e = .returned (.float .f64 r) ∧ w = w' := by
  have k1 := fun w => run_sqrt h w
  clear h
  go_enter Tryz.func52, Tryz.ntmps52
  go_wp2_with fail
  go_ret
  exact ⟨rfl, rfl⟩

theorem up2 {w w2 : World} (a b : Obj) (h : Below ((w.alloc a).alloc b).heap.size ((w.alloc a).alloc b) w2) : Below w.heap.size w w2 :=
  (((Below.refl w.heap.size w).alloc (Nat.le_refl _) a).alloc (by simp) b).trans (h.mono (by simp; omega))
theorem up1 {w w2 : World} (a : Obj) (h : Below (w.alloc a).heap.size (w.alloc a) w2) : Below w.heap.size w w2 :=
  ((Below.refl w.heap.size w).alloc (Nat.le_refl _) a).trans (h.mono (by simp))
theorem up3 {w w2 : World} (a b c : Obj) (h : Below (((w.alloc a).alloc b).alloc c).heap.size (((w.alloc a).alloc b).alloc c) w2) : Below w.heap.size w w2 := up2 a b (up1 c h)

theorem minus_any (a b c x y z : Nat) (ha : Fw a) (hb : Fw b) (hc : Fw c) (hx : Fw x) (hy : Fw y) (hz : Fw z) (w : World) :
    Calls Tryz.prog 31 #[.agg #[.float .f64 a, .float .f64 b, .float .f64 c], .agg #[.float .f64 x, .float .f64 y, .float .f64 z]] w fun e w' =>
      e = .returned (.agg #[.float .f64 (cs a x), .float .f64 (cs b y), .float .f64 (cs c z)]) ∧ Below w.heap.size w w' := by
  have k1 := run_valid (P := Tryz.prog) 35 (sub_some ha hx).1
  have k2 := run_valid (P := Tryz.prog) 35 (sub_some hb hy).1
  have k3 := run_valid (P := Tryz.prog) 35 (sub_some hc hz).1
  clear ha hb hc hx hy hz
  unfold cs
  go_enter Tryz.func31, Tryz.ntmps31
  go_wp2_with (first | (go_at_call 54; ((with_reducible refine (vcanon_any _ _ _ _).mono ?_)); rintro e w2 ⟨rfl, hB2⟩; obtain ⟨hc, hf⟩ := bcell hB2))
  exact bodyPost_ret (v := .agg #[.float .f64 (canonW (fsub a x)), .float .f64 (canonW (fsub b y)), .float .f64 (canonW (fsub c z))]) (by simp [results, Tryz.results31, go_sem, hc]) rfl ⟨rfl, (((up3 _ _ _ hB2).setCell (by simp; omega) _).setCell (by simp; omega) _).setCell (by simp; omega) _⟩

theorem length_any (x y z : Nat) (hx : Nw x) (hy : Nw y) (hz : Nw z) (w : World) :
    Calls Tryz.prog 29 #[.agg #[.float .f64 x, .float .f64 y, .float .f64 z]] w fun e w' => e = .returned (.float .f64 (vlen x y z)) ∧ Below w.heap.size w w' := by
  obtain ⟨m1, p1⟩ := sq_some hx
  obtain ⟨m2, p2⟩ := sq_some hy
  obtain ⟨m3, p3⟩ := sq_some hz
  obtain ⟨q1, q2, -⟩ := sqrt_some (s3_pw p1 p2 p3)
  have k1 := run_valid (P := Tryz.prog) 35 m1
  have k2 := run_valid (P := Tryz.prog) 35 m2
  have k3 := run_valid (P := Tryz.prog) 35 m3
  have KQ := Lib.hid (sqrt_any _ _ q1)
  have kc := fun w => canon_any (fsqrt (s3 (fmul x x) (fmul y y) (fmul z z))) w
  rw [canonW_pos q2.nn.2.2.2] at kc
  have KC := Lib.hid kc
  clear kc q1 q2 m1 m2 m3 hx hy hz
  unfold vlen
  go_enter Tryz.func29, Tryz.ntmps29
  go_wp2_with (first | (go_at_call 53; ((with_reducible refine (three_any _ _ _ (by assumption) (by assumption) (by assumption) _).mono ?_)); rintro e w2 ⟨rfl, hB2⟩) | (go_at_call 52; ((with_reducible refine (KQ.out _).mono ?_)); rintro e w3 ⟨rfl, rfl⟩) | (go_at_call 51; ((with_reducible refine (KC.out _).mono ?_)); rintro e w3 ⟨rfl, rfl⟩))
  go_ret
  exact ⟨rfl, up1 _ hB2⟩

theorem gap_any (a b c x y z : Nat) (ha : Fw a) (hb : Fw b) (hc : Fw c) (hx : Fw x) (hy : Fw y) (hz : Fw z) (w : World) :
    Calls Tryz.prog 27 #[.agg #[.float .f64 a, .float .f64 b, .float .f64 c], .agg #[.float .f64 x, .float .f64 y, .float .f64 z]] w fun e w' =>
      e = .returned (.float .f64 (vgap a b c x y z)) ∧ Below w.heap.size w w' := by
  have KM := Lib.hid (minus_any a b c x y z ha hb hc hx hy hz)
  have KL := Lib.hid (length_any (cs a x) (cs b y) (cs c z) (cs_nw ha hx) (cs_nw hb hy) (cs_nw hc hz))
  clear ha hb hc hx hy hz
  unfold vgap
  go_enter Tryz.func27, Tryz.ntmps27
  go_wp2_with (first | (go_at_call 31; ((with_reducible refine (KM.out _).mono ?_)); rintro e w2 ⟨rfl, hB2⟩) | (go_at_call 29; ((with_reducible refine (KL.out _).mono ?_)); rintro e w3 ⟨rfl, hB3⟩))
  go_ret
  exact ⟨rfl, up2 _ _ (hB2.trans (hB3.mono hB2.size))⟩

theorem cross_any (a b c x y z : Nat) (ha : Fw a) (hb : Fw b) (hc : Fw c) (hx : Fw x) (hy : Fw y) (hz : Fw z)
    (h1 : Fw (fmul b z)) (h2 : Fw (fmul c y)) (h3 : Fw (fmul c x)) (h4 : Fw (fmul a z)) (h5 : Fw (fmul a y)) (h6 : Fw (fmul b x)) (w : World) :
    Calls Tryz.prog 30 #[.agg #[.float .f64 a, .float .f64 b, .float .f64 c], .agg #[.float .f64 x, .float .f64 y, .float .f64 z]] w fun e w' =>
      e = .returned (.agg #[.float .f64 (cc b z c y), .float .f64 (cc c x a z), .float .f64 (cc a y b x)]) ∧ Below w.heap.size w w' := by
  have k1 := run_valid (P := Tryz.prog) 35 (mul_some hb hz).1
  have k2 := run_valid (P := Tryz.prog) 35 (mul_some hc hy).1
  have k3 := run_valid (P := Tryz.prog) 35 (mul_some hc hx).1
  have k4 := run_valid (P := Tryz.prog) 35 (mul_some ha hz).1
  have k5 := run_valid (P := Tryz.prog) 35 (mul_some ha hy).1
  have k6 := run_valid (P := Tryz.prog) 35 (mul_some hb hx).1
  have j1 := run_valid (P := Tryz.prog) 35 (sub_some h1 h2).1
  have j2 := run_valid (P := Tryz.prog) 35 (sub_some h3 h4).1
  have j3 := run_valid (P := Tryz.prog) 35 (sub_some h5 h6).1
  clear ha hb hc hx hy hz h1 h2 h3 h4 h5 h6
  unfold cc
  go_enter Tryz.func30, Tryz.ntmps30
  go_wp2_with (first | (go_at_call 54; ((with_reducible refine (vcanon_any _ _ _ _).mono ?_)); rintro e w2 ⟨rfl, hB2⟩; obtain ⟨hc, hf⟩ := bcell hB2))
  exact bodyPost_ret (v := .agg #[.float .f64 (canonW (fsub (fmul b z) (fmul c y))), .float .f64 (canonW (fsub (fmul c x) (fmul a z))), .float .f64 (canonW (fsub (fmul a y) (fmul b x)))]) (by simp [results, Tryz.results30, go_sem, hc]) rfl ⟨rfl, (((up3 _ _ _ hB2).setCell (by simp; omega) _).setCell (by simp; omega) _).setCell (by simp; omega) _⟩

theorem unit_any (x y z l : Nat) (hx : Fw x) (hy : Fw y) (hz : Fw z) (hl : vlen x y z = l) (h0 : 0 < l) (h9 : l < 9218868437227405312) (w : World) :
    Calls Tryz.prog 80 #[.agg #[.float .f64 x, .float .f64 y, .float .f64 z]] w fun e w' => e = .returned (.agg #[.float .f64 (cq x l), .float .f64 (cq y l), .float .f64 (cq z l)]) ∧ Below w.heap.size w w' := by
  have pl := vlen_pw hx.nw hy.nw hz.nw
  rw [hl] at pl
  have kl := length_any x y z hx.nw hy.nw hz.nw
  rw [hl] at kl
  have KL := Lib.hid kl
  obtain ⟨-, d1, -⟩ := div_some hx pl h0 h9
  obtain ⟨-, d2, -⟩ := div_some hy pl h0 h9
  obtain ⟨-, d3, -⟩ := div_some hz pl h0 h9
  have k1 := run_valid (P := Tryz.prog) 35 d1
  have k2 := run_valid (P := Tryz.prog) 35 d2
  have k3 := run_valid (P := Tryz.prog) 35 d3
  obtain ⟨m1, m2, m3, m4⟩ := pl.nn
  have hI := INF_num
  have hN : isN l = false := isN_false.2 (by omega)
  have g1 : ltW 0 l = true := by
    unfold ltW; rw [hN, show isN 0 = false from by decide, show rk 0 = 0 from by decide]
    have : rk l = l := by unfold rk; rw [m2, m1]; rfl
    rw [this]; simp; omega
  have hi := fun w => isinf1_any l w
  have g2 : ltW 9218868437227405311 l = false := by
    unfold ltW; rw [hN, show isN 9218868437227405311 = false from by decide, show rk 9218868437227405311 = 9218868437227405311 from by decide]
    have : rk l = l := by unfold rk; rw [m2, m1]; rfl
    rw [this]; simp; omega
  rw [g2] at hi
  have KI := Lib.hid hi
  clear hi g2 hx hy hz hl kl d1 d2 d3 m1 m2 m3 m4 hI hN h0 h9 pl
  unfold cq
  go_enter Tryz.func80, Tryz.ntmps80
  go_wp2_with (first | (go_at_call 29; ((with_reducible refine (KL.out _).mono ?_)); rintro e w3 ⟨rfl, hB3⟩; obtain ⟨hd, hg⟩ := bcell hB3; have hz3 : w.heap.size + 1 < w3.heap.size := (by have := hB3.size; simp at this; omega)) | (go_at_call 115; ((with_reducible refine (KI.out _).mono ?_)); rintro e w4 ⟨rfl, rfl⟩) | (go_at_call 54; ((with_reducible refine (vcanon_any _ _ _ _).mono ?_)); rintro e w2 ⟨rfl, hB2⟩; obtain ⟨hc, hf⟩ := bcell hB2))
  exact bodyPost_ret (v := .agg #[.float .f64 (canonW (fdiv x l)), .float .f64 (canonW (fdiv y l)), .float .f64 (canonW (fdiv z l))]) (by simp [results, Tryz.results80, go_sem, hc, hd, hz3]) rfl ⟨rfl, (((up2 _ _ (hB3.trans (hB2.mono hB3.size))).setCell (by simp) _).setCell (by simp) _).setCell (by simp) _⟩
end Go.Proofs.YtkjjecghbhppgaaGreatDoor
