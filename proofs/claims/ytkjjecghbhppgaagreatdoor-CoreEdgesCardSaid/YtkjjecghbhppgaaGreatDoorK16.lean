/- Laid together: TopK, TopM, TopN. -/
import Derived.Test.YtkjjecghbhppgaaGreatDoorKTopJ
import Derived.Test.YtkjjecghbhppgaaGreatDoorK06
import Derived.Test.YtkjjecghbhppgaaGreatDoorK07
import Derived.Maps.OwnSet
import Derived.Maps.OwnOps
import Derived.Maps.AppendAt
import Derived.DeepKeys4
import Derived.Lib.Hide
import Derived.StillTailTactics
import Derived.Deep.QuietTactic
import Derived.BigQuiet
/- Gaps and areas. -/
namespace Go.Proofs.YtkjjecghbhppgaaGreatDoor
open Go.RowKit TF

attribute [local go_sem] cmp_eq cmp_ne cmp_lt cmp_gt cmp_le cmp_ge run_store_float

theorem blw_in {F : FuncId} {args : Array Value} {W w1 : World} {r : Ending} (h : ∀ w1 : World, Calls Tryz.prog F args w1 fun e w' => e = r ∧ Below w1.heap.size w1 w') (hb : Below W.heap.size W w1) : Calls Tryz.prog F args w1 fun e w' => e = r ∧ Below W.heap.size W w' :=
  (h w1).mono fun _ _ ⟨he, hB⟩ => ⟨he, hb.trans (hB.mono hb.size)⟩
theorem tbeside_ok {n i j : Int} {f s : Nat} (h : On n f i j) (hs : s < 4) (w : World) (hF : Fr w) :
    Calls Tryz.prog 24 #[.int .i64 n, .int .i64 (cellN n f i j), .int .i64 s] w fun e w' => e = .returned (.tuple #[.int .i64 (cellN n (bF n f s i j) (bX n f s i j) (bY n f s i j)), .int .i64 (bS n f s i j : Nat)]) ∧ Below w.heap.size w w' := by
  obtain ⟨hb, -⟩ := b_on h hs
  rw [← hb.cell]
  unfold bF bX bY bS
  by_cases ho : offI n s i j = n - 1
  · simp only [ho, if_true]
    obtain ⟨e1, e2⟩ := far_eval h hs ho
    rw [← e1, ← e2]
    exact beside_far n _ i j f s h.f6 hs h.place h.n1 h.n32 h.i0 h.i1 h.j0 h.j1 (step_out h hs ho) w hF
  · simp only [ho, if_false]
    have hb2 := (step_near h hs (by have := (h.off hs).2.1; omega)).2.2
    exact beside_near n _ i j f s hs h.place h.n1 h.n32 h.i0 h.i1 h.j0 h.j1 (by rw [hb2.cell]; exact hb2.bound.1) w

set_option maxHeartbeats 1000000 in
theorem ggap_any (n f : Nat) (i j : Int) (h : On n f i j) (s : Nat) (hs : s < 4) (w : World) (hF : Fr w) (hG : FrG w) :
    Calls Tryz.prog 12 #[.int .i64 n, .int .i64 (cellN n f i j), .int .i64 s] w fun e w' => e = .returned (.float .f64 (MG n f i j (bF n f s i j) (bX n f s i j) (bY n f s i j))) ∧ Below w.heap.size w w' := by
  obtain ⟨hb, -⟩ := b_on h hs
  obtain ⟨hf, g1, g2, i0, i1, j0, j1⟩ := (⟨h.f6, h.n1, h.n32, h.i0, h.i1, h.j0, h.j1⟩ : f < 6 ∧ 1 ≤ (n : Int) ∧ (n : Int) ≤ 32 ∧ 0 ≤ i ∧ i < n ∧ 0 ≤ j ∧ j < n)
  have h1 : 1 ≤ n := by omega
  have h2 : n ≤ 32 := by omega
  obtain ⟨fa, fb, fc⟩ := m_fw h1 h2 hf i0 i1 j0 j1
  obtain ⟨fx, fy, fz⟩ := m_fw h1 h2 hb.f6 hb.i0 hb.i1 hb.j0 hb.j1
  have kv := gap_any _ _ _ _ _ _ fa fb fc fx fy fz
  have kb := fun w => tbeside_ok h hs w
  have k1 := fun w => gmiddle_any n f i j h w
  have k2 := fun w => gmiddle_any n _ _ _ hb w
  generalize cellN n (bF n f s i j) (bX n f s i j) (bY n f s i j) = C2 at kb k2
  generalize ((bS n f s i j : Nat) : Int) = B2 at kb
  generalize bF n f s i j = f2 at kv k2 ⊢
  generalize bX n f s i j = i2 at kv k2 ⊢
  generalize bY n f s i j = j2 at kv k2 ⊢
  generalize cellN n f i j = C1 at kb k1 ⊢
  generalize (s : Int) = S at kb ⊢
  unfold MG
  generalize MX n f i j = a at kv k1 ⊢
  generalize MY n f i j = b at kv k1 ⊢
  generalize MZ n f i j = c at kv k1 ⊢
  generalize MX n f2 i2 j2 = x at kv k2 ⊢
  generalize MY n f2 i2 j2 = y at kv k2 ⊢
  generalize MZ n f2 i2 j2 = z at kv k2 ⊢
  generalize vgap a b c x y z = r at kv ⊢
  obtain ⟨N, hN⟩ : ∃ N : Int, N = n := ⟨_, rfl⟩
  rw [← hN] at kb k1 k2 ⊢
  have KV := Lib.hid kv
  have KB := Lib.hid kb
  have K1 := Lib.hid k1
  have K2 := Lib.hid k2
  have HF := Lib.hid hF
  have HG := Lib.hid hG
  clear kv kb k1 k2 hF hG hN h hb hs hf g1 g2 i0 i1 j0 j1 h1 h2 fa fb fc fx fy fz
  go_enter Tryz.func12, Tryz.ntmps12
  go_wp2_with (first | (go_at_call 24; ((with_reducible refine (KB.out _ HF.out).mono ?_)); rintro e w1 ⟨rfl, hB1⟩) | (go_at_call 28; ((with_reducible refine (K1.out _ (HG.out.below hB1)).mono ?_)); rintro e w2 ⟨rfl, hB2⟩; have hBw2 := hB1.trans (hB2.mono hB1.size)) | (go_at_call 28; ((with_reducible refine (K2.out _ (HG.out.below (hBw2.alloc hBw2.size _))).mono ?_)); rintro e w3 ⟨rfl, hB3⟩; have hB4 := up1 _ hB3; obtain ⟨hd, he⟩ := bcell hB3; have hz3 : w2.heap.size < w3.heap.size := (by have := hB3.size; simp at this; omega); have hBw3 := hBw2.trans (hB4.mono hBw2.size)) | (go_at_call 27; ((with_reducible refine (KV.out _).mono ?_)); rintro e w4 ⟨rfl, hB5⟩; have hB6 := up1 _ hB5))
  go_ret
  exact ⟨rfl, hBw3.trans (hB6.mono hBw3.size)⟩

set_option maxRecDepth 100000 in
set_option maxHeartbeats 8000000 in
theorem area_any (n f : Nat) (i j : Int) (h : On n f i j) (w : World) (hG : FrG w) :
    Calls Tryz.prog 17 #[.int .i64 n, .int .i64 (cellN n f i j)] w fun e w' => e = .returned (.int .i64 (AR n f i j)) ∧ Below w.heap.size w w' := by
  obtain ⟨hf, g1, g2, i0, i1, j0, j1⟩ := (⟨h.f6, h.n1, h.n32, h.i0, h.i1, h.j0, h.j1⟩ : f < 6 ∧ 1 ≤ (n : Int) ∧ (n : Int) ≤ 32 ∧ 0 ≤ i ∧ i < n ∧ 0 ≤ j ∧ j < n)
  have h1 : 1 ≤ n := by omega
  have h2 : n ≤ 32 := by omega
  obtain ⟨b0, b1, b2⟩ := c_bw (i := i) (j := j) h1 h2 hf (by omega) (by omega) (by omega) (by omega)
  obtain ⟨b3, b4, b5⟩ := c_bw (i := i + 1) (j := j) h1 h2 hf (by omega) (by omega) (by omega) (by omega)
  obtain ⟨b6, b7, b8⟩ := c_bw (i := i + 1) (j := j + 1) h1 h2 hf (by omega) (by omega) (by omega) (by omega)
  obtain ⟨b9, b10, b11⟩ := c_bw (i := i) (j := j + 1) h1 h2 hf (by omega) (by omega) (by omega) (by omega)
  have hcor := fun w => corners_any n f i j h w
  obtain ⟨N, hN⟩ : ∃ N : Int, N = n := ⟨_, rfl⟩
  obtain ⟨C, hC⟩ : ∃ C : Int, C = cellN n f i j := ⟨_, rfl⟩
  rw [← hC, ← hN] at hcor ⊢
  unfold AR arL
  generalize CX n f i j = c0 at hcor b0 ⊢
  generalize CY n f i j = c1 at hcor b1 ⊢
  generalize CZ n f i j = c2 at hcor b2 ⊢
  generalize CX n f (i + 1) j = c3 at hcor b3 ⊢
  generalize CY n f (i + 1) j = c4 at hcor b4 ⊢
  generalize CZ n f (i + 1) j = c5 at hcor b5 ⊢
  generalize CX n f (i + 1) (j + 1) = c6 at hcor b6 ⊢
  generalize CY n f (i + 1) (j + 1) = c7 at hcor b7 ⊢
  generalize CZ n f (i + 1) (j + 1) = c8 at hcor b8 ⊢
  generalize CX n f i (j + 1) = c9 at hcor b9 ⊢
  generalize CY n f i (j + 1) = c10 at hcor b10 ⊢
  generalize CZ n f i (j + 1) = c11 at hcor b11 ⊢
  have hq : CHI < 9218868437227405312 := by rw [CHI_eq]; omega
  have hq1 : CH1 < 9218868437227405312 := by rw [CH1_num]; omega
  have d0 := cs_bw b6 b0
  have d1 := cs_bw b7 b1
  have d2 := cs_bw b8 b2
  have e0 := cs_bw b9 b3
  have e1 := cs_bw b10 b4
  have e2 := cs_bw b11 b5
  have m1 := minus_any c6 c7 c8 c0 c1 c2 (b6.fw hq) (b7.fw hq) (b8.fw hq) (b0.fw hq) (b1.fw hq) (b2.fw hq)
  have m2 := minus_any c9 c10 c11 c3 c4 c5 (b9.fw hq) (b10.fw hq) (b11.fw hq) (b3.fw hq) (b4.fw hq) (b5.fw hq)
  generalize cs c6 c0 = x2 at d0 m1 ⊢
  generalize cs c7 c1 = y2 at d1 m1 ⊢
  generalize cs c8 c2 = z2 at d2 m1 ⊢
  generalize cs c9 c3 = x3 at e0 m2 ⊢
  generalize cs c10 c4 = y3 at e1 m2 ⊢
  generalize cs c11 c5 = z3 at e2 m2 ⊢
  have f1 := fm_fw d1 e2
  have f2 := fm_fw d2 e1
  have f3 := fm_fw d2 e0
  have f4 := fm_fw d0 e2
  have f5 := fm_fw d0 e1
  have f6 := fm_fw d1 e0
  have mc := cross_any x2 y2 z2 x3 y3 z3 (d0.fw hq1) (d1.fw hq1) (d2.fw hq1) (e0.fw hq1) (e1.fw hq1) (e2.fw hq1) f1 f2 f3 f4 f5 f6
  have n1 : Nw (cc y2 z3 z2 y3) := canon_nw (sub_some f1 f2).2.1
  have n2 : Nw (cc z2 x3 x2 z3) := canon_nw (sub_some f3 f4).2.1
  have n3 : Nw (cc x2 y3 y2 x3) := canon_nw (sub_some f5 f6).2.1
  generalize cc y2 z3 z2 y3 = u at mc n1 ⊢
  generalize cc z2 x3 x2 z3 = v at mc n2 ⊢
  generalize cc x2 y3 y2 x3 = t at mc n3 ⊢
  have ml := length_any u v t n1 n2 n3
  have pl := vlen_pw n1 n2 n3
  generalize vlen u v t = l at ml pl ⊢
  obtain ⟨r1, p1⟩ := mulc_some (c := 4602678819172646912) pl ⟨by omega⟩ (by omega) (by omega)
  obtain ⟨r2, p2⟩ := mulc_some (c := 4742290407621132288) p1 ⟨by omega⟩ (by omega) (by omega)
  unfold arI
  have kr := fun w => round_any _ p2.nn.2.2.1 w
  generalize fmul (fmul l 4602678819172646912) 4742290407621132288 = q at r2 kr ⊢
  generalize fmul l 4602678819172646912 = hfl at r1 r2
  have k1 := run_valid (P := Tryz.prog) 35 r1
  have k2 := run_valid (P := Tryz.prog) 35 r2
  generalize (roundI q).1 = I at kr ⊢
  generalize (roundI q).2 = J at kr
  have KC := Lib.hid hcor
  have M1 := Lib.hid m1
  have M2 := Lib.hid m2
  have MC := Lib.hid mc
  have ML := Lib.hid ml
  have KR := Lib.hid kr
  have HG := Lib.hid hG
  clear hcor hN hC h h1 h2 hf g1 g2 i0 i1 j0 j1 hG b0 b1 b2 b3 b4 b5 b6 b7 b8 b9 b10 b11 d0 d1 d2 e0 e1 e2 m1 m2 mc ml kr f1 f2 f3 f4 f5 f6 n1 n2 n3 pl p1 p2 r1 r2 hq hq1
  obtain ⟨mx, hmx⟩ : ∃ mx, mx = max I 1 := ⟨_, rfl⟩
  rw [← hmx]
  have HM := Lib.hid hmx
  clear hmx
  go_enter Tryz.func17, Tryz.ntmps17
  go_upto_region 4 with (first | (go_at_call 26; ((with_reducible refine (KC.out _ HG.out).mono ?_)); rintro e w1 ⟨rfl, hB1⟩))
  obtain ⟨W, hW⟩ : ∃ W : World, W = (w1.alloc (.cells #[.float .f64 c0, .float .f64 c1, .float .f64 c2, .float .f64 c3, .float .f64 c4, .float .f64 c5, .float .f64 c6, .float .f64 c7, .float .f64 c8, .float .f64 c9, .float .f64 c10, .float .f64 c11] 70)) := ⟨_, rfl⟩
  have hBW : Below w.heap.size w W := by rw [hW]; exact hB1.alloc hB1.size _
  have hcl : W.cell? ⟨w1.heap.size, 0, none⟩ = some (.float .f64 c0) ∧ W.cell? ⟨w1.heap.size, 1, none⟩ = some (.float .f64 c1) ∧ W.cell? ⟨w1.heap.size, 2, none⟩ = some (.float .f64 c2) ∧ W.cell? ⟨w1.heap.size, 3, none⟩ = some (.float .f64 c3) ∧ W.cell? ⟨w1.heap.size, 4, none⟩ = some (.float .f64 c4) ∧ W.cell? ⟨w1.heap.size, 5, none⟩ = some (.float .f64 c5) ∧ W.cell? ⟨w1.heap.size, 6, none⟩ = some (.float .f64 c6) ∧ W.cell? ⟨w1.heap.size, 7, none⟩ = some (.float .f64 c7) ∧ W.cell? ⟨w1.heap.size, 8, none⟩ = some (.float .f64 c8) ∧ W.cell? ⟨w1.heap.size, 9, none⟩ = some (.float .f64 c9) ∧ W.cell? ⟨w1.heap.size, 10, none⟩ = some (.float .f64 c10) ∧ W.cell? ⟨w1.heap.size, 11, none⟩ = some (.float .f64 c11) := by subst hW; exact ⟨by simp [go_sem], by simp [go_sem], by simp [go_sem], by simp [go_sem], by simp [go_sem], by simp [go_sem], by simp [go_sem], by simp [go_sem], by simp [go_sem], by simp [go_sem], by simp [go_sem], by simp [go_sem]⟩
  have hs1 : w1.heap.size < W.heap.size := by subst hW; simp
  rw [← hW]
  have KEEP : Hid (∀ v : World, Below W.heap.size W v → v.cell? ⟨w1.heap.size, 0, none⟩ = some (.float .f64 c0) ∧ v.cell? ⟨w1.heap.size, 1, none⟩ = some (.float .f64 c1) ∧ v.cell? ⟨w1.heap.size, 2, none⟩ = some (.float .f64 c2) ∧ v.cell? ⟨w1.heap.size, 3, none⟩ = some (.float .f64 c3) ∧ v.cell? ⟨w1.heap.size, 4, none⟩ = some (.float .f64 c4) ∧ v.cell? ⟨w1.heap.size, 5, none⟩ = some (.float .f64 c5) ∧ v.cell? ⟨w1.heap.size, 6, none⟩ = some (.float .f64 c6) ∧ v.cell? ⟨w1.heap.size, 7, none⟩ = some (.float .f64 c7) ∧ v.cell? ⟨w1.heap.size, 8, none⟩ = some (.float .f64 c8) ∧ v.cell? ⟨w1.heap.size, 9, none⟩ = some (.float .f64 c9) ∧ v.cell? ⟨w1.heap.size, 10, none⟩ = some (.float .f64 c10) ∧ v.cell? ⟨w1.heap.size, 11, none⟩ = some (.float .f64 c11) ∧ Below W.heap.size W v) := Lib.hid (fun v hv => by
    obtain ⟨hd, -⟩ := bcell hv
    obtain ⟨a0, a1, a2, a3, a4, a5, a6, a7, a8, a9, a10, a11⟩ := hcl
    exact ⟨(hd _ _ (by omega)).trans a0, (hd _ _ (by omega)).trans a1, (hd _ _ (by omega)).trans a2, (hd _ _ (by omega)).trans a3, (hd _ _ (by omega)).trans a4, (hd _ _ (by omega)).trans a5, (hd _ _ (by omega)).trans a6, (hd _ _ (by omega)).trans a7, (hd _ _ (by omega)).trans a8, (hd _ _ (by omega)).trans a9, (hd _ _ (by omega)).trans a10, (hd _ _ (by omega)).trans a11, hv⟩)
  have hw0 : Below W.heap.size W W := Below.refl _ _
  obtain ⟨a0, a1, a2, a3, a4, a5, a6, a7, a8, a9, a10, a11⟩ := hcl
  clear hW hB1
  go_region_held3 (fun v => v.cell? ⟨w1.heap.size, 0, none⟩ = some (.float .f64 c0) ∧ v.cell? ⟨w1.heap.size, 1, none⟩ = some (.float .f64 c1) ∧ v.cell? ⟨w1.heap.size, 2, none⟩ = some (.float .f64 c2) ∧ v.cell? ⟨w1.heap.size, 3, none⟩ = some (.float .f64 c3) ∧ v.cell? ⟨w1.heap.size, 4, none⟩ = some (.float .f64 c4) ∧ v.cell? ⟨w1.heap.size, 5, none⟩ = some (.float .f64 c5) ∧ v.cell? ⟨w1.heap.size, 6, none⟩ = some (.float .f64 c6) ∧ v.cell? ⟨w1.heap.size, 7, none⟩ = some (.float .f64 c7) ∧ v.cell? ⟨w1.heap.size, 8, none⟩ = some (.float .f64 c8) ∧ v.cell? ⟨w1.heap.size, 9, none⟩ = some (.float .f64 c9) ∧ v.cell? ⟨w1.heap.size, 10, none⟩ = some (.float .f64 c10) ∧ v.cell? ⟨w1.heap.size, 11, none⟩ = some (.float .f64 c11) ∧ Below W.heap.size W v)
    (first | exact KEEP.out _ (by with_reducible assumption) | exact KEEP.out _ (Below.drew (by with_reducible assumption)))
    (first | (go_at_call 31; ((with_reducible refine (blw_in M1.out (by first | with_reducible assumption | with_reducible exact Below.drew (by with_reducible assumption))).mono ?_)); rintro e w2 ⟨rfl, hB2⟩) | (go_at_call 31; ((with_reducible refine (blw_in M2.out (by first | with_reducible assumption | with_reducible exact Below.drew (by with_reducible assumption))).mono ?_)); rintro e w2 ⟨rfl, hB2⟩) | (go_at_call 30; ((with_reducible refine (blw_in MC.out (by first | with_reducible assumption | with_reducible exact Below.drew (by with_reducible assumption))).mono ?_)); rintro e w2 ⟨rfl, hB2⟩) | (go_at_call 29; ((with_reducible refine (blw_in ML.out (by first | with_reducible assumption | with_reducible exact Below.drew (by with_reducible assumption))).mono ?_)); rintro e w2 ⟨rfl, hB2⟩))
  all_goals
    have hEnd : Below w.heap.size w w2 := hBW.trans ((by with_reducible assumption : Below W.heap.size W w2).mono hBW.size)
    go_wp2_with (first | (go_at_call 32; ((with_reducible refine (KR.out _).mono ?_)); rintro e w3 ⟨rfl, rfl⟩))
    go_ret
    exact ⟨ret_int' (by rw [HM.out]), hEnd⟩
end Go.Proofs.YtkjjecghbhppgaaGreatDoor
/- The keys of the net's map: a cell and a side. -/
namespace Go.Proofs.YtkjjecghbhppgaaGreatDoor
open Go Go.RowKit Go.Maps TF

theorem laidTop : laidOutB Tryz.prog = true := by kernel_rfl
theorem rowPair : (67 : TypeId) < Tryz.prog.types.size := of_decide_eq_true (by kernel_rfl)
theorem widePair : (match Tryz.prog.underlying 67 with | some (.array _ _) | some (.struct _) => true | _ => false) = true := by rw [Tryz.underlying67]
set_option maxRecDepth 100000 in
theorem lawPair : Keyed Tryz.prog 67 := Keyed.of_law (deep_law_laid laidTop (m := 2) (by omega) rowPair (by kernel_rfl) widePair)
theorem key_ex (x o : Int) (hx : (Lit.int .i64 x).wf = true) (ho : (Lit.int .i64 o).wf = true) : ∃ kl, keyOf Tryz.prog 67 (.agg #[.int .i64 x, .int .i64 o]) = some kl := by
  unfold keyOf
  rw [Tryz.underlying67]
  have h1 : Tryz.prog.keyType 67 = true := by kernel_rfl
  have h2 : (Value.agg #[.int .i64 x, .int .i64 o]).formed Tryz.prog 67 = true := by
    have hc : Tryz.prog.cellsOf 67 = 2 := by kernel_rfl
    simp [Value.formed, Tryz.underlying67, hc]
  rw [h1, h2]
  have hc : Tryz.prog.cellsOf 3 = 1 := by kernel_rfl
  have hc2 : Tryz.prog.cellsOf 67 = 2 := by kernel_rfl
  have hr := rowPair
  obtain ⟨m, hm⟩ : ∃ m, Tryz.prog.types.size + 1 = m + 1 + 1 := ⟨Tryz.prog.types.size - 1, by rw [Nat.sub_add_cancel (Nat.lt_of_le_of_lt (Nat.zero_le _) hr)]⟩
  rw [hm]
  have hi : ∀ y : Int, (Lit.int .i64 y).wf = true → Tryz.prog.keyLits (m + 1) 3 [.int .i64 y] = some [.int .i64 y] := fun y hy => by
    unfold Program.keyLits
    rw [Tryz.underlying3]
    simp [hy]
  have hp : Tryz.prog.keyLits (m + 1 + 1) 67 [.int .i64 x, .int .i64 o] = some [.int .i64 x, .int .i64 o] := by
    unfold Program.keyLits
    rw [Tryz.underlying67]
    simp only [hc2]
    rw [if_pos ⟨rfl, by simp⟩]
    simp [hc, hi x hx, hi o ho]
  have hcs : (Value.agg #[.int .i64 x, .int .i64 o]).cells.toList = [.int .i64 x, .int .i64 o] := rfl
  rw [hcs, hp]
  exact ⟨_, rfl⟩
/-- the key of a side, as it reads -/
noncomputable def klT (t : Nat) : Lit := (keyOf Tryz.prog 67 (.agg #[.int .i64 ((t / 4 : Nat) : Int), .int .i64 ((t % 4 : Nat) : Int)])).getD (.bool false)
theorem wf_small {x : Nat} (h : x < 1000000) : (Lit.int .i64 (x : Int)).wf = true := by
  simp [Lit.wf, IntKind.min, IntKind.max, IntKind.bits, IntKind.signed]; omega
theorem klT_key {t : Nat} (h : t < 1000000) : keyOf Tryz.prog 67 (.agg #[.int .i64 ((t / 4 : Nat) : Int), .int .i64 ((t % 4 : Nat) : Int)]) = some (klT t) := by
  obtain ⟨kl, hk⟩ := key_ex ((t / 4 : Nat) : Int) ((t % 4 : Nat) : Int) (wf_small (by omega)) (wf_small (by omega))
  unfold klT
  rw [hk]; rfl
theorem klT_inj {t u : Nat} (h : t < 1000000) (h' : u < 1000000) (e : klT t = klT u) : t = u := by
  have a := klT_key h
  have b := klT_key h'
  rw [← e] at b
  have := lawPair.inj a b
  simp at this
  omega
end Go.Proofs.YtkjjecghbhppgaaGreatDoor
/- The net while it is made: its edges. -/
namespace Go.Proofs.YtkjjecghbhppgaaGreatDoor
open Go Go.RowKit Go.Maps TF

/-- an edge's four numbers -/
def eCell (n t : Nat) : List Value := [.int .i64 ((t / 4 : Nat) : Int), .int .i64 ((t % 4 : Nat) : Int), .int .i64 ((sg n t / 4 : Nat) : Int), .int .i64 ((sg n t % 4 : Nat) : Int)]
def eCells (n : Nat) (l : List Nat) : List Value := l.flatMap (eCell n)
theorem eCells_snoc (n : Nat) (l : List Nat) (t : Nat) : eCells n (l ++ [t]) = eCells n l ++ eCell n t := by unfold eCells; rw [List.flatMap_append]; simp
abbrev PMap (w : World) (m k : Nat) (D : DataW Unit) : Prop := w.ownsMap Tryz.prog 67 (plainElem Tryz.prog 3) m k D
abbrev iLit (i : Int) : DataW Unit := .lit (.int .i64 i)
/-- what the map says of the sides whose edges stand ahead of t -/
def LookF (kl : Nat → Lit) (n t : Nat) (D : DataW Unit) : Prop := ∀ u, u < N4 n → lo n u < t → has D (kl u) = true ∧ D.atKey (kl u) (iLit 0) = iLit ((idx n (lo n u) : Nat) : Int)
abbrev Look (n t : Nat) (D : DataW Unit) : Prop := LookF klT n t D

/-- the two fillers, as they lie -/
structure Fns (g m s : Nat) (w : World) : Prop where
  gq : g + 1 < s
  mq : m + 1 < s
  k0 : w.cell? ⟨s - 1, 0, none⟩ = some (.func (.func 22) #[.pointer (some ⟨g, 0, none⟩)] #[])
  k1 : w.cell? ⟨s - 1, 1, none⟩ = some (.func (.func 23) #[.pointer (some ⟨g, 0, none⟩)] #[])
theorem Fns.grown {g m s : Nat} {w w1 : World} (h : Fns g m s w) {row : Option Nat} (hg : w.grownBy w1 row) (hs : s ≤ w.heap.size) (hn : row ≠ some (s - 1)) : Fns g m s w1 := by
  have hlt : s - 1 < w.heap.size := by have := h.gq; omega
  have e : ∀ j, w1.cell? ⟨s - 1, j, none⟩ = w.cell? ⟨s - 1, j, none⟩ := fun j => World.cell?_of_block (w := w) (hg.block (s - 1) hlt (by intro e; exact hn (by rw [e])))
  exact ⟨h.gq, h.mq, (e 0).trans h.k0, (e 1).trans h.k1⟩
theorem Fns.row {g m s : Nat} {w : World} (h : Fns g m s w) {e size n : Nat} {v : Value} {xs : List Value} {w2 : World} (hr : w2.ownsRow s e size v n xs) : v.ownBlock ≠ some (s - 1) := by
  rcases hr.2 with ⟨rfl, rfl⟩ | ⟨q, cap, _, rfl, hb, _⟩
  · show (none : Option Nat) ≠ _; simp
  · show some q ≠ _
    intro e
    have := Option.some.inj e
    have := h.gq
    omega
/-- The net's own cells, while the edges are laid. -/
structure GX (w0 : World) (n g m s t k : Nat) (vE : Value) (D : DataW Unit) (w : World) : Prop where
  bel : Below w0.heap.size w0 w
  gl : w0.heap.size ≤ g
  ml : w0.heap.size ≤ m
  gm : g ≠ m
  gs : g < s
  ms : m < s
  ss : s ≤ w.heap.size
  c0 : w.cell? ⟨g, 0, none⟩ = some (.int .i64 n)
  c1 : w.cell? ⟨g, 1, none⟩ = some vE
  c2 : w.cell? ⟨g, 2, none⟩ = some (.map (some m))
  c3 : w.cell? ⟨g, 3, none⟩ = some (.slice none 0 0)
  c4 : w.cell? ⟨g, 4, none⟩ = some (.slice none 0 0)
  c5 : w.cell? ⟨g, 5, none⟩ = some (.slice none 0 0)
  c6 : w.cell? ⟨g, 6, none⟩ = some (.slice none 0 0)
  fz : ∀ j < 7, w.frozen? ⟨g, j, none⟩ = false
  row : w.ownsRow s 30 4 vE (E4 n t).length (eCells n (E4 n t))
  map : PMap w m k D
  fn : Fns g m s w
structure GE (w0 : World) (n g m s t : Nat) (vE : Value) (D : DataW Unit) (w : World) : Prop where
  x : GX w0 n g m s t (2 * t) vE D w
  look : Look n t D
theorem own_ge {w : World} {base e size n : Nat} {v : Value} {xs : List Value} (h : w.ownsRow base e size v n xs) {m : Nat} (hm : m < base) : v.ownBlock = none ∨ v.ownBlock ≠ some m := by
  rcases h.2 with ⟨rfl, rfl⟩ | ⟨g, cap, _, rfl, hb, _⟩
  · exact .inl rfl
  · right
    show some g ≠ some m
    intro e
    have := Option.some.inj e
    omega
theorem own_ne_m {w : World} {base e size n : Nat} {v : Value} {xs : List Value} (h : w.ownsRow base e size v n xs) {m : Nat} (hm : m < base) : some m ≠ v.ownBlock := by
  rcases h.2 with ⟨rfl, rfl⟩ | ⟨g, cap, _, rfl, hb, _⟩
  · show some m ≠ none; simp
  · show some m ≠ some g
    intro e
    have := Option.some.inj e
    omega
theorem own_shape {w : World} {base e size n : Nat} {v : Value} {xs : List Value} (h : w.ownsRow base e size v n xs) : ∃ A cap, v = .slice A n cap := by
  rcases h.2 with ⟨rfl, rfl⟩ | ⟨g, cap, _, rfl, _⟩
  · exact ⟨none, 0, rfl⟩
  · exact ⟨_, cap, rfl⟩
theorem grown_set (w : World) (a : Addr) (u : Value) : w.grownBy (w.setCell a u) (some a.block) :=
  ⟨rfl, rfl, rfl, by simp [World.setCell], fun k _ hne => Below.heap_setCell w a u k (fun e => hne (by rw [e]))⟩
theorem grown_cell {w w' : World} {row : Option Nat} (hg : w.grownBy w' row) {g : Nat} (hlt : g < w.heap.size) (hne : some g ≠ row) : (∀ j, w'.cell? ⟨g, j, none⟩ = w.cell? ⟨g, j, none⟩) ∧ (∀ j, w'.frozen? ⟨g, j, none⟩ = w.frozen? ⟨g, j, none⟩) :=
  ⟨fun j => World.cell?_of_block (w := w) (hg.block g hlt (by simpa using hne)), fun j => World.frozen?_of_block (w := w) (hg.block g hlt (by simpa using hne))⟩
theorem GX.grown {w0 w w1 : World} {n g m s t k : Nat} {vE : Value} {D : DataW Unit} (h : GX w0 n g m s t k vE D w) {row : Option Nat} (hg : w.grownBy w1 row) (h0 : ∀ b, row = some b → w0.heap.size ≤ b) (h1 : some g ≠ row) (h2 : some m ≠ row) (h3 : vE.ownBlock = none ∨ vE.ownBlock ≠ row) (h4 : row ≠ some (s - 1)) : GX w0 n g m s t k vE D w1 := by
  have hlt : g < w.heap.size := Nat.lt_of_lt_of_le h.gs h.ss
  obtain ⟨hc, hf⟩ := grown_cell hg hlt h1
  exact ⟨h.bel.grown hg h.bel.size h0, h.gl, h.ml, h.gm, h.gs, h.ms, Nat.le_trans h.ss hg.size, (hc 0).trans h.c0, (hc 1).trans h.c1, (hc 2).trans h.c2, (hc 3).trans h.c3, (hc 4).trans h.c4, (hc 5).trans h.c5, (hc 6).trans h.c6,
    fun j hj => (hf j).trans (h.fz j hj), h.row.kept hg h3, h.map.kept hg h2, h.fn.grown hg h.ss h4⟩
theorem GX.below {w0 w w1 : World} {n g m s t k : Nat} {vE : Value} {D : DataW Unit} (h : GX w0 n g m s t k vE D w) (hB : Below w.heap.size w w1) : GX w0 n g m s t k vE D w1 :=
  h.grown (row := none) ⟨hB.os, hB.tape, hB.output, hB.size, fun k hk _ => hB.block k hk⟩ (fun b e => by cases e) (by simp) (by simp) (by cases vE.ownBlock <;> simp) (by simp)
theorem GX.put {w0 w w1 : World} {n g m s t k : Nat} {vE : Value} {D D' : DataW Unit} (h : GX w0 n g m s t k vE D w) (hm : PMap w1 m (k + 1) D') (hg : w.grownBy w1 (some m)) : GX w0 n g m s t (k + 1) vE D' w1 := by
  have hlt : g < w.heap.size := Nat.lt_of_lt_of_le h.gs h.ss
  obtain ⟨hc, hf⟩ := grown_cell hg hlt (by simpa using h.gm)
  exact ⟨h.bel.grown hg h.bel.size (fun b e => by cases e; exact h.ml), h.gl, h.ml, h.gm, h.gs, h.ms, Nat.le_trans h.ss hg.size, (hc 0).trans h.c0, (hc 1).trans h.c1, (hc 2).trans h.c2, (hc 3).trans h.c3, (hc 4).trans h.c4, (hc 5).trans h.c5, (hc 6).trans h.c6,
    fun j hj => (hf j).trans (h.fz j hj), h.row.kept hg (own_ge h.row h.ms), hm, h.fn.grown hg h.ss (fun e => by have := Option.some.inj e; have := h.fn.mq; omega)⟩
/-- An edge more: its cells in a block of their own, the row that has grown, the new slice stored. -/
theorem GX.app {w0 w w1 : World} {n g m s t k : Nat} {vE v' : Value} {D : DataW Unit} (h : GX w0 n g m s t k vE D w) (hp : prim n t = true) (o : Obj) (hg : (w.alloc o).grownBy w1 vE.ownBlock)
    (hr : w1.ownsRow s 30 4 v' ((E4 n t).length + 1) (eCells n (E4 n t) ++ eCell n t)) : GX w0 n g m s (t + 1) k v' D (w1.setCell ⟨g, 1, none⟩ v') := by
  have h1 := h.below ((Below.refl w.heap.size w).alloc (Nat.le_refl _) o)
  have hlt : g < (w.alloc o).heap.size := Nat.lt_of_lt_of_le h1.gs h1.ss
  obtain ⟨hc, hf⟩ := grown_cell hg hlt (own_ne_m h.row h.gs)
  have hbel : Below w0.heap.size w0 w1 := h1.bel.grown hg h1.bel.size (fun b e => by
    rcases h.row.2 with ⟨rfl, -⟩ | ⟨q, _, _, rfl, hb, -⟩
    · cases e
    · have : q = b := Option.some.inj e
      have := h.gs; have := h.gl; omega)
  have hgt : g < w1.heap.size := Nat.lt_of_lt_of_le hlt hg.size
  have e4 : E4 n (t + 1) = E4 n t ++ [t] := by rw [E4_succ, if_pos hp]
  have hset : w1.grownBy (w1.setCell ⟨g, 1, none⟩ v') (some g) := grown_set _ _ _
  have k1 : w1.cell? ⟨g, 1, none⟩ = some vE := (hc 1).trans h1.c1
  refine ⟨hbel.setCell h.gl _, h.gl, h.ml, h.gm, h.gs, h.ms, by simp; exact Nat.le_trans h1.ss hg.size, ?_, ?_, ?_, ?_, ?_, ?_, ?_, fun j hj => ?_, ?_, ?_, ?_⟩
  · rw [World.cell?_setCell_other w1 _ _ _ (by simp)]; exact (hc 0).trans h1.c0
  · simp [go_sem, k1]
  · rw [World.cell?_setCell_other w1 _ _ _ (by simp)]; exact (hc 2).trans h1.c2
  · rw [World.cell?_setCell_other w1 _ _ _ (by simp)]; exact (hc 3).trans h1.c3
  · rw [World.cell?_setCell_other w1 _ _ _ (by simp)]; exact (hc 4).trans h1.c4
  · rw [World.cell?_setCell_other w1 _ _ _ (by simp)]; exact (hc 5).trans h1.c5
  · rw [World.cell?_setCell_other w1 _ _ _ (by simp)]; exact (hc 6).trans h1.c6
  · rw [World.frozen?_setCell]; exact (hf j).trans (h1.fz j hj)
  · rw [e4, eCells_snoc, List.length_append]
    exact hr.kept hset (own_ge hr h.gs)
  · exact (h1.map.kept hg (own_ne_m h.row h.ms)).kept hset (by simpa using fun e => h.gm e.symm)
  · exact (h1.fn.grown hg h1.ss (h1.fn.row h1.row)).grown hset (Nat.le_trans h1.ss hg.size) (fun e => by have := Option.some.inj e; have := h.fn.gq; omega)
theorem klT_pair {x o : Nat} (hx : x < 6144) (ho : o < 4) : keyOf Tryz.prog 67 (.agg #[.int .i64 (x : Int), .int .i64 (o : Int)]) = some (klT (4 * x + o)) := by
  have h := klT_key (t := 4 * x + o) (by omega)
  rwa [show (4 * x + o) / 4 = x from by omega, show (4 * x + o) % 4 = o from by omega] at h
theorem look_skip {n t : Nat} {D : DataW Unit} (hS : Side n) (hp : prim n t = false) (h : Look n t D) : Look n (t + 1) D := fun u hu hl => by
  have f := lo_facts hS hu
  refine h u hu ?_
  have : lo n u ≠ t := fun e => by rw [e, hp] at f; exact absurd f.1 (by decide)
  omega
theorem N4_le {n : Nat} (hS : Side n) : N4 n ≤ 24576 := by
  have h : n * n ≤ 32 * 32 := Nat.mul_le_mul hS.n2 hS.n2
  unfold N4
  rw [Nat.mul_assoc 6 n n]
  generalize n * n = m at h
  omega
theorem klT_is {t : Nat} (h : t < 1000000) (l : Lit) (e : l = klT t) : WideAt.IsKeyLit l := by
  have q := klT_key h
  rw [← e] at q
  exact lawPair.key q
theorem look_put' (klT : Nat → Lit) {n t : Nat} {D : DataW Unit} (hS : Side n) (ht : t < N4 n) (hp : prim n t = true) (hD : IsMap D) (h : LookF klT n t D)
    (klT_inj : ∀ {t u : Nat}, t < 1000000 → u < 1000000 → klT t = klT u → t = u) (kk : ∀ t l, t < 1000000 → l = klT t → WideAt.IsKeyLit l) :
    LookF klT n (t + 1) ((D.put (klT t) (iLit ((idx n t : Nat) : Int))).put (klT (sg n t)) (iLit ((idx n t : Nat) : Int))) := fun u hu hl => by
  have hN := N4_le hS
  have f := sg_facts hS ht
  have fu := lo_facts hS hu
  have ft := lo_facts hS ht
  have hlt : lo n t = t := by unfold lo; rw [if_pos hp]
  have k1 := kk t _ (by omega) rfl
  have k2 := kk (sg n t) _ (by omega) rfl
  by_cases e2 : u = sg n t
  · subst e2
    rw [ft.2.2, hlt]
    exact ⟨has_put_same (hD.put _ _) k2 _, atKey_put_same (hD.put _ _) k2 _ _⟩
  · have n2 : klT u ≠ klT (sg n t) := fun e => e2 (klT_inj (by omega) (by omega) e)
    rw [has_put_other n2, atKey_put_other n2]
    by_cases e1 : u = t
    · subst e1
      rw [hlt]
      exact ⟨has_put_same hD k1 _, atKey_put_same hD k1 _ _⟩
    · have n1 : klT u ≠ klT t := fun e => e1 (klT_inj (by omega) (by omega) e)
      rw [has_put_other n1, atKey_put_other n1]
      refine h u hu ?_
      have : lo n u ≠ t := fun e => by
        unfold lo at e
        split at e
        · exact e1 e
        · exact e2 (by rw [← e, (sg_facts hS hu).2.2.2.1])
      omega
theorem look_put {n t : Nat} {D : DataW Unit} (hS : Side n) (ht : t < N4 n) (hp : prim n t = true) (hD : IsMap D) (h : Look n t D) :
    Look n (t + 1) ((D.put (klT t) (iLit ((idx n t : Nat) : Int))).put (klT (sg n t)) (iLit ((idx n t : Nat) : Int))) :=
  look_put' klT hS ht hp hD h (fun a b e => klT_inj a b e) (fun _ l ht e => klT_is ht l e)
end Go.Proofs.YtkjjecghbhppgaaGreatDoor
