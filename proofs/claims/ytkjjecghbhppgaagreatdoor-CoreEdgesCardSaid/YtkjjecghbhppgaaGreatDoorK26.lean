/- Laid together: TopZg, TopYh, TopYi. -/
import Derived.Test.YtkjjecghbhppgaaGreatDoorK25
import Derived.BigQuiet
import Derived.Deep.QuietTactic
import Derived.StillTailTactics
import Derived.Test.YtkjjecghbhppgaaGreatDoorK19
/- The depth with which water goes over an edge. -/
namespace Go.Proofs.YtkjjecghbhppgaaGreatDoor
open Go Go.RowKit Go.Maps TF

attribute [local go_sem] cmp_eq cmp_ne cmp_lt cmp_gt cmp_le cmp_ge run_store_float
set_option maxRecDepth 100000
set_option maxHeartbeats 8000000
theorem behind_1 {T : NetT} (k : Nat) (hk : k < 12) (w : World) (h : Net 1 T w) :
    Calls Tryz.prog 129 #[.pointer (some ⟨T.g, 0, none⟩), .int .i64 k] w fun e w' => e = .returned (.tuple #[.int .i64 (TF.bA k : Nat), .int .i64 (TF.bB k : Nat), .bool true]) ∧ Below w.heap.size w w' := by
  have h := behind_net ⟨by decide, by decide⟩ (el1 k hk) w h
  rw [sg1 k hk, (bh1 k hk).1, (bh1 k hk).2] at h
  exact h
theorem rdepth_ok {bB bW bT bS : Nat} {T : NetT} (k : Nat) (hk : k < 12) (w : World) (hN : Net 1 T w) (hP : Pond bB bW bT bS spd w) :
    Calls Tryz.prog 100 #[.pointer (some ⟨T.g, 0, none⟩), .int .i64 0, seaV bB bW bT bS, .int .i64 k, .float .f64 (spd k)] w fun e w' => e = .returned (.float .f64 (dpe k)) ∧ Below w.heap.size w w' := by
  obtain ⟨l1, l2, l3, -, l5, l6⟩ := cells1 k hk
  have hda := (by decide : ∀ k < 12, dep (TF.bA k) = 4607182418800017408 ∨ ¬ k < 4) k hk
  have ke := fun w (h : Net 1 T w) => edge_1 k hk w h
  have kbh := fun w (h : Net 1 T w) => behind_1 k hk w h
  generalize tE k / 4 = x at ke l1 l5
  generalize tS k / 4 = y at ke l2 l6
  generalize tE k % 4 = o at ke
  generalize tS k % 4 = p at ke
  generalize TF.bA k = a at kbh l3 hda
  generalize TF.bB k = a2 at kbh
  have KE := Lib.hid ke
  have HN := Lib.hid hN
  have HP := Lib.hid hP
  have HL := Lib.hid (⟨l1, l2, l3, l5, l6, hda⟩ : _ ∧ _ ∧ _ ∧ _ ∧ _ ∧ _)
  have HBH := Lib.hid kbh
  clear ke kbh hN hP l1 l2 l3 l5 l6 hda
  go_enter Tryz.func100, Tryz.ntmps100
  go_upto_region 2 with (first | (go_at_call 9; ((with_reducible refine (KE.out _ (HN.out.below (by (repeat' (first | with_reducible assumption | with_reducible exact Nat.le_refl _ | with_reducible refine Below.setCell ?_ ?_ _ | with_reducible refine Below.drew ?_ | with_reducible refine Below.alloc ?_ ?_ _ | with_reducible exact Below.refl _ _ | omega | (simp; done) | (simp; omega)))))).mono ?_)); rintro e w1 ⟨rfl, hB1⟩; obtain ⟨hd1, hf1⟩ := bcell hB1; have hz1 : w.heap.size + 1 < w1.heap.size := (by have := hB1.size; simp at this; omega); have hz1c : w.heap.size < w1.heap.size := (by omega); have hV1 : Below w.heap.size w w1 := Below.trans (by (repeat' (first | with_reducible assumption | with_reducible exact Nat.le_refl _ | with_reducible refine Below.setCell ?_ ?_ _ | with_reducible refine Below.drew ?_ | with_reducible refine Below.alloc ?_ ?_ _ | with_reducible exact Below.refl _ _ | omega | (simp; done) | (simp; omega)))) (hB1.mono (by first | exact Nat.le_refl _ | omega | (simp; done) | (simp; omega)))))
  have hA1 := ((Held.start (w0 := w) (fun _ => false) (by (repeat' (first | with_reducible assumption | with_reducible exact Nat.le_refl _ | with_reducible refine Below.setCell ?_ ?_ _ | with_reducible refine Below.drew ?_ | with_reducible refine Below.alloc ?_ ?_ _ | with_reducible exact Below.refl _ _ | omega | (simp; done) | (simp; omega))) : Below w.heap.size w ((w.alloc (Obj.cells #[Value.pointer (some { block := T.g, off := 0 })] 23)).alloc (Obj.cells #[Value.slice (some { block := bB, off := 0 }) 6 6, Value.slice (some { block := bW, off := 0 }) 6 6, Value.slice (some { block := bT, off := 0 }) 6 6, Value.slice (some { block := bS, off := 0 }) 12 12, Value.int IntKind.i64 0, Value.int IntKind.i64 0] 48)))).call hB1).alloc (Obj.cells #[Value.int IntKind.i64 ↑x, Value.int IntKind.i64 ↑o, Value.int IntKind.i64 ↑y, Value.int IntKind.i64 ↑p] 30)
  obtain ⟨W, hW⟩ : ∃ W, W = w1.alloc (Obj.cells #[Value.int IntKind.i64 ↑x, Value.int IntKind.i64 ↑o, Value.int IntKind.i64 ↑y, Value.int IntKind.i64 ↑p] 30) := ⟨_, rfl⟩
  have hWs : W.heap.size = w1.heap.size + 1 := by rw [hW]; simp
  have e0 : W.cell? ⟨w1.heap.size, 0, none⟩ = some (.int .i64 x) := by rw [hW]; simp [go_sem]
  have e2 : W.cell? ⟨w1.heap.size, 2, none⟩ = some (.int .i64 y) := by rw [hW]; simp [go_sem]
  rw [← hW] at hA1
  have g0 := (hA1.cell w.heap.size 0 (by first | exact Nat.le_refl _ | omega | (simp; done) | (simp; omega)) rfl).trans (by simp [go_sem] : _ = some (.pointer (some ⟨T.g, 0, none⟩)))
  have s0 := (hA1.cell (w.heap.size + 1) 0 (by first | exact Nat.le_refl _ | omega | (simp; done) | (simp; omega)) rfl).trans (by simp [go_sem] : _ = some (.slice (some ⟨bB, 0, none⟩) 6 6))
  have s1 := (hA1.cell (w.heap.size + 1) 1 (by first | exact Nat.le_refl _ | omega | (simp; done) | (simp; omega)) rfl).trans (by simp [go_sem] : _ = some (.slice (some ⟨bW, 0, none⟩) 6 6))
  have KEEP : Hid (∀ v, Held w W (fun _ => false) v → v.cell? ⟨w.heap.size + 1, 0, none⟩ = some (.slice (some ⟨bB, 0, none⟩) 6 6) ∧ v.cell? ⟨w.heap.size + 1, 1, none⟩ = some (.slice (some ⟨bW, 0, none⟩) 6 6) ∧ v.cell? ⟨w.heap.size, 0, none⟩ = some (.pointer (some ⟨T.g, 0, none⟩)) ∧ v.cell? ⟨w1.heap.size, 0, none⟩ = some (.int .i64 x) ∧ v.cell? ⟨w1.heap.size, 2, none⟩ = some (.int .i64 y)) :=
    Lib.hid fun v h => ⟨(h.cell _ 0 (by omega) rfl).trans s0, (h.cell _ 1 (by omega) rfl).trans s1, (h.cell _ 0 (by omega) rfl).trans g0, (h.cell _ 0 (by omega) rfl).trans e0, (h.cell _ 2 (by omega) rfl).trans e2⟩
  have hH : Held w W (fun _ => false) W := Held.start _ hA1.bel
  have KC := Lib.hid (fun v (h : Held w W (fun _ => false) v) => cells_1 v (HN.out.below h.bel))
  have KBH : Hid (∀ v, Held w W (fun _ => false) v → Calls Tryz.prog 129 #[.pointer (some ⟨T.g, 0, none⟩), .int .i64 k] v fun e w' => e = .returned (.tuple #[.int .i64 a, .int .i64 a2, .bool true]) ∧ Held w W (fun _ => false) w') := Lib.hid fun v h => (HBH.out v (HN.out.below h.bel)).mono fun _ _ ⟨q, b⟩ => ⟨q, h.call b⟩
  have KD : Hid (∀ c : Nat, c < 6 → ∀ v, Held w W (fun _ => false) v → Calls Tryz.prog 130 #[.int .i64 c, .pointer (some ⟨w.heap.size + 1, 0, none⟩), .pointer (some ⟨w.heap.size, 0, none⟩)] v fun e w' => e = .returned (.float .f64 (dep c)) ∧ Held w W (fun _ => false) w') := Lib.hid fun c hc v h => by
    obtain ⟨-, b1, b2, -, -⟩ := KEEP.out v h
    exact (depthc_ok c hc _ _ v (HN.out.below h.bel) (HP.out.below h.bel) b2 b1).mono fun _ _ ⟨q, b⟩ => ⟨q, h.call b⟩
  have KAR := Lib.hid (fun c (hc : c < 6) v (h : Held w W (fun _ => false) v) => area_1 c hc v (HN.out.below h.bel))
  rw [← hW]
  generalize w1.heap.size = eb at KEEP e0 e2 ⊢
  clear hA1 hW hWs hB1 hd1 hf1 hz1 hz1c hV1 KE HBH
  have HH0 := Lib.hid hH
  clear hH
  go_quiet ((go_at_call 6; exact Calls.quiet_of_same (KC.out _ (HH0.out.call (below_drewN (Below.refl _ _) _)))))
  have hH1 := HH0.out.call (below_drewN (Below.refl W.heap.size W) nq)
  obtain ⟨s0', s1', g0', e0', e2'⟩ := KEEP.out _ hH1
  clear s0 s1 g0 e0 e2 HH0
  generalize W.drewN nq = v1 at hH1 s0' s1' g0' e0' e2' ⊢
  go_upto_region 5 with (first | (go_at_call 129; ((with_reducible refine (KBH.out _ (by with_reducible assumption)).mono ?_)); rintro e w3 ⟨rfl, hH⟩; obtain ⟨s0, s1, g0, e0, e2⟩ := KEEP.out _ hH))
  clear s0' s1' g0' e0' e2' hH1
  go_quiet (fail)
  have hH2 := hH.call (below_drewN (Below.refl w3.heap.size w3) nq)
  clear hH s0 s1 g0 e0 e2
  generalize w3.drewN nq = v2 at hH2 ⊢
  by_cases h4 : k < 4
  · have hmf : ∀ (fn : Fn) (first cap : Array Value) (w : World), (Instr.makeFunc fn first cap).run Tryz.prog w = .ok (.func fn first cap) w := fun _ _ _ _ => rfl
    obtain ⟨hx, hy, ha, hx0, hy0, had⟩ := HL.out
    have dx : dep x = 4607186816845480960 := by unfold dep; rw [if_pos (hx0.2 h4)]
    have dy : dep y = 4607182418800017408 := by unfold dep; rw [if_neg hy0]
    have da : dep a = 4607182418800017408 := had.resolve_right (fun h => h h4)
    have KX : Hid (∀ v, Held w W (fun _ => false) v → _) := Lib.hid (KD.out x hx)
    have KY : Hid (∀ v, Held w W (fun _ => false) v → _) := Lib.hid (KD.out y hy)
    have KA : Hid (∀ v, Held w W (fun _ => false) v → _) := Lib.hid (KD.out a ha)
    have KL := Lib.hid (level_1 x hx)
    rw [dx] at KX KL
    rw [dy] at KY
    rw [da] at KA
    have KAX := Lib.hid (KAR.out x hx)
    have pb := fun v (h : Held w W (fun _ => false) v) => (HP.out.below h.bel).bed x hx
    have pb2 := fun v (h : Held w W (fun _ => false) v) => (HP.out.below h.bel).bed y hy
    have pw := fun v (h : Held w W (fun _ => false) v) => (HP.out.below h.bel).wat x hx
    have KP := Lib.hid (⟨pb, pb2, pw⟩ : _ ∧ _ ∧ _)
    have eU : spd k = 4555004673799709393 := if_pos h4
    have eD : dpe k = 4607186816845480960 := if_pos h4
    rw [eU]
    have ED := Lib.hid eD
    have cU : ltW 0 4555004673799709393 = true := by decide
    have cD : ltW 0 4607186816845480960 = true := by decide
    have k1 := run_valid (P := Tryz.prog) 35 f_x1
    have k2 := run_valid (P := Tryz.prog) 35 f_dl1
    have k3 := run_valid (P := Tryz.prog) 35 f_m0
    have k4 := run_valid (P := Tryz.prog) 35 f_vs
    have k5 := run_valid (P := Tryz.prog) 35 f_gs
    have KS : Hid (∀ v, Held w W (fun _ => false) v → Calls Tryz.prog 131 #[.int .i64 0, .float .f64 4562146420380925952, .float .f64 13785518457235701760] v fun e w' => e = .returned (.float .f64 0) ∧ Held w W (fun _ => false) w') := Lib.hid fun v h => (slope_none (by decide) (by decide) (by decide) v).mono fun _ _ ⟨q, b⟩ => ⟨q, h.call b⟩
    have KM : Hid (∀ v, Calls Tryz.prog 134 #[.float .f64 4607186816845480960, .float .f64 4607186816845480960] v fun e w' => e = .returned (.float .f64 4607186816845480960) ∧ v = w') := Lib.hid fun v => by
      have h := min_any 4607186816845480960 4607186816845480960 (by decide) (by decide) v
      rw [show minW 4607186816845480960 4607186816845480960 = 4607186816845480960 by decide +kernel] at h
      exact h
    have KMX : Hid (∀ v, Calls Tryz.prog 133 #[.float .f64 0, .float .f64 0] v fun e w' => e = .returned (.float .f64 0) ∧ w' = v) := Lib.hid fun v => by
      have h := max_any 0 0 (by decide) (by decide) v
      rw [show maxW 0 0 = 0 by decide +kernel] at h
      exact h.mono fun _ _ h => ⟨h.1, h.2.symm⟩
    have hx1 : (0 : Int) ≤ (x : Int) := by omega
    have hx2 : (x : Int) < 6 := by omega
    have hx3 : (x : Int).toNat = x := by omega
    have hy1 : (0 : Int) ≤ (y : Int) := by omega
    have hy2 : (y : Int) < 6 := by omega
    have hy3 : (y : Int).toNat = y := by omega
    clear dx dy da had hx0 hy0 eU eD pb pb2 pw KD KAR KBH KC HL h4 hx hy ha hk
    go_upto_region 14 with (first | (go_at_call 130; ((with_reducible refine (KX.out _ (by with_reducible assumption)).mono ?_)); rintro e w3 ⟨rfl, hH⟩) | (go_at_call 130; ((with_reducible refine (KY.out _ (by with_reducible assumption)).mono ?_)); rintro e w3 ⟨rfl, hH⟩) | (go_at_call 130; ((with_reducible refine (KA.out _ (by with_reducible assumption)).mono ?_)); rintro e w3 ⟨rfl, hH⟩) | (go_at_call 131; ((with_reducible refine (KS.out _ (by with_reducible assumption)).mono ?_)); rintro e w3 ⟨rfl, hH⟩))
    obtain ⟨s0, s1, g0, -, -⟩ := KEEP.out _ hH
    have p1 := KP.out.1 _ hH
    have p2 := KP.out.2.1 _ hH
    have p3 := KP.out.2.2 _ hH
    have HH5 := Lib.hid hH
    obtain ⟨w5, h⟩ : ∃ w5, w5 = w3 := ⟨_, rfl⟩
    subst h
    clear hH
    go_quiet ((first | (go_at_call 16; exact Calls.quiet_of_same (KAX.out _ (HH5.out.call (below_drewN (Below.refl _ _) _)))) | (go_at_call 132; exact Calls.quiet_of_same (KL.out _)) | (go_at_call 133; exact Calls.quiet_of_same (KMX.out _))))
    have hH6 := HH5.out.bel.trans ((below_drewN (Below.refl w5.heap.size w5) nq).mono HH5.out.bel.size)
    clear s0 s1 g0 p1 p2 p3 HH5
    generalize w5.drewN nq = v6 at hH6 ⊢
    go_wp2_with (first | (go_at_call 134; ((with_reducible refine (KM.out _).mono ?_)); rintro e w3 ⟨rfl, rfl⟩))
    go_ret
    exact ⟨by rw [ED.out]; rfl, hH6⟩
  · have eU : spd k = 0 := if_neg h4
    have eD : dpe k = 0 := if_neg h4
    have hb := hH2.bel
    rw [eU]
    have ED := Lib.hid eD
    have cU : ltW 0 0 = false := by decide
    clear HL KD KAR KBH KC h4 eU eD hk
    go_wp2
    go_ret
    exact ⟨by rw [ED.out]; rfl, hb⟩
end Go.Proofs.YtkjjecghbhppgaaGreatDoor
/- Forces: the speed of an edge behind the step. -/
namespace Go.Proofs.YtkjjecghbhppgaaGreatDoor
open Go Go.RowKit Go.Maps TF

attribute [local go_sem] cmp_eq cmp_ne cmp_lt cmp_gt cmp_le cmp_ge run_store_float
set_option maxRecDepth 100000
set_option maxHeartbeats 8000000
theorem gap_1 {T : NetT} (k : Nat) (hk : k < 12) (w : World) (h : Net 1 T w) :
    Calls Tryz.prog 15 #[.pointer (some ⟨T.g, 0, none⟩), .int .i64 k] w fun e w' => e = .returned (.float .f64 4609047870845172685) ∧ w' = w :=
  (gap_net ⟨by decide, by decide⟩ (el1 k hk) w h).mono fun _ _ h => ⟨by rw [h.1, gg1 k hk], h.2.symm⟩
/-- what an edge reckons: depths of its cells, the steps of the reckoning, the speed -/
structure Reck (dx dy q1 q2 q3 u s h u2 : Nat) : Prop where
  f1 : floatBits .sub .f64 dy dx = some q1
  f2 : floatBits .mul .f64 4602678819172646912 q1 = some q2
  f3 : floatBits .quo .f64 q2 4609047870845172685 = some q3
  f4 : floatBits .sub .f64 0 q3 = some u
  f5 : floatBits .add .f64 dx dy = some s
  f6 : floatBits .mul .f64 4602678819172646912 s = some h
  f7 : floatBits .mul .f64 0 (mg u) = some 0
  f8 : floatBits .quo .f64 0 h = some 0
  f9 : floatBits .quo .f64 u 4607182418800017408 = some u2
  f10 : canonW u2 = u2
  c1 : ltW 0 h = true
  c2 : ltW 4652218415073722368 u2 = false
  c3 : ltW u2 13875590451928498176 = false
  c4 : eqW u2 u2 = true
  w64 : u < 2 ^ 64
theorem reck_1 : Reck 4607186816845480960 4607182418800017408 13785518457235701760 13781014857608331264 13778376710654485201 4555004673799709393 4611688217450119680 4607184617822749184 4555004673799709393 := by
  constructor <;> decide +kernel
theorem reck_0 : Reck 4607182418800017408 4607182418800017408 0 0 0 0 4611686018427387904 4607182418800017408 0 := by
  constructor <;> decide +kernel
theorem speed_gen {bB bW bT bS : Nat} {T : NetT} (k : Nat) (hk : k < 12) (w : World) (hN : Net 1 T w) (hP : Pond bB bW bT bS (fun _ => 0) w) {q1 q2 q3 u s h u2 : Nat} (R : Reck (dep (tE k / 4)) (dep (tS k / 4)) q1 q2 q3 u s h u2) :
    Calls Tryz.prog 98 #[.pointer (some ⟨T.g, 0, none⟩), planV, seaV bB bW bT bS, .int .i64 k] w fun e w' => e = .returned (.float .f64 u2) ∧ Below w.heap.size w w' := by
  have kb := fun v (h : Net 1 T v) (h2 : Pond bB bW bT bS (fun _ => 0) v) => both_ok k hk v h h2
  have kg := fun v (h : Net 1 T v) => gap_1 k hk v h
  generalize dep (tE k / 4) = dx at R kb
  generalize dep (tS k / 4) = dy at R kb
  have k1 := run_valid (P := Tryz.prog) 35 R.f1
  have k2 := run_valid (P := Tryz.prog) 35 R.f2
  have k3 := run_valid (P := Tryz.prog) 35 R.f3
  have k4 := run_valid (P := Tryz.prog) 35 R.f4
  have k5 := run_valid (P := Tryz.prog) 35 R.f5
  have k6 := run_valid (P := Tryz.prog) 35 R.f6
  have k7 := run_valid (P := Tryz.prog) 35 R.f7
  have k8 := run_valid (P := Tryz.prog) 35 R.f8
  have k9 := run_valid (P := Tryz.prog) 35 R.f9
  have k10 := run_valid (P := Tryz.prog) 35 f_gd
  have k11 := run_valid (P := Tryz.prog) 35 f_dg
  have k12 := run_valid (P := Tryz.prog) 35 f_q
  have c1 := R.c1
  have c2 := R.c2
  have c3 := R.c3
  have c4 := R.c4
  have kc := canon_any u2
  rw [R.f10] at kc
  have KC := Lib.hid kc
  have KA := Lib.hid (fun w => ((abs_any u R.w64 w).mono fun _ _ h => (⟨h.1, h.2.symm⟩ : _ ∧ _ = w)))
  have KB := Lib.hid kb
  have KG := Lib.hid kg
  have HN := Lib.hid hN
  have HP := Lib.hid hP
  have hk0 : (0 : Int) ≤ (k : Int) := by omega
  have hk1 : (k : Int) < 12 := by omega
  clear R kb kg hN hP kc
  go_enter Tryz.func98, Tryz.ntmps98
  go_upto_region 4 with (first | (go_at_call 126; ((with_reducible refine (KB.out _ (HN.out.below (by (repeat' (first | with_reducible assumption | with_reducible exact Nat.le_refl _ | with_reducible refine Below.setCell ?_ ?_ _ | with_reducible refine Below.drew ?_ | with_reducible refine Below.alloc ?_ ?_ _ | with_reducible exact Below.refl _ _ | omega | (simp; done) | (simp; omega))))) (HP.out.below (by (repeat' (first | with_reducible assumption | with_reducible exact Nat.le_refl _ | with_reducible refine Below.setCell ?_ ?_ _ | with_reducible refine Below.drew ?_ | with_reducible refine Below.alloc ?_ ?_ _ | with_reducible exact Below.refl _ _ | omega | (simp; done) | (simp; omega)))))).mono ?_)); rintro e w1 ⟨rfl, hB1⟩; obtain ⟨hd1, hf1⟩ := bcell hB1; have hz1 : w.heap.size + 1 < w1.heap.size := (by have := hB1.size; simp at this; omega); have hz1c : w.heap.size < w1.heap.size := (by omega)) | (go_at_call 127; ((with_reducible refine (open_ok _ _ _ _ _ _ _).mono ?_)); rintro e w2 ⟨rfl, hB2⟩))
  have hV1 : Below w.heap.size w w1 := Below.trans (by (repeat' (first | with_reducible assumption | with_reducible exact Nat.le_refl _ | with_reducible refine Below.setCell ?_ ?_ _ | with_reducible refine Below.drew ?_ | with_reducible refine Below.alloc ?_ ?_ _ | with_reducible exact Below.refl _ _ | omega | (simp; done) | (simp; omega)))) (hB1.mono (by first | exact Nat.le_refl _ | omega | (simp; done) | (simp; omega)))
  have hV2 : Below w.heap.size w w2 := Below.trans (by (repeat' (first | with_reducible assumption | with_reducible exact Nat.le_refl _ | with_reducible refine Below.setCell ?_ ?_ _ | with_reducible refine Below.drew ?_ | with_reducible refine Below.alloc ?_ ?_ _ | with_reducible exact Below.refl _ _ | omega | (simp; done) | (simp; omega)))) (hB2.mono (by first | exact Nat.le_refl _ | omega | (simp; done) | (simp; omega)))
  have hA1 := ((((Held.start (w0 := w) (fun _ => false) (by (repeat' (first | with_reducible assumption | with_reducible exact Nat.le_refl _ | with_reducible refine Below.setCell ?_ ?_ _ | with_reducible refine Below.drew ?_ | with_reducible refine Below.alloc ?_ ?_ _ | with_reducible exact Below.refl _ _ | omega | (simp; done) | (simp; omega))) : Below w.heap.size w ((w.alloc (Obj.cells #[Value.int IntKind.i64 1, Value.float FloatKind.f64 4602678819172646912, Value.float FloatKind.f64 4607182418800017408, Value.float FloatKind.f64 0, Value.int IntKind.i64 0, Value.bool false, Value.slice none 0 0] 45)).alloc (Obj.cells #[Value.slice (some { block := bB, off := 0 }) 6 6, Value.slice (some { block := bW, off := 0 }) 6 6, Value.slice (some { block := bT, off := 0 }) 6 6, Value.slice (some { block := bS, off := 0 }) 12 12, Value.int IntKind.i64 0, Value.int IntKind.i64 0] 48)))).call hB1).alloc _).alloc _).call hB2
  have hE1 := (Held.start (w0 := w1) (fun _ => false) (((Below.refl w1.heap.size w1).alloc (Nat.le_refl _) _).alloc (by simp) _)).call hB2
  have p1 := (hA1.cell w.heap.size 1 (by first | exact Nat.le_refl _ | omega | (simp; done) | (simp; omega)) rfl).trans (by simp [go_sem] : _ = some (.float .f64 4602678819172646912))
  have p2 := (hA1.cell w.heap.size 2 (by first | exact Nat.le_refl _ | omega | (simp; done) | (simp; omega)) rfl).trans (by simp [go_sem] : _ = some (.float .f64 4607182418800017408))
  have p3 := (hA1.cell w.heap.size 3 (by first | exact Nat.le_refl _ | omega | (simp; done) | (simp; omega)) rfl).trans (by simp [go_sem] : _ = some (.float .f64 0))
  have p4 := (hA1.cell (w.heap.size + 1) 3 (by first | exact Nat.le_refl _ | omega | (simp; done) | (simp; omega)) rfl).trans (by simp [go_sem] : _ = some (.slice (some ⟨bS, 0, none⟩) 12 12))
  have e1 := (hE1.cell w1.heap.size 1 (by first | exact Nat.le_refl _ | omega | (simp; done) | (simp; omega)) rfl).trans (by simp [go_sem] : _ = some (.float .f64 dx))
  have e2 := (hE1.cell w1.heap.size 2 (by first | exact Nat.le_refl _ | omega | (simp; done) | (simp; omega)) rfl).trans (by simp [go_sem] : _ = some (.float .f64 dx))
  have e3 := (hE1.cell (w1.heap.size + 1) 1 (by first | exact Nat.le_refl _ | omega | (simp; done) | (simp; omega)) rfl).trans (by simp [go_sem] : _ = some (.float .f64 dy))
  have e4 := (hE1.cell (w1.heap.size + 1) 2 (by first | exact Nat.le_refl _ | omega | (simp; done) | (simp; omega)) rfl).trans (by simp [go_sem] : _ = some (.float .f64 dy))
  have p5 := (HP.out.below hV2).spd k hk
  have HV := Lib.hid hV2
  have KG1 := Lib.hid (KG.out w2.drew (HN.out.below (hV2.drew)))
  clear hA1 hE1 hV1 hV2 hd1 hf1 hB1 hB2 hz1 hz1c
  refine wp_region_still_lit (by kernel_rfl) (by kernel_rfl) ?_
  repeat still_step
  still_call (KG1.out)
  repeat still_step
  refine wpStill_nil ?_
  change Exit.then _ _ _ _ (World.drew w2)
  have p1' : (World.drew w2).cell? ⟨w.heap.size, 1, none⟩ = some (.float .f64 4602678819172646912) := p1
  have p3' : (World.drew w2).cell? ⟨w.heap.size, 3, none⟩ = some (.float .f64 0) := p3
  have p4' : (World.drew w2).cell? ⟨w.heap.size + 1, 3, none⟩ = some (.slice (some ⟨bS, 0, none⟩) 12 12) := p4
  have e1' : (World.drew w2).cell? ⟨w1.heap.size, 1, none⟩ = some (.float .f64 dx) := e1
  have e3' : (World.drew w2).cell? ⟨w1.heap.size + 1, 1, none⟩ = some (.float .f64 dy) := e3
  have p5' : (World.drew w2).cell? ⟨bS, k, none⟩ = some (.float .f64 0) := p5
  have HV' : Hid (Below w.heap.size w (World.drew w2)) := Lib.hid HV.out.drew
  clear p1 p2 p3 p4 p5 e1 e2 e3 e4 HV KG1
  generalize World.drew w2 = w3 at p1' p3' p4' e1' e3' p5' HV' ⊢
  go_upto_region 9 with fail
  refine wp_region_still_lit (by kernel_rfl) (by kernel_rfl) ?_
  repeat still_step
  still_call (KA.out _)
  repeat still_step
  refine wpStill_nil ?_
  change Exit.then _ _ _ _ (World.drew w3)
  have HV2 : Hid (Below w.heap.size w (World.drew w3)) := Lib.hid HV'.out.drew
  clear p1' p3' p4' p5' e1' e3' HV' KA
  generalize World.drew w3 = w4 at HV2 ⊢
  go_wp2_with (first | (go_at_call 51; ((with_reducible refine (KC.out _).mono ?_)); rintro e w' ⟨rfl, rfl⟩))
  go_ret
  exact ⟨rfl, HV2.out⟩
end Go.Proofs.YtkjjecghbhppgaaGreatDoor
/- Forces: the speeds of all edges behind the step. -/
namespace Go.Proofs.YtkjjecghbhppgaaGreatDoor
open Go Go.RowKit Go.Maps TF

attribute [local go_sem] cmp_eq cmp_ne cmp_lt cmp_gt cmp_le cmp_ge run_store_float
set_option maxRecDepth 100000
set_option maxHeartbeats 4000000
theorem speed_ok {bB bW bT bS : Nat} {T : NetT} (k : Nat) (hk : k < 12) (w : World) (hN : Net 1 T w) (hP : Pond bB bW bT bS (fun _ => 0) w) :
    Calls Tryz.prog 98 #[.pointer (some ⟨T.g, 0, none⟩), planV, seaV bB bW bT bS, .int .i64 k] w fun e w' => e = .returned (.float .f64 (spd k)) ∧ Below w.heap.size w w' := by
  obtain ⟨-, -, -, -, h1, h2⟩ := cells1 k hk
  by_cases h : k < 4
  · have e1 : dep (tE k / 4) = 4607186816845480960 := by unfold dep; rw [if_pos (h1.2 h)]
    have e2 : dep (tS k / 4) = 4607182418800017408 := by unfold dep; rw [if_neg h2]
    have e3 : spd k = 4555004673799709393 := by unfold spd; rw [if_pos h]
    rw [e3]
    exact speed_gen k hk w hN hP (by rw [e1, e2]; exact reck_1)
  · have e1 : dep (tE k / 4) = 4607182418800017408 := by unfold dep; rw [if_neg (fun e => h (h1.1 e))]
    have e2 : dep (tS k / 4) = 4607182418800017408 := by unfold dep; rw [if_neg h2]
    have e3 : spd k = 0 := by unfold spd; rw [if_neg h]
    rw [e3]
    exact speed_gen k hk w hN hP (by rw [e1, e2]; exact reck_0)
/-- what holds while the speeds come in: two boxes, the row -/
structure SpdS (w : World) (bB bW bT bS b k : Nat) (v : World) : Prop where
  bel : Below w.heap.size w v
  b1 : w.heap.size + 1 < b
  lt : b < v.heap.size
  row : FW v b 12 (fun i => if i < k then spd i else 0)
  fz : ∀ o, v.frozen? ⟨b, o, none⟩ = false
  p : ∀ j u, #[Value.int IntKind.i64 1, Value.float FloatKind.f64 4602678819172646912, Value.float FloatKind.f64 4607182418800017408, Value.float FloatKind.f64 0, Value.int IntKind.i64 0, Value.bool false, Value.slice none 0 0][j]? = some u → v.cell? ⟨w.heap.size, j, none⟩ = some u
  s : ∀ j u, #[Value.slice (some { block := bB, off := 0 }) 6 6, Value.slice (some { block := bW, off := 0 }) 6 6, Value.slice (some { block := bT, off := 0 }) 6 6, Value.slice (some { block := bS, off := 0 }) 12 12, Value.int IntKind.i64 0, Value.int IntKind.i64 0][j]? = some u → v.cell? ⟨w.heap.size + 1, j, none⟩ = some u
theorem SpdS.call {w v v' : World} {bB bW bT bS b k : Nat} (h : SpdS w bB bW bT bS b k v) (hB : Below v.heap.size v v') : SpdS w bB bW bT bS b k v' := by
  have hb := h.b1
  have hl := h.lt
  exact ⟨h.bel.trans (hB.mono h.bel.size), hb, Nat.lt_of_lt_of_le hl hB.size, h.row.below hl hB, fun o => (hB.frozen (p := ⟨b, o, none⟩) hl).trans (h.fz o),
    fun j u e => (hB.cell (p := ⟨w.heap.size, j, none⟩) (by show w.heap.size < _; omega)).trans (h.p j u e), fun j u e => (hB.cell (p := ⟨w.heap.size + 1, j, none⟩) (by show w.heap.size + 1 < _; omega)).trans (h.s j u e)⟩
theorem SpdS.set {w v : World} {bB bW bT bS b k : Nat} (h : SpdS w bB bW bT bS b k v) (_ : k < 12) : SpdS w bB bW bT bS b (k + 1) (v.setCell ⟨b, k, none⟩ (.float .f64 (spd k))) := by
  have hb := h.b1
  refine ⟨h.bel.setCell (by show w.heap.size ≤ b; omega) _, hb, by rw [World.size_setCell]; exact h.lt, (h.row.set k (spd k)).same fun i hi => ?_, fun o => by rw [World.frozen?_setCell]; exact h.fz o, fun j u e => ?_, fun j u e => ?_⟩
  · skip
    by_cases e : i = k
    · subst e; rw [if_pos rfl, if_pos (by omega)]
    · rw [if_neg e]; by_cases e2 : i < k
      · rw [if_pos e2, if_pos (by omega)]
      · rw [if_neg e2, if_neg (by omega)]
  · rw [World.cell?_setCell_other _ _ _ _ (by intro e; injection e; omega)]; exact h.p j u e
  · rw [World.cell?_setCell_other _ _ _ _ (by intro e; injection e; omega)]; exact h.s j u e
theorem speeds_ok {bB bW bT bS : Nat} {T : NetT} (w : World) (hN : Net 1 T w) (hP : Pond bB bW bT bS (fun _ => 0) w) :
    Calls Tryz.prog 59 #[.pointer (some ⟨T.g, 0, none⟩), planV, seaV bB bW bT bS] w fun e w' => ∃ b, e = .returned (.tuple #[.slice (some ⟨b, 0, none⟩) 12 12, .int .i64 0]) ∧ Below w.heap.size w w' ∧ w.heap.size ≤ b ∧ b < w'.heap.size ∧ FW w' b 12 spd := by
  have KF := Lib.hid (fun w (h : Net 1 T w) => fits_ok (bB := bB) (bW := bW) (bT := bT) (bS := bS) w h)
  have HN := Lib.hid hN
  have HP := Lib.hid hP
  have hmk := make_f12
  clear hN hP
  go_enter Tryz.func59, Tryz.ntmps59
  go_upto_region 6 with (first | (go_at_call 97; ((with_reducible refine (KF.out _ (HN.out.below (by (repeat' (first | with_reducible assumption | with_reducible exact Nat.le_refl _ | with_reducible refine Below.setCell ?_ ?_ _ | with_reducible refine Below.drew ?_ | with_reducible refine Below.alloc ?_ ?_ _ | with_reducible exact Below.refl _ _ | omega | (simp; done) | (simp; omega)))))).mono ?_)); rintro e w1 ⟨rfl, hB1⟩; obtain ⟨hd1, hf1⟩ := bcell hB1; have hz1 : w.heap.size + 1 < w1.heap.size := (by have := hB1.size; simp at this; omega); have hz1c : w.heap.size < w1.heap.size := (by omega); have hV1 : Below w.heap.size w w1 := Below.trans (by (repeat' (first | with_reducible assumption | with_reducible exact Nat.le_refl _ | with_reducible refine Below.setCell ?_ ?_ _ | with_reducible refine Below.drew ?_ | with_reducible refine Below.alloc ?_ ?_ _ | with_reducible exact Below.refl _ _ | omega | (simp; done) | (simp; omega)))) (hB1.mono (by first | exact Nat.le_refl _ | omega | (simp; done) | (simp; omega))); have KE := Lib.hid ((edges_1 w1 (HN.out.below hV1)).mono fun _ _ h => (⟨h.1, h.2.symm⟩ : _ ∧ w1 = _))) | (go_at_call 7; ((with_reducible refine (KE.out).mono ?_)); rintro e w' ⟨rfl, rfl⟩))
  have h0 : SpdS w bB bW bT bS w1.heap.size 0 (w1.alloc (.cells #[Value.float FloatKind.f64 0, Value.float FloatKind.f64 0, Value.float FloatKind.f64 0, Value.float FloatKind.f64 0, Value.float FloatKind.f64 0, Value.float FloatKind.f64 0, Value.float FloatKind.f64 0, Value.float FloatKind.f64 0, Value.float FloatKind.f64 0, Value.float FloatKind.f64 0, Value.float FloatKind.f64 0, Value.float FloatKind.f64 0] 35)) := by
    have hA1 := ((Held.start (w0 := w) (fun _ => false) (by (repeat' (first | with_reducible assumption | with_reducible exact Nat.le_refl _ | with_reducible refine Below.setCell ?_ ?_ _ | with_reducible refine Below.drew ?_ | with_reducible refine Below.alloc ?_ ?_ _ | with_reducible exact Below.refl _ _ | omega | (simp; done) | (simp; omega))) : Below w.heap.size w ((w.alloc (Obj.cells #[Value.int IntKind.i64 1, Value.float FloatKind.f64 4602678819172646912, Value.float FloatKind.f64 4607182418800017408, Value.float FloatKind.f64 0, Value.int IntKind.i64 0, Value.bool false, Value.slice none 0 0] 45)).alloc (Obj.cells #[Value.slice (some { block := bB, off := 0 }) 6 6, Value.slice (some { block := bW, off := 0 }) 6 6, Value.slice (some { block := bT, off := 0 }) 6 6, Value.slice (some { block := bS, off := 0 }) 12 12, Value.int IntKind.i64 0, Value.int IntKind.i64 0] 48)))).call hB1).alloc (.cells #[Value.float FloatKind.f64 0, Value.float FloatKind.f64 0, Value.float FloatKind.f64 0, Value.float FloatKind.f64 0, Value.float FloatKind.f64 0, Value.float FloatKind.f64 0, Value.float FloatKind.f64 0, Value.float FloatKind.f64 0, Value.float FloatKind.f64 0, Value.float FloatKind.f64 0, Value.float FloatKind.f64 0, Value.float FloatKind.f64 0] 35)
    refine ⟨by (repeat' (first | with_reducible assumption | with_reducible exact Nat.le_refl _ | with_reducible refine Below.setCell ?_ ?_ _ | with_reducible refine Below.drew ?_ | with_reducible refine Below.alloc ?_ ?_ _ | with_reducible exact Below.refl _ _ | omega | (simp; done) | (simp; omega))), hz1, by simp, fun i hi => ?_, fun o => by simp [go_sem], fun j u e => (hA1.cell w.heap.size j (by first | exact Nat.le_refl _ | omega | (simp; done) | (simp; omega)) rfl).trans ?_, fun j u e => (hA1.cell (w.heap.size + 1) j (by first | exact Nat.le_refl _ | omega | (simp; done) | (simp; omega)) rfl).trans ?_⟩
    · obtain rfl | rfl | rfl | rfl | rfl | rfl | rfl | rfl | rfl | rfl | rfl | rfl : i = 0 ∨ i = 1 ∨ i = 2 ∨ i = 3 ∨ i = 4 ∨ i = 5 ∨ i = 6 ∨ i = 7 ∨ i = 8 ∨ i = 9 ∨ i = 10 ∨ i = 11 := by omega
      all_goals simp [go_sem]
    · rw [World.cell?_alloc_lt _ _ _ (by simp)]; simpa [World.cell?_alloc_new] using e
    · have e2 : w.heap.size + 1 = (w.alloc (Obj.cells #[Value.int IntKind.i64 1, Value.float FloatKind.f64 4602678819172646912, Value.float FloatKind.f64 4607182418800017408, Value.float FloatKind.f64 0, Value.int IntKind.i64 0, Value.bool false, Value.slice none 0 0] 45)).heap.size := by simp
      rw [e2]; simpa [World.cell?_alloc_new] using e
  generalize w1.alloc (.cells #[Value.float FloatKind.f64 0, Value.float FloatKind.f64 0, Value.float FloatKind.f64 0, Value.float FloatKind.f64 0, Value.float FloatKind.f64 0, Value.float FloatKind.f64 0, Value.float FloatKind.f64 0, Value.float FloatKind.f64 0, Value.float FloatKind.f64 0, Value.float FloatKind.f64 0, Value.float FloatKind.f64 0, Value.float FloatKind.f64 0] 35) = W at h0 ⊢
  generalize w1.heap.size = b at h0 ⊢
  have H0 := Lib.hid h0
  clear h0 hB1 hd1 hf1 hz1 hz1c hV1 KE hmk
  go_wp2_with fail
  go_loopw [21] (fun i wr => ∃ k : Nat, k ≤ 12 ∧ i = .int .i64 k ∧ SpdS w bB bW bT bS b k wr) (fun i _ => 12 - (intOf i).toNat)
  case atStart => exact ⟨0, by omega, rfl, H0.out⟩
  case round =>
    clear H0
    obtain ⟨k, hk, rfl, hS⟩ := hrel
    by_cases hlt : k < 12
    · have p0 := hS.p 0 _ rfl
      have p1 := hS.p 1 _ rfl
      have p2 := hS.p 2 _ rfl
      have p3 := hS.p 3 _ rfl
      have p4 := hS.p 4 _ rfl
      have p5 := hS.p 5 _ rfl
      have p6 := hS.p 6 _ rfl
      have s0 := hS.s 0 _ rfl
      have s1 := hS.s 1 _ rfl
      have s2 := hS.s 2 _ rfl
      have s3 := hS.s 3 _ rfl
      have s4 := hS.s 4 _ rfl
      have s5 := hS.s 5 _ rfl
      have KS := Lib.hid (speed_ok k hlt wr (HN.out.below hS.bel) (HP.out.below hS.bel))
      have HS := Lib.hid hS
      clear hS
      go_upto_region 9 with fail
      go_wp2_with (first | ((first | (go_at_call 98; ((with_reducible refine (KS.out).mono ?_)); rintro e w3 ⟨rfl, hB3⟩)); have hS3 := HS.out.call hB3; have c3 := hS3.row k hlt; have f3 := hS3.fz k; have HS3 := Lib.hid hS3; clear hS3 hB3 p0 p1 p2 p3 p4 p5 p6 s0 s1 s2 s3 s4 s5))
      go_roundw
      case rel => exact ⟨k + 1, by omega, by go_num, HS3.out.set hlt⟩
      case measure => simp [intOf]; omega
    · have hE : k = 12 := by omega
      subst hE
      have hb := hS.b1
      go_wp2
      refine bodyPost_ret (results_tmp2 rfl _ _ _) rfl ?_
      exact ⟨b, rfl, hS.bel, by omega, hS.lt, hS.row.same fun i hi => if_pos hi⟩
end Go.Proofs.YtkjjecghbhppgaaGreatDoor
