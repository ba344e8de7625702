/- Laid together: TopYb, TopYc, TopYd, TopYe, TopYf, TopZc, TopXd. -/
import Derived.Test.YtkjjecghbhppgaaGreatDoorK18
import Derived.Test.YtkjjecghbhppgaaGreatDoorK07
import Derived.StillTailTactics
import Derived.BigQuiet
import Derived.Deep.QuietTactic
/- A plan and a sea that can be. -/
namespace Go.Proofs.YtkjjecghbhppgaaGreatDoor
open Go Go.RowKit Go.Maps TF

attribute [local go_sem] cmp_eq cmp_ne cmp_lt cmp_gt cmp_le cmp_ge run_store_float
set_option maxRecDepth 100000
set_option maxHeartbeats 4000000
abbrev planV : Value := .agg #[.int .i64 1, .float .f64 4602678819172646912, .float .f64 4607182418800017408, .float .f64 0, .int .i64 0, .bool false, .slice none 0 0]
abbrev seaV (bB bW bT bS : Nat) : Value := .agg #[.slice (some ⟨bB, 0, none⟩) 6 6, .slice (some ⟨bW, 0, none⟩) 6 6, .slice (some ⟨bT, 0, none⟩) 6 6, .slice (some ⟨bS, 0, none⟩) 12 12, .int .i64 0, .int .i64 0]
structure Pond (bB bW bT bS : Nat) (sp : Nat → Nat) (w : World) : Prop where
  lB : bB < w.heap.size
  lW : bW < w.heap.size
  lT : bT < w.heap.size
  lS : bS < w.heap.size
  bed : ∀ i < 6, w.cell? ⟨bB, i, none⟩ = some (.float .f64 0)
  wat : ∀ i < 6, w.cell? ⟨bW, i, none⟩ = some (.int .i64 (wat i))
  tr : ∀ i < 6, w.cell? ⟨bT, i, none⟩ = some (.int .i64 0)
  spd : ∀ i < 12, w.cell? ⟨bS, i, none⟩ = some (.float .f64 (sp i))
theorem Pond.below {bB bW bT bS : Nat} {sp : Nat → Nat} {w w' : World} (h : Pond bB bW bT bS sp w) (hB : Below w.heap.size w w') : Pond bB bW bT bS sp w' := by
  have k : ∀ b, b < w.heap.size → ∀ j, w'.cell? ⟨b, j, none⟩ = w.cell? ⟨b, j, none⟩ := fun b hb j => (grown_cell (below_gr hB) hb (by simp)).1 j
  exact ⟨Nat.lt_of_lt_of_le h.lB hB.size, Nat.lt_of_lt_of_le h.lW hB.size, Nat.lt_of_lt_of_le h.lT hB.size, Nat.lt_of_lt_of_le h.lS hB.size,
    fun i hi => (k _ h.lB i).trans (h.bed i hi), fun i hi => (k _ h.lW i).trans (h.wat i hi), fun i hi => (k _ h.lT i).trans (h.tr i hi), fun i hi => (k _ h.lS i).trans (h.spd i hi)⟩
theorem idxr_nil (f : Value) (w : World) : Calls Tryz.prog 108 #[.slice none 0 0, f] w fun e w' => e = .returned (.int .i64 (-1)) ∧ w = w' := by
  go_enter Tryz.func108, Tryz.ntmps108
  go_wp2_with fail
  go_loopw [8] (fun i wr => i = .int .i64 0 ∧ wr = w) (fun _ _ => 0)
  case atStart => exact ⟨rfl, rfl⟩
  case round =>
    obtain ⟨rfl, hw⟩ := hrel
    subst hw
    go_wp2
    go_ret
    exact ⟨rfl, rfl⟩
theorem conr_nil (f : Value) (w : World) : Calls Tryz.prog 70 #[.slice none 0 0, f] w fun e w' => e = .returned (.bool false) ∧ w = w' := by
  go_enter Tryz.func70, Tryz.ntmps70
  go_wp2_with (first | (go_at_call 108; ((with_reducible refine (idxr_nil _ _).mono ?_)); rintro e w' ⟨rfl, rfl⟩))
  go_ret
  exact ⟨rfl, rfl⟩
theorem cells_one (w : World) : Calls Tryz.prog 21 #[.int .i64 1] w fun e w' => e = .returned (.int .i64 6) ∧ w = w' := cells_any 1 w
theorem plan_ok (w : World) : Calls Tryz.prog 57 #[planV] w fun e w' => e = .returned (.int .i64 0) ∧ Below w.heap.size w w' := by
  have f1 : ltW 0 4602678819172646912 = true := by decide
  have f2 : ltW 4652218415073722368 4602678819172646912 = false := by decide
  have KC := Lib.hid cells_one
  go_enter Tryz.func57, Tryz.ntmps57
  go_wp2_with (first | (go_at_call 21; ((with_reducible refine (KC.out _).mono ?_)); rintro e w' ⟨rfl, rfl⟩) | (go_at_call 92; ((with_reducible refine (between_ok _ _ _ (by decide) (by decide) (by decide) _).mono ?_)); rintro e w' ⟨rfl, rfl⟩) | (go_at_call 93; ((with_reducible refine (valid_zero _).mono ?_)); rintro e w' ⟨rfl, rfl⟩) | (go_at_call 70; ((with_reducible refine (conr_nil _ _).mono ?_)); rintro e w' ⟨rfl, rfl⟩))
  go_ret
  exact ⟨rfl, ((Below.refl w.heap.size w).alloc (Nat.le_refl _) _).alloc (by simp) _⟩
end Go.Proofs.YtkjjecghbhppgaaGreatDoor
/- A sea that can be. -/
namespace Go.Proofs.YtkjjecghbhppgaaGreatDoor
open Go Go.RowKit Go.Maps TF

attribute [local go_sem] cmp_eq cmp_ne cmp_lt cmp_gt cmp_le cmp_ge run_store_float
set_option maxRecDepth 100000
set_option maxHeartbeats 4000000
def watS (k : Nat) : Int := if k = 0 then 0 else 1398101 + k * 1431655765
theorem watS_ok : ∀ i < 6, 0 ≤ wat i ∧ 0 ≤ watS i ∧ wat i ≤ 4503599627370496 - watS i ∧ watS (i + 1) = watS i + wat i := by decide
theorem idx4_0 (w : World) : (Instr.index 151 (.agg #[.int .i64 6, .int .i64 6, .int .i64 6, .int .i64 6]) (.int .i64 0)).run Tryz.prog w = .ok (.int .i64 6) w := by kernel_rfl
theorem idx4_1 (w : World) : (Instr.index 151 (.agg #[.int .i64 6, .int .i64 6, .int .i64 6, .int .i64 6]) (.int .i64 1)).run Tryz.prog w = .ok (.int .i64 6) w := by kernel_rfl
theorem idx4_2 (w : World) : (Instr.index 151 (.agg #[.int .i64 6, .int .i64 6, .int .i64 6, .int .i64 6]) (.int .i64 2)).run Tryz.prog w = .ok (.int .i64 6) w := by kernel_rfl
theorem idx4_3 (w : World) : (Instr.index 151 (.agg #[.int .i64 6, .int .i64 6, .int .i64 6, .int .i64 6]) (.int .i64 3)).run Tryz.prog w = .ok (.int .i64 6) w := by kernel_rfl
theorem check_ok {bB bW bT bS : Nat} (w : World) (hP : Pond bB bW bT bS (fun _ => 0) w) :
    Calls Tryz.prog 58 #[.int .i64 1, seaV bB bW bT bS] w fun e w' => e = .returned (.tuple #[.int .i64 0, .int .i64 0]) ∧ Below w.heap.size w w' := by
  have KC := Lib.hid cells_one
  have HP := Lib.hid hP
  have k1 := fun (v : World) (h : Pond bB bW bT bS (fun _ => 0) v) => floats_ok 6 bB 4697254411347427328 _ (by decide) rfl (by decide) (by decide) (by omega) v h.lB h.bed
  have k2 := fun (v : World) (h : Pond bB bW bT bS (fun _ => 0) v) => quanta_ok 6 bW wat watS watS_ok (by omega) v h.lW rfl h.wat
  have k3 := fun (v : World) (h : Pond bB bW bT bS (fun _ => 0) v) => quanta_ok 6 bT (fun _ => 0) (fun _ => 0) (by decide) (by omega) v h.lT rfl h.tr
  have k4 := fun (v : World) (h : Pond bB bW bT bS (fun _ => 0) v) => floats_ok 12 bS 4652218415073722368 _ (by decide) rfl (by decide) (by decide) (by omega) v h.lS h.spd
  have KK := Lib.hid (⟨k1, k2, k3, k4⟩ : _ ∧ _ ∧ _ ∧ _)
  clear k1 k2 k3 k4 hP
  have i0 := idx4_0
  have i1 := idx4_1
  have i2 := idx4_2
  have i3 := idx4_3
  go_enter Tryz.func58, Tryz.ntmps58
  go_wp2_with (first | (go_at_call 21; ((with_reducible refine (KC.out _).mono ?_)); rintro e w' ⟨rfl, rfl⟩))
  obtain ⟨W, hW⟩ : ∃ W, W = w.alloc (.cells #[.slice (some ⟨bB, 0, none⟩) 6 6, .slice (some ⟨bW, 0, none⟩) 6 6, .slice (some ⟨bT, 0, none⟩) 6 6, .slice (some ⟨bS, 0, none⟩) 12 12, .int .i64 0, .int .i64 0] 48) := ⟨_, rfl⟩
  have hW0 : Below w.heap.size w W := by rw [hW]; exact (Below.refl w.heap.size w).alloc (Nat.le_refl _) _
  have hz : ∀ v : World, Below W.heap.size W v → v.cell? ⟨w.heap.size, 0, none⟩ = some (.slice (some ⟨bB, 0, none⟩) 6 6) ∧ v.cell? ⟨w.heap.size, 1, none⟩ = some (.slice (some ⟨bW, 0, none⟩) 6 6) ∧ v.cell? ⟨w.heap.size, 2, none⟩ = some (.slice (some ⟨bT, 0, none⟩) 6 6) ∧ v.cell? ⟨w.heap.size, 3, none⟩ = some (.slice (some ⟨bS, 0, none⟩) 12 12) ∧ v.cell? ⟨w.heap.size, 4, none⟩ = some (.int .i64 0) ∧ v.cell? ⟨w.heap.size, 5, none⟩ = some (.int .i64 0) := fun v hv => by
    have hl : w.heap.size < W.heap.size := by rw [hW]; simp
    have k := fun j => (grown_cell (below_gr hv) hl (by simp)).1 j
    refine ⟨(k 0).trans ?_, (k 1).trans ?_, (k 2).trans ?_, (k 3).trans ?_, (k 4).trans ?_, (k 5).trans ?_⟩ <;> (rw [hW]; simp [go_sem])
  obtain ⟨e0, e1, e2, e3, e4, e5⟩ := hz W (Below.refl _ _)
  have HZ := Lib.hid hz
  rw [← hW]
  clear hW hz
  go_loopw [31] (fun i wr => (i = .int .i64 0 ∨ i = .int .i64 1 ∨ i = .int .i64 2 ∨ i = .int .i64 3 ∨ i = .int .i64 4) ∧ wr = W) (fun i _ => 4 - (intOf i).toNat)
  case atStart => exact ⟨.inl rfl, rfl⟩
  case round =>
    obtain ⟨hi, hw⟩ := hrel
    subst hw
    rcases hi with rfl | rfl | rfl | rfl | rfl
    · go_wp2
      go_roundw
      case rel => exact ⟨by simp, by trivial⟩
      case measure => simp [intOf]
    · go_wp2
      go_roundw
      case rel => exact ⟨by simp, by trivial⟩
      case measure => simp [intOf]
    · go_wp2
      go_roundw
      case rel => exact ⟨by simp, by trivial⟩
      case measure => simp [intOf]
    · go_wp2
      go_roundw
      case rel => exact ⟨by simp, by trivial⟩
      case measure => simp [intOf]
    · go_wp2_with (first | (go_at_call 95; ((with_reducible refine (KK.out.1 _ (HP.out.below hW0)).mono ?_)); rintro e w1 ⟨rfl, hV1⟩; obtain ⟨a0, a1, a2, a3, a4, a5⟩ := HZ.out w1 hV1) | (go_at_call 96; ((with_reducible refine (KK.out.2.1 _ (HP.out.below (hW0.trans (hV1.mono hW0.size)))).mono ?_)); rintro e w2 ⟨rfl, hB2⟩; have hV2 := hV1.trans (hB2.mono hV1.size); obtain ⟨b0, b1, b2, b3, b4, b5⟩ := HZ.out w2 hV2) | (go_at_call 96; ((with_reducible refine (KK.out.2.2.1 _ (HP.out.below (hW0.trans (hV2.mono hW0.size)))).mono ?_)); rintro e w3 ⟨rfl, hB3⟩; have hV3 := hV2.trans (hB3.mono hV2.size); obtain ⟨d0, d1, d2, d3, d4, d5⟩ := HZ.out w3 hV3) | (go_at_call 95; ((with_reducible refine (KK.out.2.2.2 _ (HP.out.below (hW0.trans (hV3.mono hW0.size)))).mono ?_)); rintro e w4 ⟨rfl, hB4⟩; have hV4 := hV3.trans (hB4.mono hV3.size); obtain ⟨f0, f1, f2, f3, f4, f5⟩ := HZ.out w4 hV4))
      refine bodyPost_ret (results_tmp2 rfl _ _ _) rfl ?_
      exact ⟨rfl, hW0.trans (hV4.mono hW0.size)⟩
end Go.Proofs.YtkjjecghbhppgaaGreatDoor
/- Whether a step can be made. -/
namespace Go.Proofs.YtkjjecghbhppgaaGreatDoor
open Go Go.RowKit Go.Maps TF

attribute [local go_sem] cmp_eq cmp_ne cmp_lt cmp_gt cmp_le cmp_ge run_store_float
set_option maxRecDepth 100000
set_option maxHeartbeats 4000000
theorem can_ok {bB bW bT bS : Nat} {T : NetT} (w : World) (hN : Net 1 T w) (hP : Pond bB bW bT bS (fun _ => 0) w) :
    Calls Tryz.prog 33 #[.pointer (some ⟨T.g, 0, none⟩), planV, seaV bB bW bT bS] w fun e w' => e = .returned (.int .i64 0) ∧ Below w.heap.size w w' := by
  have KS := Lib.hid (fun w (h : Net 1 T w) => side_net w h)
  have HP := Lib.hid hP
  have HN := Lib.hid hN
  clear hP hN
  go_enter Tryz.func33, Tryz.ntmps33
  go_wp2
  obtain ⟨W, hW⟩ : ∃ W, W = ((w.alloc (Obj.cells #[Value.int IntKind.i64 1, Value.float FloatKind.f64 4602678819172646912, Value.float FloatKind.f64 4607182418800017408, Value.float FloatKind.f64 0, Value.int IntKind.i64 0, Value.bool false, Value.slice none 0 0] 45)).alloc
      (Obj.cells #[Value.slice (some { block := bB, off := 0 }) 6 6, Value.slice (some { block := bW, off := 0 }) 6 6, Value.slice (some { block := bT, off := 0 }) 6 6, Value.slice (some { block := bS, off := 0 }) 12 12, Value.int IntKind.i64 0, Value.int IntKind.i64 0] 48)) := ⟨_, rfl⟩
  have hW0 : Below w.heap.size w W := by rw [hW]; exact ((Below.refl w.heap.size w).alloc (Nat.le_refl _) _).alloc (by simp) _
  have hp : (∀ j v, #[Value.int IntKind.i64 1, Value.float FloatKind.f64 4602678819172646912, Value.float FloatKind.f64 4607182418800017408, Value.float FloatKind.f64 0, Value.int IntKind.i64 0, Value.bool false, Value.slice none 0 0][j]? = some v → W.cell? ⟨w.heap.size, j, none⟩ = some v) ∧
      (∀ j v, #[Value.slice (some { block := bB, off := 0 }) 6 6, Value.slice (some { block := bW, off := 0 }) 6 6, Value.slice (some { block := bT, off := 0 }) 6 6, Value.slice (some { block := bS, off := 0 }) 12 12, Value.int IntKind.i64 0, Value.int IntKind.i64 0][j]? = some v → W.cell? ⟨w.heap.size + 1, j, none⟩ = some v) := by
    rw [hW]
    refine ⟨fun j v h => ?_, fun j v h => ?_⟩
    · rw [World.cell?_alloc_lt _ _ _ (by simp)]
      simpa [World.cell?_alloc_new] using h
    · have e : w.heap.size + 1 = (w.alloc (Obj.cells #[Value.int IntKind.i64 1, Value.float FloatKind.f64 4602678819172646912, Value.float FloatKind.f64 4607182418800017408, Value.float FloatKind.f64 0, Value.int IntKind.i64 0, Value.bool false, Value.slice none 0 0] 45)).heap.size := by simp
      rw [e]
      simpa [World.cell?_alloc_new] using h
  have hl : w.heap.size + 1 < W.heap.size := by rw [hW]; simp
  have hz : ∀ v : World, Below W.heap.size W v → v.cell? ⟨w.heap.size, 0, none⟩ = some (.int .i64 1) ∧ (∀ j v', #[Value.slice (some { block := bB, off := 0 }) 6 6, Value.slice (some { block := bW, off := 0 }) 6 6, Value.slice (some { block := bT, off := 0 }) 6 6, Value.slice (some { block := bS, off := 0 }) 12 12, Value.int IntKind.i64 0, Value.int IntKind.i64 0][j]? = some v' → v.cell? ⟨w.heap.size + 1, j, none⟩ = some v') := fun v hv =>
    ⟨((grown_cell (below_gr hv) (by omega) (by simp)).1 0).trans (hp.1 0 _ rfl), fun j v' h => ((grown_cell (below_gr hv) hl (by simp)).1 j).trans (hp.2 j v' h)⟩
  have HZ := Lib.hid hz
  have HNW := Lib.hid (HN.out.below hW0)
  rw [← hW]
  have p0 := hp.1 0 _ rfl
  have p1 := hp.1 1 _ rfl
  have p2 := hp.1 2 _ rfl
  have p3 := hp.1 3 _ rfl
  have p4 := hp.1 4 _ rfl
  have p5 := hp.1 5 _ rfl
  have p6 := hp.1 6 _ rfl
  clear hW hp hz
  have hqd : ∀ k, Net 1 T (W.drewN k) := fun k => HNW.out.below (below_drewN (Below.refl _ _) k)
  have hqs : ∀ k, Calls Tryz.prog 8 #[.pointer (some ⟨T.g, 0, none⟩)] (W.drewN k) fun e w' => e = .returned (.int .i64 1) ∧ w' = W.drewN k := fun k => (side_net _ (hqd k)).mono fun _ _ h => ⟨h.1, h.2.symm⟩
  have HQS := Lib.hid hqs
  clear hqd hqs
  go_quiet ((go_at_call 8; exact Calls.quiet_of_same (HQS.out _)))
  go_wp2_with (first | (go_at_call 57; ((with_reducible refine (plan_ok _).mono ?_)); rintro e w1 ⟨rfl, hB1⟩; have hX1 : Below W.heap.size W w1 := (below_drewN (Below.refl _ _) _).trans hB1; have hV1 := hW0.trans (hX1.mono hW0.size); obtain ⟨q0, q1⟩ := HZ.out w1 hX1) | (go_at_call 58; ((with_reducible refine (check_ok _ (HP.out.below hV1)).mono ?_)); rintro e w2 ⟨rfl, hB2⟩; have hV2 := hV1.trans (hB2.mono hV1.size)))
  go_ret
  exact ⟨rfl, hV2⟩
end Go.Proofs.YtkjjecghbhppgaaGreatDoor
/- Forces: what fits. -/
namespace Go.Proofs.YtkjjecghbhppgaaGreatDoor
open Go Go.RowKit Go.Maps TF

attribute [local go_sem] cmp_eq cmp_ne cmp_lt cmp_gt cmp_le cmp_ge run_store_float
set_option maxRecDepth 100000
set_option maxHeartbeats 4000000
theorem cells_1 {T : NetT} (w : World) (h : Net 1 T w) : Calls Tryz.prog 6 #[.pointer (some ⟨T.g, 0, none⟩)] w fun e w' => e = .returned (.int .i64 6) ∧ w' = w :=
  (cells_net ⟨by decide, by decide⟩ w h).mono fun _ _ h => ⟨h.1, h.2.symm⟩
theorem edges_1 {T : NetT} (w : World) (h : Net 1 T w) : Calls Tryz.prog 7 #[.pointer (some ⟨T.g, 0, none⟩)] w fun e w' => e = .returned (.int .i64 12) ∧ w' = w :=
  (edges_net ⟨by decide, by decide⟩ w h).mono fun _ _ h => ⟨by rw [h.1, EL_length ⟨by decide, by decide⟩]; rfl, h.2.symm⟩
theorem sea_cells (w : World) (bB bW bT bS : Nat) (k : Nat) : (#[Value.slice (some { block := bB, off := 0 }) 6 6, Value.slice (some { block := bW, off := 0 }) 6 6, Value.slice (some { block := bT, off := 0 }) 6 6, Value.slice (some { block := bS, off := 0 }) 12 12, Value.int IntKind.i64 0, Value.int IntKind.i64 0][k]? = (w.alloc (Obj.cells #[Value.slice (some { block := bB, off := 0 }) 6 6, Value.slice (some { block := bW, off := 0 }) 6 6, Value.slice (some { block := bT, off := 0 }) 6 6, Value.slice (some { block := bS, off := 0 }) 12 12, Value.int IntKind.i64 0, Value.int IntKind.i64 0] 48)).cell? ⟨w.heap.size, k, none⟩) := by
  simp [World.cell?_alloc_new]
theorem fits_ok {bB bW bT bS : Nat} {T : NetT} (w : World) (hN : Net 1 T w) :
    Calls Tryz.prog 97 #[.pointer (some ⟨T.g, 0, none⟩), seaV bB bW bT bS] w fun e w' => e = .returned (.bool true) ∧ Below w.heap.size w w' := by
  obtain ⟨W, hW⟩ : ∃ W, W = w.alloc (Obj.cells #[Value.slice (some { block := bB, off := 0 }) 6 6, Value.slice (some { block := bW, off := 0 }) 6 6, Value.slice (some { block := bT, off := 0 }) 6 6, Value.slice (some { block := bS, off := 0 }) 12 12, Value.int IntKind.i64 0, Value.int IntKind.i64 0] 48) := ⟨_, rfl⟩
  have hW0 : Below w.heap.size w W := by rw [hW]; exact (Below.refl w.heap.size w).alloc (Nat.le_refl _) _
  have HN := Lib.hid (hN.below hW0)
  have KC := Lib.hid (cells_1 W HN.out)
  have hqs : ∀ k, Calls Tryz.prog 7 #[.pointer (some ⟨T.g, 0, none⟩)] (W.drewN k) fun e w' => e = .returned (.int .i64 12) ∧ w' = W.drewN k := fun k => edges_1 _ (HN.out.below (below_drewN (Below.refl _ _) k))
  have HQS := Lib.hid hqs
  have e := fun k => hW ▸ (sea_cells w bB bW bT bS k)
  have e0 : W.cell? ⟨w.heap.size, 0, none⟩ = some (.slice (some ⟨bB, 0, none⟩) 6 6) := (e 0).symm
  have e1 : W.cell? ⟨w.heap.size, 1, none⟩ = some (.slice (some ⟨bW, 0, none⟩) 6 6) := (e 1).symm
  have e2 : W.cell? ⟨w.heap.size, 2, none⟩ = some (.slice (some ⟨bT, 0, none⟩) 6 6) := (e 2).symm
  have e3 : W.cell? ⟨w.heap.size, 3, none⟩ = some (.slice (some ⟨bS, 0, none⟩) 12 12) := (e 3).symm
  clear hqs hN e
  go_enter Tryz.func97, Tryz.ntmps97
  go_wp2_with fail
  rw [← hW]
  clear hW
  go_wp2_with (first | (go_at_call 6; ((with_reducible refine (KC.out).mono ?_)); rintro e w' ⟨rfl, rfl⟩))
  go_quiet ((go_at_call 7; exact Calls.quiet_of_same (HQS.out _)))
  go_wp2
  go_ret
  exact ⟨rfl, below_drewN hW0 _⟩
end Go.Proofs.YtkjjecghbhppgaaGreatDoor
/- Forces: a cell of the pond. -/
namespace Go.Proofs.YtkjjecghbhppgaaGreatDoor
open Go Go.RowKit Go.Maps TF

attribute [local go_sem] cmp_eq cmp_ne cmp_lt cmp_gt cmp_le cmp_ge run_store_float
set_option maxRecDepth 100000
set_option maxHeartbeats 4000000
theorem wat_lt (x : Nat) : 0 < wat x ∧ wat x ≤ 1433053866 := by unfold wat; split <;> omega
theorem depth_1 (x : Nat) (hx : x < 6) (w : World) : Calls Tryz.prog 77 #[.int .i64 (wat x), .int .i64 1431655765] w fun e w' => e = .returned (.float .f64 (dep x)) ∧ w' = w := by
  have h := depth_any (wat x) 1431655765 (by have := wat_lt x; omega) (by omega) w
  rw [pdep_is x hx] at h
  exact h.mono fun _ _ h => ⟨h.1, h.2.symm⟩
theorem lev_add : ∀ x < 6, floatBits .add .f64 0 (dep x) = some (dep x) ∧ canonW (dep x) = dep x := by decide +kernel
theorem level_1 (x : Nat) (hx : x < 6) (w : World) : Calls Tryz.prog 132 #[.float .f64 0, .int .i64 (wat x), .int .i64 1431655765] w fun e w' => e = .returned (.float .f64 (dep x)) ∧ w' = w := by
  have KD := Lib.hid (depth_1 x hx)
  obtain ⟨g2, g3⟩ := lev_add x hx
  have k1 := run_valid (P := Tryz.prog) 35 g2
  have hc := canon_any (dep x) w
  rw [g3] at hc
  have KC := Lib.hid hc
  clear g2 g3 hc
  generalize dep x = d at KD KC k1 ⊢
  generalize wat x = a at KD ⊢
  go_enter Tryz.func132, Tryz.ntmps132
  go_wp2_with (first | (go_at_call 77; ((with_reducible refine (KD.out w).mono ?_)); rintro e w' ⟨rfl, rfl⟩) | (go_at_call 51; ((with_reducible refine (KC.out).mono ?_)); rintro e w' ⟨rfl, rfl⟩))
  go_ret
  exact ⟨rfl, rfl⟩
theorem area_1 {T : NetT} (x : Nat) (hx : x < 6) (w : World) (h : Net 1 T w) : Calls Tryz.prog 16 #[.pointer (some ⟨T.g, 0, none⟩), .int .i64 x] w fun e w' => e = .returned (.int .i64 1431655765) ∧ w' = w :=
  (area_net ⟨by decide, by decide⟩ (by omega) w h).mono fun _ _ h => ⟨by rw [h.1, ga1 x hx], h.2.symm⟩
theorem Pond.more {bB bW bT bS : Nat} {sp : Nat → Nat} {w w' : World} {B : Nat} (h : Pond bB bW bT bS sp w) (hw : w.heap.size = B) (hB : Below B w w') : Pond bB bW bT bS sp w' := by subst hw; exact h.below hB
theorem look_ok {bB bW bT bS : Nat} {sp : Nat → Nat} {T : NetT} (x : Nat) (hx : x < 6) (w : World) (hN : Net 1 T w) (hP : Pond bB bW bT bS sp w) :
    Calls Tryz.prog 151 #[.pointer (some ⟨T.g, 0, none⟩), seaV bB bW bT bS, .int .i64 x] w fun e w' => e = .returned (.agg #[.float .f64 0, .float .f64 (dep x), .float .f64 (dep x), .bool true]) ∧ Below w.heap.size w w' := by
  have hi0 : (0 : Int) ≤ (x : Int) := by omega
  have hi1 : (x : Int) < 6 := by omega
  have hi2 : (x : Int).toNat = x := by omega
  have hp : decide (0 < wat x) = true := decide_eq_true (wat_lt x).1
  have HD := Lib.hid (depth_1 x hx)
  have HL := Lib.hid (level_1 x hx)
  go_enter Tryz.func151, Tryz.ntmps151
  go_wp2_with fail
  obtain ⟨W, hW⟩ : ∃ W, W = ((w.alloc (Obj.cells #[Value.slice (some { block := bB, off := 0 }) 6 6, Value.slice (some { block := bW, off := 0 }) 6 6, Value.slice (some { block := bT, off := 0 }) 6 6, Value.slice (some { block := bS, off := 0 }) 12 12, Value.int IntKind.i64 0, Value.int IntKind.i64 0] 48)).alloc (Obj.cells #[Value.float FloatKind.f64 0, Value.float FloatKind.f64 0, Value.float FloatKind.f64 0, Value.bool false] 177)) := ⟨_, rfl⟩
  have hW0 : Below w.heap.size w W := by rw [hW]; exact ((Below.refl w.heap.size w).alloc (Nat.le_refl _) _).alloc (by simp) _
  have KA := Lib.hid ((area_1 x hx W (hN.below hW0)).mono fun _ _ h => (⟨h.1, h.2.symm⟩ : _ ∧ W = _))
  have hPW := hP.below hW0
  have pB := hPW.bed x hx
  have pW := hPW.wat x hx
  have e0 : W.cell? ⟨w.heap.size, 0, none⟩ = some (.slice (some ⟨bB, 0, none⟩) 6 6) := by rw [hW]; simp [go_sem]
  have e1 : W.cell? ⟨w.heap.size, 1, none⟩ = some (.slice (some ⟨bW, 0, none⟩) 6 6) := by rw [hW]; simp [go_sem]
  have HW := Lib.hid hW
  rw [← hW]
  clear hW hPW hP hN
  have HW0 := Lib.hid hW0
  clear hW0
  go_wp2_with (first | (go_at_call 16; ((with_reducible refine (KA.out).mono ?_)); rintro e w' ⟨rfl, rfl⟩))
  go_still_tail 31, (by kernel_rfl)
  still_call (HD.out _)
  repeat still_step
  still_call (HL.out _)
  repeat still_step
  refine wpStill_nil ?_
  change wpList _ _ _ _ _ (World.drew W)
  have hW := HW.out
  clear pB pW e0 e1
  subst hW
  go_wp2
  exact bodyPost_ret (v := .agg #[.float .f64 0, .float .f64 (dep x), .float .f64 (dep x), .bool true]) (by simp [results, Tryz.results151, go_sem]) rfl ⟨rfl, by
    repeat' (first | exact HW0.out | exact Below.refl _ _ | refine Below.setCell ?_ (by simp) _ | refine Below.drew ?_ | (refine Below.alloc ?_ (by simp) _))⟩
end Go.Proofs.YtkjjecghbhppgaaGreatDoor
/- Slices that are made, of lengths that are written out. -/
namespace Go.Proofs.YtkjjecghbhppgaaGreatDoor
open Go Go.RowKit Go.Maps TF

theorem make_i4 (w : World) : (Instr.makeSlice 46 (.int .i64 4) (.int .i64 4)).run Tryz.prog w = .ok (.slice (some ⟨w.heap.size, 0, none⟩) 4 4) (w.alloc (.cells #[Value.int IntKind.i64 0, Value.int IntKind.i64 0, Value.int IntKind.i64 0, Value.int IntKind.i64 0] 2)) := by kernel_rfl
theorem make_i6 (w : World) : (Instr.makeSlice 46 (.int .i64 6) (.int .i64 6)).run Tryz.prog w = .ok (.slice (some ⟨w.heap.size, 0, none⟩) 6 6) (w.alloc (.cells #[Value.int IntKind.i64 0, Value.int IntKind.i64 0, Value.int IntKind.i64 0, Value.int IntKind.i64 0, Value.int IntKind.i64 0, Value.int IntKind.i64 0] 2)) := by kernel_rfl
theorem make_i12 (w : World) : (Instr.makeSlice 46 (.int .i64 12) (.int .i64 12)).run Tryz.prog w = .ok (.slice (some ⟨w.heap.size, 0, none⟩) 12 12) (w.alloc (.cells #[Value.int IntKind.i64 0, Value.int IntKind.i64 0, Value.int IntKind.i64 0, Value.int IntKind.i64 0, Value.int IntKind.i64 0, Value.int IntKind.i64 0, Value.int IntKind.i64 0, Value.int IntKind.i64 0, Value.int IntKind.i64 0, Value.int IntKind.i64 0, Value.int IntKind.i64 0, Value.int IntKind.i64 0] 2)) := by kernel_rfl
theorem make_f6 (w : World) : (Instr.makeSlice 38 (.int .i64 6) (.int .i64 6)).run Tryz.prog w = .ok (.slice (some ⟨w.heap.size, 0, none⟩) 6 6) (w.alloc (.cells #[Value.float FloatKind.f64 0, Value.float FloatKind.f64 0, Value.float FloatKind.f64 0, Value.float FloatKind.f64 0, Value.float FloatKind.f64 0, Value.float FloatKind.f64 0] 35)) := by kernel_rfl
theorem make_f12 (w : World) : (Instr.makeSlice 38 (.int .i64 12) (.int .i64 12)).run Tryz.prog w = .ok (.slice (some ⟨w.heap.size, 0, none⟩) 12 12) (w.alloc (.cells #[Value.float FloatKind.f64 0, Value.float FloatKind.f64 0, Value.float FloatKind.f64 0, Value.float FloatKind.f64 0, Value.float FloatKind.f64 0, Value.float FloatKind.f64 0, Value.float FloatKind.f64 0, Value.float FloatKind.f64 0, Value.float FloatKind.f64 0, Value.float FloatKind.f64 0, Value.float FloatKind.f64 0, Value.float FloatKind.f64 0] 35)) := by kernel_rfl
theorem make_w6 (w : World) : (Instr.makeSlice 120 (.int .i64 6) (.int .i64 6)).run Tryz.prog w = .ok (.slice (some ⟨w.heap.size, 0, none⟩) 6 6) (w.alloc (.cells #[Value.int IntKind.u64 0, Value.int IntKind.u64 0, Value.int IntKind.u64 0, Value.int IntKind.u64 0, Value.int IntKind.u64 0, Value.int IntKind.u64 0, Value.int IntKind.u64 0, Value.int IntKind.u64 0, Value.int IntKind.u64 0, Value.int IntKind.u64 0, Value.int IntKind.u64 0, Value.int IntKind.u64 0] 122)) := by kernel_rfl

/-- whole numbers, floats that lie in a row -/
def IW (w : World) (b n : Nat) (f : Nat → Int) : Prop := ∀ i < n, w.cell? ⟨b, i, none⟩ = some (.int .i64 (f i))
def FW (w : World) (b n : Nat) (f : Nat → Nat) : Prop := ∀ i < n, w.cell? ⟨b, i, none⟩ = some (.float .f64 (f i))
theorem IW.below {w w' : World} {b n : Nat} {f : Nat → Int} (h : IW w b n f) (hl : b < w.heap.size) (hB : Below w.heap.size w w') : IW w' b n f :=
  fun i hi => (hB.cell (p := ⟨b, i, none⟩) hl).trans (h i hi)
theorem FW.below {w w' : World} {b n : Nat} {f : Nat → Nat} (h : FW w b n f) (hl : b < w.heap.size) (hB : Below w.heap.size w w') : FW w' b n f :=
  fun i hi => (hB.cell (p := ⟨b, i, none⟩) hl).trans (h i hi)
/-- one more of them is stored -/
theorem IW.set {w : World} {b n : Nat} {f : Nat → Int} (h : IW w b n f) (j : Nat) (x : Int) : IW (w.setCell ⟨b, j, none⟩ (.int .i64 x)) b n (fun i => if i = j then x else f i) := fun i hi => by
  dsimp only
  by_cases e : i = j
  · subst e; rw [if_pos rfl]; exact World.cell?_setCell_same w _ _ (h i hi)
  · rw [if_neg e, World.cell?_setCell_other _ _ _ _ (by intro e2; injection e2 with _ e3; exact e e3.symm)]; exact h i hi
theorem FW.set {w : World} {b n : Nat} {f : Nat → Nat} (h : FW w b n f) (j : Nat) (x : Nat) : FW (w.setCell ⟨b, j, none⟩ (.float .f64 x)) b n (fun i => if i = j then x else f i) := fun i hi => by
  dsimp only
  by_cases e : i = j
  · subst e; rw [if_pos rfl]; exact World.cell?_setCell_same w _ _ (h i hi)
  · rw [if_neg e, World.cell?_setCell_other _ _ _ _ (by intro e2; injection e2 with _ e3; exact e e3.symm)]; exact h i hi
theorem IW.far {w : World} {b n : Nat} {f : Nat → Int} (h : IW w b n f) (a : Addr) (u : Value) (hb : a.block ≠ b) : IW (w.setCell a u) b n f := fun i hi => by
  rw [World.cell?_setCell_other _ _ _ _ (by intro e; exact hb (by rw [e]))]; exact h i hi
theorem IW.same {w : World} {b n : Nat} {f g : Nat → Int} (h : IW w b n f) (e : ∀ i < n, f i = g i) : IW w b n g := fun i hi => by rw [← e i hi]; exact h i hi
theorem FW.same {w : World} {b n : Nat} {f g : Nat → Nat} (h : FW w b n f) (e : ∀ i < n, f i = g i) : FW w b n g := fun i hi => by rw [← e i hi]; exact h i hi
end Go.Proofs.YtkjjecghbhppgaaGreatDoor
/- Two floats against themselves; a net that is refused; makes of letters' lengths. -/
namespace Go.Proofs.YtkjjecghbhppgaaGreatDoor
open Go Go.RowKit Go.Maps TF

set_option maxRecDepth 100000
set_option maxHeartbeats 8000000
theorem new_bad (side : Int) (h : goodB side = false) (w : World) : Calls Tryz.prog 5 #[.int .i64 side] w fun e w' => e = .returned (.tuple #[.pointer none, .int .i64 10]) ∧ w = w' := by
  have hc : cellsI side = 0 := by unfold cellsI; rw [h]; rfl
  have kc := cells_any side w
  rw [hc] at kc
  have KC := Lib.hid kc
  clear kc hc h
  go_enter Tryz.func5, Tryz.ntmps5
  go_wp2_with (first | (go_at_call 21; ((with_reducible refine (KC.out).mono ?_)); rintro e w' ⟨rfl, rfl⟩))
  refine bodyPost_ret (results_tmp2 rfl _ _ _) rfl ?_
  exact ⟨rfl, rfl⟩
/-- a row of these two floats -/
def FA (a b : Nat) (v : World) (x : Nat) : Prop := FW v x 2 (fun i => if i = 0 then a else b) ∧ x < v.heap.size
theorem FA.call {a b x : Nat} {v v' : World} (h : FA a b v x) (hB : Below v.heap.size v v') : FA a b v' x := ⟨h.1.below h.2 hB, Nat.lt_of_lt_of_le h.2 hB.size⟩
theorem fa_new {a b x : Nat} {v : World} (hx : x = v.heap.size) : FA a b (v.alloc (.cells #[Value.float FloatKind.f64 a, Value.float FloatKind.f64 b] 35)) x := by
  subst hx
  refine ⟨fun i hi => ?_, by simp⟩
  obtain rfl | rfl : i = 0 ∨ i = 1 := by omega
  all_goals simp [go_sem]
theorem fa_alloc {a b x : Nat} {v : World} {o : Obj} (h : FA a b v x) : FA a b (v.alloc o) x := h.call ((Below.refl _ _).alloc (Nat.le_refl _) o)
theorem fa_step {a b x : Nat} {v v' : World} (h : ∀ x, FA a b v x → FA a b v' x) (hx : FA a b v x) : FA a b v' x := h x hx
theorem same_ok (a b x y : Nat) (w : World) (h1 : FA a b w x) (h2 : FA a b w y) :
    Calls Tryz.prog 13 #[.slice (some ⟨x, 0, none⟩) 2 2, .slice (some ⟨y, 0, none⟩) 2 2] w fun e w' => e = .returned (.bool true) ∧ Below w.heap.size w w' := by
  have H1 := Lib.hid h1
  have H2 := Lib.hid h2
  clear h1 h2
  go_enter Tryz.func13, Tryz.ntmps13
  go_wp2_with fail
  go_loopw [13] (fun i wr => ∃ k : Nat, k ≤ 2 ∧ i = .int .i64 k ∧ Below w.heap.size w wr) (fun i _ => 2 - (intOf i).toNat)
  case atStart => exact ⟨0, by omega, rfl, Below.refl _ _⟩
  case round =>
    obtain ⟨k, hk, rfl, hb⟩ := hrel
    by_cases hlt : k < 2
    · have c1 := (H1.out.call hb).1 k hlt
      have c2 := (H2.out.call hb).1 k hlt
      dsimp only at c1 c2
      generalize (if k = 0 then a else b) = z at c1 c2
      have k1 := run_f64bits
      have hk1 : (0 : Int) ≤ (k : Int) := by omega
      have hk2 : (k : Int) < 2 := by omega
      have hk3 : (k : Int).toNat = k := by omega
      have hkd : decide ((k : Int) < 2) = true := decide_eq_true (by omega)
      have HB := Lib.hid hb
      clear hb
      go_upto_region 6 with fail
      go_quiet (fail)
      have hZ := HB.out.trans ((below_drewN (Below.refl wr.heap.size wr) nq).mono HB.out.size)
      have HZ := Lib.hid hZ
      clear hZ c1 c2 HB
      generalize wr.drewN nq = wz at HZ ⊢
      go_wp2_with fail
      go_roundw
      case rel => exact ⟨k + 1, by omega, by go_num, HZ.out⟩
      case measure => simp [intOf]; omega
    · have hE : k = 2 := by omega
      subst hE
      go_wp2
      go_ret
      exact ⟨rfl, hb⟩
theorem info_int : (Tryz.prog.info? 3).map (fun i => (i.zero, i.size, i.bytes)) = some (some (.int .i64 0), 1, 8) := by kernel_rfl
theorem make_n (C : Nat) (hC : C ≤ 6144) (w : World) : (Instr.makeSlice 28 (.int .i64 C) (.int .i64 C)).run Tryz.prog w = .ok (.slice (some ⟨w.heap.size, 0, none⟩) C C) (w.alloc (.cells (madeCells #[.int .i64 0] C) 3)) := by
  obtain ⟨i, hi, hz0, hz1, hz2⟩ := info_parts info_int
  have h := run_make (P := Tryz.prog) w 28 3 i (.int .i64 0) Tryz.underlying28 hi hz0 .i64 .i64 (C : Int) (C : Int) (by omega) (Int.le_refl _) (by rw [hz2]; omega) (by omega)
  rw [Int.toNat_natCast, hz1, Nat.mul_one] at h
  exact h
theorem made_zero (C : Nat) (w : World) : IW (w.alloc (.cells (madeCells #[.int .i64 0] C) 3)) w.heap.size C (fun _ => 0) := fun i hi => by
  rw [World.cell?_alloc_new]
  show (madeCells #[.int .i64 0] C)[i]? = _
  unfold madeCells
  rw [Array.getElem?_map, Array.getElem?_range, if_pos hi]
  show some ((#[Value.int .i64 0] : Array Value)[i % 1]!) = _
  rw [Nat.mod_one]
  rfl
end Go.Proofs.YtkjjecghbhppgaaGreatDoor
