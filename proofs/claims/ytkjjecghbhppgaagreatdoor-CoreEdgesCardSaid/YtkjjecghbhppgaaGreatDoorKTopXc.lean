/- Does a sea that isn't level move? -/
import Derived.Test.YtkjjecghbhppgaaGreatDoorKTopXa
import Derived.Test.YtkjjecghbhppgaaGreatDoorKTopXb
import Derived.Test.YtkjjecghbhppgaaGreatDoorKTopW
import Derived.BigQuiet
import Derived.Deep.QuietTactic
namespace Go.Proofs.YtkjjecghbhppgaaGreatDoor
open Go Go.RowKit Go.Maps TF

attribute [local go_sem] cmp_eq cmp_ne cmp_lt cmp_gt cmp_le cmp_ge run_store_float
set_option maxRecDepth 100000
set_option maxHeartbeats 8000000
theorem new_one (w : World) (hF : Fr w) (hG : FrG w) : Calls Tryz.prog 5 #[.int .i64 1] w fun e w' => ∃ T : NetT, e = .returned (.tuple #[.pointer (some ⟨T.g, 0, none⟩), .int .i64 0]) ∧ Below w.heap.size w w' ∧ Net 1 T w' :=
  new_any (n := 1) ⟨by decide, by decide⟩ w hF hG
theorem moves_ok (w : World) (hF : Fr w) (hG : FrG w) : Calls Tryz.prog 4 #[] w fun e w' => e = .returned (.bool true) ∧ Below w.heap.size w w' := by
  have KN := Lib.hid new_one
  have HF := Lib.hid hF
  have HG := Lib.hid hG
  clear hF hG
  go_enter Tryz.func4, Tryz.ntmps4
  go_upto_region 2 with (first | (go_at_call 18; ((with_reducible refine (pond_ok _ HG.out).mono ?_)); rintro e w1 ⟨bB, bW, bT, bS, rfl, hB1, hP1⟩))
  have hV1 : Below w.heap.size w w1 := hB1
  have hs1 := hB1.size
  go_upto_region 3 with (first | (go_at_call 5; ((with_reducible refine (KN.out _ (HF.out.below (by (repeat' (first | with_reducible assumption | with_reducible exact Nat.le_refl _ | with_reducible refine Below.setCell ?_ ?_ _ | with_reducible refine Below.drew ?_ | with_reducible refine Below.alloc ?_ ?_ _ | with_reducible exact Below.refl _ _ | omega | (simp; done) | (simp; omega))))) (HG.out.below (by (repeat' (first | with_reducible assumption | with_reducible exact Nat.le_refl _ | with_reducible refine Below.setCell ?_ ?_ _ | with_reducible refine Below.drew ?_ | with_reducible refine Below.alloc ?_ ?_ _ | with_reducible exact Below.refl _ _ | omega | (simp; done) | (simp; omega)))))).mono ?_)); rintro e w2 ⟨T, rfl, hB2, hN2⟩))
  have hA := (Held.start (w0 := w) (fun _ => false) (by (repeat' (first | with_reducible assumption | with_reducible exact Nat.le_refl _ | with_reducible refine Below.setCell ?_ ?_ _ | with_reducible refine Below.drew ?_ | with_reducible refine Below.alloc ?_ ?_ _ | with_reducible exact Below.refl _ _ | omega | (simp; done) | (simp; omega))) : Below w.heap.size w ((w1.alloc (Obj.cells #[Value.int IntKind.i64 1, Value.float FloatKind.f64 4602678819172646912, Value.float FloatKind.f64 4607182418800017408, Value.float FloatKind.f64 0, Value.int IntKind.i64 0, Value.bool false, Value.slice none 0 0] 45)).alloc (Obj.cells #[Value.slice (some { block := bB, off := 0 }) 6 6, Value.slice (some { block := bW, off := 0 }) 6 6, Value.slice (some { block := bT, off := 0 }) 6 6, Value.slice (some { block := bS, off := 0 }) 12 12, Value.int IntKind.i64 0, Value.int IntKind.i64 0] 48)))).call hB2
  have hz : w1.heap.size + 1 < w2.heap.size := by have := hB2.size; simp at this; omega
  have hP2 : Pond bB bW bT bS (fun _ => 0) w2 := (hP1.below ((Below.refl _ _).alloc (Nat.le_refl _) _ |>.alloc (by simp) _)).more rfl hB2
  have hps : (∀ j u, #[Value.int IntKind.i64 1, Value.float FloatKind.f64 4602678819172646912, Value.float FloatKind.f64 4607182418800017408, Value.float FloatKind.f64 0, Value.int IntKind.i64 0, Value.bool false, Value.slice none 0 0][j]? = some u → w2.cell? ⟨w1.heap.size, j, none⟩ = some u) ∧
      (∀ j u, #[Value.slice (some { block := bB, off := 0 }) 6 6, Value.slice (some { block := bW, off := 0 }) 6 6, Value.slice (some { block := bT, off := 0 }) 6 6, Value.slice (some { block := bS, off := 0 }) 12 12, Value.int IntKind.i64 0, Value.int IntKind.i64 0][j]? = some u → w2.cell? ⟨w1.heap.size + 1, j, none⟩ = some u) := by
    refine ⟨fun j u e => ?_, fun j u e => ?_⟩
    · refine (hA.cell _ j (by first | exact Nat.le_refl _ | omega | (simp; done) | (simp; omega)) rfl).trans ?_
      rw [World.cell?_alloc_lt _ _ _ (by simp)]; simpa [World.cell?_alloc_new] using e
    · refine (hA.cell _ j (by first | exact Nat.le_refl _ | omega | (simp; done) | (simp; omega)) rfl).trans ?_
      have e2 : w1.heap.size + 1 = (w1.alloc (Obj.cells #[Value.int IntKind.i64 1, Value.float FloatKind.f64 4602678819172646912, Value.float FloatKind.f64 4607182418800017408, Value.float FloatKind.f64 0, Value.int IntKind.i64 0, Value.bool false, Value.slice none 0 0] 45)).heap.size := by simp
      rw [e2]; simpa [World.cell?_alloc_new] using e
  have hV2 := hA.bel
  generalize w1.heap.size = pb at hps hz ⊢
  have s1 := hps.2 1 _ rfl
  have c0 : w2.cell? ⟨bW, 0, none⟩ = some (.int .i64 1433053866) := hP2.wat 0 (by omega)
  have c1 : w2.cell? ⟨bW, 1, none⟩ = some (.int .i64 1431655765) := hP2.wat 1 (by omega)
  clear hA hB1 hB2 hP1 hV1 HF KN
  go_quiet (fail)
  have hD : Below w2.heap.size w2 (w2.drewN nq) := below_drewN (Below.refl _ _) _
  have hH := (Held.start (w0 := w) (fun _ => false) hV2).call hD
  have HN3 := Lib.hid (hN2.below hD)
  have HP3 := Lib.hid (hP2.below hD)
  generalize w2.drewN nq = w3 at hH hD HN3 HP3 ⊢
  have p0 := (hH.cell pb 0 (by omega) rfl).trans (hps.1 0 _ rfl)
  have p1 := (hH.cell pb 1 (by omega) rfl).trans (hps.1 1 _ rfl)
  have p2 := (hH.cell pb 2 (by omega) rfl).trans (hps.1 2 _ rfl)
  have p3 := (hH.cell pb 3 (by omega) rfl).trans (hps.1 3 _ rfl)
  have p4 := (hH.cell pb 4 (by omega) rfl).trans (hps.1 4 _ rfl)
  have p5 := (hH.cell pb 5 (by omega) rfl).trans (hps.1 5 _ rfl)
  have p6 := (hH.cell pb 6 (by omega) rfl).trans (hps.1 6 _ rfl)
  have t0 := (hH.cell (pb + 1) 0 (by omega) rfl).trans (hps.2 0 _ rfl)
  have t1 := (hH.cell (pb + 1) 1 (by omega) rfl).trans (hps.2 1 _ rfl)
  have t2 := (hH.cell (pb + 1) 2 (by omega) rfl).trans (hps.2 2 _ rfl)
  have t3 := (hH.cell (pb + 1) 3 (by omega) rfl).trans (hps.2 3 _ rfl)
  have t4 := (hH.cell (pb + 1) 4 (by omega) rfl).trans (hps.2 4 _ rfl)
  have t5 := (hH.cell (pb + 1) 5 (by omega) rfl).trans (hps.2 5 _ rfl)
  have hV3 := hH.bel
  have hz3 : pb + 1 < w3.heap.size := Nat.lt_of_lt_of_le hz hD.size
  clear hps s1 c0 c1 hH hD hN2 hP2 hV2 hz
  go_upto_region 6 with (first | (go_at_call 19; ((with_reducible refine (one_ok _ HN3.out HP3.out).mono ?_)); rintro e w4 ⟨A0, k0, A, cap, A2, b1, rfl, hB4, hb1, hown⟩))
  clear p0 p1 p2 p3 p4 p5 p6 t0 t2 t3 t4 t5
  obtain ⟨bA, off, rfl, -, -, hbl, hc0, -⟩ := hown 0 (by omega)
  rw [show lw wat flo 12 0 = 1432196870 by decide, Nat.add_zero] at hc0
  obtain ⟨W, hW⟩ : ∃ W, W = w4.alloc (Obj.cells #[Value.slice A0 6 k0, Value.slice (some { block := bA, off := off }) 6 cap, Value.slice A2 6 6, Value.slice (some { block := b1, off := 0 }) 12 12, Value.int IntKind.i64 0, Value.int IntKind.i64 1] 48) := ⟨_, rfl⟩
  have hB5 : Below w4.heap.size w4 W := by rw [hW]; exact (Below.refl _ _).alloc (Nat.le_refl _) _
  have a1 : W.cell? ⟨w4.heap.size, 1, none⟩ = some (.slice (some ⟨bA, off, none⟩) 6 cap) := by rw [hW]; simp [go_sem]
  have a3 : W.cell? ⟨w4.heap.size, 3, none⟩ = some (.slice (some ⟨b1, 0, none⟩) 12 12) := by rw [hW]; simp [go_sem]
  have a5 : W.cell? ⟨w4.heap.size, 5, none⟩ = some (.int .i64 1) := by rw [hW]; simp [go_sem]
  have hWs : w4.heap.size < W.heap.size := by rw [hW]; simp
  have c0 : W.cell? ⟨bA, off, none⟩ = some (.int .i64 1432196870) := (hB5.cell (p := ⟨bA, off, none⟩) hbl).trans hc0
  have d1 : W.cell? ⟨pb + 1, 1, none⟩ = some (.slice (some ⟨bW, 0, none⟩) 6 6) := (hB5.cell (p := ⟨pb + 1, 1, none⟩) (Nat.lt_of_lt_of_le hz3 hB4.size)).trans ((hB4.cell (p := ⟨pb + 1, 1, none⟩) hz3).trans t1)
  have hP5 := (HP3.out.below hB4).below hB5
  have d2 : W.cell? ⟨bW, 0, none⟩ = some (.int .i64 1433053866) := hP5.wat 0 (by omega)
  have hN5 := (HN3.out.below hB4).below hB5
  have hV5 : Below w.heap.size w W := (hV3.trans (hB4.mono hV3.size)).trans (hB5.mono (Nat.le_trans hV3.size hB4.size))
  have hs5 : FW W b1 12 spd := hb1.2.2.below hb1.2.1 hB5
  have hl5 : b1 < W.heap.size := Nat.lt_of_lt_of_le hb1.2.1 hB5.size
  have H5 := Lib.hid (⟨hN5, hV5, hs5, hl5⟩ : _ ∧ _ ∧ _ ∧ _)
  rw [← hW]
  generalize w4.heap.size = tb at a1 a3 a5 hWs ⊢
  clear hW hB5 hb1 hown hbl hc0 t1 hP5 hN5 hV5 hs5 hl5 hV3 hz3 HN3 HP3 hB4
  go_quiet (fail)
  have hX : Below W.heap.size W (W.drewN nq) := below_drewN (Below.refl _ _) _
  generalize W.drewN nq = W6 at hX ⊢
  have HH := Lib.hid hX
  have A3 := Lib.hid a3
  clear hX a1 a3 a5 c0 d1 d2
  go_wp2_with fail
  go_loopw [6] (fun i wr => ∃ k : Nat, k ≤ 12 ∧ i = .int .i64 k ∧ Below W.heap.size W wr) (fun i _ => 12 - (intOf i).toNat)
  case atStart => exact ⟨0, by omega, rfl, HH.out⟩
  case round =>
    clear HH
    obtain ⟨k, hk, rfl, hb⟩ := hrel
    have KE := Lib.hid ((edges_1 wr (H5.out.1.below hb)).mono fun _ _ h => (⟨h.1, h.2.symm⟩ : _ ∧ wr = _))
    by_cases hlt : k < 12
    · have hkd : decide ((k : Int) < 12) = true := decide_eq_true (by omega)
      have ke := edge_1 k hlt wr (H5.out.1.below hb)
      obtain ⟨-, -, -, -, l5, -⟩ := cells1 k hlt
      have hx6 := (cells1 k hlt).1
      generalize tE k / 4 = x at ke l5 hx6
      generalize tE k % 4 = o at ke
      generalize tS k / 4 = y at ke
      generalize tS k % 4 = p at ke
      have KG := Lib.hid ke
      have HB := Lib.hid hb
      clear ke hb
      go_upto_region 12 with (first | (go_at_call 7; ((with_reducible refine (KE.out).mono ?_)); rintro e w' ⟨rfl, rfl⟩) | (go_at_call 9; ((with_reducible refine (KG.out).mono ?_)); rintro e w7 ⟨rfl, hB7⟩))
      obtain ⟨WE, hWE⟩ : ∃ WE, WE = w7.alloc (Obj.cells #[Value.int IntKind.i64 ↑x, Value.int IntKind.i64 ↑o, Value.int IntKind.i64 ↑y, Value.int IntKind.i64 ↑p] 30) := ⟨_, rfl⟩
      have hBE : Below W.heap.size W WE := by rw [hWE]; exact (HB.out.trans (hB7.mono HB.out.size)).alloc (Nat.le_trans HB.out.size hB7.size) _
      have e0 : WE.cell? ⟨w7.heap.size, 0, none⟩ = some (.int .i64 x) := by rw [hWE]; simp [go_sem]
      have a3 : WE.cell? ⟨tb, 3, none⟩ = some (.slice (some ⟨b1, 0, none⟩) 12 12) := (hBE.cell (p := ⟨tb, 3, none⟩) hWs).trans A3.out
      have c0 := (hBE.cell (p := ⟨b1, k, none⟩) H5.out.2.2.2).trans (H5.out.2.2.1 k hlt)
      have HBE := Lib.hid hBE
      rw [← hWE]
      generalize w7.heap.size = eb at e0 ⊢
      have k1 := run_f64bits
      have hk1 : (0 : Int) ≤ (k : Int) := by omega
      have hk2 : (k : Int) < 12 := by omega
      have hk3 : (k : Int).toNat = k := by omega
      clear hWE hB7 hBE KG
      by_cases h4 : k < 4
      · obtain rfl : x = 0 := l5.2 h4
        rw [show spd k = 4555004673799709393 from if_pos h4] at c0
        have cU : ltW 0 4555004673799709393 = true := by decide
        clear l5 hx6 h4
        go_quiet (fail)
        have hZ := HBE.out.trans ((below_drewN (Below.refl WE.heap.size WE) nq).mono HBE.out.size)
        clear e0 a3 c0 HBE
        generalize WE.drewN nq = WZ at hZ ⊢
        have HZ := Lib.hid hZ
        clear hZ
        go_wp2_with fail
        go_roundw
        case rel => exact ⟨k + 1, by omega, by go_num, HZ.out⟩
        case measure => simp [intOf]; omega
      · have hx0 : ¬ x = 0 := fun e => h4 (l5.1 e)
        have g1 : ((x : Int) == 0) = false := by simp; omega
        have g2 : ((x : Int) != 0) = true := by simp; omega
        rw [show spd k = 0 from if_neg h4] at c0
        have cU : ltW 0 0 = false := by decide
        clear l5 hx6 h4 hx0
        go_quiet (fail)
        have hZ := HBE.out.trans ((below_drewN (Below.refl WE.heap.size WE) nq).mono HBE.out.size)
        clear e0 a3 c0 HBE
        generalize WE.drewN nq = WZ at hZ ⊢
        have HZ := Lib.hid hZ
        clear hZ
        go_wp2_with fail
        go_roundw
        case rel => exact ⟨k + 1, by omega, by go_num, HZ.out⟩
        case measure => simp [intOf]; omega
    · have hE : k = 12 := by omega
      subst hE
      have hv := H5.out.2.1.trans (hb.mono H5.out.2.1.size)
      have HV := Lib.hid hv
      clear hv hb
      go_wp2_with (first | (go_at_call 7; ((with_reducible refine (KE.out).mono ?_)); rintro e w' ⟨rfl, rfl⟩))
      go_ret
      exact ⟨rfl, HV.out⟩
end Go.Proofs.YtkjjecghbhppgaaGreatDoor
