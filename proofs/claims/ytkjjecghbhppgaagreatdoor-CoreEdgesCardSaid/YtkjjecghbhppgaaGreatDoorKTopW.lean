/- A net is made. -/
import Derived.Test.YtkjjecghbhppgaaGreatDoorK18
import Derived.Deep.CutRange
namespace Go.Proofs.YtkjjecghbhppgaaGreatDoor
open Go Go.RowKit Go.Maps TF

theorem mm_hint (k : Int) (w : World) : (Instr.makeMap 56 (some (.int .i64 k))).run Tryz.prog w = .ok (.map (some w.heap.size)) (w.alloc (.map #[] 0)) := by kernel_rfl

theorem start_ge (w : World) (n : Nat) : GE w n (w.heap.size + 1) w.heap.size (w.heap.size + 1 + 1 + 1) 0 (.slice none 0 0) (.map [])
    (((w.alloc (Obj.map #[] 0)).alloc (Obj.cells #[Value.int IntKind.i64 n, Value.slice none 0 0, Value.map (some w.heap.size), Value.slice none 0 0, Value.slice none 0 0, Value.slice none 0 0, Value.slice none 0 0] 60)).alloc
      (Obj.cells #[Value.func (Fn.func 22) #[Value.pointer (some { block := w.heap.size + 1, off := 0 })] #[], Value.func (Fn.func 23) #[Value.pointer (some { block := w.heap.size + 1, off := 0 })] #[]] 61)) := by
  refine ⟨⟨((Below.refl _ _).alloc (Nat.le_refl _) _ |>.alloc (by simp) _ |>.alloc (by simp; omega) _), by omega, by omega, by omega, by omega, by omega, by simp, by simp [go_sem], by simp [go_sem], by simp [go_sem], by simp [go_sem], by simp [go_sem], by simp [go_sem], by simp [go_sem], fun j hj => ?_, ?_, ?_, ⟨by omega, by omega, ?_, ?_⟩⟩, fun u hu hl => by omega⟩
  · simp [go_sem]
  · exact World.ownsRow_nil _ _ _ _
  · exact ((World.ownsMap_made w _ _ _).alloc _).alloc _
  · show World.cell? _ ⟨w.heap.size + 1 + 1, 0, none⟩ = _
    simp [go_sem]
  · show World.cell? _ ⟨w.heap.size + 1 + 1, 1, none⟩ = _
    simp [go_sem]

theorem apart_nil {v : Value} : Apart (.slice none 0 0) v := fun _ h => nomatch h
theorem gr_start {w0 w1 w2 w : World} {g n k : Nat} {vB vL vG : Value} (hZ : GZ w2 g n k k k vB vL vG w) (hB : Below w0.heap.size w0 w) (h12 : w1.heap.size ≤ w2.heap.size) (h01 : Below w0.heap.size w0 w1) (hg : w0.heap.size ≤ g) (x o y p : Nat) :
    GR w0 w2 g n k k k vB vL vG w.heap.size x o y p (w.alloc (Obj.cells #[Value.int IntKind.i64 x, Value.int IntKind.i64 o, Value.int IntKind.i64 y, Value.int IntKind.i64 p] 30)) := by
  have no : ∀ {v : Value} {e size m : Nat} {xs : List Value}, w.ownsRow w2.heap.size e size v m xs → v.ownBlock ≠ some w.heap.size := fun hr e => by
    have := (hr.lt _ e).2
    omega
  have hb := (Below.refl w.heap.size w).alloc (Nat.le_refl _) (Obj.cells #[Value.int IntKind.i64 x, Value.int IntKind.i64 o, Value.int IntKind.i64 y, Value.int IntKind.i64 p] 30)
  exact ⟨hZ.below hb, hB.trans (hb.mono hB.size), hg, Nat.le_trans h01.size h12, hZ.gr.size, by simp, by simp [go_sem], by simp [go_sem], by simp [go_sem], by simp [go_sem], no hZ.rB, no hZ.rL, no hZ.rG⟩
set_option maxRecDepth 100000 in
set_option maxHeartbeats 8000000 in
theorem new_any {n : Nat} (hS : Side n) (w : World) (hF : Fr w) (hG : FrG w) :
    Calls Tryz.prog 5 #[.int .i64 n] w fun e w' => ∃ T : NetT, e = .returned (.tuple #[.pointer (some ⟨T.g, 0, none⟩), .int .i64 0]) ∧ Below w.heap.size w w' ∧ Net n T w' := by
  have hmm := mm_hint
  obtain ⟨C, hC⟩ : ∃ C : Nat, C = 6 * n * n := ⟨_, rfl⟩
  have hc : cellsI (n : Int) = C := by
    unfold cellsI
    rw [if_pos (good_of (by have := hS.n1; omega) (by have := hS.n2; omega)), hC]
    push_cast
    rfl
  have hN := N4_le hS
  have hC1 : C ≤ 6144 := by unfold N4 at hN; omega
  have hC0 : 1 ≤ C := by rw [hC]; have := Nat.mul_le_mul hS.n1 hS.n1; rw [Nat.mul_assoc]; omega
  have kc : ∀ w, Calls Tryz.prog 21 #[.int .i64 n] w fun e w' => e = .returned (.int .i64 C) ∧ w = w' := fun w => by rw [← hc]; exact cells_any n w
  have HC := Lib.hid hC
  have hb : ((C : Int) == 0) = false := by simp; omega
  clear hC hc hN
  have KC := Lib.hid kc
  clear kc
  go_enter Tryz.func5, Tryz.ntmps5
  go_wp2_with (first | (go_at_call 21; ((with_reducible refine (KC.out _).mono ?_)); rintro e w' ⟨rfl, rfl⟩))
  clear hb
  have h0 := start_ge w n
  generalize (((w.alloc (Obj.map #[] 0)).alloc (Obj.cells #[Value.int IntKind.i64 n, Value.slice none 0 0, Value.map (some w.heap.size), Value.slice none 0 0, Value.slice none 0 0, Value.slice none 0 0, Value.slice none 0 0] 60)).alloc
      (Obj.cells #[Value.func (Fn.func 22) #[Value.pointer (some { block := w.heap.size + 1, off := 0 })] #[], Value.func (Fn.func 23) #[Value.pointer (some { block := w.heap.size + 1, off := 0 })] #[]] 61)) = W at h0 ⊢
  obtain ⟨g, hg⟩ : ∃ g, g = w.heap.size + 1 := ⟨_, rfl⟩
  rw [← hg] at h0 ⊢
  have HB := Lib.hid hg
  clear hg
  have H0 := Lib.hid h0
  clear h0
  go_loopw [31] (fun i wr => ((i = .int .i64 0 ∧ GE w n g w.heap.size (g + 1 + 1) 0 (.slice none 0 0) (.map []) wr) ∨ (i = .int .i64 1 ∧ ∃ w1 vE D, w1 = wr ∧ GE w n g w.heap.size (g + 1 + 1) (N4 n) vE D w1) ∨
      (i = .int .i64 2 ∧ ∃ w1 vE vA D, GE w n g w.heap.size (g + 1 + 1) (N4 n) vE D w1 ∧ GY w1 n g w.heap.size vE (.slice none 0 0) vA (.slice none 0 0) (.slice none 0 0) wr ∧ ARow wr w1.heap.size n C vA))) (fun i _ => 2 - (intOf i).toNat)
  case atStart => exact .inl ⟨rfl, H0.out⟩
  case round =>
    clear H0
    rcases hrel with ⟨rfl, hr⟩ | ⟨rfl, hr⟩ | ⟨rfl, hr⟩
    · have k0 : World.cell? _ ⟨g + 1, 0, none⟩ = some _ := hr.x.fn.k0
      have H0 := Lib.hid hr
      clear hr
      go_wp2_with fail
      go_loopw [36] (fun i wr => ∃ x : Nat, x ≤ C ∧ i = .int .i64 x ∧ ∃ vE D, GE w n g w.heap.size (g + 1 + 1) (4 * x) vE D wr) (fun i _ => C - (intOf i).toNat)
      case atStart => exact ⟨0, by omega, rfl, _, _, H0.out⟩
      case round =>
        clear H0
        obtain ⟨x, hx, rfl, vE, D, hGE⟩ := hrel
        by_cases hlt : x < C
        · have H0 := Lib.hid hGE
          clear hGE
          go_wp2_with (first | (go_at_call 22; ((with_reducible refine (addedges_any hS (by rw [← HC.out]; omega) w _ hF H0.out).mono ?_)); rintro e w' ⟨rfl, vE2, D2, H2⟩))
          go_roundw
          case rel => exact ⟨x + 1, by omega, by go_num, vE2, D2, H2⟩
          case measure => simp [intOf]; omega
        · have hE : x = C := by omega
          subst hE
          go_wp2_with fail
          go_roundw
          case rel =>
            have e : N4 n = 4 * x := by rw [HC.out]; rfl
            exact .inr (.inl ⟨rfl, _, vE, D, rfl, by rw [e]; exact hGE⟩)
          case measure => simp [intOf]
    · obtain ⟨w1, vE, D, hw, hr⟩ := hr
      subst hw
      have k0 : World.cell? _ ⟨g + 1, 1, none⟩ = some _ := hr.x.fn.k1
      have hY : GY w1 n g w.heap.size vE (.slice none 0 0) (.slice none 0 0) (.slice none 0 0) (.slice none 0 0) w1 :=
        ⟨⟨rfl, rfl, rfl, Nat.le_refl _, fun _ _ _ => rfl⟩, Nat.lt_of_lt_of_le hr.x.gs hr.x.ss, hr.x.c0, hr.x.c1, hr.x.c2, hr.x.c3, hr.x.c4, hr.x.c5, hr.x.c6, hr.x.fz⟩
      have H0 := Lib.hid hr
      have HY := Lib.hid hY
      clear hr hY
      go_wp2_with fail
      go_loopw [36] (fun i wr => ∃ x : Nat, x ≤ C ∧ i = .int .i64 x ∧ ∃ vA, GY w1 n g w.heap.size vE (.slice none 0 0) vA (.slice none 0 0) (.slice none 0 0) wr ∧ ARow wr w1.heap.size n x vA) (fun i _ => C - (intOf i).toNat)
      case atStart => exact ⟨0, by omega, rfl, _, HY.out, World.ownsRow_nil _ _ _ _⟩
      case round =>
        clear HY
        obtain ⟨x, hx, rfl, vA, hGY, hA⟩ := hrel
        by_cases hlt : x < C
        · have HY := Lib.hid hGY
          have HA := Lib.hid hA
          clear hGY hA
          go_wp2_with (first | (go_at_call 23; ((with_reducible refine (addarea_any hS (by rw [← HC.out]; omega) w w1 _ hG H0.out.x.bel H0.out.x.gl HY.out HA.out).mono ?_)); rintro e w' ⟨rfl, vA2, HY2, HA2⟩))
          go_roundw
          case rel => exact ⟨x + 1, by omega, by go_num, vA2, HY2, HA2⟩
          case measure => simp [intOf]; omega
        · have hE : x = C := by omega
          subst hE
          go_wp2_with fail
          go_roundw
          case rel => exact .inr (.inr ⟨rfl, w1, vE, vA, D, H0.out, hGY, hA⟩)
          case measure => simp [intOf]
    · obtain ⟨w1, vE, vA, D, hGE, hGY, hA⟩ := hr
      obtain ⟨w2, hw2⟩ : ∃ w2, w2 = wr := ⟨_, rfl⟩
      subst hw2
      obtain ⟨M, hM⟩ : ∃ M, M = (EL n).length := ⟨_, rfl⟩
      have hMC : M = 2 * C := by rw [hM, EL_length hS, HC.out]
      obtain ⟨gE, cE, rfl, hgE1, hgE2⟩ := hGE.x.row.form (by show 0 < (EL n).length; omega)
      have c1 : World.cell? w2 ⟨g, 1, none⟩ = some (.slice (some ⟨gE, 0, none⟩) M cE) := by rw [hGY.c1]; show some (Value.slice (some ⟨gE, 0, none⟩) (EL n).length cE) = _; rw [hM]
      have hZ : GZ w2 g n 0 0 0 (.slice none 0 0) (.slice none 0 0) (.slice none 0 0) w2 :=
        ⟨⟨rfl, rfl, rfl, Nat.le_refl _, fun _ _ _ => rfl⟩, Nat.lt_of_lt_of_le hGY.gl hGY.gr.size, fun _ _ _ _ => rfl, hGY.c3, hGY.c5, hGY.c6, hGY.fz, World.ownsRow_nil _ _ _ _, World.ownsRow_nil _ _ _ _, World.ownsRow_nil _ _ _ _, apart_nil, apart_nil, apart_nil⟩
      have hBel : Below w.heap.size w w2 := hGE.x.bel.grown hGY.gr hGE.x.bel.size (fun b e => by have := Option.some.inj e; have := hGE.x.gl; omega)
      have hRow : w2.ownsRow (g + 1 + 1) 30 4 (.slice (some ⟨gE, 0, none⟩) M cE) M (eCells n (EL n)) := by
        have h := hGE.x.row.kept hGY.gr (.inr (own_low hGE.x.row (by omega)))
        rw [show (E4 n (N4 n)).length = M from hM.symm] at h
        exact h
      have hM2 : M ≤ 12288 := by omega
      have HMC := Lib.hid hMC
      have HQ := Lib.hid (⟨hGE, hGY, hA, hM, hRow⟩ : _ ∧ _ ∧ _ ∧ _ ∧ _)
      have HZ := Lib.hid (⟨hZ, hBel⟩ : _ ∧ _)
      clear hGE hGY hA hM hZ hBel hRow hMC
      go_wp2_with fail
      go_loopw [49] (fun i wz => ∃ k : Nat, k ≤ M ∧ i = .int .i64 k ∧ ∃ vB vL vG, GZ w2 g n k k k vB vL vG wz ∧ Below w.heap.size w wz) (fun i _ => M - (intOf i).toNat)
      case atStart => exact ⟨0, by omega, rfl, _, _, _, HZ.out.1, HZ.out.2⟩
      case round =>
        clear HZ c1
        obtain ⟨k, hk, rfl, vB, vL, vG, hZ, hBel⟩ := hrel
        by_cases hlt : k < M
        · have hkl : k < (EL n).length := by rw [← HQ.out.2.2.2.1]; exact hlt
          obtain ⟨t, ht⟩ : ∃ t, (EL n)[k]? = some t := ⟨_, List.getElem?_eq_getElem hkl⟩
          have hmem := E4_mem ht
          have hrw := HQ.out.2.2.2.2.kept hZ.gr (.inr (own_low HQ.out.2.2.2.2 (by omega)))
          have hcs := fun j (hj : j < 4) => (hrw.cellAt (4 * k + j) (by omega)).trans (eCells_at n _ k t ht j hj)
          have hN := N4_le hS
          have htN := hmem.2.1
          have hsg := sg_facts hS htN
          obtain ⟨x, hx⟩ : ∃ x, x = t / 4 := ⟨_, rfl⟩
          obtain ⟨o, ho⟩ : ∃ o, o = t % 4 := ⟨_, rfl⟩
          obtain ⟨y, hy⟩ : ∃ y, y = sg n t / 4 := ⟨_, rfl⟩
          obtain ⟨p, hp⟩ : ∃ p, p = sg n t % 4 := ⟨_, rfl⟩
          have d0 : wr.cell? ⟨gE, k * 4, none⟩ = some (.int .i64 (x : Int)) := by rw [hx, Nat.mul_comm]; exact hcs 0 (by omega)
          have d1 : wr.cell? ⟨gE, k * 4 + 1, none⟩ = some (.int .i64 (o : Int)) := by rw [ho, Nat.mul_comm]; exact hcs 1 (by omega)
          have d2 : wr.cell? ⟨gE, k * 4 + 2, none⟩ = some (.int .i64 (y : Int)) := by rw [hy, Nat.mul_comm]; exact hcs 2 (by omega)
          have d3 : wr.cell? ⟨gE, k * 4 + 3, none⟩ = some (.int .i64 (p : Int)) := by rw [hp, Nat.mul_comm]; exact hcs 3 (by omega)
          have o4 : o < 4 := by omega
          have p4 : p < 4 := by omega
          have x6 : x < 6 * n * n := by rw [hx]; unfold N4 at htN; omega
          have y6 : y < 6 * n * n := by rw [hy]; unfold N4 at hsg; omega
          obtain ⟨o2, ho2⟩ : ∃ o2, o2 = (o + 2) % 4 := ⟨_, rfl⟩
          obtain ⟨p2, hp2⟩ : ∃ p2, p2 = (p + 2) % 4 := ⟨_, rfl⟩
          have mo : Int.tmod ((o : Int) + 2) 4 = o2 := by rw [ho2]; rw [Int.tmod_eq_emod_of_nonneg (by omega)]; omega
          have mp : Int.tmod ((p : Int) + 2) 4 = p2 := by rw [hp2]; rw [Int.tmod_eq_emod_of_nonneg (by omega)]; omega
          have k1 := fun w hF => bes_call (o := o2) hS x6 (by omega) w hF
          have k2 := fun w hF => bes_call (o := p2) hS y6 (by omega) w hF
          have kl := fun w hG => length_call hS htN w hG
          have kg := fun w hF hG => gap_call hS htN w hF hG
          have hbc : bCell n t = [.int .i64 (bC n x o2 : Nat), .int .i64 (bC n y p2 : Nat)] := by unfold bCell; rw [hx, hy, ho2, hp2, ho, hp]
          rw [← hx, ← ho] at kl kg
          have hbs := bCells_succ ht
          have hls := lCells_succ ht
          have hgs := gCells_succ ht
          rw [hbc] at hbs
          generalize bC n x o2 = a1 at k1 hbs
          generalize bO n x o2 = a2 at k1
          generalize bC n y p2 = b1 at k2 hbs
          generalize bO n y p2 = b2 at k2
          generalize gL n t = ln at kl hls
          generalize gG n t = gp at kg hgs
          have KK := Lib.hid (⟨k1, k2, kl, kg, hbs, hls, hgs⟩ : _ ∧ _ ∧ _ ∧ _ ∧ _ ∧ _ ∧ _)
          have HZ := Lib.hid (⟨hZ, hBel⟩ : _ ∧ _)
          clear hx ho hy hp k1 k2 kl kg hbs hls hgs hbc hcs hrw hmem hsg htN ht hkl hZ hBel x6 y6 ho2 hp2
          go_upto_region 17 with fail
          have h0 : GR w w2 g n k k k vB vL vG wr.heap.size x o y p (wr.alloc (Obj.cells #[Value.int IntKind.i64 ↑x, Value.int IntKind.i64 ↑o, Value.int IntKind.i64 ↑y, Value.int IntKind.i64 ↑p] 30)) :=
            gr_start HZ.out.1 HZ.out.2 HQ.out.2.1.gr.size HQ.out.1.x.bel HQ.out.1.x.gl _ _ _ _
          generalize (wr.alloc (Obj.cells #[Value.int IntKind.i64 ↑x, Value.int IntKind.i64 ↑o, Value.int IntKind.i64 ↑y, Value.int IntKind.i64 ↑p] 30)) = wE at h0 ⊢
          clear d0 d1 d2 d3
          obtain ⟨eb, heb⟩ : ∃ eb, eb = wr.heap.size := ⟨_, rfl⟩
          rw [← heb] at h0 ⊢
          clear heb HZ
          have e0 := h0.e0
          have e1 := h0.e1
          have H0 := Lib.hid h0
          clear h0
          go_upto_region 18 with (first | (go_at_call 24; ((with_reducible refine (KK.out.1 _ (hF.below H0.out.bel)).mono ?_)); rintro e w' ⟨rfl, hB1⟩; have HA := Lib.hid (H0.out.below hB1); clear hB1))
          clear e0 e1
          have e2 := HA.out.e2
          have e3 := HA.out.e3
          go_upto_region 19 with (first | (go_at_call 24; ((with_reducible refine (KK.out.2.1 _ (hF.below HA.out.bel)).mono ?_)); rintro e w' ⟨rfl, hB1⟩; have HC3 := Lib.hid (HA.out.below hB1); clear hB1))
          clear e2 e3 HA H0
          obtain ⟨wB, hwB⟩ : ∃ wB, wB = w' := ⟨_, rfl⟩
          subst hwB
          obtain ⟨A1, q1, rfl⟩ := own_shape HC3.out.z.rB
          have c3 := HC3.out.z.c3
          obtain ⟨i0, hi, hz0, hz1, hz2⟩ := info_parts info_two
          go_upto_region 20 with (first | (at_builtin; (refine wpList_append_lies _ rfl _ _ 58 rfl w2.heap.size 64 i0 (.agg #[.int .i64 0, .int .i64 0]) 2 16 Tryz.underlying58 hi hz0 hz1 hz2 rfl (by decide) _ _ _ rfl (World.ownsRow.alloc HC3.out.z.rB _) ⟨wB.heap.size, 0, none⟩ 1 1 [.int .i64 (a1 : Int), .int .i64 (b1 : Int)] rfl rfl (cell_two_new _ _ _ _) (by intro u hu; simp at hu; rcases hu with rfl | rfl <;> rfl) (by omega) (by unfold maxLen; omega) (by omega) (by have := HC3.out.z.gr.size; simp; omega) _ rfl ?_); intro g5 cap5 w5 hown5 hgrow5 hat5 hlt5; obtain ⟨c33, -, -, f33, -, -⟩ := HC3.out.seen HC3.out.z.rB _ hgrow5; have HD := Lib.hid ((HC3.out.alloc _).stepB hgrow5 (by rw [KK.out.2.2.2.2.1]; exact hown5) rfl hat5); clear hown5 hgrow5 hat5 hlt5))
          clear c3 c33 f33 hi hz0 hz1 hz2
          generalize w5.setCell { block := g, off := 3 } (Value.slice (some { block := g5, off := 0 }) (k + 1) cap5) = wD at HD ⊢
          generalize Value.slice (some { block := g5, off := 0 }) (k + 1) cap5 = vB5 at HD
          clear HC3
          obtain ⟨A2, q2, rfl⟩ := own_shape HD.out.z.rL
          obtain ⟨A3, q3, rfl⟩ := own_shape HD.out.z.rG
          have e0 := HD.out.e0
          have e1 := HD.out.e1
          have c5 := HD.out.z.c5
          obtain ⟨i0, hi, hz0, hz1, hz2⟩ := info_parts info_f64
          go_cut [49] from 49 to 117 (fun s49 wx => s49 = .int .i64 k ∧ ∃ v, GR w w2 g n (k + 1) (k + 1) k vB5 v (.slice A3 k q3) eb x o y p wx)
          case first =>
            go_region_law (first
              | (refine step_append_lies _ rfl (.tmp 91) (.tmp 98) 38 rfl w2.heap.size 35 i0 (.float .f64 0) 1 8 Tryz.underlying38 hi hz0 hz1 hz2 rfl (by decide) _ _ _ (by simp [Act.eval]) (World.ownsRow.alloc HR3.out.z.rL _) ⟨w3.heap.size, 0, none⟩ 1 1 [.float .f64 ln] (by simp [Act.eval]) rfl (cell_one_new _ _ _) (by intro u hu; simp at hu; subst hu; rfl) (by omega) (by unfold maxLen; omega) (by omega) (by have := HR3.out.z.gr.size; simp; omega) _ rfl ?_; intro g6 cap6 w6 hown6 hgrow6 hat6 hlt6; obtain ⟨-, c55, -, -, f55, -⟩ := HR3.out.seen HR3.out.z.rL _ hgrow6)
              | (go_simp; go_at_call 11; ((with_reducible refine (KK.out.2.2.1 _ (hG.below HD.out.draw.bel)).mono ?_)); rintro e w3 ⟨rfl, hB3⟩; have HR3 := Lib.hid (HD.out.draw.below hB3); have c04 := HR3.out.z.c5; have f04 := HR3.out.z.fz 5 (by omega); have c04b := (HR3.out.alloc (.cells #[.float .f64 ln] 35)).z.c5))
            all_goals (go_wp2_with fail; go_meet; exact ⟨rfl, _, (HR3.out.alloc _).stepL hgrow6 (by rw [KK.out.2.2.2.2.2.1]; exact hown6) rfl hat6⟩)
          case rest =>
            obtain ⟨rfl, vL6, h6⟩ := hcut
            clear HD e0 e1 c5
            have e0 := h6.e0
            have e1 := h6.e1
            have c6 := h6.z.c6
            have HE := Lib.hid h6
            clear h6
            go_upto_region 21 with fail
            go_region_law (first
              | (refine step_append_lies _ rfl (.tmp 106) (.tmp 113) 38 rfl w2.heap.size 35 i0 (.float .f64 0) 1 8 Tryz.underlying38 hi hz0 hz1 hz2 rfl (by decide) _ _ _ (by simp [Act.eval]) (World.ownsRow.alloc HR3.out.z.rG _) ⟨w3.heap.size, 0, none⟩ 1 1 [.float .f64 gp] (by simp [Act.eval]) rfl (cell_one_new _ _ _) (by intro u hu; simp at hu; subst hu; rfl) (by omega) (by unfold maxLen; omega) (by omega) (by have := HR3.out.z.gr.size; simp; omega) _ rfl ?_; intro g6 cap6 w6 hown6 hgrow6 hat6 hlt6; obtain ⟨-, -, c55, -, -, f55⟩ := HR3.out.seen HR3.out.z.rG _ hgrow6)
              | (go_simp; go_at_call 12; ((with_reducible refine (KK.out.2.2.2.1 _ (hF.below HE.out.draw.bel) (hG.below HE.out.draw.bel)).mono ?_)); rintro e w3 ⟨rfl, hB3⟩; have HR3 := Lib.hid (HE.out.draw.below hB3); have c04 := HR3.out.z.c6; have f04 := HR3.out.z.fz 6 (by omega); have c04b := (HR3.out.alloc (.cells #[.float .f64 gp] 35)).z.c6))
            all_goals
              have h7 := (HR3.out.alloc _).stepG hgrow6 (by rw [KK.out.2.2.2.2.2.2]; exact hown6) rfl hat6
              have HF7 := Lib.hid h7
              clear h7 hown6 hgrow6 hat6
              go_wp2_with fail
              go_roundw
              case rel => exact ⟨k + 1, by omega, by go_num, vB5, vL6, _, HF7.out.z, HF7.out.bel⟩
              case measure => simp [intOf]; omega
        · have hE : k = M := by omega
          subst hE
          go_wp2_with fail
          refine bodyPost_ret (results_tmp2 rfl _ _ _) rfl ?_
          obtain ⟨q1, q2, q3, q4, -⟩ := HQ.out
          rw [HC.out] at q3
          rw [q4] at hZ
          obtain ⟨T, hT, hN⟩ := net_of hS q1 q2 q3 hZ
          exact ⟨T, by rw [hT]; rfl, hBel, hN⟩
end Go.Proofs.YtkjjecghbhppgaaGreatDoor
