/- Laid together: TopO, TopQ, TopR. -/
import Derived.Test.YtkjjecghbhppgaaGreatDoorK16
import Derived.Deep.RegionLaw
import Derived.Deep.AppendLies
/- The net while it is made: a cell's edges. -/
namespace Go.Proofs.YtkjjecghbhppgaaGreatDoor
open Go Go.RowKit Go.Maps TF

theorem bes_call {n x o : Nat} (hS : Side n) (hx : x < 6 * n * n) (ho : o < 4) (w : World) (hF : Fr w) :
    Calls Tryz.prog 24 #[.int .i64 n, .int .i64 x, .int .i64 o] w fun e w' => e = .returned (.tuple #[.int .i64 (bC n x o : Nat), .int .i64 (bO n x o : Nat)]) ∧ Below w.heap.size w w' := by
  obtain ⟨hO, e⟩ := dec_on hS hx
  have B := bes hS hx ho
  have h := tbeside_ok hO ho w hF
  rw [e, B.cell] at h
  exact h
theorem info_edge : (Tryz.prog.info? 30).map (fun i => (i.zero, i.size, i.bytes)) = some (some (.agg #[.int .i64 0, .int .i64 0, .int .i64 0, .int .i64 0]), 4, 32) := by kernel_rfl
theorem cell_four_new (w : World) (x y z u : Value) (t : TypeId) : ∀ j v, [x, y, z, u][j]? = some v → (w.alloc (.cells #[x, y, z, u] t)).cell? ((⟨w.heap.size, 0, none⟩ : Addr).add j) = some v := by
  intro j v hj
  match j, hj with
  | 0, hj => simp at hj; subst hj; simp [Addr.add]
  | 1, hj => simp at hj; subst hj; simp [Addr.add]
  | 2, hj => simp at hj; subst hj; simp [Addr.add]
  | 3, hj => simp at hj; subst hj; simp [Addr.add]

set_option maxRecDepth 100000 in
set_option maxHeartbeats 8000000 in
theorem addedges_any {n x g m s : Nat} {vE0 : Value} {D0 : DataW Unit} (hS : Side n) (hx : x < 6 * n * n) (w0 w : World) (hF : Fr w0) (h0 : GE w0 n g m s (4 * x) vE0 D0 w) :
    Calls Tryz.prog 22 #[.pointer (some ⟨g, 0, none⟩), .int .i64 x] w fun e w' => e = .returned (.tuple #[]) ∧ ∃ vE D, GE w0 n g m s (4 * (x + 1)) vE D w' := by
  have HF := Lib.hid hF
  have H0 := Lib.hid h0
  clear h0 hF
  go_enter Tryz.func22, Tryz.ntmps22
  go_wp2_with fail
  go_loopw [7] (fun i wr => ∃ o : Nat, o ≤ 4 ∧ i = .int .i64 o ∧ ∃ vE D, GE w0 n g m s (4 * x + o) vE D wr) (fun i _ => 4 - (intOf i).toNat)
  case atStart => exact ⟨0, by omega, rfl, _, _, H0.out⟩
  case round =>
    clear H0
    obtain ⟨o, ho, rfl, vE, D, hGE⟩ := hrel
    by_cases hlt : o < 4
    · have hN := N4_le hS
      have ht : 4 * x + o < N4 n := by unfold N4; omega
      have e1 : (4 * x + o) / 4 = x := by omega
      have e2 : (4 * x + o) % 4 = o := by omega
      have B := bes hS hx hlt
      have hp0 : prim n (4 * x + o) = decide (x < bC n x o) := by unfold prim; rw [e1, e2]
      have esg : sg n (4 * x + o) = 4 * bC n x o + bO n x o := by unfold sg; rw [e1, e2]
      obtain ⟨A, cap, rfl⟩ := own_shape hGE.x.row
      have hb6 : bC n x o < 6144 := by have := B.lt; unfold N4 at hN; omega
      have hx6 : x < 6144 := by unfold N4 at hN; omega
      have B4 := B.lt4
      have kb := bes_call hS hx hlt
      obtain ⟨c, hc⟩ : ∃ c, c = bC n x o := ⟨_, rfl⟩
      obtain ⟨d, hd⟩ : ∃ d, d = bO n x o := ⟨_, rfl⟩
      have hne := B.ne
      rw [← hc, ← hd] at kb
      rw [← hc] at hb6 hne hp0 esg
      rw [← hd] at B4 esg
      have hE : eCell n (4 * x + o) = [.int .i64 (x : Int), .int .i64 (o : Int), .int .i64 (c : Int), .int .i64 (d : Int)] := by
        unfold eCell
        rw [e1, e2, esg, show (4 * c + d) / 4 = c from by omega, show (4 * c + d) % 4 = d from by omega]
      clear hc hd B
      have KB := Lib.hid kb
      have c0 := hGE.x.c0
      by_cases hcx : c < x
      · have hd : decide ((c : Int) < (x : Int)) = true := decide_eq_true (by omega)
        have hp : prim n (4 * x + o) = false := by rw [hp0]; exact decide_eq_false (by omega)
        have HS := Lib.hid hGE
        have HP := Lib.hid hp
        clear hGE kb hp0 hp e1 e2 esg ht hN hE
        go_wp2_with (first | (go_at_call 24; ((with_reducible refine (KB.out _ (HF.out.below HS.out.x.bel)).mono ?_)); rintro e w1 ⟨rfl, hB1⟩))
        go_roundw
        case rel =>
          have h2 := HS.out.x.below hB1
          have e4 : E4 n (4 * x + (o + 1)) = E4 n (4 * x + o) := by rw [← Nat.add_assoc, E4_succ, HP.out]; simp
          exact ⟨o + 1, by omega, by go_num, _, D, ⟨⟨h2.bel, h2.gl, h2.ml, h2.gm, h2.gs, h2.ms, h2.ss, h2.c0, h2.c1, h2.c2, h2.c3, h2.c4, h2.c5, h2.c6, h2.fz, by rw [e4]; exact h2.row, h2.map.mono (by omega), h2.fn⟩, by
            have := look_skip hS HP.out HS.out.look
            rwa [Nat.add_assoc] at this⟩⟩
        case measure => simp [intOf]; omega
      · have hd : decide ((c : Int) < (x : Int)) = false := decide_eq_false (by omega)
        have hp : prim n (4 * x + o) = true := by rw [hp0]; exact decide_eq_true (by omega)
        have HS := Lib.hid hGE
        have HP := Lib.hid (⟨hp, hE, esg, ht, hN⟩ : _ ∧ _ ∧ _ ∧ _ ∧ _)
        clear hGE kb hp0 hp e1 e2 esg hN hE ht
        go_upto_region 5 with (first | (go_at_call 24; ((with_reducible refine (KB.out _ (HF.out.below HS.out.x.bel)).mono ?_)); rintro e w1 ⟨rfl, hB1⟩))
        obtain ⟨K, hK⟩ : ∃ K, K = (E4 n (4 * x + o)).length := ⟨_, rfl⟩
        have HK := Lib.hid hK
        have hKw : (Lit.int .i64 (K : Int)).wf = true := wf_small (by
          have h1 : K ≤ 4 * x + o := by rw [hK]; unfold E4; exact Nat.le_trans (List.length_filter_le _ _) (by simp)
          omega)
        have KM : Hid (K ≤ 24576) := Lib.hid (by
          have h1 : K ≤ 4 * x + o := by rw [hK]; unfold E4; exact Nat.le_trans (List.length_filter_le _ _) (by simp)
          omega)
        have h2 := HS.out.x.below hB1
        have c1 := h2.c1
        have c2 := h2.c2
        rw [← hK] at c1
        have H2 := Lib.hid h2
        clear hK h2 c0
        -- the edge's number at its own side
        go_still_tail 12, (by kernel_rfl)
        change wpList _ _ _ _ _ w1.drew
        have h9 := H2.out.below (Below.drew (Below.refl _ _))
        generalize w1.drew = W9 at h9 ⊢
        have H9 := Lib.hid h9
        clear h9 c1 c2 H2 hB1
        go_wp2_with (first | (at_mapUpdate; refine wpList_mapUpdate_own W9 rfl _ _ _ 56 rfl 67 3 lawPair Tryz.underlying56 _ m (2 * (4 * x + o)) D rfl H9.out.map (by unfold maxLen; omega) _ _ _ rfl rfl (klT_pair hx6 hlt) _ [] (plainElem_int Tryz.underlying3 hKw) ?_; intro wA hownA hgrowA))
        have hA := H9.out.put hownA hgrowA
        have c1 := hA.c1
        have c2 := hA.c2
        rw [← HK.out] at c1
        have HA := Lib.hid hA
        clear hA hownA hgrowA H9
        -- at the side over there
        go_still_tail 12, (by kernel_rfl)
        change wpList _ _ _ _ _ wA.drew
        have h9 := HA.out.below (Below.drew (Below.refl _ _))
        generalize wA.drew = W8 at h9 ⊢
        have H8 := Lib.hid h9
        clear h9 c1 c2 HA
        have hk2 : keyOf Tryz.prog 67 (.agg #[.int .i64 (c : Int), .int .i64 (d : Int)]) = some (klT (sg n (4 * x + o))) := by
          rw [HP.out.2.2.1]; exact klT_pair hb6 B4
        obtain ⟨i0, hi, hz0, hz1, hz2⟩ := info_parts info_edge
        have hKm : K ≤ 24576 := KM.out
        go_wp2_with (first | (at_mapUpdate; refine wpList_mapUpdate_own W8 rfl _ _ _ 56 rfl 67 3 lawPair Tryz.underlying56 _ m (2 * (4 * x + o) + 1) _ rfl H8.out.map (by unfold maxLen; omega) _ _ _ rfl rfl hk2 _ [] (plainElem_int Tryz.underlying3 hKw) ?_; intro wB hownB hgrowB; have HB := Lib.hid (H8.out.put hownB hgrowB); have c1 := HB.out.c1; rw [← HK.out] at c1; have hrow : wB.ownsRow s 30 4 (.slice A K cap) K (eCells n (E4 n (4 * x + o))) := (by have := HB.out.row; rw [← HK.out] at this; exact this); have HR := Lib.hid hrow; clear hownB hgrowB hrow H8) | (at_builtin; (refine wpList_append_own_at _ rfl _ _ 57 rfl s 30 i0 (.agg #[.int .i64 0, .int .i64 0, .int .i64 0, .int .i64 0]) 4 32 Tryz.underlying57 hi hz0 hz1 hz2 rfl (by decide) _ _ _ rfl (World.ownsRow.alloc HR.out _) ⟨wB.heap.size, 0, none⟩ 1 1 [.int .i64 (x : Int), .int .i64 (o : Int), .int .i64 (c : Int), .int .i64 (d : Int)] rfl rfl (cell_four_new _ _ _ _ _ _) (by intro u hu; simp at hu; rcases hu with rfl | rfl | rfl | rfl <;> rfl) (by unfold maxLen; omega) (by omega) (by have := HB.out.ss; simp; omega) ?_; intro v' wC hownC hgrowC _ hlocC; obtain ⟨A2, cap2, rfl⟩ := own_shape hownC; have hgs : g < (wB.alloc (.cells #[.int .i64 (x : Int), .int .i64 (o : Int), .int .i64 (c : Int), .int .i64 (d : Int)] 30)).heap.size := (by have h1 := HB.out.gs; have h2 := HB.out.ss; simp; omega); have hce := grown_cell hgrowC hgs (own_ne_m HR.out HB.out.gs); have hgb : g < wB.heap.size := (by have h1 := HB.out.gs; have h2 := HB.out.ss; omega); have c1' : wC.cell? ⟨g, 1, none⟩ = some (.slice A K cap) := (by rw [hce.1 1, World.cell?_alloc_lt _ _ _ hgb]; exact c1); have f1' : wC.frozen? ⟨g, 1, none⟩ = false := (by rw [hce.2 1, World.frozen?_alloc_old _ _ _ (by show g ≠ _; omega)]; exact HB.out.fz 1 (by omega)); have HE := Lib.hid (⟨hownC, hgrowC⟩ : _ ∧ _); clear hownC hgrowC hlocC hce hgs hgb)))
        go_roundw
        case rel =>
          have hE2 := HE.out.1
          rw [← HP.out.2.1] at hE2
          have hg := GX.app HB.out HP.out.1 _ (by rw [← HK.out]; exact HE.out.2) (by rw [← HK.out]; exact hE2)
          have hl := look_put hS HP.out.2.2.2.1 HP.out.1 (World.ownsMap.isMap HS.out.x.map) HS.out.look
          exact ⟨o + 1, by omega, by go_num, _, _, ⟨hg, by
            have hk : idx n (4 * x + o) = K := HK.out.symm
            rw [hk] at hl
            exact hl⟩⟩
        case measure => simp [intOf]; omega
    · have hE : o = 4 := by omega
      subst hE
      go_wp2
      go_end0
      exact ⟨rfl, vE, D, hGE⟩
end Go.Proofs.YtkjjecghbhppgaaGreatDoor
/- The net while it is made: areas. -/
namespace Go.Proofs.YtkjjecghbhppgaaGreatDoor
open Go Go.RowKit Go.Maps TF

/-- The net's own cells behind a world that holds its edges: nothing of that world has turned but they. -/
structure GY (w1 : World) (n g m : Nat) (vE vB vA vL vG : Value) (w : World) : Prop where
  gr : w1.grownBy w (some g)
  gl : g < w1.heap.size
  c0 : w.cell? ⟨g, 0, none⟩ = some (.int .i64 n)
  c1 : w.cell? ⟨g, 1, none⟩ = some vE
  c2 : w.cell? ⟨g, 2, none⟩ = some (.map (some m))
  c3 : w.cell? ⟨g, 3, none⟩ = some vB
  c4 : w.cell? ⟨g, 4, none⟩ = some vA
  c5 : w.cell? ⟨g, 5, none⟩ = some vL
  c6 : w.cell? ⟨g, 6, none⟩ = some vG
  fz : ∀ j < 7, w.frozen? ⟨g, j, none⟩ = false
theorem GY.grown {w1 w w2 : World} {n g m : Nat} {vE vB vA vL vG : Value} (h : GY w1 n g m vE vB vA vL vG w) {row : Option Nat} (hg : w.grownBy w2 row) (hn : some g ≠ row) (hr : ∀ b, row = some b → w1.heap.size ≤ b) : GY w1 n g m vE vB vA vL vG w2 := by
  obtain ⟨hc, hf⟩ := grown_cell hg (Nat.lt_of_lt_of_le h.gl h.gr.size) hn
  refine ⟨⟨hg.os.trans h.gr.os, hg.tape.trans h.gr.tape, hg.output.trans h.gr.output, Nat.le_trans h.gr.size hg.size, fun i hi hne => ?_⟩, h.gl, (hc 0).trans h.c0, (hc 1).trans h.c1, (hc 2).trans h.c2, (hc 3).trans h.c3, (hc 4).trans h.c4, (hc 5).trans h.c5, (hc 6).trans h.c6, fun j hj => (hf j).trans (h.fz j hj)⟩
  rw [hg.block i (Nat.lt_of_lt_of_le hi h.gr.size) (fun e => by have := hr i e.symm; omega), h.gr.block i hi hne]
theorem GY.below {w1 w w2 : World} {n g m : Nat} {vE vB vA vL vG : Value} (h : GY w1 n g m vE vB vA vL vG w) (hB : Below w.heap.size w w2) : GY w1 n g m vE vB vA vL vG w2 :=
  h.grown (row := none) ⟨hB.os, hB.tape, hB.output, hB.size, fun k hk _ => hB.block k hk⟩ (by simp) (fun b e => by cases e)
theorem GY.setA {w1 w : World} {n g m : Nat} {vE vB vA vL vG : Value} (h : GY w1 n g m vE vB vA vL vG w) (v : Value) : GY w1 n g m vE vB v vL vG (w.setCell ⟨g, 4, none⟩ v) := by
  have hs := grown_set w ⟨g, 4, none⟩ v
  refine ⟨⟨hs.os.trans h.gr.os, hs.tape.trans h.gr.tape, hs.output.trans h.gr.output, Nat.le_trans h.gr.size hs.size, fun i hi hne => (hs.block i (Nat.lt_of_lt_of_le hi h.gr.size) hne).trans (h.gr.block i hi hne)⟩, h.gl, ?_, ?_, ?_, ?_, ?_, ?_, ?_, fun j hj => by rw [World.frozen?_setCell]; exact h.fz j hj⟩
  · rw [World.cell?_setCell_other w _ _ _ (by simp)]; exact h.c0
  · rw [World.cell?_setCell_other w _ _ _ (by simp)]; exact h.c1
  · rw [World.cell?_setCell_other w _ _ _ (by simp)]; exact h.c2
  · rw [World.cell?_setCell_other w _ _ _ (by simp)]; exact h.c3
  · have := h.c4; simp [go_sem, this]
  · rw [World.cell?_setCell_other w _ _ _ (by simp)]; exact h.c5
  · rw [World.cell?_setCell_other w _ _ _ (by simp)]; exact h.c6

/-- the first k cells' areas -/
def aCells (n k : Nat) : List Value := (List.range k).map fun x => .int .i64 (gA n x)
theorem aCells_succ (n k : Nat) : aCells n (k + 1) = aCells n k ++ [.int .i64 (gA n k)] := by unfold aCells; rw [List.range_succ, List.map_append]; rfl
abbrev ARow (w : World) (base n k : Nat) (v : Value) : Prop := w.ownsRow base 2 1 v k (aCells n k)
theorem area_call {n x : Nat} (hS : Side n) (hx : x < 6 * n * n) (w : World) (hG : FrG w) :
    Calls Tryz.prog 17 #[.int .i64 n, .int .i64 x] w fun e w' => e = .returned (.int .i64 (gA n x)) ∧ Below w.heap.size w w' := by
  obtain ⟨hO, e⟩ := dec_on hS hx
  have h := area_any n _ _ _ hO w hG
  rw [e] at h
  exact h
theorem info_i64 : (Tryz.prog.info? 2).map (fun i => (i.zero, i.size, i.bytes)) = some (some (.int .i64 0), 1, 8) := by kernel_rfl

theorem below_gr {w w1 : World} (hB : Below w.heap.size w w1) : w.grownBy w1 none := ⟨hB.os, hB.tape, hB.output, hB.size, fun k hk _ => hB.block k hk⟩
theorem none_ok (v : Value) : v.ownBlock = none ∨ v.ownBlock ≠ none := by cases v.ownBlock <;> simp

set_option maxRecDepth 100000 in
set_option maxHeartbeats 8000000 in
theorem addarea_any {n x g m : Nat} {vE vA : Value} (hS : Side n) (hx : x < 6 * n * n) (w0 w1 w : World) (hG : FrG w0) (hw1 : Below w0.heap.size w0 w1) (hg0 : w0.heap.size ≤ g)
    (hY : GY w1 n g m vE (.slice none 0 0) vA (.slice none 0 0) (.slice none 0 0) w) (hA : ARow w w1.heap.size n x vA) :
    Calls Tryz.prog 23 #[.pointer (some ⟨g, 0, none⟩), .int .i64 x] w fun e w' => e = .returned (.tuple #[]) ∧ ∃ v, GY w1 n g m vE (.slice none 0 0) v (.slice none 0 0) (.slice none 0 0) w' ∧ ARow w' w1.heap.size n (x + 1) v := by
  obtain ⟨A, cap, rfl⟩ := own_shape hA
  have c0 := hY.c0
  have c4 := hY.c4
  have f4 := hY.fz 4 (by omega)
  have hN := N4_le hS
  have hx6 : x < 6144 := by unfold N4 at hN; omega
  have hGw : FrG w := hG.below ((hw1.grown hY.gr hw1.size (fun k e => by have := Option.some.inj e; omega)))
  have KA := Lib.hid (area_call hS hx)
  have HY := Lib.hid (⟨hY, hA, hGw⟩ : _ ∧ _ ∧ _)
  clear hY hA hGw hG hw1 hN
  go_enter Tryz.func23, Tryz.ntmps23
  obtain ⟨i0, hi, hz0, hz1, hz2⟩ := info_parts info_i64
  have HA := Lib.hid (aCells_succ n x)
  generalize gA n x = av at KA HA
  go_region_law (first
    | (refine step_append_lies _ rfl (.tmp 8) (.tmp 15) 46 rfl w1.heap.size 2 i0 (.int .i64 0) 1 8 Tryz.underlying46 hi hz0 hz1 hz2 rfl (by decide) _ _ _ (by simp [Act.eval]) (World.ownsRow.alloc HR3.out _) ⟨w3.heap.size, 0, none⟩ 1 1 [.int .i64 av] (by simp [Act.eval]) rfl (cell_one_new _ _ _) (by intro u hu; simp at hu; subst hu; rfl) (by omega) (by unfold maxLen; omega) (by omega) (by have := HY3.out.gr.size; simp; omega) _ rfl ?_; intro g5 cap5 w5 hown5 hgrow5 hat5 hlt5; have hgw : g < w3.heap.size := (Nat.lt_of_lt_of_le HY3.out.gl HY3.out.gr.size); have hce := grown_cell hgrow5 (by simp; omega) (own_ne_m HR3.out HY3.out.gl); have c45 : w5.cell? ⟨g, 4, none⟩ = some (.slice A x cap) := (by rw [hce.1 4, World.cell?_alloc_lt _ _ _ hgw]; exact c04); have f45 : w5.frozen? ⟨g, 4, none⟩ = false := (by rw [hce.2 4, World.frozen?_alloc_old _ _ _ (by show g ≠ _; omega)]; exact HY3.out.fz 4 (by omega)); clear hce)
    | (go_simp; go_at_call 17; ((with_reducible refine (KA.out _ (HY.out.2.2.below (Below.drew (Below.refl _ _)))).mono ?_)); rintro e w3 ⟨rfl, hB3⟩; have HY3 := Lib.hid ((HY.out.1.below (Below.drew (Below.refl _ _))).below hB3); have c04 := HY3.out.c4; have f04 := HY3.out.fz 4 (by omega); have hgw3 : g < w3.heap.size := Nat.lt_of_lt_of_le HY3.out.gl HY3.out.gr.size; have HR3 := Lib.hid (World.ownsRow.kept (World.ownsRow.kept HY.out.2.1 (below_gr (Below.drew (Below.refl _ _))) (none_ok _)) (below_gr hB3) (none_ok _)); have c04b : (w3.alloc (.cells #[.int .i64 av] 2)).cell? ⟨g, 4, none⟩ = some (.slice A x cap) := (by rw [World.cell?_alloc_lt _ _ _ hgw3]; exact c04)))
  all_goals go_end0
  all_goals refine ⟨rfl, _, ((HY3.out.below ((Below.refl w3.heap.size w3).alloc (Nat.le_refl _) _)).grown hgrow5 (own_ne_m HR3.out HY3.out.gl) (fun b e => ?_)).setA _, ?_⟩
  all_goals first
    | (show w1.heap.size ≤ b; rcases HR3.out.2 with ⟨e0, -⟩ | ⟨q, _, _, e0, hb, -⟩ <;> rw [e0] at e
       · cases e
       · have : q = b := Option.some.inj e
         omega)
    | (show World.ownsRow _ _ _ _ _ _ _; rw [HA.out]; exact hown5.kept (grown_set _ _ _) (own_ge hown5 HY3.out.gl))
end Go.Proofs.YtkjjecghbhppgaaGreatDoor
/- The net while it is made: behind, lengths and gaps. -/
namespace Go.Proofs.YtkjjecghbhppgaaGreatDoor
open Go Go.RowKit Go.Maps TF

theorem length_call {n t : Nat} (hS : Side n) (ht : t < N4 n) (w : World) (hG : FrG w) :
    Calls Tryz.prog 11 #[.int .i64 n, .int .i64 (t / 4 : Nat), .int .i64 (t % 4 : Nat)] w fun e w' => e = .returned (.float .f64 (gL n t)) ∧ Below w.heap.size w w' := by
  have hx : t / 4 < 6 * n * n := by unfold N4 at ht; omega
  obtain ⟨hO, e⟩ := dec_on hS hx
  unfold gL TF.LE
  have h0 := length_0 n _ _ _ hO w hG
  have h1 := length_1 n _ _ _ hO w hG
  have h2 := length_2 n _ _ _ hO w hG
  have h3 := length_3 n _ _ _ hO w hG
  rw [e] at h0 h1 h2 h3
  rcases four (show t % 4 < 4 by omega) with ho | ho | ho | ho <;> rw [ho]
  · exact h0
  · exact h1
  · exact h2
  · exact h3
theorem gap_call {n t : Nat} (hS : Side n) (ht : t < N4 n) (w : World) (hF : Fr w) (hG : FrG w) :
    Calls Tryz.prog 12 #[.int .i64 n, .int .i64 (t / 4 : Nat), .int .i64 (t % 4 : Nat)] w fun e w' => e = .returned (.float .f64 (gG n t)) ∧ Below w.heap.size w w' := by
  have hx : t / 4 < 6 * n * n := by unfold N4 at ht; omega
  have ho : t % 4 < 4 := by omega
  obtain ⟨hO, e⟩ := dec_on hS hx
  have h := ggap_any n _ _ _ hO (t % 4) ho w hF hG
  have B := bes hS hx ho
  rw [e, B.f, B.i, B.j] at h
  exact h

/-- what lies behind an edge, by its first side's number -/
def bCell (n t : Nat) : List Value := [.int .i64 (bC n (t / 4) ((t % 4 + 2) % 4) : Nat), .int .i64 (bC n (sg n t / 4) ((sg n t % 4 + 2) % 4) : Nat)]
def bCells (n k : Nat) : List Value := ((EL n).take k).flatMap (bCell n)
def lCells (n k : Nat) : List Value := ((EL n).take k).map fun t => .float .f64 (gL n t)
def gCells (n k : Nat) : List Value := ((EL n).take k).map fun t => .float .f64 (gG n t)
theorem take_snoc {l : List Nat} {k t : Nat} (h : l[k]? = some t) : l.take (k + 1) = l.take k ++ [t] := by
  obtain ⟨hk, rfl⟩ := List.getElem?_eq_some_iff.1 h
  rw [List.take_succ_eq_append_getElem hk]
theorem bCells_succ {n k t : Nat} (h : (EL n)[k]? = some t) : bCells n (k + 1) = bCells n k ++ bCell n t := by unfold bCells; rw [take_snoc h, List.flatMap_append]; simp
theorem lCells_succ {n k t : Nat} (h : (EL n)[k]? = some t) : lCells n (k + 1) = lCells n k ++ [.float .f64 (gL n t)] := by unfold lCells; rw [take_snoc h, List.map_append]; rfl
theorem gCells_succ {n k t : Nat} (h : (EL n)[k]? = some t) : gCells n (k + 1) = gCells n k ++ [.float .f64 (gG n t)] := by unfold gCells; rw [take_snoc h, List.map_append]; rfl

/-- two rows do not lie in one block -/
def Apart (u v : Value) : Prop := ∀ q, u.ownBlock = some q → v.ownBlock ≠ some q
theorem Apart.symm {u v : Value} (h : Apart u v) : Apart v u := fun q hq he => h q he hq
theorem Apart.ne {u v : Value} (h : Apart u v) : v.ownBlock = none ∨ v.ownBlock ≠ u.ownBlock := by
  rcases hv : v.ownBlock with _ | q
  · exact .inl rfl
  · exact .inr fun e => h q e.symm hv
theorem Apart.next {w : World} {u v v' : Value} {b e size n q H : Nat} {xs : List Value} (hr : w.ownsRow b e size u n xs) (hA : Apart v u) (hv' : v'.ownBlock = some q) (hq : v.ownBlock = some q ∨ q = H) (hH : w.heap.size ≤ H) : Apart v' u := fun p hp hu => by
  rw [hv'] at hp
  have e := Option.some.inj hp
  subst e
  rcases hq with hq | rfl
  · exact hA _ hq hu
  · have := (hr.lt _ hu).2
    omega

structure GZ (w2 : World) (g n kB kL kG : Nat) (vB vL vG : Value) (w : World) : Prop where
  gr : w2.grownBy w (some g)
  gl : g < w2.heap.size
  keep : ∀ j, j ≠ 3 → j ≠ 5 → j ≠ 6 → w.cell? ⟨g, j, none⟩ = w2.cell? ⟨g, j, none⟩
  c3 : w.cell? ⟨g, 3, none⟩ = some vB
  c5 : w.cell? ⟨g, 5, none⟩ = some vL
  c6 : w.cell? ⟨g, 6, none⟩ = some vG
  fz : ∀ j < 7, w.frozen? ⟨g, j, none⟩ = false
  rB : w.ownsRow w2.heap.size 64 2 vB kB (bCells n kB)
  rL : w.ownsRow w2.heap.size 35 1 vL kL (lCells n kL)
  rG : w.ownsRow w2.heap.size 35 1 vG kG (gCells n kG)
  aL : Apart vB vL
  aG : Apart vB vG
  aX : Apart vL vG
theorem GZ.below {w2 w w' : World} {g n kB kL kG : Nat} {vB vL vG : Value} (h : GZ w2 g n kB kL kG vB vL vG w) (hB : Below w.heap.size w w') : GZ w2 g n kB kL kG vB vL vG w' := by
  have hg := below_gr hB
  obtain ⟨hc, hf⟩ := grown_cell hg (Nat.lt_of_lt_of_le h.gl h.gr.size) (by simp)
  exact ⟨⟨hg.os.trans h.gr.os, hg.tape.trans h.gr.tape, hg.output.trans h.gr.output, Nat.le_trans h.gr.size hg.size, fun i hi hne => (hg.block i (Nat.lt_of_lt_of_le hi h.gr.size) (by simp)).trans (h.gr.block i hi hne)⟩, h.gl,
    fun j a b c => (hc j).trans (h.keep j a b c), (hc 3).trans h.c3, (hc 5).trans h.c5, (hc 6).trans h.c6, fun j hj => (hf j).trans (h.fz j hj),
    h.rB.kept hg (none_ok _), h.rL.kept hg (none_ok _), h.rG.kept hg (none_ok _), h.aL, h.aG, h.aX⟩
theorem own_low {w : World} {base e size n : Nat} {v : Value} {xs : List Value} (h : w.ownsRow base e size v n xs) {m : Nat} (hm : m < base) : v.ownBlock ≠ some m := fun e => by
  have := (h.lt _ e).1
  omega
/-- the net's other cells behind an append and its store -/
theorem GZ.core {w2 w w5 : World} {g n kB kL kG : Nat} {vB vL vG : Value} (h : GZ w2 g n kB kL kG vB vL vG w) {v : Value} {e size m : Nat} {xs : List Value} (hr : w.ownsRow w2.heap.size e size v m xs) (hg : w.grownBy w5 v.ownBlock) (j : Nat) (u : Value) :
    w2.grownBy (w5.setCell ⟨g, j, none⟩ u) (some g) ∧ (∀ i, i ≠ j → (w5.setCell ⟨g, j, none⟩ u).cell? ⟨g, i, none⟩ = w.cell? ⟨g, i, none⟩) ∧ (w.cell? ⟨g, j, none⟩ ≠ none → (w5.setCell ⟨g, j, none⟩ u).cell? ⟨g, j, none⟩ = some u) ∧ (∀ i < 7, (w5.setCell ⟨g, j, none⟩ u).frozen? ⟨g, i, none⟩ = false) := by
  have hlt : g < w.heap.size := Nat.lt_of_lt_of_le h.gl h.gr.size
  obtain ⟨hc, hf⟩ := grown_cell hg hlt (fun e => own_low hr h.gl e.symm)
  have hs := grown_set w5 ⟨g, j, none⟩ u
  refine ⟨⟨(hs.os.trans hg.os).trans h.gr.os, (hs.tape.trans hg.tape).trans h.gr.tape, (hs.output.trans hg.output).trans h.gr.output, Nat.le_trans h.gr.size (Nat.le_trans hg.size hs.size), fun i hi hne => ?_⟩, fun i hi => ?_, fun hn => ?_, fun i hi => ?_⟩
  · rw [hs.block i (Nat.lt_of_lt_of_le hi (Nat.le_trans h.gr.size hg.size)) hne, hg.block i (Nat.lt_of_lt_of_le hi h.gr.size) (fun e => by have := (hr.lt _ e.symm).1; omega), h.gr.block i hi hne]
  · rw [World.cell?_setCell_other w5 _ _ _ (by simp)]; exact hc i
  · rw [← hc j] at hn
    obtain ⟨x, hx⟩ := Option.ne_none_iff_exists'.1 hn
    simp [go_sem, hx]
  · rw [World.frozen?_setCell]; exact (hf i).trans (h.fz i hi)
theorem GZ.stepB {w2 w w5 : World} {g n kB kL kG q : Nat} {vB vL vG v' : Value} (h : GZ w2 g n kB kL kG vB vL vG w) (hg : w.grownBy w5 vB.ownBlock) (hr : w5.ownsRow w2.heap.size 64 2 v' (kB + 1) (bCells n (kB + 1)))
    (hv : v'.ownBlock = some q) (hq : vB.ownBlock = some q ∨ q = w.heap.size) : GZ w2 g n (kB + 1) kL kG v' vL vG (w5.setCell ⟨g, 3, none⟩ v') := by
  obtain ⟨a, b, c, d⟩ := h.core h.rB hg 3 v'
  have hs := grown_set w5 ⟨g, 3, none⟩ v'
  exact ⟨a, h.gl, fun j h3 h5 h6 => (b j h3).trans (h.keep j h3 h5 h6), c (by rw [h.c3]; simp), (b 5 (by decide)).trans h.c5, (b 6 (by decide)).trans h.c6, d,
    hr.kept hs (.inr (own_low hr h.gl)), (h.rL.kept hg h.aL.ne).kept hs (.inr (own_low h.rL h.gl)), (h.rG.kept hg h.aG.ne).kept hs (.inr (own_low h.rG h.gl)), Apart.next h.rL h.aL hv hq (Nat.le_refl _), Apart.next h.rG h.aG hv hq (Nat.le_refl _), h.aX⟩
theorem GZ.stepL {w2 w w5 : World} {g n kB kL kG q : Nat} {vB vL vG v' : Value} (h : GZ w2 g n kB kL kG vB vL vG w) (hg : w.grownBy w5 vL.ownBlock) (hr : w5.ownsRow w2.heap.size 35 1 v' (kL + 1) (lCells n (kL + 1)))
    (hv : v'.ownBlock = some q) (hq : vL.ownBlock = some q ∨ q = w.heap.size) : GZ w2 g n kB (kL + 1) kG vB v' vG (w5.setCell ⟨g, 5, none⟩ v') := by
  obtain ⟨a, b, c, d⟩ := h.core h.rL hg 5 v'
  have hs := grown_set w5 ⟨g, 5, none⟩ v'
  exact ⟨a, h.gl, fun j h3 h5 h6 => (b j h5).trans (h.keep j h3 h5 h6), (b 3 (by decide)).trans h.c3, c (by rw [h.c5]; simp), (b 6 (by decide)).trans h.c6, d,
    (h.rB.kept hg h.aL.symm.ne).kept hs (.inr (own_low h.rB h.gl)), hr.kept hs (.inr (own_low hr h.gl)), (h.rG.kept hg h.aX.ne).kept hs (.inr (own_low h.rG h.gl)), (Apart.next h.rB h.aL.symm hv hq (Nat.le_refl _)).symm, h.aG, Apart.next h.rG h.aX hv hq (Nat.le_refl _)⟩
theorem GZ.stepG {w2 w w5 : World} {g n kB kL kG q : Nat} {vB vL vG v' : Value} (h : GZ w2 g n kB kL kG vB vL vG w) (hg : w.grownBy w5 vG.ownBlock) (hr : w5.ownsRow w2.heap.size 35 1 v' (kG + 1) (gCells n (kG + 1)))
    (hv : v'.ownBlock = some q) (hq : vG.ownBlock = some q ∨ q = w.heap.size) : GZ w2 g n kB kL (kG + 1) vB vL v' (w5.setCell ⟨g, 6, none⟩ v') := by
  obtain ⟨a, b, c, d⟩ := h.core h.rG hg 6 v'
  have hs := grown_set w5 ⟨g, 6, none⟩ v'
  exact ⟨a, h.gl, fun j h3 h5 h6 => (b j h6).trans (h.keep j h3 h5 h6), (b 3 (by decide)).trans h.c3, (b 5 (by decide)).trans h.c5, c (by rw [h.c6]; simp), d,
    (h.rB.kept hg h.aG.symm.ne).kept hs (.inr (own_low h.rB h.gl)), (h.rL.kept hg h.aX.symm.ne).kept hs (.inr (own_low h.rL h.gl)), hr.kept hs (.inr (own_low hr h.gl)), h.aL, (Apart.next h.rB h.aG.symm hv hq (Nat.le_refl _)).symm, (Apart.next h.rL h.aX.symm hv hq (Nat.le_refl _)).symm⟩
theorem info_two : (Tryz.prog.info? 64).map (fun i => (i.zero, i.size, i.bytes)) = some (some (.agg #[.int .i64 0, .int .i64 0]), 2, 16) := by kernel_rfl
theorem info_f64 : (Tryz.prog.info? 35).map (fun i => (i.zero, i.size, i.bytes)) = some (some (.float .f64 0), 1, 8) := by kernel_rfl
end Go.Proofs.YtkjjecghbhppgaaGreatDoor
