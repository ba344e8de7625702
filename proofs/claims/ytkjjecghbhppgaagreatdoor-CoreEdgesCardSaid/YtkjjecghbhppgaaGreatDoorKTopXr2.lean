/- What the row of CoreEdges needs: the two frames out of the condition. -/
import Derived.Test.YtkjjecghbhppgaaGreatDoorK10
import Derived.Test.YtkjjecghbhppgaaGreatDoorKTopP
import Derived.Test.YtkjjecghbhppgaaGreatDoorK05
import Derived.Test.YtkjjecghbhppgaaGreatDoorK04
import Derived.Test.YtkjjecghbhppgaaGreatDoorTie
import Derived.Test.YtkjjecghbhppgaaGreatDoorCards
import Derived.ProofKit
import Derived.OpenShut
import Derived.LaidMore
import Derived.Lay
import Derived.Lib.LaidTab
import Derived.SevenTiedAt
import Derived.Stop.Joined
namespace Go.Proofs.YtkjjecghbhppgaaGreatDoor
open Go.ChangeShapes Go.WideShapes Go.ChangeAt Go.RowKit TF

set_option maxRecDepth 100000
abbrev framesList : List (String × DataW Unit) := [("tarn/cube.frames", Rows.laid_tarn_cube_frames), ("tarn/geom.frames", Rows.laid_tarn_geom_frames)]
theorem agg_inj {H : Type} {a b : List (DataW H)} (h : DataW.agg a = DataW.agg b) : a = b := by injection h
theorem way_data (x y z : Int) : (DataW.agg [.lit (.int .i64 x), .lit (.int .i64 y), .lit (.int .i64 z)] : DataW Unit) = Lib.tabData .i64 [x, y, z] := rfl
theorem fr_of_var {W : World} {cs : Array Value} {fuel : Nat} {p : List MemPlace} (hv : W.var? Tryz.prog "tarn/cube.frames" = some cs) (hd : DataW.trod (fun _ => ()) Tryz.prog W 0 (fun _ => true) false fuel 102 cs.toList = some (Rows.laid_tarn_cube_frames, p)) : Fr W := by
  have hg : Tryz.prog.globalNamed "tarn/cube.frames" = some 1 := by kernel_rfl
  obtain ⟨xs, m, _, ex, _, hl, hel⟩ := DataW.trod_array Tryz.underlying102 hd
  have ex1 : xs.map (·.1) = _ := (DataW.agg.inj (Prod.mk.inj ex).1).symm
  have c9 : Tryz.prog.cellsOf 101 = 9 := by kernel_rfl
  have c3 : Tryz.prog.cellsOf 99 = 3 := by kernel_rfl
  have c1 : Tryz.prog.cellsOf 3 = 1 := by kernel_rfl
  -- each face's nine cells
  have face : ∀ (f : Nat) (a0 a1 a2 a3 a4 a5 a6 a7 a8 : Int), f < 6 → (xs.map (·.1))[f]? = some (.agg [.agg [.lit (.int .i64 a0), .lit (.int .i64 a1), .lit (.int .i64 a2)], .agg [.lit (.int .i64 a3), .lit (.int .i64 a4), .lit (.int .i64 a5)], .agg [.lit (.int .i64 a6), .lit (.int .i64 a7), .lit (.int .i64 a8)]]) →
      (cs.toList.drop (f * 9)).take 9 = [.int .i64 a0, .int .i64 a1, .int .i64 a2, .int .i64 a3, .int .i64 a4, .int .i64 a5, .int .i64 a6, .int .i64 a7, .int .i64 a8] := by
    intro f a0 a1 a2 a3 a4 a5 a6 a7 a8 hf hx
    have hE := hel f hf
    rw [c9] at hE
    rw [List.getElem?_map, Option.map_eq_some_iff] at hx
    obtain ⟨y, hy, hy1⟩ := hx
    rw [hy] at hE
    obtain ⟨ys, m2, _, ey, hcl, hyl, hel2⟩ := DataW.trod_array Tryz.underlying101 hE
    rw [c9] at hcl
    have ey1 : y.1 = .agg (ys.map (·.1)) := by rw [ey]
    rw [hy1] at ey1
    have ey2 := agg_inj ey1
    have way : ∀ (k : Nat) (x y z : Int), k < 3 → (ys.map (·.1))[k]? = some (.agg [.lit (.int .i64 x), .lit (.int .i64 y), .lit (.int .i64 z)]) → ((((cs.toList.drop (f * 9)).take 9).drop (k * 3)).take 3) = [.int .i64 x, .int .i64 y, .int .i64 z] := by
      intro k x y z hk hw
      have hE2 := hel2 k hk
      rw [c3] at hE2
      rw [List.getElem?_map, Option.map_eq_some_iff] at hw
      obtain ⟨u, hu, hu1⟩ := hw
      rw [hu] at hE2
      obtain ⟨u1, u2⟩ := u
      simp only at hu1
      subst hu1
      rw [way_data] at hE2
      have := Lib.cells_of_tab Tryz.underlying99 Tryz.underlying3 c1 (by kernel_rfl) hE2
      simpa using this
    rw [← ey2] at way
    have w0 := way 0 a0 a1 a2 (by omega) rfl
    have w1 := way 1 a3 a4 a5 (by omega) rfl
    have w2 := way 2 a6 a7 a8 (by omega) rfl
    generalize (cs.toList.drop (f * 9)).take 9 = l at *
    match l, hcl with
    | [b0, b1, b2, b3, b4, b5, b6, b7, b8], _ =>
      simp at w0 w1 w2
      obtain ⟨rfl, rfl, rfl⟩ := w0
      obtain ⟨rfl, rfl, rfl⟩ := w1
      obtain ⟨rfl, rfl, rfl⟩ := w2
      rfl
  rw [ex1] at face
  have cell : ∀ (f k : Nat) (v : Value), ((cs.toList.drop (f * 9)).take 9)[k]? = some v → W.cell? ⟨1, f * 9 + k, none⟩ = some v := by
    intro f k v hk
    rw [World.var?_cell hg hv (f * 9 + k)]
    rw [List.getElem?_take] at hk
    split at hk
    · rw [List.getElem?_drop] at hk
      simpa using hk
    · cases hk
  have nine : ∀ (f : Nat) (l : List Value), (cs.toList.drop (f * 9)).take 9 = l → l = (List.range 9).map (fun k => Value.int .i64 (FR f k)) → ∀ k < 9, W.cell? ⟨1, f * 9 + k, none⟩ = some (.int .i64 (FR f k)) := by
    intro f l e1 e2 k hk
    refine cell f k _ ?_
    rw [e1, e2, List.getElem?_map, List.getElem?_range hk]
    rfl
  intro f hf k hk
  rcases six hf with rfl | rfl | rfl | rfl | rfl | rfl
  · exact nine 0 _ (face 0 _ _ _ _ _ _ _ _ _ (by omega) rfl) rfl k hk
  · exact nine 1 _ (face 1 _ _ _ _ _ _ _ _ _ (by omega) rfl) rfl k hk
  · exact nine 2 _ (face 2 _ _ _ _ _ _ _ _ _ (by omega) rfl) rfl k hk
  · exact nine 3 _ (face 3 _ _ _ _ _ _ _ _ _ (by omega) rfl) rfl k hk
  · exact nine 4 _ (face 4 _ _ _ _ _ _ _ _ _ (by omega) rfl) rfl k hk
  · exact nine 5 _ (face 5 _ _ _ _ _ _ _ _ _ (by omega) rfl) rfl k hk
theorem frG_of_var {W : World} {cs : Array Value} {fuel : Nat} {p : List MemPlace} (hv : W.var? Tryz.prog "tarn/geom.frames" = some cs) (hd : DataW.trod (fun _ => ()) Tryz.prog W 0 (fun _ => true) false fuel 141 cs.toList = some (Rows.laid_tarn_geom_frames, p)) : FrG W := by
  have hg : Tryz.prog.globalNamed "tarn/geom.frames" = some 2 := by kernel_rfl
  obtain ⟨xs, m, _, ex, _, hl, hel⟩ := DataW.trod_array Tryz.underlying141 hd
  have ex1 : xs.map (·.1) = _ := (DataW.agg.inj (Prod.mk.inj ex).1).symm
  have c9 : Tryz.prog.cellsOf 140 = 9 := by kernel_rfl
  have c3 : Tryz.prog.cellsOf 98 = 3 := by kernel_rfl
  have c1 : Tryz.prog.cellsOf 3 = 1 := by kernel_rfl
  -- each face's nine cells
  have face : ∀ (f : Nat) (a0 a1 a2 a3 a4 a5 a6 a7 a8 : Int), f < 6 → (xs.map (·.1))[f]? = some (.agg [.agg [.lit (.int .i64 a0), .lit (.int .i64 a1), .lit (.int .i64 a2)], .agg [.lit (.int .i64 a3), .lit (.int .i64 a4), .lit (.int .i64 a5)], .agg [.lit (.int .i64 a6), .lit (.int .i64 a7), .lit (.int .i64 a8)]]) →
      (cs.toList.drop (f * 9)).take 9 = [.int .i64 a0, .int .i64 a1, .int .i64 a2, .int .i64 a3, .int .i64 a4, .int .i64 a5, .int .i64 a6, .int .i64 a7, .int .i64 a8] := by
    intro f a0 a1 a2 a3 a4 a5 a6 a7 a8 hf hx
    have hE := hel f hf
    rw [c9] at hE
    rw [List.getElem?_map, Option.map_eq_some_iff] at hx
    obtain ⟨y, hy, hy1⟩ := hx
    rw [hy] at hE
    obtain ⟨ys, m2, _, ey, hcl, hyl, hel2⟩ := DataW.trod_array Tryz.underlying140 hE
    rw [c9] at hcl
    have ey1 : y.1 = .agg (ys.map (·.1)) := by rw [ey]
    rw [hy1] at ey1
    have ey2 := agg_inj ey1
    have way : ∀ (k : Nat) (x y z : Int), k < 3 → (ys.map (·.1))[k]? = some (.agg [.lit (.int .i64 x), .lit (.int .i64 y), .lit (.int .i64 z)]) → ((((cs.toList.drop (f * 9)).take 9).drop (k * 3)).take 3) = [.int .i64 x, .int .i64 y, .int .i64 z] := by
      intro k x y z hk hw
      have hE2 := hel2 k hk
      rw [c3] at hE2
      rw [List.getElem?_map, Option.map_eq_some_iff] at hw
      obtain ⟨u, hu, hu1⟩ := hw
      rw [hu] at hE2
      obtain ⟨u1, u2⟩ := u
      simp only at hu1
      subst hu1
      rw [way_data] at hE2
      have := Lib.cells_of_tab Tryz.underlying98 Tryz.underlying3 c1 (by kernel_rfl) hE2
      simpa using this
    rw [← ey2] at way
    have w0 := way 0 a0 a1 a2 (by omega) rfl
    have w1 := way 1 a3 a4 a5 (by omega) rfl
    have w2 := way 2 a6 a7 a8 (by omega) rfl
    generalize (cs.toList.drop (f * 9)).take 9 = l at *
    match l, hcl with
    | [b0, b1, b2, b3, b4, b5, b6, b7, b8], _ =>
      simp at w0 w1 w2
      obtain ⟨rfl, rfl, rfl⟩ := w0
      obtain ⟨rfl, rfl, rfl⟩ := w1
      obtain ⟨rfl, rfl, rfl⟩ := w2
      rfl
  rw [ex1] at face
  have cell : ∀ (f k : Nat) (v : Value), ((cs.toList.drop (f * 9)).take 9)[k]? = some v → W.cell? ⟨2, f * 9 + k, none⟩ = some v := by
    intro f k v hk
    rw [World.var?_cell hg hv (f * 9 + k)]
    rw [List.getElem?_take] at hk
    split at hk
    · rw [List.getElem?_drop] at hk
      simpa using hk
    · cases hk
  have nine : ∀ (f : Nat) (l : List Value), (cs.toList.drop (f * 9)).take 9 = l → l = (List.range 9).map (fun k => Value.int .i64 (FR f k)) → ∀ k < 9, W.cell? ⟨2, f * 9 + k, none⟩ = some (.int .i64 (FR f k)) := by
    intro f l e1 e2 k hk
    refine cell f k _ ?_
    rw [e1, e2, List.getElem?_map, List.getElem?_range hk]
    rfl
  intro f hf k hk
  rcases six hf with rfl | rfl | rfl | rfl | rfl | rfl
  · exact nine 0 _ (face 0 _ _ _ _ _ _ _ _ _ (by omega) rfl) rfl k hk
  · exact nine 1 _ (face 1 _ _ _ _ _ _ _ _ _ (by omega) rfl) rfl k hk
  · exact nine 2 _ (face 2 _ _ _ _ _ _ _ _ _ (by omega) rfl) rfl k hk
  · exact nine 3 _ (face 3 _ _ _ _ _ _ _ _ _ (by omega) rfl) rfl k hk
  · exact nine 4 _ (face 4 _ _ _ _ _ _ _ _ _ (by omega) rfl) rfl k hk
  · exact nine 5 _ (face 5 _ _ _ _ _ _ _ _ _ (by omega) rfl) rfl k hk
theorem frs_of_laid {W : World} (h : laidMetH Tryz.prog framesList W) : Fr W ∧ FrG W := by
  rw [MakeChecks.laidMetH_plain _ _ _ (by kernel_rfl)] at h
  obtain ⟨ps, ⟨g, t, cs, fuel, p, q, hg, ht, hv, hd, ⟨g', t', cs', fuel', p', q', hg', ht', hv', hd', -, -⟩, -⟩, -, -⟩ := h
  obtain rfl := Option.some.inj ((show Tryz.prog.globalNamed "tarn/cube.frames" = some 1 by kernel_rfl).symm.trans hg)
  obtain rfl := Option.some.inj ((show (Tryz.prog.globals[1]?).map (·.type) = some 102 by kernel_rfl).symm.trans ht)
  obtain rfl := Option.some.inj ((show Tryz.prog.globalNamed "tarn/geom.frames" = some 2 by kernel_rfl).symm.trans hg')
  obtain rfl := Option.some.inj ((show (Tryz.prog.globals[2]?).map (·.type) = some 141 by kernel_rfl).symm.trans ht')
  exact ⟨fr_of_var hv hd, frG_of_var hv' hd'⟩
end Go.Proofs.YtkjjecghbhppgaaGreatDoor
