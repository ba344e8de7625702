/- A step: the sea behind it. -/
import Derived.Test.YtkjjecghbhppgaaGreatDoorK30
import Derived.Test.YtkjjecghbhppgaaGreatDoorK31
import Derived.Deep.RegionHeld3
import Derived.Deep.CutRange
import Derived.Deep.DeepCutAuto
namespace Go.Proofs.YtkjjecghbhppgaaGreatDoor
open Go Go.RowKit Go.Maps TF

set_option maxRecDepth 100000
set_option maxHeartbeats 8000000
theorem clonef_any (b n cap : Nat) (hn : n ≤ 12) (Z : Nat → Nat) (w : World) (hl : b < w.heap.size) (hz : FW w b n Z) :
    Calls Tryz.prog 35 #[.slice (some ⟨b, 0, none⟩) n cap] w fun e w' => ∃ A cap', e = .returned (.slice A n cap') ∧ Below w.heap.size w w' := by
  obtain ⟨i0, hi, hz0, hz1, hz2⟩ := info_parts info_f64
  have hcells : ∀ (j : Nat) (u : Value), ((List.range n).map fun i => Value.float .f64 (Z i))[j]? = some u → (w.alloc (.cells #[] 35)).cell? ((⟨b, 0, none⟩ : Addr).add j) = some u := by
    intro j u hj
    have hjn : j < n := by
      have := List.getElem?_eq_some_iff.1 hj
      simpa using this.1
    rw [List.getElem?_map, List.getElem?_range hjn] at hj
    simp only [Option.map_some, Option.some.injEq] at hj
    subst hj
    have e2 : (⟨b, 0, none⟩ : Addr).add j = ⟨b, j, none⟩ := by
      unfold Addr.add; split
      · rename_i h; subst h; rfl
      · simp
    rw [e2, World.cell?_alloc_lt _ _ _ hl]
    exact hz j hjn
  clear hz
  have he : ∀ w : World, (binOp .eql 38 (.slice (some ⟨b, 0, none⟩) n cap) (.slice none 0 0)).run Tryz.prog w = .ok (.bool false) w := fun _ => rfl
  go_enter Tryz.func35, Tryz.ntmps35
  go_wp2_with (at_builtin; refine wpList_append_own _ rfl _ _ 38 rfl w.heap.size 35 i0 (.float .f64 0) 1 8 Tryz.underlying38 hi hz0 hz1 hz2 rfl (by decide) _ 0 [] rfl (World.ownsRow_lit w #[] 0 (Nat.le_refl _) (Nat.zero_le _) rfl) ⟨b, 0, none⟩ n cap ((List.range n).map fun i => Value.float .f64 (Z i)) rfl (by simp) hcells (by intro u hu; simp at hu; obtain ⟨i, -, rfl⟩ := hu; rfl) (by unfold maxLen; omega) (by omega) (by simp) ?_; intro v' w1 hown hgrow _)
  go_ret
  rcases own_shape hown with ⟨A, cap', rfl⟩
  exact ⟨A, cap', by simp, ((Below.refl _ _).alloc (Nat.le_refl _) _).grown hgrow (by simp) (by intro k hk; simp [Act.eval, Value.ownBlock] at hk; omega)⟩
/-- what the second half of a step knows: its boxes, the flows -/
structure OneG (w : World) (bB bW bT bS b1 b3 b4 fb : Nat) (v : World) : Prop where
  bel : Below w.heap.size w v
  fl : w.heap.size + 2 < fb ∧ fb < v.heap.size
  f0 : v.cell? ⟨fb, 0, none⟩ = some (.slice (some ⟨b3, 0, none⟩) 12 12)
  f1 : v.cell? ⟨fb, 1, none⟩ = some (.slice (some ⟨b4, 0, none⟩) 12 12)
  p : ∀ j u, #[Value.int IntKind.i64 1, Value.float FloatKind.f64 4602678819172646912, Value.float FloatKind.f64 4607182418800017408, Value.float FloatKind.f64 0, Value.int IntKind.i64 0, Value.bool false, Value.slice none 0 0][j]? = some u → v.cell? ⟨w.heap.size, j, none⟩ = some u
  s : ∀ j u, #[Value.slice (some { block := bB, off := 0 }) 6 6, Value.slice (some { block := bW, off := 0 }) 6 6, Value.slice (some { block := bT, off := 0 }) 6 6, Value.slice (some { block := bS, off := 0 }) 12 12, Value.int IntKind.i64 0, Value.int IntKind.i64 0][j]? = some u → v.cell? ⟨w.heap.size + 1, j, none⟩ = some u
  rc : ∀ j < 6, v.cell? ⟨w.heap.size + 1 + 1, j, none⟩ = some (heldV v ⟨w.heap.size + 1 + 1, j, none⟩)
  rf : ∀ j, v.frozen? ⟨w.heap.size + 1 + 1, j, none⟩ = false
  g1 : w.heap.size + 2 < b1 ∧ b1 < v.heap.size ∧ FW v b1 12 spd
  g3 : w.heap.size + 2 < b3 ∧ b3 < v.heap.size ∧ IW v b3 12 flo
  g4 : w.heap.size + 2 < b4 ∧ b4 < v.heap.size ∧ IW v b4 12 (fun _ => 0)
  bed : FW v bB 6 (fun _ => 0)
theorem OneG.call {w v v' : World} {bB bW bT bS b1 b3 b4 fb : Nat} (h : OneG w bB bW bT bS b1 b3 b4 fb v) (lB : bB < w.heap.size) (hB : Below v.heap.size v v') : OneG w bB bW bT bS b1 b3 b4 fb v' := by
  have hs := hB.size
  obtain ⟨f1, f2⟩ := h.fl
  obtain ⟨x1, x2, x3⟩ := h.g1
  obtain ⟨y1, y2, y3⟩ := h.g3
  obtain ⟨z1, z2, z3⟩ := h.g4
  have k : ∀ b, b < v.heap.size → ∀ j, v'.cell? ⟨b, j, none⟩ = v.cell? ⟨b, j, none⟩ := fun b hb j => hB.cell (p := ⟨b, j, none⟩) hb
  exact ⟨h.bel.trans (hB.mono h.bel.size), ⟨f1, by omega⟩, (k _ f2 0).trans h.f0, (k _ f2 1).trans h.f1, fun j u e => (k _ (by omega) j).trans (h.p j u e), fun j u e => (k _ (by omega) j).trans (h.s j u e),
    fun j hj => heldV_of ((k _ (by omega) j).trans (h.rc j hj)), fun j => (hB.frozen (p := ⟨w.heap.size + 1 + 1, j, none⟩) (by show w.heap.size + 1 + 1 < _; omega)).trans (h.rf j), ⟨x1, by omega, x3.below x2 hB⟩, ⟨y1, by omega, y3.below y2 hB⟩, ⟨z1, by omega, z3.below z2 hB⟩, h.bed.below (by omega) hB⟩
/-- .. and a box of six besides, the sea to come -/
structure OneS (w : World) (bB bW bT bS b1 b3 b4 fb ob : Nat) (V : Nat → Value) (v : World) : Prop where
  g : OneG w bB bW bT bS b1 b3 b4 fb v
  ol : fb < ob ∧ ob < v.heap.size
  on : ob ≠ b1 ∧ ob ≠ b3 ∧ ob ≠ b4
  o : ∀ j < 6, v.cell? ⟨ob, j, none⟩ = some (V j)
  oz : ∀ j, v.frozen? ⟨ob, j, none⟩ = false
theorem OneS.call {w v v' : World} {bB bW bT bS b1 b3 b4 fb ob : Nat} {V : Nat → Value} (h : OneS w bB bW bT bS b1 b3 b4 fb ob V v) (lB : bB < w.heap.size) (hB : Below v.heap.size v v') : OneS w bB bW bT bS b1 b3 b4 fb ob V v' :=
  ⟨h.g.call lB hB, ⟨h.ol.1, Nat.lt_of_lt_of_le h.ol.2 hB.size⟩, h.on, fun j hj => (hB.cell (p := ⟨ob, j, none⟩) h.ol.2).trans (h.o j hj), fun j => (hB.frozen (p := ⟨ob, j, none⟩) h.ol.2).trans (h.oz j)⟩
theorem OneG.set {w v : World} {bB bW bT bS b1 b3 b4 fb : Nat} (h : OneG w bB bW bT bS b1 b3 b4 fb v) (lB : bB < w.heap.size) (ob k : Nat) (x : Value) (h1 : fb < ob) (h2 : ob ≠ b1 ∧ ob ≠ b3 ∧ ob ≠ b4) : OneG w bB bW bT bS b1 b3 b4 fb (v.setCell ⟨ob, k, none⟩ x) := by
  obtain ⟨f1, f2⟩ := h.fl
  obtain ⟨n1, n3, n4⟩ := h2
  have far : ∀ c, ob ≠ c → ∀ o, (v.setCell ⟨ob, k, none⟩ x).cell? ⟨c, o, none⟩ = v.cell? ⟨c, o, none⟩ := fun c hc o => World.cell?_setCell_other _ _ _ _ (by intro e; injection e; omega)
  exact ⟨h.bel.setCell (by show w.heap.size ≤ ob; omega) _, ⟨f1, by simpa using f2⟩, (far _ (by omega) 0).trans h.f0, (far _ (by omega) 1).trans h.f1, fun j u e => (far _ (by omega) j).trans (h.p j u e), fun j u e => (far _ (by omega) j).trans (h.s j u e),
    fun j hj => heldV_set (h.rc j hj), fun j => by rw [World.frozen?_setCell]; exact h.rf j, ⟨h.g1.1, by simpa using h.g1.2.1, fun i hi => (far _ n1 i).trans (h.g1.2.2 i hi)⟩, ⟨h.g3.1, by simpa using h.g3.2.1, fun i hi => (far _ n3 i).trans (h.g3.2.2 i hi)⟩, ⟨h.g4.1, by simpa using h.g4.2.1, fun i hi => (far _ n4 i).trans (h.g4.2.2 i hi)⟩, fun i hi => (far _ (by omega) i).trans (h.bed i hi)⟩
theorem OneS.set {w v : World} {bB bW bT bS b1 b3 b4 fb ob : Nat} {V : Nat → Value} (h : OneS w bB bW bT bS b1 b3 b4 fb ob V v) (lB : bB < w.heap.size) (k : Nat) (x : Value) : OneS w bB bW bT bS b1 b3 b4 fb ob (fun j => if j = k then x else V j) (v.setCell ⟨ob, k, none⟩ x) :=
  ⟨h.g.set lB ob k x h.ol.1 h.on, ⟨h.ol.1, by simpa using h.ol.2⟩, h.on, fun j hj => by
    by_cases e : j = k
    · subst e; rw [if_pos rfl]; exact World.cell?_setCell_same _ _ _ (h.o j hj)
    · rw [if_neg e, World.cell?_setCell_other _ _ _ _ (by intro e2; injection e2; omega)]; exact h.o j hj, fun j => by rw [World.frozen?_setCell]; exact h.oz j⟩
theorem OneS.same {w v : World} {bB bW bT bS b1 b3 b4 fb ob : Nat} {V V' : Nat → Value} (h : OneS w bB bW bT bS b1 b3 b4 fb ob V v) (e : ∀ j < 6, V j = V' j) : OneS w bB bW bT bS b1 b3 b4 fb ob V' v :=
  ⟨h.g, h.ol, h.on, fun j hj => by rw [← e j hj]; exact h.o j hj, h.oz⟩
theorem oneS_A {w v : World} {bB bW bT bS b1 b3 b4 fb cap : Nat} {A : Option Addr} (h : OneG w bB bW bT bS b1 b3 b4 fb v) (lB : bB < w.heap.size) : OneS w bB bW bT bS b1 b3 b4 fb v.heap.size (fun j => if j = 0 then .slice A 6 cap else if j = 3 then .slice (some ⟨b1, 0, none⟩) 12 12 else if j = 4 then .int .i64 0 else if j = 5 then .int .i64 1 else .slice none 0 0) (v.alloc (Obj.cells #[Value.slice A 6 cap, Value.slice none 0 0, Value.slice none 0 0, Value.slice (some { block := b1, off := 0 }) 12 12, Value.int IntKind.i64 0, Value.int IntKind.i64 1] 48)) := by
  have h1 := h.g1.2.1
  have h3 := h.g3.2.1
  have h4 := h.g4.2.1
  refine ⟨h.call lB ((Below.refl _ _).alloc (Nat.le_refl _) _), ⟨h.fl.2, by simp⟩, ⟨by omega, by omega, by omega⟩, fun j hj => ?_, fun j => by simp [go_sem]⟩
  obtain rfl | rfl | rfl | rfl | rfl | rfl : j = 0 ∨ j = 1 ∨ j = 2 ∨ j = 3 ∨ j = 4 ∨ j = 5 := by omega
  all_goals simp [go_sem]
theorem oneS_B {w W v : World} {bB bW bT bS b1 b3 b4 fb cap : Nat} {A : Option Addr} (h : OneG w bB bW bT bS b1 b3 b4 fb W) (lB : bB < w.heap.size) (hB : Below (W.alloc (Obj.cells #[Value.slice none 0 0, Value.slice none 0 0, Value.slice none 0 0, Value.slice none 0 0, Value.int IntKind.i64 0, Value.int IntKind.i64 0] 48)).drew.heap.size (W.alloc (Obj.cells #[Value.slice none 0 0, Value.slice none 0 0, Value.slice none 0 0, Value.slice none 0 0, Value.int IntKind.i64 0, Value.int IntKind.i64 0] 48)).drew v) :
    OneS w bB bW bT bS b1 b3 b4 fb W.heap.size (fun j => if j = 0 then .slice A 6 cap else if j = 3 then .slice (some ⟨b1, 0, none⟩) 12 12 else if j = 4 then .int .i64 0 else if j = 5 then .int .i64 1 else .slice none 0 0) ((((((v.setCell ⟨W.heap.size, 0, none⟩ (.slice A 6 cap)).setCell ⟨W.heap.size, 1, none⟩ (.slice none 0 0)).setCell ⟨W.heap.size, 2, none⟩ (.slice none 0 0)).setCell ⟨W.heap.size, 3, none⟩ (.slice (some ⟨b1, 0, none⟩) 12 12)).setCell ⟨W.heap.size, 4, none⟩ (.int .i64 0)).setCell ⟨W.heap.size, 5, none⟩ (.int .i64 1)) := by
  have h1 := h.g1.2.1
  have h3 := h.g3.2.1
  have h4 := h.g4.2.1
  have hX : OneG w bB bW bT bS b1 b3 b4 fb (W.alloc (Obj.cells #[Value.slice none 0 0, Value.slice none 0 0, Value.slice none 0 0, Value.slice none 0 0, Value.int IntKind.i64 0, Value.int IntKind.i64 0] 48)).drew := h.call lB ((Below.refl _ _).alloc (Nat.le_refl _) _).drew
  have hS : OneS w bB bW bT bS b1 b3 b4 fb W.heap.size (fun j => if j < 4 then .slice none 0 0 else .int .i64 0) (W.alloc (Obj.cells #[Value.slice none 0 0, Value.slice none 0 0, Value.slice none 0 0, Value.slice none 0 0, Value.int IntKind.i64 0, Value.int IntKind.i64 0] 48)).drew := by
    refine ⟨hX, ⟨h.fl.2, by simp⟩, ⟨by omega, by omega, by omega⟩, fun j hj => ?_, fun j => by simp [go_sem]⟩
    obtain rfl | rfl | rfl | rfl | rfl | rfl : j = 0 ∨ j = 1 ∨ j = 2 ∨ j = 3 ∨ j = 4 ∨ j = 5 := by omega
    all_goals simp [go_sem]
  refine ((((((((hS.call lB hB).set lB 0 _).set lB 1 _).set lB 2 _).set lB 3 _).set lB 4 _).set lB 5 _).same fun j hj => ?_)
  obtain rfl | rfl | rfl | rfl | rfl | rfl : j = 0 ∨ j = 1 ∨ j = 2 ∨ j = 3 ∨ j = 4 ∨ j = 5 := by omega
  all_goals rfl
def OneP (w : World) (b1 lo : Nat) (A : Option Addr) (v : World) : Prop := Below w.heap.size w v ∧ (w.heap.size ≤ b1 ∧ b1 < v.heap.size ∧ FW v b1 12 spd) ∧ OwnAt v lo v.heap.size A 6 (lw wat flo 12)
theorem OneP.set {w v : World} {b1 lo x : Nat} {A : Option Addr} (h : OneP w b1 lo A v) (k : Nat) (u : Value) (hx : w.heap.size ≤ x) (hne : x ≠ b1) (hl : x < lo) : OneP w b1 lo A (v.setCell ⟨x, k, none⟩ u) := by
  obtain ⟨h1, ⟨h2, h3, h4⟩, h5⟩ := h
  refine ⟨h1.setCell hx _, ⟨h2, by rw [World.size_setCell]; exact h3, fun i hi => ?_⟩, ?_⟩
  · rw [World.cell?_setCell_other _ _ _ _ (by intro e; injection e; omega)]; exact h4 i hi
  · rw [World.size_setCell]; exact h5.far x k u (.inl hl)
theorem one_end {w v : World} {b1 lo x : Nat} {A : Option Addr} (u0 u1 u2 u3 u4 u5 : Value) (h : OneP w b1 lo A v) (hx : w.heap.size ≤ x) (hne : x ≠ b1) (hl : x < lo) (hlo : w.heap.size ≤ lo) :
    Below w.heap.size w ((((((v.setCell ⟨x, 0, none⟩ u0).setCell ⟨x, 1, none⟩ u1).setCell ⟨x, 2, none⟩ u2).setCell ⟨x, 3, none⟩ u3).setCell ⟨x, 4, none⟩ u4).setCell ⟨x, 5, none⟩ u5) ∧
      (w.heap.size ≤ b1 ∧ b1 < ((((((v.setCell ⟨x, 0, none⟩ u0).setCell ⟨x, 1, none⟩ u1).setCell ⟨x, 2, none⟩ u2).setCell ⟨x, 3, none⟩ u3).setCell ⟨x, 4, none⟩ u4).setCell ⟨x, 5, none⟩ u5).heap.size ∧ FW ((((((v.setCell ⟨x, 0, none⟩ u0).setCell ⟨x, 1, none⟩ u1).setCell ⟨x, 2, none⟩ u2).setCell ⟨x, 3, none⟩ u3).setCell ⟨x, 4, none⟩ u4).setCell ⟨x, 5, none⟩ u5) b1 12 spd) ∧
      OwnAt ((((((v.setCell ⟨x, 0, none⟩ u0).setCell ⟨x, 1, none⟩ u1).setCell ⟨x, 2, none⟩ u2).setCell ⟨x, 3, none⟩ u3).setCell ⟨x, 4, none⟩ u4).setCell ⟨x, 5, none⟩ u5) w.heap.size ((((((v.setCell ⟨x, 0, none⟩ u0).setCell ⟨x, 1, none⟩ u1).setCell ⟨x, 2, none⟩ u2).setCell ⟨x, 3, none⟩ u3).setCell ⟨x, 4, none⟩ u4).setCell ⟨x, 5, none⟩ u5).heap.size A 6 (lw wat flo 12) := by
  have q := (((((h.set 0 u0 hx hne hl).set 1 u1 hx hne hl).set 2 u2 hx hne hl).set 3 u3 hx hne hl).set 4 u4 hx hne hl).set 5 u5 hx hne hl
  exact ⟨q.1, q.2.1, q.2.2.wide hlo⟩
theorem goes_1 : Goes wat flo := ⟨by decide, by decide, by decide⟩
theorem goes_0 : Goes (fun _ => 0) (fun _ => 0) := ⟨by decide, by decide, by decide⟩
theorem one_ok {bB bW bT bS : Nat} {T : NetT} (w : World) (hN : Net 1 T w) (hP : Pond bB bW bT bS (fun _ => 0) w) :
    Calls Tryz.prog 19 #[.pointer (some ⟨T.g, 0, none⟩), planV, seaV bB bW bT bS] w fun e w' => ∃ A0 c0 A cap A2 b1, e = .returned (.tuple #[.agg #[.slice A0 6 c0, .slice A 6 cap, .slice A2 6 6, .slice (some ⟨b1, 0, none⟩) 12 12, .int .i64 0, .int .i64 1], .int .i64 0]) ∧ Below w.heap.size w w' ∧
      (w.heap.size ≤ b1 ∧ b1 < w'.heap.size ∧ FW w' b1 12 spd) ∧ OwnAt w' w.heap.size w'.heap.size A 6 (lw wat flo 12) := by
  have HN := Lib.hid hN
  have HP := Lib.hid hP
  clear hN hP
  go_enter Tryz.func19, Tryz.ntmps19
  go_upto_region 7 with (first | (go_at_call 33; ((with_reducible refine (can_ok _ (HN.out.below (by (repeat' (first | with_reducible assumption | with_reducible exact Nat.le_refl _ | with_reducible refine Below.setCell ?_ ?_ _ | with_reducible refine Below.drew ?_ | with_reducible refine Below.alloc ?_ ?_ _ | with_reducible exact Below.refl _ _ | omega | (simp; done) | (simp; omega))))) (HP.out.below (by (repeat' (first | with_reducible assumption | with_reducible exact Nat.le_refl _ | with_reducible refine Below.setCell ?_ ?_ _ | with_reducible refine Below.drew ?_ | with_reducible refine Below.alloc ?_ ?_ _ | with_reducible exact Below.refl _ _ | omega | (simp; done) | (simp; omega)))))).mono ?_)); rintro e w1 ⟨rfl, hB1⟩; obtain ⟨hd1, hf1⟩ := bcell hB1; have hz1a : w.heap.size + 2 < w1.heap.size := (by have := hB1.size; simp at this; omega); have hz1 : w.heap.size + 1 < w1.heap.size := (by omega); have hz1c : w.heap.size < w1.heap.size := (by omega); have hV1 : Below w.heap.size w w1 := Below.trans (by (repeat' (first | with_reducible assumption | with_reducible exact Nat.le_refl _ | with_reducible refine Below.setCell ?_ ?_ _ | with_reducible refine Below.drew ?_ | with_reducible refine Below.alloc ?_ ?_ _ | with_reducible exact Below.refl _ _ | omega | (simp; done) | (simp; omega)))) (hB1.mono (by first | exact Nat.le_refl _ | omega | (simp; done) | (simp; omega)))) | (go_at_call 34; ((with_reducible refine (flow_ok _ (HN.out.below (by (repeat' (first | with_reducible assumption | with_reducible exact Nat.le_refl _ | with_reducible refine Below.setCell ?_ ?_ _ | with_reducible refine Below.drew ?_ | with_reducible refine Below.alloc ?_ ?_ _ | with_reducible exact Below.refl _ _ | omega | (simp; done) | (simp; omega))))) (HP.out.below (by (repeat' (first | with_reducible assumption | with_reducible exact Nat.le_refl _ | with_reducible refine Below.setCell ?_ ?_ _ | with_reducible refine Below.drew ?_ | with_reducible refine Below.alloc ?_ ?_ _ | with_reducible exact Below.refl _ _ | omega | (simp; done) | (simp; omega)))))).mono ?_)); rintro e w2 ⟨b1, b3, b4, rfl, hB2, hb1, hb3, hb4⟩))
  have hA := ((((Held.start (w0 := w) (fun _ => false) (by (repeat' (first | with_reducible assumption | with_reducible exact Nat.le_refl _ | with_reducible refine Below.setCell ?_ ?_ _ | with_reducible refine Below.drew ?_ | with_reducible refine Below.alloc ?_ ?_ _ | with_reducible exact Below.refl _ _ | omega | (simp; done) | (simp; omega))) : Below w.heap.size w (((w.alloc (Obj.cells #[Value.int IntKind.i64 1, Value.float FloatKind.f64 4602678819172646912, Value.float FloatKind.f64 4607182418800017408, Value.float FloatKind.f64 0, Value.int IntKind.i64 0, Value.bool false, Value.slice none 0 0] 45)).alloc (Obj.cells #[Value.slice (some { block := bB, off := 0 }) 6 6, Value.slice (some { block := bW, off := 0 }) 6 6, Value.slice (some { block := bT, off := 0 }) 6 6, Value.slice (some { block := bS, off := 0 }) 12 12, Value.int IntKind.i64 0, Value.int IntKind.i64 0] 48)).alloc (Obj.cells #[Value.slice none 0 0, Value.slice none 0 0, Value.slice none 0 0, Value.slice none 0 0, Value.int IntKind.i64 0, Value.int IntKind.i64 0] 48)))).call hB1).call hB2).alloc (Obj.cells #[Value.slice (some { block := b3, off := 0 }) 12 12, Value.slice (some { block := b4, off := 0 }) 12 12] 84))
  have hs1 := hB2.size
  have hG2 : OneG w bB bW bT bS b1 b3 b4 w2.heap.size (w2.alloc (Obj.cells #[Value.slice (some { block := b3, off := 0 }) 12 12, Value.slice (some { block := b4, off := 0 }) 12 12] 84)) := by
    obtain ⟨x1, x2, x3⟩ := hb1
    obtain ⟨y1, y2, y3⟩ := hb3
    obtain ⟨z1, z2, z3⟩ := hb4
    have hB3 : Below w2.heap.size w2 (w2.alloc (Obj.cells #[Value.slice (some { block := b3, off := 0 }) 12 12, Value.slice (some { block := b4, off := 0 }) 12 12] 84)) := (Below.refl _ _).alloc (Nat.le_refl _) _
    refine ⟨hA.bel, ⟨by omega, by simp⟩, by simp [go_sem], by simp [go_sem], fun j u e => ?_, fun j u e => ?_, fun j hj => ?_, fun j => ?_, ⟨by omega, by simp; omega, x3.below x2 hB3⟩, ⟨by omega, by simp; omega, y3.below y2 hB3⟩, ⟨by omega, by simp; omega, z3.below z2 hB3⟩, (HP.out.below hA.bel).bed⟩
    · refine (hA.cell _ j (by simp; omega) rfl).trans ?_
      rw [World.cell?_alloc_lt _ _ _ (by simp; omega), World.cell?_alloc_lt _ _ _ (by simp)]; simpa [World.cell?_alloc_new] using e
    · refine (hA.cell _ j (by simp) rfl).trans ?_
      rw [World.cell?_alloc_lt _ _ _ (by simp)]
      have e2 : w.heap.size + 1 = (w.alloc (Obj.cells #[Value.int IntKind.i64 1, Value.float FloatKind.f64 4602678819172646912, Value.float FloatKind.f64 4607182418800017408, Value.float FloatKind.f64 0, Value.int IntKind.i64 0, Value.bool false, Value.slice none 0 0] 45)).heap.size := by simp
      rw [e2]; simpa [World.cell?_alloc_new] using e
    · refine heldV_of (v := w2.alloc (Obj.cells #[Value.slice (some { block := b3, off := 0 }) 12 12, Value.slice (some { block := b4, off := 0 }) 12 12] 84)) (u := (#[Value.slice none 0 0, Value.slice none 0 0, Value.slice none 0 0, Value.slice none 0 0, Value.int IntKind.i64 0, Value.int IntKind.i64 0][j]?).getD undef) ((hA.cell _ j (by simp) rfl).trans ?_)
      obtain rfl | rfl | rfl | rfl | rfl | rfl : j = 0 ∨ j = 1 ∨ j = 2 ∨ j = 3 ∨ j = 4 ∨ j = 5 := by omega
      all_goals simp [go_sem]
    · exact (hA.froz _ j (by simp)).trans (by simp [go_sem])
  generalize w2.alloc (Obj.cells #[Value.slice (some { block := b3, off := 0 }) 12 12, Value.slice (some { block := b4, off := 0 }) 12 12] 84) = W at hG2 ⊢
  generalize w2.heap.size = fb at hG2 ⊢
  have lB := HP.out.lB
  have s0 := hG2.s 0 _ rfl
  have s5 := hG2.s 5 _ rfl
  have hzW : w.heap.size + 1 < W.heap.size := by have := hG2.fl; omega
  have HG2 := Lib.hid hG2
  clear hA hB1 hB2 hd1 hf1 hz1a hz1 hz1c hV1 hs1 hb1 hb3 hb4 hG2
  go_cut [12] (fun s12 wx => ∃ ob A cap, s12 = .pointer (some ⟨ob, 0, none⟩) ∧ OneS w bB bW bT bS b1 b3 b4 fb ob (fun j => if j = 0 then .slice A 6 cap else if j = 3 then .slice (some ⟨b1, 0, none⟩) 12 12 else if j = 4 then .int .i64 0 else if j = 5 then .int .i64 1 else .slice none 0 0) wx)
  case first =>
    have KEEP : Hid (∀ v, OneG w bB bW bT bS b1 b3 b4 fb v → v.cell? ⟨w.heap.size + 1, 0, none⟩ = some (.slice (some ⟨bB, 0, none⟩) 6 6) ∧ v.cell? ⟨w.heap.size + 1, 5, none⟩ = some (.int .i64 0) ∧ OneG w bB bW bT bS b1 b3 b4 fb v) := Lib.hid fun v h => ⟨h.s 0 _ rfl, h.s 5 _ rfl, h⟩
    have hfb := HG2.out.fl
    have hg1 := HG2.out.g1.2.1
    have hg3 := HG2.out.g3.2.1
    have hg4 := HG2.out.g4.2.1
    have ST : Hid (∀ v, OneG w bB bW bT bS b1 b3 b4 fb v → OneG w bB bW bT bS b1 b3 b4 fb v.drew) := Lib.hid fun v h => h.call lB (Below.refl _ _).drew
    have SA : Hid (∀ v o, OneG w bB bW bT bS b1 b3 b4 fb v → OneG w bB bW bT bS b1 b3 b4 fb (v.alloc o)) := Lib.hid fun v o h => h.call lB ((Below.refl _ _).alloc (Nat.le_refl _) o)
    have SS : Hid (∀ v k u, OneG w bB bW bT bS b1 b3 b4 fb v → OneG w bB bW bT bS b1 b3 b4 fb (v.setCell ⟨W.heap.size, k, none⟩ u)) := Lib.hid fun v k u h => h.set lB _ k u hfb.2 ⟨by omega, by omega, by omega⟩
    have KCL : Hid (∀ v, OneG w bB bW bT bS b1 b3 b4 fb v → Calls Tryz.prog 35 #[.slice (some ⟨bB, 0, none⟩) 6 6] v fun e w' => ∃ A cap, e = .returned (.slice A 6 cap) ∧ OneG w bB bW bT bS b1 b3 b4 fb w' ∧ Below v.heap.size v w') := Lib.hid fun v h =>
      (clonef_any bB 6 6 (by omega) (fun _ => 0) v (Nat.lt_of_lt_of_le lB h.bel.size) h.bed).mono fun _ _ ⟨A, cap, q, b⟩ => ⟨A, cap, q, h.call lB b, b⟩
    have h0 := HG2.out
    have hm : IntKind.i64.wrap (min (0 : Int) 4611686018427387903 + 1) = 1 := by decide
    go_region_held3 (fun v => v.cell? ⟨w.heap.size + 1, 0, none⟩ = some (.slice (some ⟨bB, 0, none⟩) 6 6) ∧ v.cell? ⟨w.heap.size + 1, 5, none⟩ = some (.int .i64 0) ∧ OneG w bB bW bT bS b1 b3 b4 fb v)
      ((refine KEEP.out _ ?_; repeat (first | with_reducible assumption | with_reducible refine ST.out _ ?_ | with_reducible refine SA.out _ _ ?_ | with_reducible refine SS.out _ _ _ ?_)))
      (first | (go_at_call 35; ((with_reducible refine (KCL.out _ (by repeat (first | with_reducible assumption | with_reducible refine ST.out _ ?_ | with_reducible refine SA.out _ _ ?_))).mono ?_)); rintro e w3 ⟨A3, cap3, rfl, hX3, hB3⟩; have hz3 : w.heap.size + 1 < w3.heap.size := (by have := hX3.fl; omega); obtain ⟨hd3, hf3⟩ := bcell hB3; have HB3 := Lib.hid hB3; clear hB3))
    all_goals
      go_wp2_with fail
      go_meet
      first
        | (refine ⟨_, A3, cap3, rfl, ?_⟩; (try rw [hm]); with_reducible exact oneS_A (by with_reducible assumption) lB)
        | (refine ⟨_, A3, cap3, rfl, ?_⟩; (try rw [hm]); with_reducible exact oneS_B HG2.out lB HB3.out)
  case rest =>
    obtain ⟨ob, A, cap, rfl, hS⟩ := hcut
    clear HG2 s0 s5 hzW
    have s1 := hS.g.s 1 _ rfl
    have f0 := hS.g.f0
    go_upto_region 9 with (first | (go_at_call 36; have ks := move_ok bW b3 wat flo goes_1 wc (HN.out.below hS.g.bel) (Nat.lt_of_lt_of_le HP.out.lW hS.g.bel.size) hS.g.g3.2.1 (HP.out.below hS.g.bel).wat hS.g.g3.2.2; ((with_reducible refine (ks).mono ?_)); clear ks; rintro e w5 ⟨b5, rfl, hB5, g5a, g5b, g5c⟩; have hS5 := hS.call lB hB5; have o15 := hS5.o 1 (by omega); have z15 := hS5.oz 1))
    have hob5 : ob ≠ b5 := by have := hS.ol.2; omega
    have hS6 := hS5.set lB 1 (.slice (some ⟨b5, 0, none⟩) 6 6)
    have hI6 := g5c.far ⟨ob, 1, none⟩ (.slice (some ⟨b5, 0, none⟩) 6 6) hob5
    have hl6 : b5 < (w5.setCell ⟨ob, 1, none⟩ (.slice (some ⟨b5, 0, none⟩) 6 6)).heap.size := by simpa using g5b
    generalize w5.setCell { block := ob, off := 1 } (Value.slice (some { block := b5, off := 0 }) 6 6) = W6 at hS6 hI6 hl6 ⊢
    clear s1 f0 o15 z15 hS5 hB5 g5a g5b g5c hS
    have s2 := hS6.g.s 2 _ rfl
    have f1 := hS6.g.f1
    go_upto_region 12 with (first | (go_at_call 36; have ks := move_ok bT b4 (fun _ => 0) (fun _ => 0) goes_0 W6 (HN.out.below hS6.g.bel) (Nat.lt_of_lt_of_le HP.out.lT hS6.g.bel.size) hS6.g.g4.2.1 (HP.out.below hS6.g.bel).tr hS6.g.g4.2.2; ((with_reducible refine (ks).mono ?_)); clear ks; rintro e w7 ⟨b7, rfl, hB7, g7a, g7b, -⟩; have hS7 := hS6.call lB hB7; have o27 := hS7.o 2 (by omega); have z27 := hS7.oz 2))
    have hI7 := hI6.below hl6 hB7
    have hl7 := Nat.lt_of_lt_of_le hl6 hB7.size
    have hS8 := hS7.set lB 2 (.slice (some ⟨b7, 0, none⟩) 6 6)
    have hI8 := hI7.far ⟨ob, 2, none⟩ (.slice (some ⟨b7, 0, none⟩) 6 6) hob5
    have hl8 : b5 < (w7.setCell ⟨ob, 2, none⟩ (.slice (some ⟨b7, 0, none⟩) 6 6)).heap.size := by simpa using hl7
    generalize w7.setCell { block := ob, off := 2 } (Value.slice (some { block := b7, off := 0 }) 6 6) = W8 at hS8 hI8 hl8 ⊢
    clear s2 f1 o27 z27 hS7 hB7 g7a g7b hI6 hl6 hS6 hI7 hl7
    have o1 : W8.cell? ⟨ob, 1, none⟩ = some (.slice (some ⟨b5, 0, none⟩) 6 6) := hS8.o 1 (by omega)
    have s4 := hS8.g.s 4 _ rfl
    have s5 := hS8.g.s 5 _ rfl
    have p6 := hS8.g.p 6 _ rfl
    go_upto_region 15 with (first | (go_at_call 37; have ks := fall_nil (some ⟨b5, 0, none⟩) 6 (lw wat flo 12) W8 (by intro h; cases h) (fun i hi => ⟨b5, 0, rfl, hl8, by rw [Nat.zero_add]; exact hI8 i hi⟩) (by decide +kernel); ((with_reducible refine (ks).mono ?_)); clear ks; rintro e w9 ⟨A9, cap9, rfl, hO9, hB9⟩; have hS9 := hS8.call lB hB9; have o19 := hS9.o 1 (by omega); have o49 := hS9.o 4 (by omega); have z19 := hS9.oz 1; have z49 := hS9.oz 4))
    have hS10 := (hS9.set lB 1 (.slice A9 6 cap9)).set lB 4 (.int .i64 0)
    have hlo := hS8.ol.2
    have hO10 := (hO9.far ob 1 (.slice A9 6 cap9) (.inl hlo)).far ob 4 (.int .i64 0) (.inl hlo)
    have hsz : ((w9.setCell ⟨ob, 1, none⟩ (.slice A9 6 cap9)).setCell ⟨ob, 4, none⟩ (.int .i64 0)).heap.size = w9.heap.size := by simp
    generalize (w9.setCell { block := ob, off := 1 } (Value.slice A9 6 cap9)).setCell { block := ob, off := 4 } (Value.int IntKind.i64 0) = W10 at hS10 hO10 hsz ⊢
    have hbel8 := hS8.g.bel.size
    obtain ⟨lo9, hlo9⟩ : ∃ l, l = W8.heap.size := ⟨_, rfl⟩
    rw [← hlo9] at hO10 hbel8 hlo
    clear hlo9
    clear o1 s4 s5 p6 o19 o49 z19 z49 hS9 hB9 hO9 hI8 hl8 hS8
    have o0 : W10.cell? ⟨ob, 0, none⟩ = some (.slice A 6 cap) := hS10.o 0 (by omega)
    have o1 : W10.cell? ⟨ob, 1, none⟩ = some (.slice A9 6 cap9) := hS10.o 1 (by omega)
    have o2 : W10.cell? ⟨ob, 2, none⟩ = some (.slice (some ⟨b7, 0, none⟩) 6 6) := hS10.o 2 (by omega)
    have o3 : W10.cell? ⟨ob, 3, none⟩ = some (.slice (some ⟨b1, 0, none⟩) 12 12) := hS10.o 3 (by omega)
    have o4 : W10.cell? ⟨ob, 4, none⟩ = some (.int .i64 0) := hS10.o 4 (by omega)
    have o5 : W10.cell? ⟨ob, 5, none⟩ = some (.int .i64 1) := hS10.o 5 (by omega)
    have p5 := hS10.g.p 5 _ rfl
    have r0 := hS10.g.rc 0 (by omega)
    have r1 := hS10.g.rc 1 (by omega)
    have r2 := hS10.g.rc 2 (by omega)
    have r3 := hS10.g.rc 3 (by omega)
    have r4 := hS10.g.rc 4 (by omega)
    have r5 := hS10.g.rc 5 (by omega)
    have q0 := hS10.g.rf 0
    have q1 := hS10.g.rf 1
    have q2 := hS10.g.rf 2
    have q3 := hS10.g.rf 3
    have q4 := hS10.g.rf 4
    have q5 := hS10.g.rf 5
    have HE := Lib.hid (⟨hS10, hO10, hsz, hbel8, hlo⟩ : _ ∧ _ ∧ _ ∧ _ ∧ _)
    clear hS10 hO10 hsz hbel8 hlo
    go_wp2
    refine bodyPost_ret (v := .tuple #[.agg #[.slice A 6 cap, .slice A9 6 cap9, .slice (some ⟨b7, 0, none⟩) 6 6, .slice (some ⟨b1, 0, none⟩) 12 12, .int .i64 0, .int .i64 1], .int .i64 0]) (by simp [results, Tryz.results19, go_sem, r0, r1, r2, r3, r4, r5]) rfl ?_
    obtain ⟨hS10, hO10, hsz, hbel8, hlo⟩ := HE.out
    have hfl := hS10.g.fl
    have hol := hS10.ol
    have hg1 := hS10.g.g1
    rw [← hsz] at hO10
    have hP : OneP w b1 lo9 A9 W10 := ⟨hS10.g.bel, ⟨by omega, hg1.2.1, hg1.2.2⟩, hO10⟩
    have hQ := one_end (x := w.heap.size + 1 + 1) (.slice A 6 cap) (.slice A9 6 cap9) (.slice (some ⟨b7, 0, none⟩) 6 6) (.slice (some ⟨b1, 0, none⟩) 12 12) (.int .i64 0) (.int .i64 1) hP (by omega) (by omega) (by omega) (by omega)
    exact ⟨_, _, A9, cap9, _, b1, rfl, hQ⟩
end Go.Proofs.YtkjjecghbhppgaaGreatDoor
