/- The cube's middles and turns. -/
import Derived.Test.YtkjjecghbhppgaaGreatDoorK10
import Derived.Deep.RegionHeld3
namespace Go.Proofs.YtkjjecghbhppgaaGreatDoor
open Go.RowKit TF

/-- What a cell holds. -/
def cellOr (w : World) (a : Addr) : Value := (w.cell? a).getD undef
theorem cellOr_of {w : World} {a : Addr} {v : Value} (h : w.cell? a = some v) : w.cell? a = some (cellOr w a) := by unfold cellOr; rw [h]; rfl
/-- Three cells that may be written. -/
structure Own3 (w : World) (b : Nat) : Prop where
  c0 : w.cell? ⟨b, 0, none⟩ = some (cellOr w ⟨b, 0, none⟩)
  c1 : w.cell? ⟨b, 1, none⟩ = some (cellOr w ⟨b, 1, none⟩)
  c2 : w.cell? ⟨b, 2, none⟩ = some (cellOr w ⟨b, 2, none⟩)
  f0 : w.frozen? ⟨b, 0, none⟩ = false
  f1 : w.frozen? ⟨b, 1, none⟩ = false
  f2 : w.frozen? ⟨b, 2, none⟩ = false
theorem lt_of_some {w : World} {a : Addr} {v : Value} (h : w.cell? a = some v) : a.block < w.heap.size := World.block_lt_of_cell? w a h
theorem Own3.below {w w1 : World} {b : Nat} (h : Own3 w b) (hb : Below w.heap.size w w1) : Own3 w1 b := by
  have hlt : b < w.heap.size := lt_of_some h.c0
  have e : ∀ j, w1.cell? ⟨b, j, none⟩ = w.cell? ⟨b, j, none⟩ := fun j => hb.cell (p := ⟨b, j, none⟩) hlt
  have g : ∀ j, w1.frozen? ⟨b, j, none⟩ = w.frozen? ⟨b, j, none⟩ := fun j => hb.frozen (p := ⟨b, j, none⟩) hlt
  exact ⟨cellOr_of ((e 0).trans h.c0), cellOr_of ((e 1).trans h.c1), cellOr_of ((e 2).trans h.c2), (g 0).trans h.f0, (g 1).trans h.f1, (g 2).trans h.f2⟩

/-- Nine numbers in a block. -/
structure Nine (w : World) (b : Nat) (g : Nat → Int) : Prop where
  c0 : w.cell? ⟨b, 0, none⟩ = some (.int .i64 (g 0))
  c1 : w.cell? ⟨b, 1, none⟩ = some (.int .i64 (g 1))
  c2 : w.cell? ⟨b, 2, none⟩ = some (.int .i64 (g 2))
  c3 : w.cell? ⟨b, 3, none⟩ = some (.int .i64 (g 3))
  c4 : w.cell? ⟨b, 4, none⟩ = some (.int .i64 (g 4))
  c5 : w.cell? ⟨b, 5, none⟩ = some (.int .i64 (g 5))
  c6 : w.cell? ⟨b, 6, none⟩ = some (.int .i64 (g 6))
  c7 : w.cell? ⟨b, 7, none⟩ = some (.int .i64 (g 7))
  c8 : w.cell? ⟨b, 8, none⟩ = some (.int .i64 (g 8))
theorem Nine.below {w w1 : World} {b : Nat} {g : Nat → Int} (h : Nine w b g) (hb : Below w.heap.size w w1) : Nine w1 b g := by
  have hlt : b < w.heap.size := lt_of_some h.c0
  have e : ∀ j, w1.cell? ⟨b, j, none⟩ = w.cell? ⟨b, j, none⟩ := fun j => hb.cell (p := ⟨b, j, none⟩) hlt
  exact ⟨(e 0).trans h.c0, (e 1).trans h.c1, (e 2).trans h.c2, (e 3).trans h.c3, (e 4).trans h.c4, (e 5).trans h.c5, (e 6).trans h.c6, (e 7).trans h.c7, (e 8).trans h.c8⟩

theorem Own3.set {w : World} {b : Nat} (h : Own3 w b) (j : Nat) (x : Value) : Own3 (w.setCell ⟨b, j, none⟩ x) b := by
  have e : ∀ i, w.cell? ⟨b, i, none⟩ = some (cellOr w ⟨b, i, none⟩) → (w.setCell ⟨b, j, none⟩ x).cell? ⟨b, i, none⟩ = some (cellOr (w.setCell ⟨b, j, none⟩ x) ⟨b, i, none⟩) := fun i hi => by
    obtain ⟨v, hv⟩ := cell?_setCell_some (w := w) (p := ⟨b, j, none⟩) (x := x) (q := ⟨b, i, none⟩) hi
    exact cellOr_of hv
  have f0 := h.f0; have f1 := h.f1; have f2 := h.f2
  exact ⟨e 0 h.c0, e 1 h.c1, e 2 h.c2, by simp [go_sem, f0], by simp [go_sem, f1], by simp [go_sem, f2]⟩
theorem Own3.store {w : World} {b : Nat} (h : Own3 w b) (x y z : Value) : Own3 (((w.setCell ⟨b, 0, none⟩ x).setCell ⟨b, 1, none⟩ y).setCell ⟨b, 2, none⟩ z) b := ((h.set 0 x).set 1 y).set 2 z
theorem Nine.set {w : World} {b c : Nat} {g : Nat → Int} (h : Nine w b g) (hc : c ≠ b) (j : Nat) (x : Value) : Nine (w.setCell ⟨c, j, none⟩ x) b g := by
  have e : ∀ i, (w.setCell ⟨c, j, none⟩ x).cell? ⟨b, i, none⟩ = w.cell? ⟨b, i, none⟩ := fun i => World.cell?_setCell_far w _ _ x hc
  exact ⟨(e 0).trans h.c0, (e 1).trans h.c1, (e 2).trans h.c2, (e 3).trans h.c3, (e 4).trans h.c4, (e 5).trans h.c5, (e 6).trans h.c6, (e 7).trans h.c7, (e 8).trans h.c8⟩
/-- What stays, within the region of a middle. -/
structure MidS (w : World) (f : Nat) (w' : World) : Prop where
  nine : Nine w' (w.heap.size + 1) (FR f)
  own : Own3 w' w.heap.size
  bel : Below w.heap.size w w'
theorem MidS.step {w : World} {f : Nat} {w1 w2 : World} (h : MidS w f w1) (hb : Below w1.heap.size w1 w2) : MidS w f w2 := ⟨h.nine.below hb, h.own.below hb, h.bel.trans (hb.mono h.bel.size)⟩
theorem midC {F : FuncId} {args : Array Value} {w : World} {f : Nat} {w1 : World} {r : Ending} (h : Calls Tryz.prog F args w1 fun e w' => e = r ∧ Below w1.heap.size w1 w') (hm : MidS w f w1) : Calls Tryz.prog F args w1 fun e w' => e = r ∧ MidS w f w' :=
  h.mono fun _ _ ⟨h1, h2⟩ => ⟨h1, hm.step h2⟩
theorem MidS.draw {w : World} {f : Nat} {w1 : World} (h : MidS w f w1) : MidS w f w1.drew := h.step (Below.drew (Below.refl _ _))
theorem MidS.store {w : World} {f : Nat} {w1 : World} (h : MidS w f w1) (x y z : Value) : MidS w f (((w1.setCell ⟨w.heap.size, 0, none⟩ x).setCell ⟨w.heap.size, 1, none⟩ y).setCell ⟨w.heap.size, 2, none⟩ z) :=
  ⟨((h.nine.set (by omega) _ _).set (by omega) _ _).set (by omega) _ _, h.own.store _ _ _, set3 h.bel (Nat.le_refl _) _ _ _⟩
theorem MidS.all {w : World} {f : Nat} {w' : World} (h : MidS w f w') : w'.cell? ⟨w.heap.size + 1, 0, none⟩ = some (.int .i64 (FR f 0)) ∧ w'.cell? ⟨w.heap.size + 1, 1, none⟩ = some (.int .i64 (FR f 1)) ∧ w'.cell? ⟨w.heap.size + 1, 2, none⟩ = some (.int .i64 (FR f 2)) ∧ w'.cell? ⟨w.heap.size + 1, 3, none⟩ = some (.int .i64 (FR f 3)) ∧ w'.cell? ⟨w.heap.size + 1, 4, none⟩ = some (.int .i64 (FR f 4)) ∧ w'.cell? ⟨w.heap.size + 1, 5, none⟩ = some (.int .i64 (FR f 5)) ∧ w'.cell? ⟨w.heap.size + 1, 6, none⟩ = some (.int .i64 (FR f 6)) ∧ w'.cell? ⟨w.heap.size + 1, 7, none⟩ = some (.int .i64 (FR f 7)) ∧ w'.cell? ⟨w.heap.size + 1, 8, none⟩ = some (.int .i64 (FR f 8)) ∧ w'.cell? ⟨w.heap.size, 0, none⟩ = some (cellOr w' ⟨w.heap.size, 0, none⟩) ∧ w'.cell? ⟨w.heap.size, 1, none⟩ = some (cellOr w' ⟨w.heap.size, 1, none⟩) ∧ w'.cell? ⟨w.heap.size, 2, none⟩ = some (cellOr w' ⟨w.heap.size, 2, none⟩) ∧ w'.frozen? ⟨w.heap.size, 0, none⟩ = false ∧ w'.frozen? ⟨w.heap.size, 1, none⟩ = false ∧ w'.frozen? ⟨w.heap.size, 2, none⟩ = false ∧ MidS w f w' :=
  ⟨h.nine.c0, h.nine.c1, h.nine.c2, h.nine.c3, h.nine.c4, h.nine.c5, h.nine.c6, h.nine.c7, h.nine.c8, h.own.c0, h.own.c1, h.own.c2, h.own.f0, h.own.f1, h.own.f2, h⟩

set_option maxHeartbeats 2000000 in
theorem middle_any (n i j : Int) (f : Nat) (hf : f < 6) (h1 : 1 ≤ n) (h2 : n ≤ 32) (h3 : -33 ≤ i) (h4 : i ≤ 33) (h5 : -33 ≤ j) (h6 : j ≤ 33) (w : World) (hF : Fr w) :
    Calls Tryz.prog 44 #[.int .i64 n, .int .i64 f, .int .i64 i, .int .i64 j] w fun e w' => e = .returned (.agg #[.int .i64 (MI n f i j 0), .int .i64 (MI n f i j 1), .int .i64 (MI n f i j 2)]) ∧ Below w.heap.size w w' := by
  obtain ⟨a0, a1, a2, a3, a4, a5, a6, a7, a8⟩ := hF.face hf
  have u0 : U3 (FR f 0) (FR f 1) (FR f 2) := FR_u hf (by omega)
  have u3 : U3 (FR f 3) (FR f 4) (FR f 5) := FR_u hf (by omega)
  have u6 : U3 (FR f 6) (FR f 7) (FR f 8) := FR_u hf (by omega)
  have i1 : In 4000 n := ⟨by omega, by omega⟩
  have i2 : In 4000 (2 * i + 1 - n) := ⟨by omega, by omega⟩
  have i3 : In 4000 (2 * j + 1 - n) := ⟨by omega, by omega⟩
  have p1 : I3 4000 (n * FR f 0) (n * FR f 1) (n * FR f 2) := ⟨i1.mul u0.x (by omega), i1.mul u0.y (by omega), i1.mul u0.z (by omega)⟩
  have p2 : I3 4000 ((2 * i + 1 - n) * FR f 3) ((2 * i + 1 - n) * FR f 4) ((2 * i + 1 - n) * FR f 5) := ⟨i2.mul u3.x (by omega), i2.mul u3.y (by omega), i2.mul u3.z (by omega)⟩
  have p3 : I3 4000 ((2 * j + 1 - n) * FR f 6) ((2 * j + 1 - n) * FR f 7) ((2 * j + 1 - n) * FR f 8) := ⟨i3.mul u6.x (by omega), i3.mul u6.y (by omega), i3.mul u6.z (by omega)⟩
  have p4 : I3 4000 (n * FR f 0 + (2 * i + 1 - n) * FR f 3) (n * FR f 1 + (2 * i + 1 - n) * FR f 4) (n * FR f 2 + (2 * i + 1 - n) * FR f 5) := I3.add h1 h2 h3 h4 u0 u3
  have hs := hF.size
  have e1 : IntKind.i64.wrap (2 * i) = 2 * i := IntWalk.i64_in _ (by omega)
  have e2 : IntKind.i64.wrap (2 * i + 1) = 2 * i + 1 := IntWalk.i64_in _ (by omega)
  have e3 : IntKind.i64.wrap (2 * i + 1 - n) = 2 * i + 1 - n := IntWalk.i64_in _ (by omega)
  have e4 : IntKind.i64.wrap (2 * j) = 2 * j := IntWalk.i64_in _ (by omega)
  have e5 : IntKind.i64.wrap (2 * j + 1) = 2 * j + 1 := IntWalk.i64_in _ (by omega)
  have e6 : IntKind.i64.wrap (2 * j + 1 - n) = 2 * j + 1 - n := IntWalk.i64_in _ (by omega)
  clear hF
  go_enter Tryz.func44, Tryz.ntmps44
  go_wp2_with fail
  obtain ⟨W, hW⟩ : ∃ W : World, W = (w.alloc (.cells #[.int .i64 0, .int .i64 0, .int .i64 0] 99)).alloc (frBox (FR f 0) (FR f 1) (FR f 2) (FR f 3) (FR f 4) (FR f 5) (FR f 6) (FR f 7) (FR f 8)) := ⟨_, rfl⟩
  unfold frBox at hW
  rw [← hW]
  have b0 : Below w.heap.size w W := by rw [hW]; exact bel2 _ _ _
  have o0 : Own3 W w.heap.size := by rw [hW]; exact ⟨by simp [cellOr, go_sem], by simp [cellOr, go_sem], by simp [cellOr, go_sem], by simp [go_sem], by simp [go_sem], by simp [go_sem]⟩
  have d0 : Nine W (w.heap.size + 1) (FR f) := by rw [hW]; exact ⟨by simp [go_sem], by simp [go_sem], by simp [go_sem], by simp [go_sem], by simp [go_sem], by simp [go_sem], by simp [go_sem], by simp [go_sem], by simp [go_sem]⟩
  have M : MidS w f W := ⟨d0, o0, b0⟩
  clear b0 o0 d0 hW
  go_region_held3 (fun w' => w'.cell? ⟨w.heap.size + 1, 0, none⟩ = some (.int .i64 (FR f 0)) ∧ w'.cell? ⟨w.heap.size + 1, 1, none⟩ = some (.int .i64 (FR f 1)) ∧ w'.cell? ⟨w.heap.size + 1, 2, none⟩ = some (.int .i64 (FR f 2)) ∧ w'.cell? ⟨w.heap.size + 1, 3, none⟩ = some (.int .i64 (FR f 3)) ∧ w'.cell? ⟨w.heap.size + 1, 4, none⟩ = some (.int .i64 (FR f 4)) ∧ w'.cell? ⟨w.heap.size + 1, 5, none⟩ = some (.int .i64 (FR f 5)) ∧ w'.cell? ⟨w.heap.size + 1, 6, none⟩ = some (.int .i64 (FR f 6)) ∧ w'.cell? ⟨w.heap.size + 1, 7, none⟩ = some (.int .i64 (FR f 7)) ∧ w'.cell? ⟨w.heap.size + 1, 8, none⟩ = some (.int .i64 (FR f 8)) ∧ w'.cell? ⟨w.heap.size, 0, none⟩ = some (cellOr w' ⟨w.heap.size, 0, none⟩) ∧ w'.cell? ⟨w.heap.size, 1, none⟩ = some (cellOr w' ⟨w.heap.size, 1, none⟩) ∧ w'.cell? ⟨w.heap.size, 2, none⟩ = some (cellOr w' ⟨w.heap.size, 2, none⟩) ∧ w'.frozen? ⟨w.heap.size, 0, none⟩ = false ∧ w'.frozen? ⟨w.heap.size, 1, none⟩ = false ∧ w'.frozen? ⟨w.heap.size, 2, none⟩ = false ∧ MidS w f w')
    (first | exact MidS.all (by assumption) | exact MidS.all (MidS.draw (by assumption)) | exact MidS.all (MidS.store (by assumption) _ _ _))
    (first | (go_at_call 79; refine (midC (times_any _ _ _ _ (by assumption) (by assumption) _) (by first | assumption | exact MidS.draw (by assumption))).mono ?_; rintro e w1 ⟨rfl, hM⟩) | (go_at_call 45; refine (midC (plus_any _ _ _ _ _ _ (by assumption) (by assumption) _) (by first | assumption | exact MidS.draw (by assumption))).mono ?_; rintro e w1 ⟨rfl, hM⟩))
  go_wp2
  have q0 := hM.own.c0
  have q1 := hM.own.c1
  have q2 := hM.own.c2
  exact bodyPost_ret (v := .agg #[.int .i64 (MI n f i j 0), .int .i64 (MI n f i j 1), .int .i64 (MI n f i j 2)]) (by simp [results, Tryz.results44, go_sem, q0, q1, q2, MI]) rfl ⟨rfl, set3 hM.bel (Nat.le_refl _) _ _ _⟩
end Go.Proofs.YtkjjecghbhppgaaGreatDoor
