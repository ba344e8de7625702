/- The reference's frames. -/
import Derived.Test.YtbfbafoeifigfaaDoorRefB
import Derived.Test.YtbfbafoeifigfaaDoorCubeH
namespace Go.Proofs.YtbfbafoeifigfaaDoor
open Go.RowKit TF

theorem Own3.far {w : World} {b c : Nat} (h : Own3 w b) (hc : c ≠ b) (j : Nat) (x : Value) : Own3 (w.setCell ⟨c, j, none⟩ x) b := by
  have e : ∀ i, (w.setCell ⟨c, j, none⟩ x).cell? ⟨b, i, none⟩ = w.cell? ⟨b, i, none⟩ := fun i => World.cell?_setCell_far w _ _ x hc
  have f0 := h.f0; have f1 := h.f1; have f2 := h.f2
  exact ⟨cellOr_of ((e 0).trans h.c0), cellOr_of ((e 1).trans h.c1), cellOr_of ((e 2).trans h.c2), by simp [go_sem, f0], by simp [go_sem, f1], by simp [go_sem, f2]⟩
/-- What stays, within the regions of a frame. -/
structure FmS (w : World) (b : Nat) (w' : World) : Prop where
  x : Three w' (b + 1 + 1 + 1) 1 0 0
  y : Three w' (b + 1 + 1 + 1 + 1) 0 1 0
  z : Three w' (b + 1 + 1 + 1 + 1 + 1) 0 0 1
  o : Three w' (b + 1 + 1 + 1 + 1 + 1 + 1) 0 0 0
  r0 : Own3 w' b
  r1 : Own3 w' (b + 1)
  r2 : Own3 w' (b + 1 + 1)
  bel : Below b w w'
section
variable {w w1 w2 : World} {b : Nat}
theorem FmS.step (h : FmS w b w1) (hb : Below w1.heap.size w1 w2) (hs : b ≤ w1.heap.size) : FmS w b w2 := ⟨h.x.below hb, h.y.below hb, h.z.below hb, h.o.below hb, h.r0.below hb, h.r1.below hb, h.r2.below hb, h.bel.trans (hb.mono hs)⟩
theorem FmS.le (h : FmS w b w1) : b ≤ w1.heap.size := Nat.le_of_lt (lt_of_some h.r0.c0)
theorem fmC {F : FuncId} {args : Array Value} {r : Ending} (h : Calls Tryd.prog F args w1 fun e w' => e = r ∧ Below w1.heap.size w1 w') (hm : FmS w b w1) : Calls Tryd.prog F args w1 fun e w' => e = r ∧ FmS w b w' :=
  h.mono fun _ _ ⟨h1, h2⟩ => ⟨h1, hm.step h2 hm.le⟩
theorem FmS.draw (h : FmS w b w1) : FmS w b w1.drew := h.step (Below.drew (Below.refl _ _)) h.le
theorem FmS.set0 (h : FmS w b w1) (j : Nat) (a : Value) : FmS w b (w1.setCell ⟨b, j, none⟩ a) :=
  ⟨h.x.set (by omega) _ _, h.y.set (by omega) _ _, h.z.set (by omega) _ _, h.o.set (by omega) _ _, (h.r0.set _ _), (h.r1.far (by omega) _ _), (h.r2.far (by omega) _ _), h.bel.setCell (show b ≤ b by omega) _⟩
theorem FmS.store0 (h : FmS w b w1) (p q r : Value) : FmS w b (((w1.setCell ⟨b, 0, none⟩ p).setCell ⟨b, 1, none⟩ q).setCell ⟨b, 2, none⟩ r) := ((h.set0 0 p).set0 1 q).set0 2 r
theorem FmS.set1 (h : FmS w b w1) (j : Nat) (a : Value) : FmS w b (w1.setCell ⟨b + 1, j, none⟩ a) :=
  ⟨h.x.set (by omega) _ _, h.y.set (by omega) _ _, h.z.set (by omega) _ _, h.o.set (by omega) _ _, (h.r0.far (by omega) _ _), (h.r1.set _ _), (h.r2.far (by omega) _ _), h.bel.setCell (show b ≤ b + 1 by omega) _⟩
theorem FmS.store1 (h : FmS w b w1) (p q r : Value) : FmS w b (((w1.setCell ⟨b + 1, 0, none⟩ p).setCell ⟨b + 1, 1, none⟩ q).setCell ⟨b + 1, 2, none⟩ r) := ((h.set1 0 p).set1 1 q).set1 2 r
theorem FmS.set2 (h : FmS w b w1) (j : Nat) (a : Value) : FmS w b (w1.setCell ⟨b + 1 + 1, j, none⟩ a) :=
  ⟨h.x.set (by omega) _ _, h.y.set (by omega) _ _, h.z.set (by omega) _ _, h.o.set (by omega) _ _, (h.r0.far (by omega) _ _), (h.r1.far (by omega) _ _), (h.r2.set _ _), h.bel.setCell (show b ≤ b + 1 + 1 by omega) _⟩
theorem FmS.store2 (h : FmS w b w1) (p q r : Value) : FmS w b (((w1.setCell ⟨b + 1 + 1, 0, none⟩ p).setCell ⟨b + 1 + 1, 1, none⟩ q).setCell ⟨b + 1 + 1, 2, none⟩ r) := ((h.set2 0 p).set2 1 q).set2 2 r
theorem FmS.all (h : FmS w b w1) : w1.cell? ⟨b + 1 + 1 + 1, 0, none⟩ = some (.int .i64 1) ∧ w1.cell? ⟨b + 1 + 1 + 1, 1, none⟩ = some (.int .i64 0) ∧ w1.cell? ⟨b + 1 + 1 + 1, 2, none⟩ = some (.int .i64 0) ∧ w1.cell? ⟨b + 1 + 1 + 1 + 1, 0, none⟩ = some (.int .i64 0) ∧ w1.cell? ⟨b + 1 + 1 + 1 + 1, 1, none⟩ = some (.int .i64 1) ∧ w1.cell? ⟨b + 1 + 1 + 1 + 1, 2, none⟩ = some (.int .i64 0) ∧ w1.cell? ⟨b + 1 + 1 + 1 + 1 + 1, 0, none⟩ = some (.int .i64 0) ∧ w1.cell? ⟨b + 1 + 1 + 1 + 1 + 1, 1, none⟩ = some (.int .i64 0) ∧ w1.cell? ⟨b + 1 + 1 + 1 + 1 + 1, 2, none⟩ = some (.int .i64 1) ∧ w1.cell? ⟨b + 1 + 1 + 1 + 1 + 1 + 1, 0, none⟩ = some (.int .i64 0) ∧ w1.cell? ⟨b + 1 + 1 + 1 + 1 + 1 + 1, 1, none⟩ = some (.int .i64 0) ∧ w1.cell? ⟨b + 1 + 1 + 1 + 1 + 1 + 1, 2, none⟩ = some (.int .i64 0) ∧ w1.cell? ⟨b, 0, none⟩ = some (cellOr w1 ⟨b, 0, none⟩) ∧ w1.cell? ⟨b, 1, none⟩ = some (cellOr w1 ⟨b, 1, none⟩) ∧ w1.cell? ⟨b, 2, none⟩ = some (cellOr w1 ⟨b, 2, none⟩) ∧ w1.cell? ⟨b + 1, 0, none⟩ = some (cellOr w1 ⟨b + 1, 0, none⟩) ∧ w1.cell? ⟨b + 1, 1, none⟩ = some (cellOr w1 ⟨b + 1, 1, none⟩) ∧ w1.cell? ⟨b + 1, 2, none⟩ = some (cellOr w1 ⟨b + 1, 2, none⟩) ∧ w1.cell? ⟨b + 1 + 1, 0, none⟩ = some (cellOr w1 ⟨b + 1 + 1, 0, none⟩) ∧ w1.cell? ⟨b + 1 + 1, 1, none⟩ = some (cellOr w1 ⟨b + 1 + 1, 1, none⟩) ∧ w1.cell? ⟨b + 1 + 1, 2, none⟩ = some (cellOr w1 ⟨b + 1 + 1, 2, none⟩) ∧ w1.frozen? ⟨b, 0, none⟩ = false ∧ w1.frozen? ⟨b, 1, none⟩ = false ∧ w1.frozen? ⟨b, 2, none⟩ = false ∧ w1.frozen? ⟨b + 1, 0, none⟩ = false ∧ w1.frozen? ⟨b + 1, 1, none⟩ = false ∧ w1.frozen? ⟨b + 1, 2, none⟩ = false ∧ w1.frozen? ⟨b + 1 + 1, 0, none⟩ = false ∧ w1.frozen? ⟨b + 1 + 1, 1, none⟩ = false ∧ w1.frozen? ⟨b + 1 + 1, 2, none⟩ = false ∧ FmS w b w1 :=
  ⟨h.x.c0, h.x.c1, h.x.c2, h.y.c0, h.y.c1, h.y.c2, h.z.c0, h.z.c1, h.z.c2, h.o.c0, h.o.c1, h.o.c2, h.r0.c0, h.r0.c1, h.r0.c2, h.r1.c0, h.r1.c1, h.r1.c2, h.r2.c0, h.r2.c1, h.r2.c2, h.r0.f0, h.r0.f1, h.r0.f2, h.r1.f0, h.r1.f1, h.r1.f2, h.r2.f0, h.r2.f1, h.r2.f2, h⟩
end

set_option maxRecDepth 100000 in
set_option maxHeartbeats 4000000 in
theorem rframe0 (w : World) :
    Calls Tryd.prog 39 #[.int .i64 0] w fun e w' => e = .returned (.tuple #[.agg #[.int .i64 (FR 0 0), .int .i64 (FR 0 1), .int .i64 (FR 0 2)], .agg #[.int .i64 (FR 0 3), .int .i64 (FR 0 4), .int .i64 (FR 0 5)], .agg #[.int .i64 (FR 0 6), .int .i64 (FR 0 7), .int .i64 (FR 0 8)]]) ∧ Below w.heap.size w w' := by
  have oI : I3 4000 0 0 0 := ⟨⟨by omega, by omega⟩, ⟨by omega, by omega⟩, ⟨by omega, by omega⟩⟩
  have oK : In 4000 (-1) := ⟨by omega, by omega⟩
  have oX : U3 1 0 0 := ⟨⟨by omega, by omega⟩, ⟨by omega, by omega⟩, ⟨by omega, by omega⟩⟩
  have oY : U3 0 1 0 := ⟨⟨by omega, by omega⟩, ⟨by omega, by omega⟩, ⟨by omega, by omega⟩⟩
  have oZ : U3 0 0 1 := ⟨⟨by omega, by omega⟩, ⟨by omega, by omega⟩, ⟨by omega, by omega⟩⟩
  go_enter Tryd.func39, Tryd.ntmps39
  go_wp2_with fail
  go_region
  go_wp2
  exact bodyPost_ret (v := .tuple #[.agg #[.int .i64 (FR 0 0), .int .i64 (FR 0 1), .int .i64 (FR 0 2)], .agg #[.int .i64 (FR 0 3), .int .i64 (FR 0 4), .int .i64 (FR 0 5)], .agg #[.int .i64 (FR 0 6), .int .i64 (FR 0 7), .int .i64 (FR 0 8)]]) (by simp [results, Tryd.results39, go_sem, FR, frT]) rfl ⟨rfl, Below.drew ((((((((Below.refl _ _).alloc (by simp) _).alloc (by simp) _).alloc (by simp; omega) _).alloc (by simp; omega) _).alloc (by simp; omega) _).alloc (by simp; omega) _).alloc (by simp; omega) _)⟩

set_option maxRecDepth 100000 in
set_option maxHeartbeats 4000000 in
theorem rframe1 (w : World) :
    Calls Tryd.prog 39 #[.int .i64 1] w fun e w' => e = .returned (.tuple #[.agg #[.int .i64 (FR 1 0), .int .i64 (FR 1 1), .int .i64 (FR 1 2)], .agg #[.int .i64 (FR 1 3), .int .i64 (FR 1 4), .int .i64 (FR 1 5)], .agg #[.int .i64 (FR 1 6), .int .i64 (FR 1 7), .int .i64 (FR 1 8)]]) ∧ Below w.heap.size w w' := by
  have oI : I3 4000 0 0 0 := ⟨⟨by omega, by omega⟩, ⟨by omega, by omega⟩, ⟨by omega, by omega⟩⟩
  have oK : In 4000 (-1) := ⟨by omega, by omega⟩
  have oX : U3 1 0 0 := ⟨⟨by omega, by omega⟩, ⟨by omega, by omega⟩, ⟨by omega, by omega⟩⟩
  have oY : U3 0 1 0 := ⟨⟨by omega, by omega⟩, ⟨by omega, by omega⟩, ⟨by omega, by omega⟩⟩
  have oZ : U3 0 0 1 := ⟨⟨by omega, by omega⟩, ⟨by omega, by omega⟩, ⟨by omega, by omega⟩⟩
  go_enter Tryd.func39, Tryd.ntmps39
  go_wp2_with fail
  obtain ⟨W, hW⟩ : ∃ W : World, W = ((((((w.alloc (.cells #[.int .i64 0, .int .i64 0, .int .i64 0] 45)).alloc (.cells #[.int .i64 0, .int .i64 0, .int .i64 0] 45)).alloc (.cells #[.int .i64 0, .int .i64 0, .int .i64 0] 45)).alloc (.cells #[.int .i64 1, .int .i64 0, .int .i64 0] 45)).alloc (.cells #[.int .i64 0, .int .i64 1, .int .i64 0] 45)).alloc (.cells #[.int .i64 0, .int .i64 0, .int .i64 1] 45)).alloc (.cells #[.int .i64 0, .int .i64 0, .int .i64 0] 45) := ⟨_, rfl⟩
  rw [← hW]
  have M : FmS w w.heap.size W := by
    rw [hW]
    exact ⟨⟨by simp [go_sem], by simp [go_sem], by simp [go_sem]⟩, ⟨by simp [go_sem], by simp [go_sem], by simp [go_sem]⟩, ⟨by simp [go_sem], by simp [go_sem], by simp [go_sem]⟩, ⟨by simp [go_sem], by simp [go_sem], by simp [go_sem]⟩,
      ⟨by simp [cellOr, go_sem], by simp [cellOr, go_sem], by simp [cellOr, go_sem], by simp [go_sem], by simp [go_sem], by simp [go_sem]⟩, ⟨by simp [cellOr, go_sem], by simp [cellOr, go_sem], by simp [cellOr, go_sem], by simp [go_sem], by simp [go_sem], by simp [go_sem]⟩, ⟨by simp [cellOr, go_sem], by simp [cellOr, go_sem], by simp [cellOr, go_sem], by simp [go_sem], by simp [go_sem], by simp [go_sem]⟩,
      (((((((Below.refl _ _).alloc (by simp) _).alloc (by simp) _).alloc (by simp; omega) _).alloc (by simp; omega) _).alloc (by simp; omega) _).alloc (by simp; omega) _).alloc (by simp; omega) _⟩
  clear hW
  go_region_held3 (fun w' => w'.cell? ⟨w.heap.size + 1 + 1 + 1, 0, none⟩ = some (.int .i64 1) ∧ w'.cell? ⟨w.heap.size + 1 + 1 + 1, 1, none⟩ = some (.int .i64 0) ∧ w'.cell? ⟨w.heap.size + 1 + 1 + 1, 2, none⟩ = some (.int .i64 0) ∧ w'.cell? ⟨w.heap.size + 1 + 1 + 1 + 1, 0, none⟩ = some (.int .i64 0) ∧ w'.cell? ⟨w.heap.size + 1 + 1 + 1 + 1, 1, none⟩ = some (.int .i64 1) ∧ w'.cell? ⟨w.heap.size + 1 + 1 + 1 + 1, 2, none⟩ = some (.int .i64 0) ∧ w'.cell? ⟨w.heap.size + 1 + 1 + 1 + 1 + 1, 0, none⟩ = some (.int .i64 0) ∧ w'.cell? ⟨w.heap.size + 1 + 1 + 1 + 1 + 1, 1, none⟩ = some (.int .i64 0) ∧ w'.cell? ⟨w.heap.size + 1 + 1 + 1 + 1 + 1, 2, none⟩ = some (.int .i64 1) ∧ w'.cell? ⟨w.heap.size + 1 + 1 + 1 + 1 + 1 + 1, 0, none⟩ = some (.int .i64 0) ∧ w'.cell? ⟨w.heap.size + 1 + 1 + 1 + 1 + 1 + 1, 1, none⟩ = some (.int .i64 0) ∧ w'.cell? ⟨w.heap.size + 1 + 1 + 1 + 1 + 1 + 1, 2, none⟩ = some (.int .i64 0) ∧ w'.cell? ⟨w.heap.size, 0, none⟩ = some (cellOr w' ⟨w.heap.size, 0, none⟩) ∧ w'.cell? ⟨w.heap.size, 1, none⟩ = some (cellOr w' ⟨w.heap.size, 1, none⟩) ∧ w'.cell? ⟨w.heap.size, 2, none⟩ = some (cellOr w' ⟨w.heap.size, 2, none⟩) ∧ w'.cell? ⟨w.heap.size + 1, 0, none⟩ = some (cellOr w' ⟨w.heap.size + 1, 0, none⟩) ∧ w'.cell? ⟨w.heap.size + 1, 1, none⟩ = some (cellOr w' ⟨w.heap.size + 1, 1, none⟩) ∧ w'.cell? ⟨w.heap.size + 1, 2, none⟩ = some (cellOr w' ⟨w.heap.size + 1, 2, none⟩) ∧ w'.cell? ⟨w.heap.size + 1 + 1, 0, none⟩ = some (cellOr w' ⟨w.heap.size + 1 + 1, 0, none⟩) ∧ w'.cell? ⟨w.heap.size + 1 + 1, 1, none⟩ = some (cellOr w' ⟨w.heap.size + 1 + 1, 1, none⟩) ∧ w'.cell? ⟨w.heap.size + 1 + 1, 2, none⟩ = some (cellOr w' ⟨w.heap.size + 1 + 1, 2, none⟩) ∧ w'.frozen? ⟨w.heap.size, 0, none⟩ = false ∧ w'.frozen? ⟨w.heap.size, 1, none⟩ = false ∧ w'.frozen? ⟨w.heap.size, 2, none⟩ = false ∧ w'.frozen? ⟨w.heap.size + 1, 0, none⟩ = false ∧ w'.frozen? ⟨w.heap.size + 1, 1, none⟩ = false ∧ w'.frozen? ⟨w.heap.size + 1, 2, none⟩ = false ∧ w'.frozen? ⟨w.heap.size + 1 + 1, 0, none⟩ = false ∧ w'.frozen? ⟨w.heap.size + 1 + 1, 1, none⟩ = false ∧ w'.frozen? ⟨w.heap.size + 1 + 1, 2, none⟩ = false ∧ FmS w w.heap.size w')
    ((refine FmS.all ?_; repeat (first | with_reducible assumption | with_reducible apply FmS.store2 | with_reducible apply FmS.store1 | with_reducible apply FmS.store0 | with_reducible apply FmS.draw)))
    (first | (go_at_call 36; ((with_reducible refine (fmC (rplus_any _ _ _ _ _ _ _ oI oK (by first | with_reducible exact oX | with_reducible exact oY | with_reducible exact oZ) _) (by first | with_reducible assumption | with_reducible exact FmS.draw (by with_reducible assumption))).mono ?_)); rintro e w1 ⟨rfl, hM⟩))
  go_wp2
  have hM := hM
  have q0 := hM.r0.c0; have q1 := hM.r0.c1; have q2 := hM.r0.c2; have q3 := hM.r1.c0; have q4 := hM.r1.c1; have q5 := hM.r1.c2; have q6 := hM.r2.c0; have q7 := hM.r2.c1; have q8 := hM.r2.c2
  exact bodyPost_ret (v := .tuple #[.agg #[.int .i64 (FR 1 0), .int .i64 (FR 1 1), .int .i64 (FR 1 2)], .agg #[.int .i64 (FR 1 3), .int .i64 (FR 1 4), .int .i64 (FR 1 5)], .agg #[.int .i64 (FR 1 6), .int .i64 (FR 1 7), .int .i64 (FR 1 8)]]) (by simp [results, Tryd.results39, go_sem, q0, q1, q2, q3, q4, q5, q6, q7, q8, FR, frT]) rfl ⟨rfl, (FmS.store2 (FmS.store1 (FmS.store0 hM _ _ _) _ _ _) _ _ _).bel⟩

set_option maxRecDepth 100000 in
set_option maxHeartbeats 4000000 in
theorem rframe2 (w : World) :
    Calls Tryd.prog 39 #[.int .i64 2] w fun e w' => e = .returned (.tuple #[.agg #[.int .i64 (FR 2 0), .int .i64 (FR 2 1), .int .i64 (FR 2 2)], .agg #[.int .i64 (FR 2 3), .int .i64 (FR 2 4), .int .i64 (FR 2 5)], .agg #[.int .i64 (FR 2 6), .int .i64 (FR 2 7), .int .i64 (FR 2 8)]]) ∧ Below w.heap.size w w' := by
  have oI : I3 4000 0 0 0 := ⟨⟨by omega, by omega⟩, ⟨by omega, by omega⟩, ⟨by omega, by omega⟩⟩
  have oK : In 4000 (-1) := ⟨by omega, by omega⟩
  have oX : U3 1 0 0 := ⟨⟨by omega, by omega⟩, ⟨by omega, by omega⟩, ⟨by omega, by omega⟩⟩
  have oY : U3 0 1 0 := ⟨⟨by omega, by omega⟩, ⟨by omega, by omega⟩, ⟨by omega, by omega⟩⟩
  have oZ : U3 0 0 1 := ⟨⟨by omega, by omega⟩, ⟨by omega, by omega⟩, ⟨by omega, by omega⟩⟩
  go_enter Tryd.func39, Tryd.ntmps39
  go_wp2_with fail
  obtain ⟨W, hW⟩ : ∃ W : World, W = ((((((w.alloc (.cells #[.int .i64 0, .int .i64 0, .int .i64 0] 45)).alloc (.cells #[.int .i64 0, .int .i64 0, .int .i64 0] 45)).alloc (.cells #[.int .i64 0, .int .i64 0, .int .i64 0] 45)).alloc (.cells #[.int .i64 1, .int .i64 0, .int .i64 0] 45)).alloc (.cells #[.int .i64 0, .int .i64 1, .int .i64 0] 45)).alloc (.cells #[.int .i64 0, .int .i64 0, .int .i64 1] 45)).alloc (.cells #[.int .i64 0, .int .i64 0, .int .i64 0] 45) := ⟨_, rfl⟩
  rw [← hW]
  have M : FmS w w.heap.size W := by
    rw [hW]
    exact ⟨⟨by simp [go_sem], by simp [go_sem], by simp [go_sem]⟩, ⟨by simp [go_sem], by simp [go_sem], by simp [go_sem]⟩, ⟨by simp [go_sem], by simp [go_sem], by simp [go_sem]⟩, ⟨by simp [go_sem], by simp [go_sem], by simp [go_sem]⟩,
      ⟨by simp [cellOr, go_sem], by simp [cellOr, go_sem], by simp [cellOr, go_sem], by simp [go_sem], by simp [go_sem], by simp [go_sem]⟩, ⟨by simp [cellOr, go_sem], by simp [cellOr, go_sem], by simp [cellOr, go_sem], by simp [go_sem], by simp [go_sem], by simp [go_sem]⟩, ⟨by simp [cellOr, go_sem], by simp [cellOr, go_sem], by simp [cellOr, go_sem], by simp [go_sem], by simp [go_sem], by simp [go_sem]⟩,
      (((((((Below.refl _ _).alloc (by simp) _).alloc (by simp) _).alloc (by simp; omega) _).alloc (by simp; omega) _).alloc (by simp; omega) _).alloc (by simp; omega) _).alloc (by simp; omega) _⟩
  clear hW
  go_region_held3 (fun w' => w'.cell? ⟨w.heap.size + 1 + 1 + 1, 0, none⟩ = some (.int .i64 1) ∧ w'.cell? ⟨w.heap.size + 1 + 1 + 1, 1, none⟩ = some (.int .i64 0) ∧ w'.cell? ⟨w.heap.size + 1 + 1 + 1, 2, none⟩ = some (.int .i64 0) ∧ w'.cell? ⟨w.heap.size + 1 + 1 + 1 + 1, 0, none⟩ = some (.int .i64 0) ∧ w'.cell? ⟨w.heap.size + 1 + 1 + 1 + 1, 1, none⟩ = some (.int .i64 1) ∧ w'.cell? ⟨w.heap.size + 1 + 1 + 1 + 1, 2, none⟩ = some (.int .i64 0) ∧ w'.cell? ⟨w.heap.size + 1 + 1 + 1 + 1 + 1, 0, none⟩ = some (.int .i64 0) ∧ w'.cell? ⟨w.heap.size + 1 + 1 + 1 + 1 + 1, 1, none⟩ = some (.int .i64 0) ∧ w'.cell? ⟨w.heap.size + 1 + 1 + 1 + 1 + 1, 2, none⟩ = some (.int .i64 1) ∧ w'.cell? ⟨w.heap.size + 1 + 1 + 1 + 1 + 1 + 1, 0, none⟩ = some (.int .i64 0) ∧ w'.cell? ⟨w.heap.size + 1 + 1 + 1 + 1 + 1 + 1, 1, none⟩ = some (.int .i64 0) ∧ w'.cell? ⟨w.heap.size + 1 + 1 + 1 + 1 + 1 + 1, 2, none⟩ = some (.int .i64 0) ∧ w'.cell? ⟨w.heap.size, 0, none⟩ = some (cellOr w' ⟨w.heap.size, 0, none⟩) ∧ w'.cell? ⟨w.heap.size, 1, none⟩ = some (cellOr w' ⟨w.heap.size, 1, none⟩) ∧ w'.cell? ⟨w.heap.size, 2, none⟩ = some (cellOr w' ⟨w.heap.size, 2, none⟩) ∧ w'.cell? ⟨w.heap.size + 1, 0, none⟩ = some (cellOr w' ⟨w.heap.size + 1, 0, none⟩) ∧ w'.cell? ⟨w.heap.size + 1, 1, none⟩ = some (cellOr w' ⟨w.heap.size + 1, 1, none⟩) ∧ w'.cell? ⟨w.heap.size + 1, 2, none⟩ = some (cellOr w' ⟨w.heap.size + 1, 2, none⟩) ∧ w'.cell? ⟨w.heap.size + 1 + 1, 0, none⟩ = some (cellOr w' ⟨w.heap.size + 1 + 1, 0, none⟩) ∧ w'.cell? ⟨w.heap.size + 1 + 1, 1, none⟩ = some (cellOr w' ⟨w.heap.size + 1 + 1, 1, none⟩) ∧ w'.cell? ⟨w.heap.size + 1 + 1, 2, none⟩ = some (cellOr w' ⟨w.heap.size + 1 + 1, 2, none⟩) ∧ w'.frozen? ⟨w.heap.size, 0, none⟩ = false ∧ w'.frozen? ⟨w.heap.size, 1, none⟩ = false ∧ w'.frozen? ⟨w.heap.size, 2, none⟩ = false ∧ w'.frozen? ⟨w.heap.size + 1, 0, none⟩ = false ∧ w'.frozen? ⟨w.heap.size + 1, 1, none⟩ = false ∧ w'.frozen? ⟨w.heap.size + 1, 2, none⟩ = false ∧ w'.frozen? ⟨w.heap.size + 1 + 1, 0, none⟩ = false ∧ w'.frozen? ⟨w.heap.size + 1 + 1, 1, none⟩ = false ∧ w'.frozen? ⟨w.heap.size + 1 + 1, 2, none⟩ = false ∧ FmS w w.heap.size w')
    ((refine FmS.all ?_; repeat (first | with_reducible assumption | with_reducible apply FmS.store2 | with_reducible apply FmS.store1 | with_reducible apply FmS.store0 | with_reducible apply FmS.draw)))
    (first | (go_at_call 36; ((with_reducible refine (fmC (rplus_any _ _ _ _ _ _ _ oI oK (by first | with_reducible exact oX | with_reducible exact oY | with_reducible exact oZ) _) (by first | with_reducible assumption | with_reducible exact FmS.draw (by with_reducible assumption))).mono ?_)); rintro e w1 ⟨rfl, hM⟩))
  go_wp2
  have hM := hM
  have q0 := hM.r0.c0; have q1 := hM.r0.c1; have q2 := hM.r0.c2; have q3 := hM.r1.c0; have q4 := hM.r1.c1; have q5 := hM.r1.c2; have q6 := hM.r2.c0; have q7 := hM.r2.c1; have q8 := hM.r2.c2
  exact bodyPost_ret (v := .tuple #[.agg #[.int .i64 (FR 2 0), .int .i64 (FR 2 1), .int .i64 (FR 2 2)], .agg #[.int .i64 (FR 2 3), .int .i64 (FR 2 4), .int .i64 (FR 2 5)], .agg #[.int .i64 (FR 2 6), .int .i64 (FR 2 7), .int .i64 (FR 2 8)]]) (by simp [results, Tryd.results39, go_sem, q0, q1, q2, q3, q4, q5, q6, q7, q8, FR, frT]) rfl ⟨rfl, (FmS.store2 (FmS.store1 (FmS.store0 hM _ _ _) _ _ _) _ _ _).bel⟩

set_option maxRecDepth 100000 in
set_option maxHeartbeats 4000000 in
theorem rframe3 (w : World) :
    Calls Tryd.prog 39 #[.int .i64 3] w fun e w' => e = .returned (.tuple #[.agg #[.int .i64 (FR 3 0), .int .i64 (FR 3 1), .int .i64 (FR 3 2)], .agg #[.int .i64 (FR 3 3), .int .i64 (FR 3 4), .int .i64 (FR 3 5)], .agg #[.int .i64 (FR 3 6), .int .i64 (FR 3 7), .int .i64 (FR 3 8)]]) ∧ Below w.heap.size w w' := by
  have oI : I3 4000 0 0 0 := ⟨⟨by omega, by omega⟩, ⟨by omega, by omega⟩, ⟨by omega, by omega⟩⟩
  have oK : In 4000 (-1) := ⟨by omega, by omega⟩
  have oX : U3 1 0 0 := ⟨⟨by omega, by omega⟩, ⟨by omega, by omega⟩, ⟨by omega, by omega⟩⟩
  have oY : U3 0 1 0 := ⟨⟨by omega, by omega⟩, ⟨by omega, by omega⟩, ⟨by omega, by omega⟩⟩
  have oZ : U3 0 0 1 := ⟨⟨by omega, by omega⟩, ⟨by omega, by omega⟩, ⟨by omega, by omega⟩⟩
  go_enter Tryd.func39, Tryd.ntmps39
  go_wp2_with fail
  obtain ⟨W, hW⟩ : ∃ W : World, W = ((((((w.alloc (.cells #[.int .i64 0, .int .i64 0, .int .i64 0] 45)).alloc (.cells #[.int .i64 0, .int .i64 0, .int .i64 0] 45)).alloc (.cells #[.int .i64 0, .int .i64 0, .int .i64 0] 45)).alloc (.cells #[.int .i64 1, .int .i64 0, .int .i64 0] 45)).alloc (.cells #[.int .i64 0, .int .i64 1, .int .i64 0] 45)).alloc (.cells #[.int .i64 0, .int .i64 0, .int .i64 1] 45)).alloc (.cells #[.int .i64 0, .int .i64 0, .int .i64 0] 45) := ⟨_, rfl⟩
  rw [← hW]
  have M : FmS w w.heap.size W := by
    rw [hW]
    exact ⟨⟨by simp [go_sem], by simp [go_sem], by simp [go_sem]⟩, ⟨by simp [go_sem], by simp [go_sem], by simp [go_sem]⟩, ⟨by simp [go_sem], by simp [go_sem], by simp [go_sem]⟩, ⟨by simp [go_sem], by simp [go_sem], by simp [go_sem]⟩,
      ⟨by simp [cellOr, go_sem], by simp [cellOr, go_sem], by simp [cellOr, go_sem], by simp [go_sem], by simp [go_sem], by simp [go_sem]⟩, ⟨by simp [cellOr, go_sem], by simp [cellOr, go_sem], by simp [cellOr, go_sem], by simp [go_sem], by simp [go_sem], by simp [go_sem]⟩, ⟨by simp [cellOr, go_sem], by simp [cellOr, go_sem], by simp [cellOr, go_sem], by simp [go_sem], by simp [go_sem], by simp [go_sem]⟩,
      (((((((Below.refl _ _).alloc (by simp) _).alloc (by simp) _).alloc (by simp; omega) _).alloc (by simp; omega) _).alloc (by simp; omega) _).alloc (by simp; omega) _).alloc (by simp; omega) _⟩
  clear hW
  go_region_held3 (fun w' => w'.cell? ⟨w.heap.size + 1 + 1 + 1, 0, none⟩ = some (.int .i64 1) ∧ w'.cell? ⟨w.heap.size + 1 + 1 + 1, 1, none⟩ = some (.int .i64 0) ∧ w'.cell? ⟨w.heap.size + 1 + 1 + 1, 2, none⟩ = some (.int .i64 0) ∧ w'.cell? ⟨w.heap.size + 1 + 1 + 1 + 1, 0, none⟩ = some (.int .i64 0) ∧ w'.cell? ⟨w.heap.size + 1 + 1 + 1 + 1, 1, none⟩ = some (.int .i64 1) ∧ w'.cell? ⟨w.heap.size + 1 + 1 + 1 + 1, 2, none⟩ = some (.int .i64 0) ∧ w'.cell? ⟨w.heap.size + 1 + 1 + 1 + 1 + 1, 0, none⟩ = some (.int .i64 0) ∧ w'.cell? ⟨w.heap.size + 1 + 1 + 1 + 1 + 1, 1, none⟩ = some (.int .i64 0) ∧ w'.cell? ⟨w.heap.size + 1 + 1 + 1 + 1 + 1, 2, none⟩ = some (.int .i64 1) ∧ w'.cell? ⟨w.heap.size + 1 + 1 + 1 + 1 + 1 + 1, 0, none⟩ = some (.int .i64 0) ∧ w'.cell? ⟨w.heap.size + 1 + 1 + 1 + 1 + 1 + 1, 1, none⟩ = some (.int .i64 0) ∧ w'.cell? ⟨w.heap.size + 1 + 1 + 1 + 1 + 1 + 1, 2, none⟩ = some (.int .i64 0) ∧ w'.cell? ⟨w.heap.size, 0, none⟩ = some (cellOr w' ⟨w.heap.size, 0, none⟩) ∧ w'.cell? ⟨w.heap.size, 1, none⟩ = some (cellOr w' ⟨w.heap.size, 1, none⟩) ∧ w'.cell? ⟨w.heap.size, 2, none⟩ = some (cellOr w' ⟨w.heap.size, 2, none⟩) ∧ w'.cell? ⟨w.heap.size + 1, 0, none⟩ = some (cellOr w' ⟨w.heap.size + 1, 0, none⟩) ∧ w'.cell? ⟨w.heap.size + 1, 1, none⟩ = some (cellOr w' ⟨w.heap.size + 1, 1, none⟩) ∧ w'.cell? ⟨w.heap.size + 1, 2, none⟩ = some (cellOr w' ⟨w.heap.size + 1, 2, none⟩) ∧ w'.cell? ⟨w.heap.size + 1 + 1, 0, none⟩ = some (cellOr w' ⟨w.heap.size + 1 + 1, 0, none⟩) ∧ w'.cell? ⟨w.heap.size + 1 + 1, 1, none⟩ = some (cellOr w' ⟨w.heap.size + 1 + 1, 1, none⟩) ∧ w'.cell? ⟨w.heap.size + 1 + 1, 2, none⟩ = some (cellOr w' ⟨w.heap.size + 1 + 1, 2, none⟩) ∧ w'.frozen? ⟨w.heap.size, 0, none⟩ = false ∧ w'.frozen? ⟨w.heap.size, 1, none⟩ = false ∧ w'.frozen? ⟨w.heap.size, 2, none⟩ = false ∧ w'.frozen? ⟨w.heap.size + 1, 0, none⟩ = false ∧ w'.frozen? ⟨w.heap.size + 1, 1, none⟩ = false ∧ w'.frozen? ⟨w.heap.size + 1, 2, none⟩ = false ∧ w'.frozen? ⟨w.heap.size + 1 + 1, 0, none⟩ = false ∧ w'.frozen? ⟨w.heap.size + 1 + 1, 1, none⟩ = false ∧ w'.frozen? ⟨w.heap.size + 1 + 1, 2, none⟩ = false ∧ FmS w w.heap.size w')
    ((refine FmS.all ?_; repeat (first | with_reducible assumption | with_reducible apply FmS.store2 | with_reducible apply FmS.store1 | with_reducible apply FmS.store0 | with_reducible apply FmS.draw)))
    (first | (go_at_call 36; ((with_reducible refine (fmC (rplus_any _ _ _ _ _ _ _ oI oK (by first | with_reducible exact oX | with_reducible exact oY | with_reducible exact oZ) _) (by first | with_reducible assumption | with_reducible exact FmS.draw (by with_reducible assumption))).mono ?_)); rintro e w1 ⟨rfl, hM⟩))
  go_wp2
  have hM := hM
  have q0 := hM.r0.c0; have q1 := hM.r0.c1; have q2 := hM.r0.c2; have q3 := hM.r1.c0; have q4 := hM.r1.c1; have q5 := hM.r1.c2; have q6 := hM.r2.c0; have q7 := hM.r2.c1; have q8 := hM.r2.c2
  exact bodyPost_ret (v := .tuple #[.agg #[.int .i64 (FR 3 0), .int .i64 (FR 3 1), .int .i64 (FR 3 2)], .agg #[.int .i64 (FR 3 3), .int .i64 (FR 3 4), .int .i64 (FR 3 5)], .agg #[.int .i64 (FR 3 6), .int .i64 (FR 3 7), .int .i64 (FR 3 8)]]) (by simp [results, Tryd.results39, go_sem, q0, q1, q2, q3, q4, q5, q6, q7, q8, FR, frT]) rfl ⟨rfl, (FmS.store2 (FmS.store1 (FmS.store0 hM _ _ _) _ _ _) _ _ _).bel⟩

set_option maxRecDepth 100000 in
set_option maxHeartbeats 4000000 in
theorem rframe4 (w : World) :
    Calls Tryd.prog 39 #[.int .i64 4] w fun e w' => e = .returned (.tuple #[.agg #[.int .i64 (FR 4 0), .int .i64 (FR 4 1), .int .i64 (FR 4 2)], .agg #[.int .i64 (FR 4 3), .int .i64 (FR 4 4), .int .i64 (FR 4 5)], .agg #[.int .i64 (FR 4 6), .int .i64 (FR 4 7), .int .i64 (FR 4 8)]]) ∧ Below w.heap.size w w' := by
  have oI : I3 4000 0 0 0 := ⟨⟨by omega, by omega⟩, ⟨by omega, by omega⟩, ⟨by omega, by omega⟩⟩
  have oK : In 4000 (-1) := ⟨by omega, by omega⟩
  have oX : U3 1 0 0 := ⟨⟨by omega, by omega⟩, ⟨by omega, by omega⟩, ⟨by omega, by omega⟩⟩
  have oY : U3 0 1 0 := ⟨⟨by omega, by omega⟩, ⟨by omega, by omega⟩, ⟨by omega, by omega⟩⟩
  have oZ : U3 0 0 1 := ⟨⟨by omega, by omega⟩, ⟨by omega, by omega⟩, ⟨by omega, by omega⟩⟩
  go_enter Tryd.func39, Tryd.ntmps39
  go_wp2_with fail
  obtain ⟨W, hW⟩ : ∃ W : World, W = ((((((w.alloc (.cells #[.int .i64 0, .int .i64 0, .int .i64 0] 45)).alloc (.cells #[.int .i64 0, .int .i64 0, .int .i64 0] 45)).alloc (.cells #[.int .i64 0, .int .i64 0, .int .i64 0] 45)).alloc (.cells #[.int .i64 1, .int .i64 0, .int .i64 0] 45)).alloc (.cells #[.int .i64 0, .int .i64 1, .int .i64 0] 45)).alloc (.cells #[.int .i64 0, .int .i64 0, .int .i64 1] 45)).alloc (.cells #[.int .i64 0, .int .i64 0, .int .i64 0] 45) := ⟨_, rfl⟩
  rw [← hW]
  have M : FmS w w.heap.size W := by
    rw [hW]
    exact ⟨⟨by simp [go_sem], by simp [go_sem], by simp [go_sem]⟩, ⟨by simp [go_sem], by simp [go_sem], by simp [go_sem]⟩, ⟨by simp [go_sem], by simp [go_sem], by simp [go_sem]⟩, ⟨by simp [go_sem], by simp [go_sem], by simp [go_sem]⟩,
      ⟨by simp [cellOr, go_sem], by simp [cellOr, go_sem], by simp [cellOr, go_sem], by simp [go_sem], by simp [go_sem], by simp [go_sem]⟩, ⟨by simp [cellOr, go_sem], by simp [cellOr, go_sem], by simp [cellOr, go_sem], by simp [go_sem], by simp [go_sem], by simp [go_sem]⟩, ⟨by simp [cellOr, go_sem], by simp [cellOr, go_sem], by simp [cellOr, go_sem], by simp [go_sem], by simp [go_sem], by simp [go_sem]⟩,
      (((((((Below.refl _ _).alloc (by simp) _).alloc (by simp) _).alloc (by simp; omega) _).alloc (by simp; omega) _).alloc (by simp; omega) _).alloc (by simp; omega) _).alloc (by simp; omega) _⟩
  clear hW
  go_region_held3 (fun w' => w'.cell? ⟨w.heap.size + 1 + 1 + 1, 0, none⟩ = some (.int .i64 1) ∧ w'.cell? ⟨w.heap.size + 1 + 1 + 1, 1, none⟩ = some (.int .i64 0) ∧ w'.cell? ⟨w.heap.size + 1 + 1 + 1, 2, none⟩ = some (.int .i64 0) ∧ w'.cell? ⟨w.heap.size + 1 + 1 + 1 + 1, 0, none⟩ = some (.int .i64 0) ∧ w'.cell? ⟨w.heap.size + 1 + 1 + 1 + 1, 1, none⟩ = some (.int .i64 1) ∧ w'.cell? ⟨w.heap.size + 1 + 1 + 1 + 1, 2, none⟩ = some (.int .i64 0) ∧ w'.cell? ⟨w.heap.size + 1 + 1 + 1 + 1 + 1, 0, none⟩ = some (.int .i64 0) ∧ w'.cell? ⟨w.heap.size + 1 + 1 + 1 + 1 + 1, 1, none⟩ = some (.int .i64 0) ∧ w'.cell? ⟨w.heap.size + 1 + 1 + 1 + 1 + 1, 2, none⟩ = some (.int .i64 1) ∧ w'.cell? ⟨w.heap.size + 1 + 1 + 1 + 1 + 1 + 1, 0, none⟩ = some (.int .i64 0) ∧ w'.cell? ⟨w.heap.size + 1 + 1 + 1 + 1 + 1 + 1, 1, none⟩ = some (.int .i64 0) ∧ w'.cell? ⟨w.heap.size + 1 + 1 + 1 + 1 + 1 + 1, 2, none⟩ = some (.int .i64 0) ∧ w'.cell? ⟨w.heap.size, 0, none⟩ = some (cellOr w' ⟨w.heap.size, 0, none⟩) ∧ w'.cell? ⟨w.heap.size, 1, none⟩ = some (cellOr w' ⟨w.heap.size, 1, none⟩) ∧ w'.cell? ⟨w.heap.size, 2, none⟩ = some (cellOr w' ⟨w.heap.size, 2, none⟩) ∧ w'.cell? ⟨w.heap.size + 1, 0, none⟩ = some (cellOr w' ⟨w.heap.size + 1, 0, none⟩) ∧ w'.cell? ⟨w.heap.size + 1, 1, none⟩ = some (cellOr w' ⟨w.heap.size + 1, 1, none⟩) ∧ w'.cell? ⟨w.heap.size + 1, 2, none⟩ = some (cellOr w' ⟨w.heap.size + 1, 2, none⟩) ∧ w'.cell? ⟨w.heap.size + 1 + 1, 0, none⟩ = some (cellOr w' ⟨w.heap.size + 1 + 1, 0, none⟩) ∧ w'.cell? ⟨w.heap.size + 1 + 1, 1, none⟩ = some (cellOr w' ⟨w.heap.size + 1 + 1, 1, none⟩) ∧ w'.cell? ⟨w.heap.size + 1 + 1, 2, none⟩ = some (cellOr w' ⟨w.heap.size + 1 + 1, 2, none⟩) ∧ w'.frozen? ⟨w.heap.size, 0, none⟩ = false ∧ w'.frozen? ⟨w.heap.size, 1, none⟩ = false ∧ w'.frozen? ⟨w.heap.size, 2, none⟩ = false ∧ w'.frozen? ⟨w.heap.size + 1, 0, none⟩ = false ∧ w'.frozen? ⟨w.heap.size + 1, 1, none⟩ = false ∧ w'.frozen? ⟨w.heap.size + 1, 2, none⟩ = false ∧ w'.frozen? ⟨w.heap.size + 1 + 1, 0, none⟩ = false ∧ w'.frozen? ⟨w.heap.size + 1 + 1, 1, none⟩ = false ∧ w'.frozen? ⟨w.heap.size + 1 + 1, 2, none⟩ = false ∧ FmS w w.heap.size w')
    ((refine FmS.all ?_; repeat (first | with_reducible assumption | with_reducible apply FmS.store2 | with_reducible apply FmS.store1 | with_reducible apply FmS.store0 | with_reducible apply FmS.draw)))
    (first | (go_at_call 36; ((with_reducible refine (fmC (rplus_any _ _ _ _ _ _ _ oI oK (by first | with_reducible exact oX | with_reducible exact oY | with_reducible exact oZ) _) (by first | with_reducible assumption | with_reducible exact FmS.draw (by with_reducible assumption))).mono ?_)); rintro e w1 ⟨rfl, hM⟩))
  go_wp2
  have hM := hM
  have q0 := hM.r0.c0; have q1 := hM.r0.c1; have q2 := hM.r0.c2; have q3 := hM.r1.c0; have q4 := hM.r1.c1; have q5 := hM.r1.c2; have q6 := hM.r2.c0; have q7 := hM.r2.c1; have q8 := hM.r2.c2
  exact bodyPost_ret (v := .tuple #[.agg #[.int .i64 (FR 4 0), .int .i64 (FR 4 1), .int .i64 (FR 4 2)], .agg #[.int .i64 (FR 4 3), .int .i64 (FR 4 4), .int .i64 (FR 4 5)], .agg #[.int .i64 (FR 4 6), .int .i64 (FR 4 7), .int .i64 (FR 4 8)]]) (by simp [results, Tryd.results39, go_sem, q0, q1, q2, q3, q4, q5, q6, q7, q8, FR, frT]) rfl ⟨rfl, (FmS.store2 (FmS.store1 (FmS.store0 hM _ _ _) _ _ _) _ _ _).bel⟩

set_option maxRecDepth 100000 in
set_option maxHeartbeats 4000000 in
theorem rframe5 (w : World) :
    Calls Tryd.prog 39 #[.int .i64 5] w fun e w' => e = .returned (.tuple #[.agg #[.int .i64 (FR 5 0), .int .i64 (FR 5 1), .int .i64 (FR 5 2)], .agg #[.int .i64 (FR 5 3), .int .i64 (FR 5 4), .int .i64 (FR 5 5)], .agg #[.int .i64 (FR 5 6), .int .i64 (FR 5 7), .int .i64 (FR 5 8)]]) ∧ Below w.heap.size w w' := by
  have oI : I3 4000 0 0 0 := ⟨⟨by omega, by omega⟩, ⟨by omega, by omega⟩, ⟨by omega, by omega⟩⟩
  have oK : In 4000 (-1) := ⟨by omega, by omega⟩
  have oX : U3 1 0 0 := ⟨⟨by omega, by omega⟩, ⟨by omega, by omega⟩, ⟨by omega, by omega⟩⟩
  have oY : U3 0 1 0 := ⟨⟨by omega, by omega⟩, ⟨by omega, by omega⟩, ⟨by omega, by omega⟩⟩
  have oZ : U3 0 0 1 := ⟨⟨by omega, by omega⟩, ⟨by omega, by omega⟩, ⟨by omega, by omega⟩⟩
  go_enter Tryd.func39, Tryd.ntmps39
  go_wp2_with fail
  obtain ⟨W, hW⟩ : ∃ W : World, W = ((((((w.alloc (.cells #[.int .i64 0, .int .i64 0, .int .i64 0] 45)).alloc (.cells #[.int .i64 0, .int .i64 0, .int .i64 0] 45)).alloc (.cells #[.int .i64 0, .int .i64 0, .int .i64 0] 45)).alloc (.cells #[.int .i64 1, .int .i64 0, .int .i64 0] 45)).alloc (.cells #[.int .i64 0, .int .i64 1, .int .i64 0] 45)).alloc (.cells #[.int .i64 0, .int .i64 0, .int .i64 1] 45)).alloc (.cells #[.int .i64 0, .int .i64 0, .int .i64 0] 45) := ⟨_, rfl⟩
  rw [← hW]
  have M : FmS w w.heap.size W := by
    rw [hW]
    exact ⟨⟨by simp [go_sem], by simp [go_sem], by simp [go_sem]⟩, ⟨by simp [go_sem], by simp [go_sem], by simp [go_sem]⟩, ⟨by simp [go_sem], by simp [go_sem], by simp [go_sem]⟩, ⟨by simp [go_sem], by simp [go_sem], by simp [go_sem]⟩,
      ⟨by simp [cellOr, go_sem], by simp [cellOr, go_sem], by simp [cellOr, go_sem], by simp [go_sem], by simp [go_sem], by simp [go_sem]⟩, ⟨by simp [cellOr, go_sem], by simp [cellOr, go_sem], by simp [cellOr, go_sem], by simp [go_sem], by simp [go_sem], by simp [go_sem]⟩, ⟨by simp [cellOr, go_sem], by simp [cellOr, go_sem], by simp [cellOr, go_sem], by simp [go_sem], by simp [go_sem], by simp [go_sem]⟩,
      (((((((Below.refl _ _).alloc (by simp) _).alloc (by simp) _).alloc (by simp; omega) _).alloc (by simp; omega) _).alloc (by simp; omega) _).alloc (by simp; omega) _).alloc (by simp; omega) _⟩
  clear hW
  go_region_held3 (fun w' => w'.cell? ⟨w.heap.size + 1 + 1 + 1, 0, none⟩ = some (.int .i64 1) ∧ w'.cell? ⟨w.heap.size + 1 + 1 + 1, 1, none⟩ = some (.int .i64 0) ∧ w'.cell? ⟨w.heap.size + 1 + 1 + 1, 2, none⟩ = some (.int .i64 0) ∧ w'.cell? ⟨w.heap.size + 1 + 1 + 1 + 1, 0, none⟩ = some (.int .i64 0) ∧ w'.cell? ⟨w.heap.size + 1 + 1 + 1 + 1, 1, none⟩ = some (.int .i64 1) ∧ w'.cell? ⟨w.heap.size + 1 + 1 + 1 + 1, 2, none⟩ = some (.int .i64 0) ∧ w'.cell? ⟨w.heap.size + 1 + 1 + 1 + 1 + 1, 0, none⟩ = some (.int .i64 0) ∧ w'.cell? ⟨w.heap.size + 1 + 1 + 1 + 1 + 1, 1, none⟩ = some (.int .i64 0) ∧ w'.cell? ⟨w.heap.size + 1 + 1 + 1 + 1 + 1, 2, none⟩ = some (.int .i64 1) ∧ w'.cell? ⟨w.heap.size + 1 + 1 + 1 + 1 + 1 + 1, 0, none⟩ = some (.int .i64 0) ∧ w'.cell? ⟨w.heap.size + 1 + 1 + 1 + 1 + 1 + 1, 1, none⟩ = some (.int .i64 0) ∧ w'.cell? ⟨w.heap.size + 1 + 1 + 1 + 1 + 1 + 1, 2, none⟩ = some (.int .i64 0) ∧ w'.cell? ⟨w.heap.size, 0, none⟩ = some (cellOr w' ⟨w.heap.size, 0, none⟩) ∧ w'.cell? ⟨w.heap.size, 1, none⟩ = some (cellOr w' ⟨w.heap.size, 1, none⟩) ∧ w'.cell? ⟨w.heap.size, 2, none⟩ = some (cellOr w' ⟨w.heap.size, 2, none⟩) ∧ w'.cell? ⟨w.heap.size + 1, 0, none⟩ = some (cellOr w' ⟨w.heap.size + 1, 0, none⟩) ∧ w'.cell? ⟨w.heap.size + 1, 1, none⟩ = some (cellOr w' ⟨w.heap.size + 1, 1, none⟩) ∧ w'.cell? ⟨w.heap.size + 1, 2, none⟩ = some (cellOr w' ⟨w.heap.size + 1, 2, none⟩) ∧ w'.cell? ⟨w.heap.size + 1 + 1, 0, none⟩ = some (cellOr w' ⟨w.heap.size + 1 + 1, 0, none⟩) ∧ w'.cell? ⟨w.heap.size + 1 + 1, 1, none⟩ = some (cellOr w' ⟨w.heap.size + 1 + 1, 1, none⟩) ∧ w'.cell? ⟨w.heap.size + 1 + 1, 2, none⟩ = some (cellOr w' ⟨w.heap.size + 1 + 1, 2, none⟩) ∧ w'.frozen? ⟨w.heap.size, 0, none⟩ = false ∧ w'.frozen? ⟨w.heap.size, 1, none⟩ = false ∧ w'.frozen? ⟨w.heap.size, 2, none⟩ = false ∧ w'.frozen? ⟨w.heap.size + 1, 0, none⟩ = false ∧ w'.frozen? ⟨w.heap.size + 1, 1, none⟩ = false ∧ w'.frozen? ⟨w.heap.size + 1, 2, none⟩ = false ∧ w'.frozen? ⟨w.heap.size + 1 + 1, 0, none⟩ = false ∧ w'.frozen? ⟨w.heap.size + 1 + 1, 1, none⟩ = false ∧ w'.frozen? ⟨w.heap.size + 1 + 1, 2, none⟩ = false ∧ FmS w w.heap.size w')
    ((refine FmS.all ?_; repeat (first | with_reducible assumption | with_reducible apply FmS.store2 | with_reducible apply FmS.store1 | with_reducible apply FmS.store0 | with_reducible apply FmS.draw)))
    (first | (go_at_call 36; ((with_reducible refine (fmC (rplus_any _ _ _ _ _ _ _ oI oK (by first | with_reducible exact oX | with_reducible exact oY | with_reducible exact oZ) _) (by first | with_reducible assumption | with_reducible exact FmS.draw (by with_reducible assumption))).mono ?_)); rintro e w1 ⟨rfl, hM⟩))
  go_wp2
  have hM := hM
  have q0 := hM.r0.c0; have q1 := hM.r0.c1; have q2 := hM.r0.c2; have q3 := hM.r1.c0; have q4 := hM.r1.c1; have q5 := hM.r1.c2; have q6 := hM.r2.c0; have q7 := hM.r2.c1; have q8 := hM.r2.c2
  exact bodyPost_ret (v := .tuple #[.agg #[.int .i64 (FR 5 0), .int .i64 (FR 5 1), .int .i64 (FR 5 2)], .agg #[.int .i64 (FR 5 3), .int .i64 (FR 5 4), .int .i64 (FR 5 5)], .agg #[.int .i64 (FR 5 6), .int .i64 (FR 5 7), .int .i64 (FR 5 8)]]) (by simp [results, Tryd.results39, go_sem, q0, q1, q2, q3, q4, q5, q6, q7, q8, FR, frT]) rfl ⟨rfl, (FmS.store2 (FmS.store1 (FmS.store0 hM _ _ _) _ _ _) _ _ _).bel⟩

theorem rframe_any (f : Nat) (hf : f < 6) (w : World) :
    Calls Tryd.prog 39 #[.int .i64 f] w fun e w' => e = .returned (.tuple #[.agg #[.int .i64 (FR f 0), .int .i64 (FR f 1), .int .i64 (FR f 2)], .agg #[.int .i64 (FR f 3), .int .i64 (FR f 4), .int .i64 (FR f 5)], .agg #[.int .i64 (FR f 6), .int .i64 (FR f 7), .int .i64 (FR f 8)]]) ∧ Below w.heap.size w w' := by
  rcases six hf with rfl | rfl | rfl | rfl | rfl | rfl
  · exact rframe0 w
  · exact rframe1 w
  · exact rframe2 w
  · exact rframe3 w
  · exact rframe4 w
  · exact rframe5 w
end Go.Proofs.YtbfbafoeifigfaaDoor
