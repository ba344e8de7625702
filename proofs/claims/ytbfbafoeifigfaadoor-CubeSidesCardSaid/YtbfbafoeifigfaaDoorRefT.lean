/- The reference's turned points. -/
import Derived.Test.YtbfbafoeifigfaaDoorRefG
namespace Go.Proofs.YtbfbafoeifigfaaDoor
open Go.RowKit TF

/-- What stays, within the region of a turned point. -/
structure TrS (w : World) (b5 t : Nat) (x y z : Int) (w' : World) : Prop where
  p : Three w' w.heap.size x y z
  a : Three w' b5 (AX t 0) (AX t 1) (AX t 2)
  b : Three w' (b5 + 1) (AX t 3) (AX t 4) (AX t 5)
  c : Three w' (b5 + 1 + 1) (AX t 6) (AX t 7) (AX t 8)
  r : Own3 w' (w.heap.size + 1)
  lo : w.heap.size + 1 < b5
  bel : Below w.heap.size w w'
section
variable {w w1 w2 : World} {b5 t : Nat} {x y z : Int}
theorem TrS.below (h : TrS w b5 t x y z w1) (hb : Below w1.heap.size w1 w2) : TrS w b5 t x y z w2 := ⟨h.p.below hb, h.a.below hb, h.b.below hb, h.c.below hb, h.r.below hb, h.lo, h.bel.trans (hb.mono h.bel.size)⟩
theorem trC {F : FuncId} {args : Array Value} {r : Ending} (h : Calls Tryd.prog F args w1 fun e w' => e = r ∧ Below w1.heap.size w1 w') (hm : TrS w b5 t x y z w1) : Calls Tryd.prog F args w1 fun e w' => e = r ∧ TrS w b5 t x y z w' :=
  h.mono fun _ _ ⟨h1, h2⟩ => ⟨h1, hm.below h2⟩
theorem TrS.draw (h : TrS w b5 t x y z w1) : TrS w b5 t x y z w1.drew := h.below (Below.drew (Below.refl _ _))
theorem TrS.set (h : TrS w b5 t x y z w1) (j : Nat) (v : Value) : TrS w b5 t x y z (w1.setCell ⟨w.heap.size + 1, j, none⟩ v) := by
  have l := h.lo
  exact ⟨h.p.set (by omega) _ _, h.a.set (by omega) _ _, h.b.set (by omega) _ _, h.c.set (by omega) _ _, h.r.set _ _, h.lo, h.bel.setCell (show w.heap.size ≤ w.heap.size + 1 by omega) _⟩
theorem TrS.store (h : TrS w b5 t x y z w1) (p q r : Value) : TrS w b5 t x y z (((w1.setCell ⟨w.heap.size + 1, 0, none⟩ p).setCell ⟨w.heap.size + 1, 1, none⟩ q).setCell ⟨w.heap.size + 1, 2, none⟩ r) := ((h.set 0 p).set 1 q).set 2 r
theorem TrS.all (h : TrS w b5 t x y z w2) : w2.cell? ⟨w.heap.size, 0, none⟩ = some (.int .i64 x) ∧ w2.cell? ⟨w.heap.size, 1, none⟩ = some (.int .i64 y) ∧ w2.cell? ⟨w.heap.size, 2, none⟩ = some (.int .i64 z) ∧ w2.cell? ⟨b5, 0, none⟩ = some (.int .i64 (AX t 0)) ∧ w2.cell? ⟨b5, 1, none⟩ = some (.int .i64 (AX t 1)) ∧ w2.cell? ⟨b5, 2, none⟩ = some (.int .i64 (AX t 2)) ∧ w2.cell? ⟨b5 + 1, 0, none⟩ = some (.int .i64 (AX t 3)) ∧ w2.cell? ⟨b5 + 1, 1, none⟩ = some (.int .i64 (AX t 4)) ∧ w2.cell? ⟨b5 + 1, 2, none⟩ = some (.int .i64 (AX t 5)) ∧ w2.cell? ⟨b5 + 1 + 1, 0, none⟩ = some (.int .i64 (AX t 6)) ∧ w2.cell? ⟨b5 + 1 + 1, 1, none⟩ = some (.int .i64 (AX t 7)) ∧ w2.cell? ⟨b5 + 1 + 1, 2, none⟩ = some (.int .i64 (AX t 8)) ∧ w2.cell? ⟨w.heap.size + 1, 0, none⟩ = some (cellOr w2 ⟨w.heap.size + 1, 0, none⟩) ∧ w2.cell? ⟨w.heap.size + 1, 1, none⟩ = some (cellOr w2 ⟨w.heap.size + 1, 1, none⟩) ∧ w2.cell? ⟨w.heap.size + 1, 2, none⟩ = some (cellOr w2 ⟨w.heap.size + 1, 2, none⟩) ∧ w2.frozen? ⟨w.heap.size + 1, 0, none⟩ = false ∧ w2.frozen? ⟨w.heap.size + 1, 1, none⟩ = false ∧ w2.frozen? ⟨w.heap.size + 1, 2, none⟩ = false ∧ TrS w b5 t x y z w2 :=
  ⟨h.p.c0, h.p.c1, h.p.c2, h.a.c0, h.a.c1, h.a.c2, h.b.c0, h.b.c1, h.b.c2, h.c.c0, h.c.c1, h.c.c2, h.r.c0, h.r.c1, h.r.c2, h.r.f0, h.r.f1, h.r.f2, h⟩
end
set_option maxRecDepth 100000 in
set_option maxHeartbeats 4000000 in
theorem rturned_any (t : Nat) (ht : t < 24) (x y z : Int) (hp : I3 1000 x y z) (w : World) :
    Calls Tryd.prog 29 #[.int .i64 t, .agg #[.int .i64 x, .int .i64 y, .int .i64 z]] w fun e w' => e = .returned (.agg #[.int .i64 (TV t x y z 0), .int .i64 (TV t x y z 1), .int .i64 (TV t x y z 2)]) ∧ Below w.heap.size w w' := by
  have u0 : U3 (AX t 0) (AX t 1) (AX t 2) := AX_u ht (by omega)
  have u3 : U3 (AX t 3) (AX t 4) (AX t 5) := AX_u ht (by omega)
  have u6 : U3 (AX t 6) (AX t 7) (AX t 8) := AX_u ht (by omega)
  have kx : In 4000 x := ⟨by have := hp.x.1; omega, by have := hp.x.2; omega⟩
  have ky : In 4000 y := ⟨by have := hp.y.1; omega, by have := hp.y.2; omega⟩
  have kz : In 4000 z := ⟨by have := hp.z.1; omega, by have := hp.z.2; omega⟩
  have z0 : I3 4000 0 0 0 := ⟨⟨by omega, by omega⟩, ⟨by omega, by omega⟩, ⟨by omega, by omega⟩⟩
  have z1 : I3 4000 (x * AX t 0) (x * AX t 1) (x * AX t 2) := by
    obtain ⟨h1, h2⟩ := hp.x.mul u0.x (by omega)
    obtain ⟨h3, h4⟩ := hp.x.mul u0.y (by omega)
    obtain ⟨h5, h6⟩ := hp.x.mul u0.z (by omega)
    exact ⟨⟨by omega, by omega⟩, ⟨by omega, by omega⟩, ⟨by omega, by omega⟩⟩
  have z2 : I3 4000 (x * AX t 0 + y * AX t 3) (x * AX t 1 + y * AX t 4) (x * AX t 2 + y * AX t 5) := by
    obtain ⟨h1, h2⟩ := hp.x.mul u0.x (by omega)
    obtain ⟨h3, h4⟩ := hp.x.mul u0.y (by omega)
    obtain ⟨h5, h6⟩ := hp.x.mul u0.z (by omega)
    obtain ⟨g1, g2⟩ := hp.y.mul u3.x (by omega)
    obtain ⟨g3, g4⟩ := hp.y.mul u3.y (by omega)
    obtain ⟨g5, g6⟩ := hp.y.mul u3.z (by omega)
    exact ⟨⟨by omega, by omega⟩, ⟨by omega, by omega⟩, ⟨by omega, by omega⟩⟩
  clear hp
  go_enter Tryd.func29, Tryd.ntmps29
  go_wp2_with (first | (go_at_call 28; ((with_reducible refine (belD (B := w.heap.size) (w := w) (rimages_any _ ht _) (bel2 _ _ _) (Nat.le_refl _)).mono ?_)); rintro e w1 ⟨rfl, hB, hR⟩))
  have O0 : Own3 w1 (w.heap.size + 1) := Own3.below ⟨by simp [cellOr, go_sem], by simp [cellOr, go_sem], by simp [cellOr, go_sem], by simp [go_sem], by simp [go_sem], by simp [go_sem]⟩ hR
  have P0 : Three w1 w.heap.size x y z := Three.below ⟨by simp [go_sem], by simp [go_sem], by simp [go_sem]⟩ hR
  have hlo : w.heap.size + 1 < w1.heap.size := by have := hR.size; simp at this; omega
  obtain ⟨W, hW⟩ : ∃ W : World, W = ((w1.alloc (.cells #[.int .i64 (AX t 0), .int .i64 (AX t 1), .int .i64 (AX t 2)] 45)).alloc (.cells #[.int .i64 (AX t 3), .int .i64 (AX t 4), .int .i64 (AX t 5)] 45)).alloc (.cells #[.int .i64 (AX t 6), .int .i64 (AX t 7), .int .i64 (AX t 8)] 45) := ⟨_, rfl⟩
  rw [← hW]
  have M : TrS w w1.heap.size t x y z W := by
    rw [hW]
    have hb3 := bel3 w1 (.cells #[.int .i64 (AX t 0), .int .i64 (AX t 1), .int .i64 (AX t 2)] 45) (.cells #[.int .i64 (AX t 3), .int .i64 (AX t 4), .int .i64 (AX t 5)] 45) (.cells #[.int .i64 (AX t 6), .int .i64 (AX t 7), .int .i64 (AX t 8)] 45)
    exact ⟨P0.below hb3, ⟨by simp [go_sem], by simp [go_sem], by simp [go_sem]⟩, ⟨by simp [go_sem], by simp [go_sem], by simp [go_sem]⟩, ⟨by simp [go_sem], by simp [go_sem], by simp [go_sem]⟩, O0.below hb3, hlo, hB.trans (hb3.mono hB.size)⟩
  clear hW hB hR O0 P0 hlo
  go_region_held3 (fun w' => w'.cell? ⟨w.heap.size, 0, none⟩ = some (.int .i64 x) ∧ w'.cell? ⟨w.heap.size, 1, none⟩ = some (.int .i64 y) ∧ w'.cell? ⟨w.heap.size, 2, none⟩ = some (.int .i64 z) ∧ w'.cell? ⟨w1.heap.size, 0, none⟩ = some (.int .i64 (AX t 0)) ∧ w'.cell? ⟨w1.heap.size, 1, none⟩ = some (.int .i64 (AX t 1)) ∧ w'.cell? ⟨w1.heap.size, 2, none⟩ = some (.int .i64 (AX t 2)) ∧ w'.cell? ⟨w1.heap.size + 1, 0, none⟩ = some (.int .i64 (AX t 3)) ∧ w'.cell? ⟨w1.heap.size + 1, 1, none⟩ = some (.int .i64 (AX t 4)) ∧ w'.cell? ⟨w1.heap.size + 1, 2, none⟩ = some (.int .i64 (AX t 5)) ∧ w'.cell? ⟨w1.heap.size + 1 + 1, 0, none⟩ = some (.int .i64 (AX t 6)) ∧ w'.cell? ⟨w1.heap.size + 1 + 1, 1, none⟩ = some (.int .i64 (AX t 7)) ∧ w'.cell? ⟨w1.heap.size + 1 + 1, 2, none⟩ = some (.int .i64 (AX t 8)) ∧ w'.cell? ⟨w.heap.size + 1, 0, none⟩ = some (cellOr w' ⟨w.heap.size + 1, 0, none⟩) ∧ w'.cell? ⟨w.heap.size + 1, 1, none⟩ = some (cellOr w' ⟨w.heap.size + 1, 1, none⟩) ∧ w'.cell? ⟨w.heap.size + 1, 2, none⟩ = some (cellOr w' ⟨w.heap.size + 1, 2, none⟩) ∧ w'.frozen? ⟨w.heap.size + 1, 0, none⟩ = false ∧ w'.frozen? ⟨w.heap.size + 1, 1, none⟩ = false ∧ w'.frozen? ⟨w.heap.size + 1, 2, none⟩ = false ∧ TrS w w1.heap.size t x y z w')
    ((refine TrS.all ?_; repeat (first | with_reducible assumption | with_reducible apply TrS.store | with_reducible apply TrS.draw)))
    (first | (go_at_call 36; ((with_reducible refine (trC (rplus_any _ _ _ _ _ _ _ (by first | with_reducible exact z0 | with_reducible exact z1 | with_reducible exact z2) (by first | with_reducible exact kx | with_reducible exact ky | with_reducible exact kz) (by first | with_reducible exact u0 | with_reducible exact u3 | with_reducible exact u6) _) (by first | with_reducible assumption | with_reducible exact TrS.draw (by with_reducible assumption))).mono ?_)); rintro e w5 ⟨rfl, hM⟩))
  go_wp2
  have q0 := hM.r.c0; have q1 := hM.r.c1; have q2 := hM.r.c2
  exact bodyPost_ret (v := .agg #[.int .i64 (TV t x y z 0), .int .i64 (TV t x y z 1), .int .i64 (TV t x y z 2)]) (by simp [results, Tryd.results29, go_sem, q0, q1, q2, TV]) rfl ⟨rfl, (TrS.store hM _ _ _).bel⟩
end Go.Proofs.YtbfbafoeifigfaaDoor
