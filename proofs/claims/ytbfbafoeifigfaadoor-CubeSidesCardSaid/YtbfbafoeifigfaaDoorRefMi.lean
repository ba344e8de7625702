/- The reference's middles and ways. -/
import Derived.Test.YtbfbafoeifigfaaDoorRefT
import Derived.Test.YtbfbafoeifigfaaDoorCubeY
namespace Go.Proofs.YtbfbafoeifigfaaDoor
open Go.RowKit TF

theorem wrap_in {x : Int} (h1 : -9000 ≤ x) (h2 : x ≤ 9000) : IntKind.i64.wrap x = x := by
  rw [IntKind.wrap_i64]; omega
theorem rplace_on {n i j : Int} {f : Nat} (h : On n f i j) (w : World) :
    Calls Tryd.prog 13 #[.int .i64 n, .int .i64 (cellN n f i j)] w fun e w' => e = .returned (.tuple #[.int .i64 f, .int .i64 i, .int .i64 j, .bool true]) ∧ Below w.heap.size w w' := by
  have := rplace_any n (cellN n f i j) w
  rw [h.place] at this
  exact this.mono fun _ _ ⟨h1, k, h2⟩ => ⟨h1, by rw [h2]; exact below_drewN (Below.refl _ _) _⟩
/-- What stays: the frame, the result's own cells. -/
structure MdS (w : World) (b5 f : Nat) (w' : World) : Prop where
  a : Three w' b5 (FR f 0) (FR f 1) (FR f 2)
  b : Three w' (b5 + 1) (FR f 3) (FR f 4) (FR f 5)
  c : Three w' (b5 + 1 + 1) (FR f 6) (FR f 7) (FR f 8)
  r : Own3 w' w.heap.size
  lo : w.heap.size < b5
  bel : Below w.heap.size w w'
section
variable {w w1 w2 : World} {b5 f : Nat}
theorem MdS.below (h : MdS w b5 f w1) (hb : Below w1.heap.size w1 w2) : MdS w b5 f w2 := ⟨h.a.below hb, h.b.below hb, h.c.below hb, h.r.below hb, h.lo, h.bel.trans (hb.mono h.bel.size)⟩
theorem mdC {F : FuncId} {args : Array Value} {r : Ending} (h : Calls Tryd.prog F args w1 fun e w' => e = r ∧ Below w1.heap.size w1 w') (hm : MdS w b5 f w1) : Calls Tryd.prog F args w1 fun e w' => e = r ∧ MdS w b5 f w' :=
  h.mono fun _ _ ⟨h1, h2⟩ => ⟨h1, hm.below h2⟩
theorem MdS.draw (h : MdS w b5 f w1) : MdS w b5 f w1.drew := h.below (Below.drew (Below.refl _ _))
theorem MdS.set (h : MdS w b5 f w1) (j : Nat) (v : Value) : MdS w b5 f (w1.setCell ⟨w.heap.size, j, none⟩ v) := by
  have l := h.lo
  exact ⟨h.a.set (by omega) _ _, h.b.set (by omega) _ _, h.c.set (by omega) _ _, h.r.set _ _, h.lo, h.bel.setCell (Nat.le_refl _) _⟩
theorem MdS.store (h : MdS w b5 f w1) (p q r : Value) : MdS w b5 f (((w1.setCell ⟨w.heap.size, 0, none⟩ p).setCell ⟨w.heap.size, 1, none⟩ q).setCell ⟨w.heap.size, 2, none⟩ r) := ((h.set 0 p).set 1 q).set 2 r
theorem MdS.all (h : MdS w b5 f w2) : w2.cell? ⟨b5, 0, none⟩ = some (.int .i64 (FR f 0)) ∧ w2.cell? ⟨b5, 1, none⟩ = some (.int .i64 (FR f 1)) ∧ w2.cell? ⟨b5, 2, none⟩ = some (.int .i64 (FR f 2)) ∧ w2.cell? ⟨b5 + 1, 0, none⟩ = some (.int .i64 (FR f 3)) ∧ w2.cell? ⟨b5 + 1, 1, none⟩ = some (.int .i64 (FR f 4)) ∧ w2.cell? ⟨b5 + 1, 2, none⟩ = some (.int .i64 (FR f 5)) ∧ w2.cell? ⟨b5 + 1 + 1, 0, none⟩ = some (.int .i64 (FR f 6)) ∧ w2.cell? ⟨b5 + 1 + 1, 1, none⟩ = some (.int .i64 (FR f 7)) ∧ w2.cell? ⟨b5 + 1 + 1, 2, none⟩ = some (.int .i64 (FR f 8)) ∧ w2.cell? ⟨w.heap.size, 0, none⟩ = some (cellOr w2 ⟨w.heap.size, 0, none⟩) ∧ w2.cell? ⟨w.heap.size, 1, none⟩ = some (cellOr w2 ⟨w.heap.size, 1, none⟩) ∧ w2.cell? ⟨w.heap.size, 2, none⟩ = some (cellOr w2 ⟨w.heap.size, 2, none⟩) ∧ w2.frozen? ⟨w.heap.size, 0, none⟩ = false ∧ w2.frozen? ⟨w.heap.size, 1, none⟩ = false ∧ w2.frozen? ⟨w.heap.size, 2, none⟩ = false ∧ MdS w b5 f w2 :=
  ⟨h.a.c0, h.a.c1, h.a.c2, h.b.c0, h.b.c1, h.b.c2, h.c.c0, h.c.c1, h.c.c2, h.r.c0, h.r.c1, h.r.c2, h.r.f0, h.r.f1, h.r.f2, h⟩
end
set_option maxRecDepth 100000 in
set_option maxHeartbeats 4000000 in
theorem rmiddle_on {n i j : Int} {f : Nat} (hO : On n f i j) (w : World) :
    Calls Tryd.prog 37 #[.int .i64 n, .int .i64 (cellN n f i j)] w fun e w' => e = .returned (.agg #[.int .i64 (MI n f i j 0), .int .i64 (MI n f i j 1), .int .i64 (MI n f i j 2)]) ∧ Below w.heap.size w w' := by
  have hf := hO.f6
  have n1 := hO.n1; have n2 := hO.n32; have i0 := hO.i0; have i1 := hO.i1; have j0 := hO.j0; have j1 := hO.j1
  have u0 : U3 (FR f 0) (FR f 1) (FR f 2) := FR_u hf (by omega)
  have u3 : U3 (FR f 3) (FR f 4) (FR f 5) := FR_u hf (by omega)
  have u6 : U3 (FR f 6) (FR f 7) (FR f 8) := FR_u hf (by omega)
  have kx : In 4000 n := ⟨by omega, by omega⟩
  have ky : In 4000 (2 * i + 1 - n) := ⟨by omega, by omega⟩
  have kz : In 4000 (2 * j + 1 - n) := ⟨by omega, by omega⟩
  have km : In 4000 (-1) := ⟨by omega, by omega⟩
  have hx : In 300 n := ⟨by omega, by omega⟩
  have hy : In 300 (2 * i + 1 - n) := ⟨by omega, by omega⟩
  have z0 : I3 4000 0 0 0 := ⟨⟨by omega, by omega⟩, ⟨by omega, by omega⟩, ⟨by omega, by omega⟩⟩
  have z1 : I3 4000 (n * FR f 0) (n * FR f 1) (n * FR f 2) := by
    obtain ⟨h1, h2⟩ := hx.mul u0.x (by omega)
    obtain ⟨h3, h4⟩ := hx.mul u0.y (by omega)
    obtain ⟨h5, h6⟩ := hx.mul u0.z (by omega)
    exact ⟨⟨by omega, by omega⟩, ⟨by omega, by omega⟩, ⟨by omega, by omega⟩⟩
  have z2 : I3 4000 (n * FR f 0 + (2 * i + 1 - n) * FR f 3) (n * FR f 1 + (2 * i + 1 - n) * FR f 4) (n * FR f 2 + (2 * i + 1 - n) * FR f 5) := by
    obtain ⟨h1, h2⟩ := hx.mul u0.x (by omega)
    obtain ⟨h3, h4⟩ := hx.mul u0.y (by omega)
    obtain ⟨h5, h6⟩ := hx.mul u0.z (by omega)
    obtain ⟨g1, g2⟩ := hy.mul u3.x (by omega)
    obtain ⟨g3, g4⟩ := hy.mul u3.y (by omega)
    obtain ⟨g5, g6⟩ := hy.mul u3.z (by omega)
    exact ⟨⟨by omega, by omega⟩, ⟨by omega, by omega⟩, ⟨by omega, by omega⟩⟩
  clear hx hy
  have e1 : IntKind.i64.wrap (2 * i) = 2 * i := by first | exact wrap_in (by omega) (by omega)
  have e2 : IntKind.i64.wrap (2 * i + 1) = 2 * i + 1 := by first | exact wrap_in (by omega) (by omega)
  have e3 : IntKind.i64.wrap (2 * i + 1 - n) = 2 * i + 1 - n := by first | exact wrap_in (by omega) (by omega)
  have e4 : IntKind.i64.wrap (2 * j) = 2 * j := by first | exact wrap_in (by omega) (by omega)
  have e5 : IntKind.i64.wrap (2 * j + 1) = 2 * j + 1 := by first | exact wrap_in (by omega) (by omega)
  have e6 : IntKind.i64.wrap (2 * j + 1 - n) = 2 * j + 1 - n := by first | exact wrap_in (by omega) (by omega)
  go_enter Tryd.func37, Tryd.ntmps37
  go_wp2_with (first | (go_at_call 13; ((with_reducible refine (belD (B := w.heap.size) (w := w) (rplace_on hO _) (bel1 _ _) (Nat.le_refl _)).mono ?_)); rintro e w1 ⟨rfl, hB1, hR1⟩) | (go_at_call 39; ((with_reducible refine (belD (B := w.heap.size) (w := w) (rframe_any f hf _) hB1 (Nat.le_refl _)).mono ?_)); rintro e w2 ⟨rfl, hB, hR⟩))
  have O1 : Own3 w1 w.heap.size := Own3.below ⟨by simp [cellOr, go_sem], by simp [cellOr, go_sem], by simp [cellOr, go_sem], by simp [go_sem], by simp [go_sem], by simp [go_sem]⟩ hR1
  have hlo : w.heap.size < w1.heap.size := by have := hR1.size; simp at this; omega
  have O0 : Own3 w2 w.heap.size := O1.below hR
  have hlo2 : w.heap.size < w2.heap.size := by have := hR.size; omega
  obtain ⟨W, hW⟩ : ∃ W : World, W = ((w2.alloc (.cells #[.int .i64 (FR f 0), .int .i64 (FR f 1), .int .i64 (FR f 2)] 45)).alloc (.cells #[.int .i64 (FR f 3), .int .i64 (FR f 4), .int .i64 (FR f 5)] 45)).alloc (.cells #[.int .i64 (FR f 6), .int .i64 (FR f 7), .int .i64 (FR f 8)] 45) := ⟨_, rfl⟩
  rw [← hW]
  have M : MdS w w2.heap.size f W := by
    rw [hW]
    have hb3 := bel3 w2 (.cells #[.int .i64 (FR f 0), .int .i64 (FR f 1), .int .i64 (FR f 2)] 45) (.cells #[.int .i64 (FR f 3), .int .i64 (FR f 4), .int .i64 (FR f 5)] 45) (.cells #[.int .i64 (FR f 6), .int .i64 (FR f 7), .int .i64 (FR f 8)] 45)
    exact ⟨⟨by simp [go_sem], by simp [go_sem], by simp [go_sem]⟩, ⟨by simp [go_sem], by simp [go_sem], by simp [go_sem]⟩, ⟨by simp [go_sem], by simp [go_sem], by simp [go_sem]⟩, O0.below hb3, hlo2, hB.trans (hb3.mono hB.size)⟩
  clear hW hB hR hB1 hR1 O0 O1 hlo hlo2
  go_region_held3 (fun w' => w'.cell? ⟨w2.heap.size, 0, none⟩ = some (.int .i64 (FR f 0)) ∧ w'.cell? ⟨w2.heap.size, 1, none⟩ = some (.int .i64 (FR f 1)) ∧ w'.cell? ⟨w2.heap.size, 2, none⟩ = some (.int .i64 (FR f 2)) ∧ w'.cell? ⟨w2.heap.size + 1, 0, none⟩ = some (.int .i64 (FR f 3)) ∧ w'.cell? ⟨w2.heap.size + 1, 1, none⟩ = some (.int .i64 (FR f 4)) ∧ w'.cell? ⟨w2.heap.size + 1, 2, none⟩ = some (.int .i64 (FR f 5)) ∧ w'.cell? ⟨w2.heap.size + 1 + 1, 0, none⟩ = some (.int .i64 (FR f 6)) ∧ w'.cell? ⟨w2.heap.size + 1 + 1, 1, none⟩ = some (.int .i64 (FR f 7)) ∧ w'.cell? ⟨w2.heap.size + 1 + 1, 2, none⟩ = some (.int .i64 (FR f 8)) ∧ w'.cell? ⟨w.heap.size, 0, none⟩ = some (cellOr w' ⟨w.heap.size, 0, none⟩) ∧ w'.cell? ⟨w.heap.size, 1, none⟩ = some (cellOr w' ⟨w.heap.size, 1, none⟩) ∧ w'.cell? ⟨w.heap.size, 2, none⟩ = some (cellOr w' ⟨w.heap.size, 2, none⟩) ∧ w'.frozen? ⟨w.heap.size, 0, none⟩ = false ∧ w'.frozen? ⟨w.heap.size, 1, none⟩ = false ∧ w'.frozen? ⟨w.heap.size, 2, none⟩ = false ∧ MdS w w2.heap.size f w')
    ((refine MdS.all ?_; repeat (first | with_reducible assumption | with_reducible apply MdS.store | with_reducible apply MdS.draw)))
    (first | (go_at_call 36; ((with_reducible refine (mdC (rplus_any _ _ _ _ _ _ _ (by first | with_reducible exact z0 | with_reducible exact z1 | with_reducible exact z2) (by first | with_reducible exact kx | with_reducible exact ky | with_reducible exact kz | with_reducible exact km) (by first | with_reducible exact u0 | with_reducible exact u3 | with_reducible exact u6) _) (by first | with_reducible assumption | with_reducible exact MdS.draw (by with_reducible assumption))).mono ?_)); rintro e w5 ⟨rfl, hM⟩))
  go_wp2
  have q0 := hM.r.c0; have q1 := hM.r.c1; have q2 := hM.r.c2
  exact bodyPost_ret (v := .agg #[.int .i64 (MI n f i j 0), .int .i64 (MI n f i j 1), .int .i64 (MI n f i j 2)]) (by simp [results, Tryd.results37, go_sem, q0, q1, q2, MI]) rfl ⟨rfl, (MdS.store hM _ _ _).bel⟩
set_option maxRecDepth 100000 in
set_option maxHeartbeats 4000000 in
theorem rway_on {n i j : Int} {f s : Nat} (hO : On n f i j) (hs : s < 4) (w : World) :
    Calls Tryd.prog 38 #[.int .i64 n, .int .i64 (cellN n f i j), .int .i64 s] w fun e w' => e = .returned (.agg #[.int .i64 (WO f s 0), .int .i64 (WO f s 1), .int .i64 (WO f s 2)]) ∧ Below w.heap.size w w' := by
  have hf := hO.f6
  have u0 : U3 (FR f 0) (FR f 1) (FR f 2) := FR_u hf (by omega)
  have u3 : U3 (FR f 3) (FR f 4) (FR f 5) := FR_u hf (by omega)
  have u6 : U3 (FR f 6) (FR f 7) (FR f 8) := FR_u hf (by omega)
  have kx : In 4000 (-1) := ⟨by omega, by omega⟩
  have ky := kx
  have kz := kx
  have km := kx
  have z0 : I3 4000 0 0 0 := ⟨⟨by omega, by omega⟩, ⟨by omega, by omega⟩, ⟨by omega, by omega⟩⟩
  have z1 := z0
  have z2 := z0
  go_enter Tryd.func38, Tryd.ntmps38
  go_upto_region 3 with (first | (go_at_call 13; ((with_reducible refine (belD (B := w.heap.size) (w := w) (rplace_on hO _) (bel1 _ _) (Nat.le_refl _)).mono ?_)); rintro e w1 ⟨rfl, hB1, hR1⟩) | (go_at_call 39; ((with_reducible refine (belD (B := w.heap.size) (w := w) (rframe_any f hf _) hB1 (Nat.le_refl _)).mono ?_)); rintro e w2 ⟨rfl, hB, hR⟩))
  have O1 : Own3 w1 w.heap.size := Own3.below ⟨by simp [cellOr, go_sem], by simp [cellOr, go_sem], by simp [cellOr, go_sem], by simp [go_sem], by simp [go_sem], by simp [go_sem]⟩ hR1
  have hlo : w.heap.size < w1.heap.size := by have := hR1.size; simp at this; omega
  have O0 : Own3 w2 w.heap.size := O1.below hR
  have hlo2 : w.heap.size < w2.heap.size := by have := hR.size; omega
  obtain ⟨W, hW⟩ : ∃ W : World, W = ((w2.alloc (.cells #[.int .i64 (FR f 0), .int .i64 (FR f 1), .int .i64 (FR f 2)] 45)).alloc (.cells #[.int .i64 (FR f 3), .int .i64 (FR f 4), .int .i64 (FR f 5)] 45)).alloc (.cells #[.int .i64 (FR f 6), .int .i64 (FR f 7), .int .i64 (FR f 8)] 45) := ⟨_, rfl⟩
  rw [← hW]
  have M : MdS w w2.heap.size f W := by
    rw [hW]
    have hb3 := bel3 w2 (.cells #[.int .i64 (FR f 0), .int .i64 (FR f 1), .int .i64 (FR f 2)] 45) (.cells #[.int .i64 (FR f 3), .int .i64 (FR f 4), .int .i64 (FR f 5)] 45) (.cells #[.int .i64 (FR f 6), .int .i64 (FR f 7), .int .i64 (FR f 8)] 45)
    exact ⟨⟨by simp [go_sem], by simp [go_sem], by simp [go_sem]⟩, ⟨by simp [go_sem], by simp [go_sem], by simp [go_sem]⟩, ⟨by simp [go_sem], by simp [go_sem], by simp [go_sem]⟩, O0.below hb3, hlo2, hB.trans (hb3.mono hB.size)⟩
  clear hW hB hR hB1 hR1 O0 O1 hlo hlo2
  rcases four hs with rfl | rfl | rfl | rfl
  · skip
    obtain ⟨c0, c1, c2, c3, c4, c5, c6, c7, c8, r0, r1, r2, g0, g1, g2, -⟩ := MdS.all M
    go_wp2_with (first | (go_at_call 36; ((with_reducible refine (mdC (rplus_any _ _ _ _ _ _ _ (by first | with_reducible exact z0 | with_reducible exact z1 | with_reducible exact z2) (by first | with_reducible exact kx | with_reducible exact ky | with_reducible exact kz | with_reducible exact km) (by first | with_reducible exact u0 | with_reducible exact u3 | with_reducible exact u6) _) (by first | with_reducible assumption | with_reducible exact MdS.draw (by with_reducible assumption))).mono ?_)); rintro e w5 ⟨rfl, hM⟩))
    have q0 := M.r.c0; have q1 := M.r.c1; have q2 := M.r.c2
    exact bodyPost_ret (v := .agg #[.int .i64 (WO f 0 0), .int .i64 (WO f 0 1), .int .i64 (WO f 0 2)]) (by simp [results, Tryd.results38, go_sem, q0, q1, q2, WO, OU]) rfl ⟨rfl, (MdS.store M _ _ _).bel⟩
  · skip
    obtain ⟨c0, c1, c2, c3, c4, c5, c6, c7, c8, r0, r1, r2, g0, g1, g2, -⟩ := MdS.all M
    go_wp2_with (first | (go_at_call 36; ((with_reducible refine (mdC (rplus_any _ _ _ _ _ _ _ (by first | with_reducible exact z0 | with_reducible exact z1 | with_reducible exact z2) (by first | with_reducible exact kx | with_reducible exact ky | with_reducible exact kz | with_reducible exact km) (by first | with_reducible exact u0 | with_reducible exact u3 | with_reducible exact u6) _) (by first | with_reducible assumption | with_reducible exact MdS.draw (by with_reducible assumption))).mono ?_)); rintro e w5 ⟨rfl, hM⟩))
    have q0 := M.r.c0; have q1 := M.r.c1; have q2 := M.r.c2
    exact bodyPost_ret (v := .agg #[.int .i64 (WO f 1 0), .int .i64 (WO f 1 1), .int .i64 (WO f 1 2)]) (by simp [results, Tryd.results38, go_sem, q0, q1, q2, WO, OU]) rfl ⟨rfl, (MdS.store M _ _ _).bel⟩
  · skip
    obtain ⟨c0, c1, c2, c3, c4, c5, c6, c7, c8, r0, r1, r2, g0, g1, g2, -⟩ := MdS.all M
    go_wp2_with (first | (go_at_call 36; ((with_reducible refine (mdC (rplus_any _ _ _ _ _ _ _ z0 kx (by first | with_reducible exact u3 | with_reducible exact u6) _) (by with_reducible assumption)).mono ?_)); rintro e w5 ⟨rfl, hM⟩; obtain ⟨-, -, -, -, -, -, -, -, -, r0, r1, r2, g0, g1, g2, -⟩ := MdS.all hM))
    have q0 := hM.r.c0; have q1 := hM.r.c1; have q2 := hM.r.c2
    exact bodyPost_ret (v := .agg #[.int .i64 (WO f 2 0), .int .i64 (WO f 2 1), .int .i64 (WO f 2 2)]) (by simp [results, Tryd.results38, go_sem, q0, q1, q2, WO, OU]) rfl ⟨rfl, (MdS.store hM _ _ _).bel⟩
  · skip
    obtain ⟨c0, c1, c2, c3, c4, c5, c6, c7, c8, r0, r1, r2, g0, g1, g2, -⟩ := MdS.all M
    go_wp2_with (first | (go_at_call 36; ((with_reducible refine (mdC (rplus_any _ _ _ _ _ _ _ z0 kx (by first | with_reducible exact u3 | with_reducible exact u6) _) (by with_reducible assumption)).mono ?_)); rintro e w5 ⟨rfl, hM⟩; obtain ⟨-, -, -, -, -, -, -, -, -, r0, r1, r2, g0, g1, g2, -⟩ := MdS.all hM))
    have q0 := hM.r.c0; have q1 := hM.r.c1; have q2 := hM.r.c2
    exact bodyPost_ret (v := .agg #[.int .i64 (WO f 3 0), .int .i64 (WO f 3 1), .int .i64 (WO f 3 2)]) (by simp [results, Tryd.results38, go_sem, q0, q1, q2, WO, OU]) rfl ⟨rfl, (MdS.store hM _ _ _).bel⟩
end Go.Proofs.YtbfbafoeifigfaaDoor
