/- The cube's turns: a way turned; the axes. -/
import Derived.Test.YtbfbafoeifigfaaDoorCubeC
import Derived.Test.YtbfbafoeifigfaaDoorCubeG
import Derived.Deep.RegionWith
namespace Go.Proofs.YtbfbafoeifigfaaDoor
open Go.RowKit TF

theorem cross_ex (x y z a b c : Int) (hu : U3 x y z) (hv : U3 a b c) (w : World) :
    Calls Tryd.prog 41 #[.agg #[.int .i64 x, .int .i64 y, .int .i64 z], .agg #[.int .i64 a, .int .i64 b, .int .i64 c]] w fun e w' => e = .returned (.agg #[.int .i64 (y * c - z * b), .int .i64 (z * a - x * c), .int .i64 (x * b - y * a)]) ∧
      ((w.alloc (.cells #[.int .i64 x, .int .i64 y, .int .i64 z] 39)).alloc (.cells #[.int .i64 a, .int .i64 b, .int .i64 c] 39)).alloc (.cells #[.int .i64 (y * c - z * b), .int .i64 (z * a - x * c), .int .i64 (x * b - y * a)] 39) = w' := by
  obtain ⟨h1, h1'⟩ := hu.y.mul hv.z (by omega)
  obtain ⟨h2, h2'⟩ := hu.z.mul hv.y (by omega)
  obtain ⟨h3, h3'⟩ := hu.z.mul hv.x (by omega)
  obtain ⟨h4, h4'⟩ := hu.x.mul hv.z (by omega)
  obtain ⟨h5, h5'⟩ := hu.x.mul hv.y (by omega)
  obtain ⟨h6, h6'⟩ := hu.y.mul hv.x (by omega)
  clear hu hv
  go_enter Tryd.func41, Tryd.ntmps41
  go_wp2_with fail
  exact bodyPost_ret (v := .agg #[.int .i64 (y * c - z * b), .int .i64 (z * a - x * c), .int .i64 (x * b - y * a)]) (by simp [results, Tryd.results41, go_sem]) rfl ⟨rfl, rfl⟩

/-- Three numbers in a block. -/
structure Three (w : World) (b : Nat) (x y z : Int) : Prop where
  c0 : w.cell? ⟨b, 0, none⟩ = some (.int .i64 x)
  c1 : w.cell? ⟨b, 1, none⟩ = some (.int .i64 y)
  c2 : w.cell? ⟨b, 2, none⟩ = some (.int .i64 z)
theorem Three.below {w w1 : World} {b : Nat} {x y z : Int} (h : Three w b x y z) (hb : Below w.heap.size w w1) : Three w1 b x y z := by
  have hlt : b < w.heap.size := lt_of_some h.c0
  have e : ∀ j, w1.cell? ⟨b, j, none⟩ = w.cell? ⟨b, j, none⟩ := fun j => hb.cell (p := ⟨b, j, none⟩) hlt
  exact ⟨(e 0).trans h.c0, (e 1).trans h.c1, (e 2).trans h.c2⟩
theorem Three.set {w : World} {b c : Nat} {x y z : Int} (h : Three w b x y z) (hc : c ≠ b) (j : Nat) (u : Value) : Three (w.setCell ⟨c, j, none⟩ u) b x y z := by
  have e : ∀ i, (w.setCell ⟨c, j, none⟩ u).cell? ⟨b, i, none⟩ = w.cell? ⟨b, i, none⟩ := fun i => World.cell?_setCell_far w _ _ u hc
  exact ⟨(e 0).trans h.c0, (e 1).trans h.c1, (e 2).trans h.c2⟩
/-- What stays, within the region of a turned way. -/
structure TurS (w : World) (g : Nat → Int) (x y z : Int) (w' : World) : Prop where
  nine : Nine w' w.heap.size g
  three : Three w' (w.heap.size + 1) x y z
  own : Own3 w' (w.heap.size + 2)
  bel : Below w.heap.size w w'
section
variable {w : World} {g : Nat → Int} {x y z : Int} {w1 w2 : World}
theorem TurS.step (h : TurS w g x y z w1) (hb : Below w1.heap.size w1 w2) : TurS w g x y z w2 := ⟨h.nine.below hb, h.three.below hb, h.own.below hb, h.bel.trans (hb.mono h.bel.size)⟩
theorem turC {F : FuncId} {args : Array Value} {r : Ending} (h : Calls Tryd.prog F args w1 fun e w' => e = r ∧ Below w1.heap.size w1 w') (hm : TurS w g x y z w1) : Calls Tryd.prog F args w1 fun e w' => e = r ∧ TurS w g x y z w' :=
  h.mono fun _ _ ⟨h1, h2⟩ => ⟨h1, hm.step h2⟩
theorem TurS.draw (h : TurS w g x y z w1) : TurS w g x y z w1.drew := h.step (Below.drew (Below.refl _ _))
theorem TurS.store (h : TurS w g x y z w1) (a b c : Value) : TurS w g x y z (((w1.setCell ⟨w.heap.size + 2, 0, none⟩ a).setCell ⟨w.heap.size + 2, 1, none⟩ b).setCell ⟨w.heap.size + 2, 2, none⟩ c) :=
  ⟨((h.nine.set (by omega) _ _).set (by omega) _ _).set (by omega) _ _, ((h.three.set (by omega) _ _).set (by omega) _ _).set (by omega) _ _, h.own.store _ _ _, set3 h.bel (by omega) _ _ _⟩
theorem TurS.all (h : TurS w g x y z w1) : w1.cell? ⟨w.heap.size, 0, none⟩ = some (.int .i64 (g 0)) ∧ w1.cell? ⟨w.heap.size, 1, none⟩ = some (.int .i64 (g 1)) ∧ w1.cell? ⟨w.heap.size, 2, none⟩ = some (.int .i64 (g 2)) ∧ w1.cell? ⟨w.heap.size, 3, none⟩ = some (.int .i64 (g 3)) ∧ w1.cell? ⟨w.heap.size, 4, none⟩ = some (.int .i64 (g 4)) ∧ w1.cell? ⟨w.heap.size, 5, none⟩ = some (.int .i64 (g 5)) ∧ w1.cell? ⟨w.heap.size, 6, none⟩ = some (.int .i64 (g 6)) ∧ w1.cell? ⟨w.heap.size, 7, none⟩ = some (.int .i64 (g 7)) ∧ w1.cell? ⟨w.heap.size, 8, none⟩ = some (.int .i64 (g 8)) ∧
    w1.cell? ⟨w.heap.size + 1, 0, none⟩ = some (.int .i64 x) ∧ w1.cell? ⟨w.heap.size + 1, 1, none⟩ = some (.int .i64 y) ∧ w1.cell? ⟨w.heap.size + 1, 2, none⟩ = some (.int .i64 z) ∧
    w1.cell? ⟨w.heap.size + 2, 0, none⟩ = some (cellOr w1 ⟨w.heap.size + 2, 0, none⟩) ∧ w1.cell? ⟨w.heap.size + 2, 1, none⟩ = some (cellOr w1 ⟨w.heap.size + 2, 1, none⟩) ∧ w1.cell? ⟨w.heap.size + 2, 2, none⟩ = some (cellOr w1 ⟨w.heap.size + 2, 2, none⟩) ∧ w1.frozen? ⟨w.heap.size + 2, 0, none⟩ = false ∧ w1.frozen? ⟨w.heap.size + 2, 1, none⟩ = false ∧ w1.frozen? ⟨w.heap.size + 2, 2, none⟩ = false ∧ TurS w g x y z w1 :=
  ⟨h.nine.c0, h.nine.c1, h.nine.c2, h.nine.c3, h.nine.c4, h.nine.c5, h.nine.c6, h.nine.c7, h.nine.c8, h.three.c0, h.three.c1, h.three.c2, h.own.c0, h.own.c1, h.own.c2, h.own.f0, h.own.f1, h.own.f2, h⟩
end
theorem i3_of {b : Int} {x y z : Int} (h : I3 b x y z) (hb : b ≤ 4000) : I3 4000 x y z :=
  ⟨⟨by have := h.x.1; omega, by have := h.x.2; omega⟩, ⟨by have := h.y.1; omega, by have := h.y.2; omega⟩, ⟨by have := h.z.1; omega, by have := h.z.2; omega⟩⟩
theorem i3_mul {k a b c : Int} (hk : In 1001 k) (h : U3 a b c) : I3 4000 (k * a) (k * b) (k * c) := i3_of (b := 1001) ⟨hk.mul h.x (by omega), hk.mul h.y (by omega), hk.mul h.z (by omega)⟩ (by omega)
theorem i3_two {k l a b c x y z : Int} (hk : In 1001 k) (hl : In 1001 l) (h : U3 a b c) (g : U3 x y z) : I3 4000 (k * a + l * x) (k * b + l * y) (k * c + l * z) := by
  have e : ∀ {p q : Int}, In 1 p → In 1 q → In 4000 (k * p + l * q) := fun hp hq => by
    obtain ⟨p1, p2⟩ := hk.mul hp (by omega)
    obtain ⟨p3, p4⟩ := hl.mul hq (by omega)
    exact ⟨by omega, by omega⟩
  exact ⟨e h.x g.x, e h.y g.y, e h.z g.z⟩

set_option maxHeartbeats 2000000 in
theorem turned_any (t : Nat) (ht : t < 24) (x y z : Int) (hi : I3 1001 x y z) (w : World) :
    Calls Tryd.prog 27 #[.agg #[.int .i64 (AX t 0), .int .i64 (AX t 1), .int .i64 (AX t 2), .int .i64 (AX t 3), .int .i64 (AX t 4), .int .i64 (AX t 5), .int .i64 (AX t 6), .int .i64 (AX t 7), .int .i64 (AX t 8)], .agg #[.int .i64 x, .int .i64 y, .int .i64 z]] w
      fun e w' => e = .returned (.agg #[.int .i64 (TV t x y z 0), .int .i64 (TV t x y z 1), .int .i64 (TV t x y z 2)]) ∧ Below w.heap.size w w' := by
  have u0 : U3 (AX t 0) (AX t 1) (AX t 2) := AX_u ht (by omega)
  have u3 : U3 (AX t 3) (AX t 4) (AX t 5) := AX_u ht (by omega)
  have u6 : U3 (AX t 6) (AX t 7) (AX t 8) := AX_u ht (by omega)
  have i4 := i3_of hi (by omega)
  have k1 := i4.x
  have k2 := i4.y
  have k3 := i4.z
  have p1 := i3_mul hi.x u0
  have p2 := i3_mul hi.y u3
  have p3 := i3_mul hi.z u6
  have p4 := i3_two hi.x hi.y u0 u3
  clear hi
  go_enter Tryd.func27, Tryd.ntmps27
  go_wp2_with fail
  obtain ⟨W, hW⟩ : ∃ W : World, W = ((w.alloc (.cells #[.int .i64 (AX t 0), .int .i64 (AX t 1), .int .i64 (AX t 2), .int .i64 (AX t 3), .int .i64 (AX t 4), .int .i64 (AX t 5), .int .i64 (AX t 6), .int .i64 (AX t 7), .int .i64 (AX t 8)] 41)).alloc (.cells #[.int .i64 x, .int .i64 y, .int .i64 z] 39)).alloc (.cells #[.int .i64 0, .int .i64 0, .int .i64 0] 39) := ⟨_, rfl⟩
  rw [← hW]
  have M : TurS w (AX t) x y z W := by
    rw [hW]
    exact ⟨⟨by simp [go_sem], by simp [go_sem], by simp [go_sem], by simp [go_sem], by simp [go_sem], by simp [go_sem], by simp [go_sem], by simp [go_sem], by simp [go_sem]⟩, ⟨by simp [go_sem], by simp [go_sem], by simp [go_sem]⟩,
      ⟨by simp [cellOr, go_sem], by simp [cellOr, go_sem], by simp [cellOr, go_sem], by simp [go_sem], by simp [go_sem], by simp [go_sem]⟩, bel3 _ _ _ _⟩
  clear hW
  go_region_held3 (fun w' => w'.cell? ⟨w.heap.size, 0, none⟩ = some (.int .i64 (AX t 0)) ∧ w'.cell? ⟨w.heap.size, 1, none⟩ = some (.int .i64 (AX t 1)) ∧ w'.cell? ⟨w.heap.size, 2, none⟩ = some (.int .i64 (AX t 2)) ∧ w'.cell? ⟨w.heap.size, 3, none⟩ = some (.int .i64 (AX t 3)) ∧ w'.cell? ⟨w.heap.size, 4, none⟩ = some (.int .i64 (AX t 4)) ∧ w'.cell? ⟨w.heap.size, 5, none⟩ = some (.int .i64 (AX t 5)) ∧ w'.cell? ⟨w.heap.size, 6, none⟩ = some (.int .i64 (AX t 6)) ∧ w'.cell? ⟨w.heap.size, 7, none⟩ = some (.int .i64 (AX t 7)) ∧ w'.cell? ⟨w.heap.size, 8, none⟩ = some (.int .i64 (AX t 8)) ∧ w'.cell? ⟨w.heap.size + 1, 0, none⟩ = some (.int .i64 x) ∧ w'.cell? ⟨w.heap.size + 1, 1, none⟩ = some (.int .i64 y) ∧ w'.cell? ⟨w.heap.size + 1, 2, none⟩ = some (.int .i64 z) ∧ w'.cell? ⟨w.heap.size + 2, 0, none⟩ = some (cellOr w' ⟨w.heap.size + 2, 0, none⟩) ∧ w'.cell? ⟨w.heap.size + 2, 1, none⟩ = some (cellOr w' ⟨w.heap.size + 2, 1, none⟩) ∧ w'.cell? ⟨w.heap.size + 2, 2, none⟩ = some (cellOr w' ⟨w.heap.size + 2, 2, none⟩) ∧ w'.frozen? ⟨w.heap.size + 2, 0, none⟩ = false ∧ w'.frozen? ⟨w.heap.size + 2, 1, none⟩ = false ∧ w'.frozen? ⟨w.heap.size + 2, 2, none⟩ = false ∧ TurS w (AX t) x y z w')
    (first | exact TurS.all (by assumption) | exact TurS.all (TurS.draw (by assumption)) | exact TurS.all (TurS.store (by assumption) _ _ _))
    (first | (go_at_call 42; refine (turC (times_any _ _ _ _ (by assumption) (by assumption) _) (by first | assumption | exact TurS.draw (by assumption))).mono ?_; rintro e w1 ⟨rfl, hM⟩) | (go_at_call 33; refine (turC (plus_any _ _ _ _ _ _ (by assumption) (by assumption) _) (by first | assumption | exact TurS.draw (by assumption))).mono ?_; rintro e w1 ⟨rfl, hM⟩))
  go_wp2
  have q0 := hM.own.c0
  have q1 := hM.own.c1
  have q2 := hM.own.c2
  exact bodyPost_ret (v := .agg #[.int .i64 (TV t x y z 0), .int .i64 (TV t x y z 1), .int .i64 (TV t x y z 2)]) (by simp [results, Tryd.results27, go_sem, q0, q1, q2, TV]) rfl ⟨rfl, set3 hM.bel (by omega) _ _ _⟩
end Go.Proofs.YtbfbafoeifigfaaDoor
