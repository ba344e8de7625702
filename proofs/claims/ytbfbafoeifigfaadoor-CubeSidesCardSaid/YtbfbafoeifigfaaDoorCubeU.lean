/- The cube's axes. -/
import Derived.Test.YtbfbafoeifigfaaDoorCubeT
import Derived.Deep.CutRange
import Derived.Deep.DeepCutAuto
namespace Go.Proofs.YtbfbafoeifigfaaDoor
open Go.RowKit TF

theorem cross_any (x y z a b c : Int) (hu : U3 x y z) (hv : U3 a b c) (w : World) :
    Calls Tryd.prog 41 #[.agg #[.int .i64 x, .int .i64 y, .int .i64 z], .agg #[.int .i64 a, .int .i64 b, .int .i64 c]] w fun e w' => e = .returned (.agg #[.int .i64 (y * c - z * b), .int .i64 (z * a - x * c), .int .i64 (x * b - y * a)]) ∧ Below w.heap.size w w' :=
  (cross_ex x y z a b c hu hv w).mono fun _ _ ⟨h1, h2⟩ => ⟨h1, h2 ▸ bel3 _ _ _ _⟩
/-- Nine cells that may be written. -/
structure Own9 (w : World) (b : Nat) : Prop where
  lo : Own3 w b
  c3 : w.cell? ⟨b, 3, none⟩ = some (cellOr w ⟨b, 3, none⟩)
  c4 : w.cell? ⟨b, 4, none⟩ = some (cellOr w ⟨b, 4, none⟩)
  c5 : w.cell? ⟨b, 5, none⟩ = some (cellOr w ⟨b, 5, none⟩)
  c6 : w.cell? ⟨b, 6, none⟩ = some (cellOr w ⟨b, 6, none⟩)
  c7 : w.cell? ⟨b, 7, none⟩ = some (cellOr w ⟨b, 7, none⟩)
  c8 : w.cell? ⟨b, 8, none⟩ = some (cellOr w ⟨b, 8, none⟩)
  f3 : w.frozen? ⟨b, 3, none⟩ = false
  f4 : w.frozen? ⟨b, 4, none⟩ = false
  f5 : w.frozen? ⟨b, 5, none⟩ = false
  f6 : w.frozen? ⟨b, 6, none⟩ = false
  f7 : w.frozen? ⟨b, 7, none⟩ = false
  f8 : w.frozen? ⟨b, 8, none⟩ = false
theorem Own9.below {w w1 : World} {b : Nat} (h : Own9 w b) (hb : Below w.heap.size w w1) : Own9 w1 b := by
  have hlt : b < w.heap.size := lt_of_some h.lo.c0
  have e : ∀ j, w1.cell? ⟨b, j, none⟩ = w.cell? ⟨b, j, none⟩ := fun j => hb.cell (p := ⟨b, j, none⟩) hlt
  have g : ∀ j, w1.frozen? ⟨b, j, none⟩ = w.frozen? ⟨b, j, none⟩ := fun j => hb.frozen (p := ⟨b, j, none⟩) hlt
  exact ⟨h.lo.below hb, cellOr_of ((e 3).trans h.c3), cellOr_of ((e 4).trans h.c4), cellOr_of ((e 5).trans h.c5), cellOr_of ((e 6).trans h.c6), cellOr_of ((e 7).trans h.c7), cellOr_of ((e 8).trans h.c8),
    (g 3).trans h.f3, (g 4).trans h.f4, (g 5).trans h.f5, (g 6).trans h.f6, (g 7).trans h.f7, (g 8).trans h.f8⟩
theorem Own9.set {w : World} {b : Nat} (h : Own9 w b) (j : Nat) (x : Value) : Own9 (w.setCell ⟨b, j, none⟩ x) b := by
  have e : ∀ i, w.cell? ⟨b, i, none⟩ = some (cellOr w ⟨b, i, none⟩) → (w.setCell ⟨b, j, none⟩ x).cell? ⟨b, i, none⟩ = some (cellOr (w.setCell ⟨b, j, none⟩ x) ⟨b, i, none⟩) := fun i hi => by
    obtain ⟨v, hv⟩ := cell?_setCell_some (w := w) (p := ⟨b, j, none⟩) (x := x) (q := ⟨b, i, none⟩) hi
    exact cellOr_of hv
  have g : ∀ i, w.frozen? ⟨b, i, none⟩ = false → (w.setCell ⟨b, j, none⟩ x).frozen? ⟨b, i, none⟩ = false := fun i hi => by simp [go_sem, hi]
  exact ⟨h.lo.set j x, e 3 h.c3, e 4 h.c4, e 5 h.c5, e 6 h.c6, e 7 h.c7, e 8 h.c8, g 3 h.f3, g 4 h.f4, g 5 h.f5, g 6 h.f6, g 7 h.f7, g 8 h.f8⟩
def store9 (w : World) (b : Nat) (x0 x1 x2 x3 x4 x5 x6 x7 x8 : Value) : World :=
  ((((((((w.setCell ⟨b, 0, none⟩ x0).setCell ⟨b, 1, none⟩ x1).setCell ⟨b, 2, none⟩ x2).setCell ⟨b, 3, none⟩ x3).setCell ⟨b, 4, none⟩ x4).setCell ⟨b, 5, none⟩ x5).setCell ⟨b, 6, none⟩ x6).setCell ⟨b, 7, none⟩ x7).setCell ⟨b, 8, none⟩ x8
/-- What stays, within the last region of the axes. -/
structure AxS (w W : World) (x0 x1 x2 y0 y1 y2 : Int) (bx bY : Nat) (w' : World) : Prop where
  hx : Three w' bx x0 x1 x2
  hy : Three w' bY y0 y1 y2
  own : Own9 w' w.heap.size
  nx : w.heap.size ≠ bx
  ny : w.heap.size ≠ bY
  bel : Below w.heap.size w w'
section
variable {w W : World} {x0 x1 x2 y0 y1 y2 : Int} {bx bY : Nat} {w1 w2 : World}
theorem AxS.step (h : AxS w W x0 x1 x2 y0 y1 y2 bx bY w1) (hb : Below w1.heap.size w1 w2) : AxS w W x0 x1 x2 y0 y1 y2 bx bY w2 := ⟨h.hx.below hb, h.hy.below hb, h.own.below hb, h.nx, h.ny, h.bel.trans (hb.mono h.bel.size)⟩
theorem axC {F : FuncId} {args : Array Value} {r : Ending} (h : Calls Tryd.prog F args w1 fun e w' => e = r ∧ Below w1.heap.size w1 w') (hm : AxS w W x0 x1 x2 y0 y1 y2 bx bY w1) : Calls Tryd.prog F args w1 fun e w' => e = r ∧ AxS w W x0 x1 x2 y0 y1 y2 bx bY w' :=
  h.mono fun _ _ ⟨h1, h2⟩ => ⟨h1, hm.step h2⟩
theorem AxS.draw (h : AxS w W x0 x1 x2 y0 y1 y2 bx bY w1) : AxS w W x0 x1 x2 y0 y1 y2 bx bY w1.drew := h.step (Below.drew (Below.refl _ _))
theorem AxS.set (h : AxS w W x0 x1 x2 y0 y1 y2 bx bY w1) (j : Nat) (a : Value) : AxS w W x0 x1 x2 y0 y1 y2 bx bY (w1.setCell ⟨w.heap.size, j, none⟩ a) :=
  ⟨h.hx.set h.nx _ _, h.hy.set h.ny _ _, h.own.set _ _, h.nx, h.ny, h.bel.setCell (Nat.le_refl _) _⟩
theorem AxS.store (h : AxS w W x0 x1 x2 y0 y1 y2 bx bY w1) (a0 a1 a2 a3 a4 a5 a6 a7 a8 : Value) : AxS w W x0 x1 x2 y0 y1 y2 bx bY (((((((((w1.setCell ⟨w.heap.size, 0, none⟩ a0).setCell ⟨w.heap.size, 1, none⟩ a1).setCell ⟨w.heap.size, 2, none⟩ a2).setCell ⟨w.heap.size, 3, none⟩ a3).setCell ⟨w.heap.size, 4, none⟩ a4).setCell ⟨w.heap.size, 5, none⟩ a5).setCell ⟨w.heap.size, 6, none⟩ a6).setCell ⟨w.heap.size, 7, none⟩ a7).setCell ⟨w.heap.size, 8, none⟩ a8) :=
  ((((((((h.set 0 a0).set 1 a1).set 2 a2).set 3 a3).set 4 a4).set 5 a5).set 6 a6).set 7 a7).set 8 a8
theorem AxS.all (h : AxS w W x0 x1 x2 y0 y1 y2 bx bY w1) : w1.cell? ⟨bx, 0, none⟩ = some (.int .i64 x0) ∧ w1.cell? ⟨bx, 1, none⟩ = some (.int .i64 x1) ∧ w1.cell? ⟨bx, 2, none⟩ = some (.int .i64 x2) ∧ w1.cell? ⟨bY, 0, none⟩ = some (.int .i64 y0) ∧ w1.cell? ⟨bY, 1, none⟩ = some (.int .i64 y1) ∧ w1.cell? ⟨bY, 2, none⟩ = some (.int .i64 y2) ∧
    w1.cell? ⟨w.heap.size, 0, none⟩ = some (cellOr w1 ⟨w.heap.size, 0, none⟩) ∧ w1.cell? ⟨w.heap.size, 1, none⟩ = some (cellOr w1 ⟨w.heap.size, 1, none⟩) ∧ w1.cell? ⟨w.heap.size, 2, none⟩ = some (cellOr w1 ⟨w.heap.size, 2, none⟩) ∧ w1.cell? ⟨w.heap.size, 3, none⟩ = some (cellOr w1 ⟨w.heap.size, 3, none⟩) ∧ w1.cell? ⟨w.heap.size, 4, none⟩ = some (cellOr w1 ⟨w.heap.size, 4, none⟩) ∧ w1.cell? ⟨w.heap.size, 5, none⟩ = some (cellOr w1 ⟨w.heap.size, 5, none⟩) ∧ w1.cell? ⟨w.heap.size, 6, none⟩ = some (cellOr w1 ⟨w.heap.size, 6, none⟩) ∧ w1.cell? ⟨w.heap.size, 7, none⟩ = some (cellOr w1 ⟨w.heap.size, 7, none⟩) ∧ w1.cell? ⟨w.heap.size, 8, none⟩ = some (cellOr w1 ⟨w.heap.size, 8, none⟩) ∧
    w1.frozen? ⟨w.heap.size, 0, none⟩ = false ∧ w1.frozen? ⟨w.heap.size, 1, none⟩ = false ∧ w1.frozen? ⟨w.heap.size, 2, none⟩ = false ∧ w1.frozen? ⟨w.heap.size, 3, none⟩ = false ∧ w1.frozen? ⟨w.heap.size, 4, none⟩ = false ∧ w1.frozen? ⟨w.heap.size, 5, none⟩ = false ∧ w1.frozen? ⟨w.heap.size, 6, none⟩ = false ∧ w1.frozen? ⟨w.heap.size, 7, none⟩ = false ∧ w1.frozen? ⟨w.heap.size, 8, none⟩ = false ∧ AxS w W x0 x1 x2 y0 y1 y2 bx bY w1 :=
  ⟨h.hx.c0, h.hx.c1, h.hx.c2, h.hy.c0, h.hy.c1, h.hy.c2, h.own.lo.c0, h.own.lo.c1, h.own.lo.c2, h.own.c3, h.own.c4, h.own.c5, h.own.c6, h.own.c7, h.own.c8, h.own.lo.f0, h.own.lo.f1, h.own.lo.f2, h.own.f3, h.own.f4, h.own.f5, h.own.f6, h.own.f7, h.own.f8, h⟩
end

theorem nine_store {w : World} {b : Nat} (h : Own9 w b) {g : Nat → Int} {v0 v1 v2 v3 v4 v5 v6 v7 v8 : Int} (e0 : g 0 = v0) (e1 : g 1 = v1) (e2 : g 2 = v2) (e3 : g 3 = v3) (e4 : g 4 = v4) (e5 : g 5 = v5) (e6 : g 6 = v6) (e7 : g 7 = v7) (e8 : g 8 = v8) :
    Nine (((((((((w.setCell ⟨b, 0, none⟩ (.int .i64 v0)).setCell ⟨b, 1, none⟩ (.int .i64 v1)).setCell ⟨b, 2, none⟩ (.int .i64 v2)).setCell ⟨b, 3, none⟩ (.int .i64 v3)).setCell ⟨b, 4, none⟩ (.int .i64 v4)).setCell ⟨b, 5, none⟩ (.int .i64 v5)).setCell ⟨b, 6, none⟩ (.int .i64 v6)).setCell ⟨b, 7, none⟩ (.int .i64 v7)).setCell ⟨b, 8, none⟩ (.int .i64 v8)) b g := by
  subst e0 e1 e2 e3 e4 e5 e6 e7 e8
  obtain ⟨⟨q0, q1, q2, -, -, -⟩, q3, q4, q5, q6, q7, q8, -⟩ := h
  exact ⟨by simp [go_sem, q0], by simp [go_sem, q1], by simp [go_sem, q2], by simp [go_sem, q3], by simp [go_sem, q4], by simp [go_sem, q5], by simp [go_sem, q6], by simp [go_sem, q7], by simp [go_sem, q8]⟩
set_option maxRecDepth 100000 in
set_option maxHeartbeats 4000000 in
theorem axes_any (t : Nat) (ht : t < 24) (w : World) (hF : Fr w) :
    Calls Tryd.prog 26 #[.int .i64 t] w fun e w' => e = .returned (.agg #[.int .i64 (AX t 0), .int .i64 (AX t 1), .int .i64 (AX t 2), .int .i64 (AX t 3), .int .i64 (AX t 4), .int .i64 (AX t 5), .int .i64 (AX t 6), .int .i64 (AX t 7), .int .i64 (AX t 8)]) ∧ Below w.heap.size w w' := by
  have ha : t / 4 < 6 := by omega
  obtain ⟨a, hat⟩ : ∃ a, a = t / 4 := ⟨_, rfl⟩
  obtain ⟨hf0, hd0, hc0⟩ := ax_fact t ht
  have HA := Lib.hid (ax_x t ht)
  have HL := Lib.hid (ax_le t ht)
  have HB := Lib.hid (ax_before t ht)
  have HD := Lib.hid hd0
  have HC := Lib.hid hc0
  have HF := Lib.hid hf0
  clear hd0 hc0 hf0
  obtain ⟨a0, a1, a2, -⟩ := hF.face ha
  have a0' : w.cell? ⟨0, t / 4 * 9, none⟩ = some (.int .i64 (FR a 0)) := by rw [hat]; exact a0
  have a1' : w.cell? ⟨0, t / 4 * 9 + 1, none⟩ = some (.int .i64 (FR a 1)) := by rw [hat]; exact a1
  have a2' : w.cell? ⟨0, t / 4 * 9 + 2, none⟩ = some (.int .i64 (FR a 2)) := by rw [hat]; exact a2
  clear a0 a1 a2
  have ha6 : a < 6 := by rw [hat]; exact ha
  rw [← hat] at HA HL HB HD HC
  have HAT := Lib.hid hat
  clear hat
  have hs := hF.size
  have u0 : U3 (FR a 0) (FR a 1) (FR a 2) := FR_u ha6 (by omega)
  have i0 := i3_of u0 (by omega)
  go_enter Tryd.func26, Tryd.ntmps26
  go_wp2_with fail
  obtain ⟨W, hW⟩ : ∃ W : World, W = (w.alloc (.cells #[.int .i64 0, .int .i64 0, .int .i64 0, .int .i64 0, .int .i64 0, .int .i64 0, .int .i64 0, .int .i64 0, .int .i64 0] 41)).alloc (.cells #[.int .i64 (FR a 0), .int .i64 (FR a 1), .int .i64 (FR a 2)] 39) := ⟨_, rfl⟩
  rw [← hW]
  have T0 : Three W (w.heap.size + 1) (FR a 0) (FR a 1) (FR a 2) := by rw [hW]; exact ⟨by simp [go_sem], by simp [go_sem], by simp [go_sem]⟩
  have O0 : Own9 W w.heap.size := by
    rw [hW]
    exact ⟨⟨by simp [cellOr, go_sem], by simp [cellOr, go_sem], by simp [cellOr, go_sem], by simp [go_sem], by simp [go_sem], by simp [go_sem]⟩, by simp [cellOr, go_sem], by simp [cellOr, go_sem], by simp [cellOr, go_sem], by simp [cellOr, go_sem], by simp [cellOr, go_sem], by simp [cellOr, go_sem],
      by simp [go_sem], by simp [go_sem], by simp [go_sem], by simp [go_sem], by simp [go_sem], by simp [go_sem]⟩
  have B0 : Below w.heap.size w W := by rw [hW]; exact bel2 _ _ _
  have Z0 : w.heap.size + 2 = W.heap.size := by rw [hW]; simp
  have HZ := Lib.hid Z0
  clear hW Z0 a0' a1' a2'
  go_loopw [4, 14] (fun q i wr => ∃ (k : Nat) (m : Int), k ≤ axF t ∧ i = .int .i64 k ∧ q = .int .i64 m ∧ Hid (m = ((t % 4 : Nat) : Int) - cntA a k) ∧ Below W.heap.size W wr) (fun _ i _ => 6 - (intOf i).toNat)
  case atStart => exact ⟨0, _, Nat.zero_le _, rfl, rfl, Lib.hid (by simp [cntA]), Below.refl _ _⟩
  case round =>
    obtain ⟨k, m, hk, rfl, rfl, HM, hwr⟩ := hrel
    have hk6 : k < 6 := by have := HF.out; omega
    have Tr := T0.below hwr
    have Or := O0.below hwr
    have Br := B0.trans (hwr.mono B0.size)
    have hFr := hF.below Br
    obtain ⟨c0, c1, c2, -⟩ := hFr.face hk6
    obtain ⟨t0, t1, t2⟩ := Tr
    have hsr := hFr.size
    have z1 : w.heap.size + 1 < wr.heap.size := by have := hwr.size; have := HZ.out; omega
    have z0 : w.heap.size < wr.heap.size := by omega
    have uk : U3 (FR k 0) (FR k 1) (FR k 2) := FR_u hk6 (by omega)
    have hle : cntA a k ≤ t % 4 := HL.out k (by omega) hk
    by_cases hd : DF a k = 0
    · have hd' : ((FR a 0 * FR k 0 + FR a 1 * FR k 1 + FR a 2 * FR k 2 : Int) == 0) = true := by simpa [DF] using hd
      by_cases hlt : k = axF t
      · have hm : m = 0 := by have := HM.out; rw [hlt, HC.out] at this; omega
        have HK := Lib.hid hlt
        clear hlt hd HM
        subst hm
        go_wp2_with (first | (go_at_call 35; refine (dot_ex _ _ _ _ _ _ i0 uk _).mono ?_; rintro e w1 ⟨rfl, rfl⟩))
        obtain ⟨W3, hW3⟩ : ∃ W3 : World, W3 = ((wr.alloc (.cells #[.int .i64 (FR k 0), .int .i64 (FR k 1), .int .i64 (FR k 2)] 39)).alloc (.cells #[.int .i64 (FR a 0), .int .i64 (FR a 1), .int .i64 (FR a 2)] 39)).alloc (.cells #[.int .i64 (FR k 0), .int .i64 (FR k 1), .int .i64 (FR k 2)] 39) := ⟨_, rfl⟩
        rw [← hW3]
        have M : AxS w W (FR a 0) (FR a 1) (FR a 2) (FR k 0) (FR k 1) (FR k 2) (w.heap.size + 1) wr.heap.size W3 := by
          rw [hW3]
          exact ⟨(Three.mk t0 t1 t2).below (bel3 _ _ _ _), ⟨by simp [go_sem], by simp [go_sem], by simp [go_sem]⟩, Or.below (bel3 _ _ _ _), by omega, by omega, Br.trans ((bel3 _ _ _ _).mono Br.size)⟩
        clear hW3 hd' hFr Br Or hwr hsr hle T0 O0 B0
        go_cut [] (fun wc => Nine wc w.heap.size (AX t) ∧ Below w.heap.size w wc)
        case first =>
          go_region_held3 (fun w' => w'.cell? ⟨w.heap.size + 1, 0, none⟩ = some (.int .i64 (FR a 0)) ∧ w'.cell? ⟨w.heap.size + 1, 1, none⟩ = some (.int .i64 (FR a 1)) ∧ w'.cell? ⟨w.heap.size + 1, 2, none⟩ = some (.int .i64 (FR a 2)) ∧ w'.cell? ⟨wr.heap.size, 0, none⟩ = some (.int .i64 (FR k 0)) ∧ w'.cell? ⟨wr.heap.size, 1, none⟩ = some (.int .i64 (FR k 1)) ∧ w'.cell? ⟨wr.heap.size, 2, none⟩ = some (.int .i64 (FR k 2)) ∧ w'.cell? ⟨w.heap.size, 0, none⟩ = some (cellOr w' ⟨w.heap.size, 0, none⟩) ∧ w'.cell? ⟨w.heap.size, 1, none⟩ = some (cellOr w' ⟨w.heap.size, 1, none⟩) ∧ w'.cell? ⟨w.heap.size, 2, none⟩ = some (cellOr w' ⟨w.heap.size, 2, none⟩) ∧ w'.cell? ⟨w.heap.size, 3, none⟩ = some (cellOr w' ⟨w.heap.size, 3, none⟩) ∧ w'.cell? ⟨w.heap.size, 4, none⟩ = some (cellOr w' ⟨w.heap.size, 4, none⟩) ∧ w'.cell? ⟨w.heap.size, 5, none⟩ = some (cellOr w' ⟨w.heap.size, 5, none⟩) ∧ w'.cell? ⟨w.heap.size, 6, none⟩ = some (cellOr w' ⟨w.heap.size, 6, none⟩) ∧ w'.cell? ⟨w.heap.size, 7, none⟩ = some (cellOr w' ⟨w.heap.size, 7, none⟩) ∧ w'.cell? ⟨w.heap.size, 8, none⟩ = some (cellOr w' ⟨w.heap.size, 8, none⟩) ∧ w'.frozen? ⟨w.heap.size, 0, none⟩ = false ∧ w'.frozen? ⟨w.heap.size, 1, none⟩ = false ∧ w'.frozen? ⟨w.heap.size, 2, none⟩ = false ∧ w'.frozen? ⟨w.heap.size, 3, none⟩ = false ∧ w'.frozen? ⟨w.heap.size, 4, none⟩ = false ∧ w'.frozen? ⟨w.heap.size, 5, none⟩ = false ∧ w'.frozen? ⟨w.heap.size, 6, none⟩ = false ∧ w'.frozen? ⟨w.heap.size, 7, none⟩ = false ∧ w'.frozen? ⟨w.heap.size, 8, none⟩ = false ∧ AxS w W (FR a 0) (FR a 1) (FR a 2) (FR k 0) (FR k 1) (FR k 2) (w.heap.size + 1) wr.heap.size w')
            ((refine AxS.all ?_; first | (with_reducible assumption) | (with_reducible exact AxS.draw M) | (with_reducible apply AxS.store; with_reducible assumption)))
            (first | (go_at_call 41; refine (axC (cross_any _ _ _ _ _ _ u0 uk _) (AxS.draw M)).mono ?_; rintro e w1 ⟨rfl, hM⟩))

          go_wp2_with fail
          go_meet
          obtain ⟨x0, x1, x2, x3, x4, x5, x6, x7, x8⟩ := HA.out
          rw [← HK.out] at x3 x4 x5 x6 x7 x8
          refine ⟨?_, (AxS.store hM _ _ _ _ _ _ _ _ _).bel⟩
          have hO := hM.own
          exact nine_store hO x0 x1 x2 x3 x4 x5 x6 x7 x8
        case rest =>
          obtain ⟨N, hBe⟩ := hcut
          obtain ⟨q0, q1, q2, q3, q4, q5, q6, q7, q8⟩ := N
          go_wp2_with fail
          exact bodyPost_ret (v := .agg #[.int .i64 (AX t 0), .int .i64 (AX t 1), .int .i64 (AX t 2), .int .i64 (AX t 3), .int .i64 (AX t 4), .int .i64 (AX t 5), .int .i64 (AX t 6), .int .i64 (AX t 7), .int .i64 (AX t 8)]) (by simp [results, Tryd.results26, go_sem, q0, q1, q2, q3, q4, q5, q6, q7, q8]) rfl ⟨rfl, hBe⟩
      · have hkl : k < axF t := by omega
        have hcl := HB.out k hkl hd
        have hm : (m == 0) = false := by have := HM.out; simp; omega
        have hm1 : 0 ≤ m ∧ m ≤ 4 := by have := HM.out; omega
        obtain ⟨m0, m4⟩ := hm1
        clear hlt hcl
        go_wp2_with (first | (go_at_call 35; refine (dot_ex _ _ _ _ _ _ i0 uk _).mono ?_; rintro e w1 ⟨rfl, rfl⟩))
        go_roundw
        case rel => exact ⟨k + 1, m - 1, by omega, by go_num, by first | rfl | go_num, Lib.hid (by have := HM.out; simp only [cntA, hd, if_true]; omega), (hwr.alloc hwr.size _).trans ((bel2 _ _ _).mono (by have := hwr.size; simp; omega))⟩
        case measure => simp [intOf]; omega
    · have hd' : ((FR a 0 * FR k 0 + FR a 1 * FR k 1 + FR a 2 * FR k 2 : Int) == 0) = false := by simpa [DF] using hd
      have hkl : k < axF t := by
        rcases Nat.lt_or_ge k (axF t) with h | h
        · exact h
        · exact absurd (by have e : k = axF t := by omega
                           rw [e]; exact HD.out) hd
      have hm1 : 0 ≤ m ∧ m ≤ 4 := by have := HM.out; omega
      obtain ⟨m0, m4⟩ := hm1
      go_wp2_with (first | (go_at_call 35; refine (dot_ex _ _ _ _ _ _ i0 uk _).mono ?_; rintro e w1 ⟨rfl, rfl⟩))
      go_roundw
      case rel => exact ⟨k + 1, m, by omega, by go_num, rfl, Lib.hid (by have := HM.out; simp only [cntA, hd, if_false]; omega), (hwr.alloc hwr.size _).trans ((bel2 _ _ _).mono (by have := hwr.size; simp; omega))⟩
      case measure => simp [intOf]; omega
end Go.Proofs.YtbfbafoeifigfaaDoor
