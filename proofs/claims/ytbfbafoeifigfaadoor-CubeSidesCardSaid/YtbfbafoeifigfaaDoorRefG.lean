/- The reference's images of a turn. -/
import Derived.Test.YtbfbafoeifigfaaDoorRefF
import Derived.Test.YtbfbafoeifigfaaDoorCubeU
import Derived.Test.YtbfbafoeifigfaaDoorCubeD
namespace Go.Proofs.YtbfbafoeifigfaaDoor
open Go.RowKit TF

theorem rcross_any (x y z a b c : Int) (hu : U3 x y z) (hv : U3 a b c) (w : World) :
    Calls Tryd.prog 43 #[.agg #[.int .i64 x, .int .i64 y, .int .i64 z], .agg #[.int .i64 a, .int .i64 b, .int .i64 c]] w fun e w' => e = .returned (.agg #[.int .i64 (y * c - z * b), .int .i64 (z * a - x * c), .int .i64 (x * b - y * a)]) ∧ Below w.heap.size w w' := by
  obtain ⟨h1, h1'⟩ := hu.y.mul hv.z (by omega)
  obtain ⟨h2, h2'⟩ := hu.z.mul hv.y (by omega)
  obtain ⟨h3, h3'⟩ := hu.z.mul hv.x (by omega)
  obtain ⟨h4, h4'⟩ := hu.x.mul hv.z (by omega)
  obtain ⟨h5, h5'⟩ := hu.x.mul hv.y (by omega)
  obtain ⟨h6, h6'⟩ := hu.y.mul hv.x (by omega)
  clear hu hv
  go_enter Tryd.func43, Tryd.ntmps43
  go_wp2_with fail
  exact bodyPost_ret (v := .agg #[.int .i64 (y * c - z * b), .int .i64 (z * a - x * c), .int .i64 (x * b - y * a)]) (by simp [results, Tryd.results43, go_sem]) rfl ⟨rfl, bel3 _ _ _ _⟩
/-- What stays, within the images. -/
structure ImS (w : World) (b5 a : Nat) (w' : World) : Prop where
  c : Three w' b5 (FR a 0) (FR a 1) (FR a 2)
  r0 : Own3 w' w.heap.size
  r1 : Own3 w' (w.heap.size + 1)
  r2 : Own3 w' (w.heap.size + 1 + 1)
  lo : w.heap.size + 1 + 1 < b5
  bel : Below w.heap.size w w'
theorem ImS.step {w w1 w2 : World} {b5 a : Nat} (h : ImS w b5 a w1) (hb : Below w1.heap.size w1 w2) : ImS w b5 a w2 := ⟨h.c.below hb, h.r0.below hb, h.r1.below hb, h.r2.below hb, h.lo, h.bel.trans (hb.mono h.bel.size)⟩
theorem bel_al3 {W w3 : World} (h : Below W.heap.size W w3) (a b c : Obj) : Below W.heap.size W (((w3.alloc a).alloc b).alloc c) := h.trans ((bel3 _ _ _ _).mono h.size)
structure ImT (w : World) (b5 a bd k : Nat) (w' : World) : Prop where
  s : ImS w b5 a w'
  d : Three w' bd (FR k 0) (FR k 1) (FR k 2)
  ld : w.heap.size + 1 + 1 < bd
section
variable {w w1 w2 : World} {b5 a bd k : Nat}
theorem ImT.below (h : ImT w b5 a bd k w1) (hb : Below w1.heap.size w1 w2) : ImT w b5 a bd k w2 := ⟨h.s.step hb, h.d.below hb, h.ld⟩
theorem imC {F : FuncId} {args : Array Value} {r : Ending} (h : Calls Tryd.prog F args w1 fun e w' => e = r ∧ Below w1.heap.size w1 w') (hm : ImT w b5 a bd k w1) : Calls Tryd.prog F args w1 fun e w' => e = r ∧ ImT w b5 a bd k w' :=
  h.mono fun _ _ ⟨h1, h2⟩ => ⟨h1, hm.below h2⟩
theorem ImT.draw (h : ImT w b5 a bd k w1) : ImT w b5 a bd k w1.drew := h.below (Below.drew (Below.refl _ _))
theorem ImT.set0 (h : ImT w b5 a bd k w1) (j : Nat) (x : Value) : ImT w b5 a bd k (w1.setCell ⟨w.heap.size, j, none⟩ x) := by
  have l1 := h.s.lo
  have l2 := h.ld
  exact ⟨⟨h.s.c.set (by omega) _ _, (h.s.r0.set _ _), (h.s.r1.far (by omega) _ _), (h.s.r2.far (by omega) _ _), h.s.lo, h.s.bel.setCell (show w.heap.size ≤ w.heap.size by omega) _⟩, h.d.set (by omega) _ _, h.ld⟩
theorem ImT.store0 (h : ImT w b5 a bd k w1) (p q r : Value) : ImT w b5 a bd k (((w1.setCell ⟨w.heap.size, 0, none⟩ p).setCell ⟨w.heap.size, 1, none⟩ q).setCell ⟨w.heap.size, 2, none⟩ r) := ((h.set0 0 p).set0 1 q).set0 2 r
theorem ImT.set1 (h : ImT w b5 a bd k w1) (j : Nat) (x : Value) : ImT w b5 a bd k (w1.setCell ⟨w.heap.size + 1, j, none⟩ x) := by
  have l1 := h.s.lo
  have l2 := h.ld
  exact ⟨⟨h.s.c.set (by omega) _ _, (h.s.r0.far (by omega) _ _), (h.s.r1.set _ _), (h.s.r2.far (by omega) _ _), h.s.lo, h.s.bel.setCell (show w.heap.size ≤ w.heap.size + 1 by omega) _⟩, h.d.set (by omega) _ _, h.ld⟩
theorem ImT.store1 (h : ImT w b5 a bd k w1) (p q r : Value) : ImT w b5 a bd k (((w1.setCell ⟨w.heap.size + 1, 0, none⟩ p).setCell ⟨w.heap.size + 1, 1, none⟩ q).setCell ⟨w.heap.size + 1, 2, none⟩ r) := ((h.set1 0 p).set1 1 q).set1 2 r
theorem ImT.set2 (h : ImT w b5 a bd k w1) (j : Nat) (x : Value) : ImT w b5 a bd k (w1.setCell ⟨w.heap.size + 1 + 1, j, none⟩ x) := by
  have l1 := h.s.lo
  have l2 := h.ld
  exact ⟨⟨h.s.c.set (by omega) _ _, (h.s.r0.far (by omega) _ _), (h.s.r1.far (by omega) _ _), (h.s.r2.set _ _), h.s.lo, h.s.bel.setCell (show w.heap.size ≤ w.heap.size + 1 + 1 by omega) _⟩, h.d.set (by omega) _ _, h.ld⟩
theorem ImT.store2 (h : ImT w b5 a bd k w1) (p q r : Value) : ImT w b5 a bd k (((w1.setCell ⟨w.heap.size + 1 + 1, 0, none⟩ p).setCell ⟨w.heap.size + 1 + 1, 1, none⟩ q).setCell ⟨w.heap.size + 1 + 1, 2, none⟩ r) := ((h.set2 0 p).set2 1 q).set2 2 r
theorem ImT.all (h : ImT w b5 a bd k w2) : w2.cell? ⟨b5, 0, none⟩ = some (.int .i64 (FR a 0)) ∧ w2.cell? ⟨b5, 1, none⟩ = some (.int .i64 (FR a 1)) ∧ w2.cell? ⟨b5, 2, none⟩ = some (.int .i64 (FR a 2)) ∧ w2.cell? ⟨bd, 0, none⟩ = some (.int .i64 (FR k 0)) ∧ w2.cell? ⟨bd, 1, none⟩ = some (.int .i64 (FR k 1)) ∧ w2.cell? ⟨bd, 2, none⟩ = some (.int .i64 (FR k 2)) ∧ w2.cell? ⟨w.heap.size, 0, none⟩ = some (cellOr w2 ⟨w.heap.size, 0, none⟩) ∧ w2.cell? ⟨w.heap.size, 1, none⟩ = some (cellOr w2 ⟨w.heap.size, 1, none⟩) ∧ w2.cell? ⟨w.heap.size, 2, none⟩ = some (cellOr w2 ⟨w.heap.size, 2, none⟩) ∧ w2.cell? ⟨w.heap.size + 1, 0, none⟩ = some (cellOr w2 ⟨w.heap.size + 1, 0, none⟩) ∧ w2.cell? ⟨w.heap.size + 1, 1, none⟩ = some (cellOr w2 ⟨w.heap.size + 1, 1, none⟩) ∧ w2.cell? ⟨w.heap.size + 1, 2, none⟩ = some (cellOr w2 ⟨w.heap.size + 1, 2, none⟩) ∧ w2.cell? ⟨w.heap.size + 1 + 1, 0, none⟩ = some (cellOr w2 ⟨w.heap.size + 1 + 1, 0, none⟩) ∧ w2.cell? ⟨w.heap.size + 1 + 1, 1, none⟩ = some (cellOr w2 ⟨w.heap.size + 1 + 1, 1, none⟩) ∧ w2.cell? ⟨w.heap.size + 1 + 1, 2, none⟩ = some (cellOr w2 ⟨w.heap.size + 1 + 1, 2, none⟩) ∧ w2.frozen? ⟨w.heap.size, 0, none⟩ = false ∧ w2.frozen? ⟨w.heap.size, 1, none⟩ = false ∧ w2.frozen? ⟨w.heap.size, 2, none⟩ = false ∧ w2.frozen? ⟨w.heap.size + 1, 0, none⟩ = false ∧ w2.frozen? ⟨w.heap.size + 1, 1, none⟩ = false ∧ w2.frozen? ⟨w.heap.size + 1, 2, none⟩ = false ∧ w2.frozen? ⟨w.heap.size + 1 + 1, 0, none⟩ = false ∧ w2.frozen? ⟨w.heap.size + 1 + 1, 1, none⟩ = false ∧ w2.frozen? ⟨w.heap.size + 1 + 1, 2, none⟩ = false ∧ ImT w b5 a bd k w2 :=
  ⟨h.s.c.c0, h.s.c.c1, h.s.c.c2, h.d.c0, h.d.c1, h.d.c2, h.s.r0.c0, h.s.r0.c1, h.s.r0.c2, h.s.r1.c0, h.s.r1.c1, h.s.r1.c2, h.s.r2.c0, h.s.r2.c1, h.s.r2.c2, h.s.r0.f0, h.s.r0.f1, h.s.r0.f2, h.s.r1.f0, h.s.r1.f1, h.s.r1.f2, h.s.r2.f0, h.s.r2.f1, h.s.r2.f2, h⟩
end
set_option maxRecDepth 100000 in
set_option maxHeartbeats 4000000 in
theorem rimages_any (t : Nat) (ht : t < 24) (w : World) :
    Calls Tryd.prog 28 #[.int .i64 t] w fun e w' => e = .returned (.tuple #[.agg #[.int .i64 (AX t 0), .int .i64 (AX t 1), .int .i64 (AX t 2)], .agg #[.int .i64 (AX t 3), .int .i64 (AX t 4), .int .i64 (AX t 5)], .agg #[.int .i64 (AX t 6), .int .i64 (AX t 7), .int .i64 (AX t 8)]]) ∧ Below w.heap.size w w' := by
  have ha : t / 4 < 6 := by omega
  obtain ⟨a, hat⟩ : ∃ a, a = t / 4 := ⟨_, rfl⟩
  obtain ⟨hf0, hd0, hc0⟩ := ax_fact t ht
  have HA := Lib.hid (ax_x t ht)
  have HL := Lib.hid (ax_le t ht)
  have HB := Lib.hid (ax_before t ht)
  have HD := Lib.hid hd0
  have HC := Lib.hid hc0
  have HF := Lib.hid hf0
  clear hd0 hc0 hf0
  have ha6 : a < 6 := by rw [hat]; exact ha
  rw [← hat] at HA HL HB HD HC
  have ea : (t : Int) / 4 = (a : Int) := by omega
  have HAT := Lib.hid hat
  clear hat
  have u0 : U3 (FR a 0) (FR a 1) (FR a 2) := FR_u ha6 (by omega)
  have i0 : I3 20000 (FR a 0) (FR a 1) (FR a 2) := ⟨⟨by have := u0.x.1; omega, by have := u0.x.2; omega⟩, ⟨by have := u0.y.1; omega, by have := u0.y.2; omega⟩, ⟨by have := u0.z.1; omega, by have := u0.z.2; omega⟩⟩
  go_enter Tryd.func28, Tryd.ntmps28
  go_wp2_with fail
  go_at_call 39
  (with_reducible refine (belD (B := w.heap.size) (w := w) (rframe_any _ ha6 _) (bel3 _ _ _ _) (Nat.le_refl _)).mono ?_)
  rintro e w1 ⟨rfl, hB, hR⟩
  have O0 : Own3 w1 w.heap.size := Own3.below ⟨by simp [cellOr, go_sem], by simp [cellOr, go_sem], by simp [cellOr, go_sem], by simp [go_sem], by simp [go_sem], by simp [go_sem]⟩ hR
  have O1 : Own3 w1 (w.heap.size + 1) := Own3.below ⟨by simp [cellOr, go_sem], by simp [cellOr, go_sem], by simp [cellOr, go_sem], by simp [go_sem], by simp [go_sem], by simp [go_sem]⟩ hR
  have O2 : Own3 w1 (w.heap.size + 1 + 1) := Own3.below ⟨by simp [cellOr, go_sem], by simp [cellOr, go_sem], by simp [cellOr, go_sem], by simp [go_sem], by simp [go_sem], by simp [go_sem]⟩ hR
  have hlo : w.heap.size + 1 + 1 < w1.heap.size := by have := hR.size; simp at this; omega
  go_wp2_with fail
  obtain ⟨W, hW⟩ : ∃ W : World, W = ((w1.alloc (.cells #[.int .i64 (FR a 0), .int .i64 (FR a 1), .int .i64 (FR a 2)] 45)).alloc (.cells #[.int .i64 (FR a 3), .int .i64 (FR a 4), .int .i64 (FR a 5)] 45)).alloc (.cells #[.int .i64 (FR a 6), .int .i64 (FR a 7), .int .i64 (FR a 8)] 45) := ⟨_, rfl⟩
  rw [← hW]
  have I0 : ImS w w1.heap.size a W := by
    rw [hW]
    have hb3 := bel3 w1 (.cells #[.int .i64 (FR a 0), .int .i64 (FR a 1), .int .i64 (FR a 2)] 45) (.cells #[.int .i64 (FR a 3), .int .i64 (FR a 4), .int .i64 (FR a 5)] 45) (.cells #[.int .i64 (FR a 6), .int .i64 (FR a 7), .int .i64 (FR a 8)] 45)
    exact ⟨⟨by simp [go_sem], by simp [go_sem], by simp [go_sem]⟩, O0.below hb3, O1.below hb3, O2.below hb3, hlo, hB.trans (hb3.mono hB.size)⟩
  clear hW hB hR O0 O1 O2 hlo
  go_loopw [8, 9] (fun q i wr => ∃ (k : Nat) (m : Int), k ≤ axF t ∧ i = .int .i64 k ∧ q = .int .i64 m ∧ Hid (m = ((t % 4 : Nat) : Int) - cntA a k) ∧ Below W.heap.size W wr) (fun _ i _ => 6 - (intOf i).toNat)
  case atStart => exact ⟨0, _, Nat.zero_le _, rfl, rfl, Lib.hid (by simp [cntA]), Below.refl _ _⟩
  case round =>
    obtain ⟨k, m, hk, rfl, rfl, HM, hwr⟩ := hrel
    have hk6 : k < 6 := by have := HF.out; omega
    have Ir := I0.step hwr
    obtain ⟨t0, t1, t2⟩ := Ir.c
    have uk : U3 (FR k 0) (FR k 1) (FR k 2) := FR_u hk6 (by omega)
    have hle : cntA a k ≤ t % 4 := HL.out k (by omega) hk
    by_cases hd : DF a k = 0
    · have hd' : ((FR a 0 * FR k 0 + FR a 1 * FR k 1 + FR a 2 * FR k 2 : Int) == 0) = true := by simpa [DF] using hd
      by_cases hlt : k = axF t
      · have hm : m = 0 := by have := HM.out; rw [hlt, HC.out] at this; omega
        have HK := Lib.hid hlt
        clear hlt hd HM
        subst hm
        go_wp2_with (first | (go_at_call 39; ((with_reducible refine (belD (B := W.heap.size) (w := W) (rframe_any _ hk6 _) (by with_reducible assumption) (Nat.le_refl _)).mono ?_)); rintro e w3 ⟨rfl, hB3, hR3⟩; have Iq := ImS.step Ir hR3; obtain ⟨s0, s1, s2⟩ := id Iq.c; have hl : w1.heap.size < w3.heap.size := lt_of_some Iq.c.c0; have hl1 : w1.heap.size < w3.heap.size + 1 := (by omega); have hl2 : w1.heap.size < w3.heap.size + 1 + 1 := (by omega); have hl3 : w1.heap.size < w3.heap.size + 1 + 1 + 1 := (by omega)) | (go_at_call 40; ((with_reducible refine (belD (B := W.heap.size) (w := W) (rdot_any _ _ _ _ _ _ i0 uk _) (bel_al3 hB3 _ _ _) (Nat.le_refl _)).mono ?_)); rintro e w4 ⟨rfl, hB4, hR4⟩; have Ix : ImT w w1.heap.size a w3.heap.size k w4 := ImT.below (ImT.mk (ImS.step Iq (bel3 _ _ _ _)) ⟨by simp [go_sem], by simp [go_sem], by simp [go_sem]⟩ (Nat.lt_trans Iq.lo hl)) hR4))
        have M := Ix
        go_region_held3 (fun w' => w'.cell? ⟨w1.heap.size, 0, none⟩ = some (.int .i64 (FR a 0)) ∧ w'.cell? ⟨w1.heap.size, 1, none⟩ = some (.int .i64 (FR a 1)) ∧ w'.cell? ⟨w1.heap.size, 2, none⟩ = some (.int .i64 (FR a 2)) ∧ w'.cell? ⟨w3.heap.size, 0, none⟩ = some (.int .i64 (FR k 0)) ∧ w'.cell? ⟨w3.heap.size, 1, none⟩ = some (.int .i64 (FR k 1)) ∧ w'.cell? ⟨w3.heap.size, 2, none⟩ = some (.int .i64 (FR k 2)) ∧ w'.cell? ⟨w.heap.size, 0, none⟩ = some (cellOr w' ⟨w.heap.size, 0, none⟩) ∧ w'.cell? ⟨w.heap.size, 1, none⟩ = some (cellOr w' ⟨w.heap.size, 1, none⟩) ∧ w'.cell? ⟨w.heap.size, 2, none⟩ = some (cellOr w' ⟨w.heap.size, 2, none⟩) ∧ w'.cell? ⟨w.heap.size + 1, 0, none⟩ = some (cellOr w' ⟨w.heap.size + 1, 0, none⟩) ∧ w'.cell? ⟨w.heap.size + 1, 1, none⟩ = some (cellOr w' ⟨w.heap.size + 1, 1, none⟩) ∧ w'.cell? ⟨w.heap.size + 1, 2, none⟩ = some (cellOr w' ⟨w.heap.size + 1, 2, none⟩) ∧ w'.cell? ⟨w.heap.size + 1 + 1, 0, none⟩ = some (cellOr w' ⟨w.heap.size + 1 + 1, 0, none⟩) ∧ w'.cell? ⟨w.heap.size + 1 + 1, 1, none⟩ = some (cellOr w' ⟨w.heap.size + 1 + 1, 1, none⟩) ∧ w'.cell? ⟨w.heap.size + 1 + 1, 2, none⟩ = some (cellOr w' ⟨w.heap.size + 1 + 1, 2, none⟩) ∧ w'.frozen? ⟨w.heap.size, 0, none⟩ = false ∧ w'.frozen? ⟨w.heap.size, 1, none⟩ = false ∧ w'.frozen? ⟨w.heap.size, 2, none⟩ = false ∧ w'.frozen? ⟨w.heap.size + 1, 0, none⟩ = false ∧ w'.frozen? ⟨w.heap.size + 1, 1, none⟩ = false ∧ w'.frozen? ⟨w.heap.size + 1, 2, none⟩ = false ∧ w'.frozen? ⟨w.heap.size + 1 + 1, 0, none⟩ = false ∧ w'.frozen? ⟨w.heap.size + 1 + 1, 1, none⟩ = false ∧ w'.frozen? ⟨w.heap.size + 1 + 1, 2, none⟩ = false ∧ ImT w w1.heap.size a w3.heap.size k w')
          ((refine ImT.all ?_; repeat (first | with_reducible assumption | with_reducible apply ImT.store2 | with_reducible apply ImT.store1 | with_reducible apply ImT.store0 | with_reducible apply ImT.draw)))
          (first | (go_at_call 43; ((with_reducible refine (imC (rcross_any _ _ _ _ _ _ u0 uk _) (by first | with_reducible assumption | with_reducible exact ImT.draw (by with_reducible assumption))).mono ?_)); rintro e w5 ⟨rfl, hM⟩))
        go_wp2
        have q0 := hM.s.r0.c0; have q1 := hM.s.r0.c1; have q2 := hM.s.r0.c2; have q3 := hM.s.r1.c0; have q4 := hM.s.r1.c1; have q5 := hM.s.r1.c2; have q6 := hM.s.r2.c0; have q7 := hM.s.r2.c1; have q8 := hM.s.r2.c2
        obtain ⟨x0, x1, x2, x3, x4, x5, x6, x7, x8⟩ := HA.out
        rw [← HK.out] at x3 x4 x5 x6 x7 x8
        exact bodyPost_ret (v := .tuple #[.agg #[.int .i64 (FR a 0), .int .i64 (FR a 1), .int .i64 (FR a 2)], .agg #[.int .i64 (FR k 0), .int .i64 (FR k 1), .int .i64 (FR k 2)], .agg #[.int .i64 (FR a 1 * FR k 2 - FR a 2 * FR k 1), .int .i64 (FR a 2 * FR k 0 - FR a 0 * FR k 2), .int .i64 (FR a 0 * FR k 1 - FR a 1 * FR k 0)]]) (by simp [results, Tryd.results28, go_sem, q0, q1, q2, q3, q4, q5, q6, q7, q8]) rfl ⟨by rw [x0, x1, x2, x3, x4, x5, x6, x7, x8], (ImT.store2 (ImT.store1 (ImT.store0 hM _ _ _) _ _ _) _ _ _).s.bel⟩
      · have hkl : k < axF t := by omega
        have hcl := HB.out k hkl hd
        have hm : (m == 0) = false := by have := HM.out; simp; omega
        have hm1 : 0 ≤ m ∧ m ≤ 4 := by have := HM.out; omega
        obtain ⟨m0, m4⟩ := hm1
        clear hlt hcl
        go_wp2_with (first | (go_at_call 39; ((with_reducible refine (belD (B := W.heap.size) (w := W) (rframe_any _ hk6 _) (by with_reducible assumption) (Nat.le_refl _)).mono ?_)); rintro e w3 ⟨rfl, hB3, hR3⟩; have Iq := ImS.step Ir hR3; obtain ⟨s0, s1, s2⟩ := id Iq.c; have hl : w1.heap.size < w3.heap.size := lt_of_some Iq.c.c0; have hl1 : w1.heap.size < w3.heap.size + 1 := (by omega); have hl2 : w1.heap.size < w3.heap.size + 1 + 1 := (by omega); have hl3 : w1.heap.size < w3.heap.size + 1 + 1 + 1 := (by omega)) | (go_at_call 40; ((with_reducible refine (belD (B := W.heap.size) (w := W) (rdot_any _ _ _ _ _ _ i0 uk _) (bel_al3 hB3 _ _ _) (Nat.le_refl _)).mono ?_)); rintro e w4 ⟨rfl, hB4, hR4⟩; have Ix : ImT w w1.heap.size a w3.heap.size k w4 := ImT.below (ImT.mk (ImS.step Iq (bel3 _ _ _ _)) ⟨by simp [go_sem], by simp [go_sem], by simp [go_sem]⟩ (Nat.lt_trans Iq.lo hl)) hR4))
        go_roundw
        case rel => exact ⟨k + 1, m - 1, by omega, by go_num, by first | rfl | go_num, Lib.hid (by have := HM.out; simp only [cntA, hd, if_true]; omega), hB4⟩
        case measure => simp [intOf]; omega
    · have hd' : ((FR a 0 * FR k 0 + FR a 1 * FR k 1 + FR a 2 * FR k 2 : Int) == 0) = false := by simpa [DF] using hd
      have hkl : k < axF t := by
        rcases Nat.lt_or_ge k (axF t) with h | h
        · exact h
        · exact absurd (by have e : k = axF t := by omega
                           rw [e]; exact HD.out) hd
      have hm1 : 0 ≤ m ∧ m ≤ 4 := by have := HM.out; omega
      obtain ⟨m0, m4⟩ := hm1
      go_wp2_with (first | (go_at_call 39; ((with_reducible refine (belD (B := W.heap.size) (w := W) (rframe_any _ hk6 _) (by with_reducible assumption) (Nat.le_refl _)).mono ?_)); rintro e w3 ⟨rfl, hB3, hR3⟩; have Iq := ImS.step Ir hR3; obtain ⟨s0, s1, s2⟩ := id Iq.c; have hl : w1.heap.size < w3.heap.size := lt_of_some Iq.c.c0; have hl1 : w1.heap.size < w3.heap.size + 1 := (by omega); have hl2 : w1.heap.size < w3.heap.size + 1 + 1 := (by omega); have hl3 : w1.heap.size < w3.heap.size + 1 + 1 + 1 := (by omega)) | (go_at_call 40; ((with_reducible refine (belD (B := W.heap.size) (w := W) (rdot_any _ _ _ _ _ _ i0 uk _) (bel_al3 hB3 _ _ _) (Nat.le_refl _)).mono ?_)); rintro e w4 ⟨rfl, hB4, hR4⟩; have Ix : ImT w w1.heap.size a w3.heap.size k w4 := ImT.below (ImT.mk (ImS.step Iq (bel3 _ _ _ _)) ⟨by simp [go_sem], by simp [go_sem], by simp [go_sem]⟩ (Nat.lt_trans Iq.lo hl)) hR4))
      go_roundw
      case rel => exact ⟨k + 1, m, by omega, by go_num, rfl, Lib.hid (by have := HM.out; simp only [cntA, hd, if_false]; omega), hB4⟩
      case measure => simp [intOf]; omega
end Go.Proofs.YtbfbafoeifigfaaDoor
