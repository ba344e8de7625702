/- Laid together: TopZh, TopZs. -/
import Derived.Test.YtkjjecghbhppgaaGreatDoorK26
import Derived.BigQuiet
import Derived.Deep.RegionHeld3
import Derived.Test.YtkjjecghbhppgaaGreatDoorK19
import Derived.StillTailTactics
/- Flows: over all edges, ahead of the cut. -/
namespace Go.Proofs.YtkjjecghbhppgaaGreatDoor
open Go Go.RowKit Go.Maps TF

attribute [local go_sem] cmp_eq cmp_ne cmp_lt cmp_gt cmp_le cmp_ge run_store_float
set_option maxRecDepth 100000
set_option maxHeartbeats 8000000
theorem length_e {T : NetT} (k : Nat) (hk : k < 12) (w : World) (h : Net 1 T w) :
    Calls Tryz.prog 14 #[.pointer (some ⟨T.g, 0, none⟩), .int .i64 k] w fun e w' => e = .returned (.float .f64 4607879128087016221) ∧ w' = w :=
  (length_net ⟨by decide, by decide⟩ (el1 k hk) w h).mono fun _ _ h => ⟨by rw [h.1, gl1 k hk], h.2.symm⟩
/-- what holds while the flows come in: two boxes, the row -/
structure FluX (w : World) (bB bW bT bS b : Nat) (v : World) : Prop where
  bel : Below w.heap.size w v
  b1 : w.heap.size + 1 < b
  lt : b < v.heap.size
  row : ∀ i < 12, v.cell? ⟨b, i, none⟩ = some (heldV v ⟨b, i, none⟩)
  fz : ∀ o, v.frozen? ⟨b, o, none⟩ = false
  p : ∀ j u, #[Value.int IntKind.i64 1, Value.float FloatKind.f64 4602678819172646912, Value.float FloatKind.f64 4607182418800017408, Value.float FloatKind.f64 0, Value.int IntKind.i64 0, Value.bool false, Value.slice none 0 0][j]? = some u → v.cell? ⟨w.heap.size, j, none⟩ = some u
  s : ∀ j u, #[Value.slice (some { block := bB, off := 0 }) 6 6, Value.slice (some { block := bW, off := 0 }) 6 6, Value.slice (some { block := bT, off := 0 }) 6 6, Value.slice (some { block := bS, off := 0 }) 12 12, Value.int IntKind.i64 0, Value.int IntKind.i64 0][j]? = some u → v.cell? ⟨w.heap.size + 1, j, none⟩ = some u
theorem FluX.call {w v v' : World} {bB bW bT bS b : Nat} (h : FluX w bB bW bT bS b v) (hB : Below v.heap.size v v') : FluX w bB bW bT bS b v' := by
  have hb := h.b1
  have hl := h.lt
  exact ⟨h.bel.trans (hB.mono h.bel.size), hb, Nat.lt_of_lt_of_le hl hB.size, fun i hi => heldV_of ((hB.cell (p := ⟨b, i, none⟩) hl).trans (h.row i hi)), fun o => (hB.frozen (p := ⟨b, o, none⟩) hl).trans (h.fz o),
    fun j u e => (hB.cell (p := ⟨w.heap.size, j, none⟩) (by show w.heap.size < _; omega)).trans (h.p j u e), fun j u e => (hB.cell (p := ⟨w.heap.size + 1, j, none⟩) (by show w.heap.size + 1 < _; omega)).trans (h.s j u e)⟩
theorem FluX.draw {w v : World} {bB bW bT bS b : Nat} (h : FluX w bB bW bT bS b v) : FluX w bB bW bT bS b v.drew := h.call (Below.refl _ _).drew
theorem FluX.set {w v : World} {bB bW bT bS b : Nat} (h : FluX w bB bW bT bS b v) (k : Nat) (x : Value) : FluX w bB bW bT bS b (v.setCell ⟨b, k, none⟩ x) := by
  have hb := h.b1
  refine ⟨h.bel.setCell (by show w.heap.size ≤ b; omega) _, hb, by rw [World.size_setCell]; exact h.lt, fun i hi => heldV_set (h.row i hi), fun o => by rw [World.frozen?_setCell]; exact h.fz o, fun j u e => ?_, fun j u e => ?_⟩
  · rw [World.cell?_setCell_other _ _ _ _ (by intro e; injection e; omega)]; exact h.p j u e
  · rw [World.cell?_setCell_other _ _ _ _ (by intro e; injection e; omega)]; exact h.s j u e
/-- the row's own: only this round's call and store come between -/
structure FluY (w : World) (bB bW bT bS b k : Nat) (v : World) : Prop where
  x : FluX w bB bW bT bS b v
  row : IW v b 12 (fun i => if i < k then flo i else 0)
/-- .. in the midst of a round -/
structure FluZ (w : World) (bB bW bT bS b k : Nat) (v : World) : Prop where
  x : FluX w bB bW bT bS b v
  row : ∀ i < 12, i ≠ k → v.cell? ⟨b, i, none⟩ = some (.int .i64 (if i < k then flo i else 0))
theorem FluZ.call {w v v' : World} {bB bW bT bS b k : Nat} (h : FluZ w bB bW bT bS b k v) (hB : Below v.heap.size v v') : FluZ w bB bW bT bS b k v' :=
  ⟨h.x.call hB, fun i hi hn => (hB.cell (p := ⟨b, i, none⟩) h.x.lt).trans (h.row i hi hn)⟩
theorem FluZ.draw {w v : World} {bB bW bT bS b k : Nat} (h : FluZ w bB bW bT bS b k v) : FluZ w bB bW bT bS b k v.drew := h.call (Below.refl _ _).drew
theorem FluZ.set {w v : World} {bB bW bT bS b k : Nat} (h : FluZ w bB bW bT bS b k v) (u : Value) : FluZ w bB bW bT bS b k (v.setCell ⟨b, k, none⟩ u) :=
  ⟨h.x.set k u, fun i hi hn => (World.cell?_setCell_other _ _ _ _ (by intro e; injection e; omega)).trans (h.row i hi hn)⟩
theorem FluZ.done {w v : World} {bB bW bT bS b k : Nat} (h : FluZ w bB bW bT bS b k v) (hk : k < 12) : FluY w bB bW bT bS b (k + 1) (v.setCell ⟨b, k, none⟩ (.int .i64 (flo k))) :=
  ⟨h.x.set k _, fun i hi => by
    show _ = some (Value.int .i64 (if i < k + 1 then flo i else 0))
    by_cases e : i = k
    · subst e
      rw [if_pos (by omega)]
      exact World.cell?_setCell_same _ _ _ (h.x.row i hi)
    · rw [(h.set _).row i hi e]
      by_cases e2 : i < k
      · rw [if_pos e2, if_pos (by omega)]
      · rw [if_neg e2, if_neg (by omega)]⟩
theorem fluxall_ok {bB bW bT bS : Nat} {T : NetT} (w : World) (hN : Net 1 T w) (hP : Pond bB bW bT bS spd w) :
    Calls Tryz.prog 60 #[.pointer (some ⟨T.g, 0, none⟩), planV, seaV bB bW bT bS] w fun e w' => ∃ b, e = .returned (.tuple #[.slice (some ⟨b, 0, none⟩) 12 12, .int .i64 0]) ∧ Below w.heap.size w w' ∧ w.heap.size ≤ b ∧ b < w'.heap.size ∧ IW w' b 12 flo := by
  have HN := Lib.hid hN
  have HP := Lib.hid hP
  have hmk := make_i12
  clear hN hP
  go_enter Tryz.func60, Tryz.ntmps60
  go_upto_region 3 with fail
  have hW0 : Below w.heap.size w ((w.alloc (Obj.cells #[Value.int IntKind.i64 1, Value.float FloatKind.f64 4602678819172646912, Value.float FloatKind.f64 4607182418800017408, Value.float FloatKind.f64 0, Value.int IntKind.i64 0, Value.bool false, Value.slice none 0 0] 45)).alloc (Obj.cells #[Value.slice (some { block := bB, off := 0 }) 6 6, Value.slice (some { block := bW, off := 0 }) 6 6, Value.slice (some { block := bT, off := 0 }) 6 6, Value.slice (some { block := bS, off := 0 }) 12 12, Value.int IntKind.i64 0, Value.int IntKind.i64 0] 48)) := by (repeat' (first | with_reducible assumption | with_reducible exact Nat.le_refl _ | with_reducible refine Below.setCell ?_ ?_ _ | with_reducible refine Below.drew ?_ | with_reducible refine Below.alloc ?_ ?_ _ | with_reducible exact Below.refl _ _ | omega | (simp; done) | (simp; omega)))
  obtain ⟨W, hW⟩ : ∃ W, W = (w.alloc (Obj.cells #[Value.int IntKind.i64 1, Value.float FloatKind.f64 4602678819172646912, Value.float FloatKind.f64 4607182418800017408, Value.float FloatKind.f64 0, Value.int IntKind.i64 0, Value.bool false, Value.slice none 0 0] 45)).alloc (Obj.cells #[Value.slice (some { block := bB, off := 0 }) 6 6, Value.slice (some { block := bW, off := 0 }) 6 6, Value.slice (some { block := bT, off := 0 }) 6 6, Value.slice (some { block := bS, off := 0 }) 12 12, Value.int IntKind.i64 0, Value.int IntKind.i64 0] 48) := ⟨_, rfl⟩
  have s0 : W.cell? ⟨w.heap.size + 1, 0, none⟩ = some (.slice (some ⟨bB, 0, none⟩) 6 6) := by rw [hW]; simp [go_sem]
  have s1 : W.cell? ⟨w.heap.size + 1, 1, none⟩ = some (.slice (some ⟨bW, 0, none⟩) 6 6) := by rw [hW]; simp [go_sem]
  have s2 : W.cell? ⟨w.heap.size + 1, 2, none⟩ = some (.slice (some ⟨bT, 0, none⟩) 6 6) := by rw [hW]; simp [go_sem]
  have s3 : W.cell? ⟨w.heap.size + 1, 3, none⟩ = some (.slice (some ⟨bS, 0, none⟩) 12 12) := by rw [hW]; simp [go_sem]
  have hp : (∀ j u, #[Value.int IntKind.i64 1, Value.float FloatKind.f64 4602678819172646912, Value.float FloatKind.f64 4607182418800017408, Value.float FloatKind.f64 0, Value.int IntKind.i64 0, Value.bool false, Value.slice none 0 0][j]? = some u → W.cell? ⟨w.heap.size, j, none⟩ = some u) ∧
      (∀ j u, #[Value.slice (some { block := bB, off := 0 }) 6 6, Value.slice (some { block := bW, off := 0 }) 6 6, Value.slice (some { block := bT, off := 0 }) 6 6, Value.slice (some { block := bS, off := 0 }) 12 12, Value.int IntKind.i64 0, Value.int IntKind.i64 0][j]? = some u → W.cell? ⟨w.heap.size + 1, j, none⟩ = some u) := by
    rw [hW]
    refine ⟨fun j u e => ?_, fun j u e => ?_⟩
    · rw [World.cell?_alloc_lt _ _ _ (by simp)]; simpa [World.cell?_alloc_new] using e
    · have e2 : w.heap.size + 1 = (w.alloc (Obj.cells #[Value.int IntKind.i64 1, Value.float FloatKind.f64 4602678819172646912, Value.float FloatKind.f64 4607182418800017408, Value.float FloatKind.f64 0, Value.int IntKind.i64 0, Value.bool false, Value.slice none 0 0] 45)).heap.size := by simp
      rw [e2]; simpa [World.cell?_alloc_new] using e
  have hsz : w.heap.size + 1 < W.heap.size := by rw [hW]; simp
  rw [← hW] at hW0
  rw [← hW]
  have HW0 := Lib.hid (⟨hW0, hp, hsz⟩ : _ ∧ _ ∧ _)
  have HN1 := Lib.hid (HN.out.below hW0)
  clear hW hW0 hp hsz
  go_quiet ((first | (go_at_call 6; exact Calls.quiet_of_same (cells_1 _ (HN1.out.below (below_drewN (Below.refl _ _) _)))) | (go_at_call 7; exact Calls.quiet_of_same (edges_1 _ (HN1.out.below (below_drewN (Below.refl _ _) _))))))
  have hB2 : Below W.heap.size W (W.drewN nq) := below_drewN (Below.refl _ _) _
  generalize W.drewN nq = w2 at hB2 ⊢
  have KE := Lib.hid ((edges_1 w2 (HN1.out.below hB2)).mono fun _ _ h => (⟨h.1, h.2.symm⟩ : _ ∧ w2 = _))
  have HB2 := Lib.hid hB2
  clear s0 s1 s2 s3 hB2
  go_upto_region 6 with (first | (go_at_call 7; ((with_reducible refine (KE.out).mono ?_)); rintro e w' ⟨rfl, rfl⟩))
  have h0 : FluY w bB bW bT bS w2.heap.size 0 (w2.alloc (Obj.cells #[Value.int IntKind.i64 0, Value.int IntKind.i64 0, Value.int IntKind.i64 0, Value.int IntKind.i64 0, Value.int IntKind.i64 0, Value.int IntKind.i64 0, Value.int IntKind.i64 0, Value.int IntKind.i64 0, Value.int IntKind.i64 0, Value.int IntKind.i64 0, Value.int IntKind.i64 0, Value.int IntKind.i64 0] 2)) := by
    have b2 := HB2.out
    obtain ⟨q1, ⟨q2, q3⟩, q4⟩ := HW0.out
    have q5 := b2.size
    have hI : IW (w2.alloc (Obj.cells #[Value.int IntKind.i64 0, Value.int IntKind.i64 0, Value.int IntKind.i64 0, Value.int IntKind.i64 0, Value.int IntKind.i64 0, Value.int IntKind.i64 0, Value.int IntKind.i64 0, Value.int IntKind.i64 0, Value.int IntKind.i64 0, Value.int IntKind.i64 0, Value.int IntKind.i64 0, Value.int IntKind.i64 0] 2)) w2.heap.size 12 (fun i => if i < 0 then flo i else 0) := fun i hi => by
      obtain rfl | rfl | rfl | rfl | rfl | rfl | rfl | rfl | rfl | rfl | rfl | rfl : i = 0 ∨ i = 1 ∨ i = 2 ∨ i = 3 ∨ i = 4 ∨ i = 5 ∨ i = 6 ∨ i = 7 ∨ i = 8 ∨ i = 9 ∨ i = 10 ∨ i = 11 := by omega
      all_goals simp [go_sem]
    refine ⟨⟨(q1.trans (b2.mono q1.size)).alloc (by omega) _, by omega, by simp, fun i hi => heldV_of (hI i hi), fun o => by simp [go_sem], fun j u e => ?_, fun j u e => ?_⟩, hI⟩
    · rw [World.cell?_alloc_lt _ _ _ (by show w.heap.size < _; omega)]; exact (b2.cell (p := ⟨w.heap.size, j, none⟩) (by show w.heap.size < _; omega)).trans (q2 j u e)
    · rw [World.cell?_alloc_lt _ _ _ (by show w.heap.size + 1 < _; omega)]; exact (b2.cell (p := ⟨w.heap.size + 1, j, none⟩) (by show w.heap.size + 1 < _; omega)).trans (q3 j u e)
  generalize w2.alloc (Obj.cells #[Value.int IntKind.i64 0, Value.int IntKind.i64 0, Value.int IntKind.i64 0, Value.int IntKind.i64 0, Value.int IntKind.i64 0, Value.int IntKind.i64 0, Value.int IntKind.i64 0, Value.int IntKind.i64 0, Value.int IntKind.i64 0, Value.int IntKind.i64 0, Value.int IntKind.i64 0, Value.int IntKind.i64 0] 2) = W3 at h0 ⊢
  generalize w2.heap.size = b at h0 ⊢
  have H0 := Lib.hid h0
  clear h0 KE hmk
  go_wp2_with fail
  go_loopw [48] (fun i wr => ∃ k : Nat, k ≤ 12 ∧ i = .int .i64 k ∧ FluY w bB bW bT bS b k wr) (fun i _ => 12 - (intOf i).toNat)
  case atStart => exact ⟨0, by omega, rfl, H0.out⟩
  case round =>
    clear H0
    obtain ⟨k, hk, rfl, hY⟩ := hrel
    by_cases hlt : k < 12
    · obtain ⟨wq, h⟩ : ∃ wq, wq = wr := ⟨_, rfl⟩
      subst h
      have s3 := hY.x.s 3 _ rfl
      have c0 := (HP.out.below hY.x.bel).spd k hlt
      obtain ⟨u, hu⟩ : ∃ u, u = spd k := ⟨_, rfl⟩
      rw [← hu] at c0
      obtain ⟨d, hd⟩ : ∃ d, d = dpe k := ⟨_, rfl⟩
      have hk1 : (0 : Int) ≤ (k : Int) := by omega
      have hk2 : (k : Int) < 12 := by omega
      have hk3 : (k : Int).toNat = k := by omega
      have hkd : decide ((k : Int) < 12) = true := decide_eq_true (by omega)
      have HU := Lib.hid (⟨hu, hd⟩ : _ ∧ _)
      have hZ0 : FluZ w bB bW bT bS b k wq := ⟨hY.x, fun i hi _ => hY.row i hi⟩
      have HZ0 := Lib.hid hZ0
      clear hu hd hY hZ0
      go_upto_region 10 with fail
      have KEEP : Hid (∀ v, FluZ w bB bW bT bS b k v → v.cell? ⟨w.heap.size, 1, none⟩ = some (.float .f64 4602678819172646912) ∧ v.cell? ⟨w.heap.size, 4, none⟩ = some (.int .i64 0) ∧ v.cell? ⟨w.heap.size + 1, 0, none⟩ = some (.slice (some ⟨bB, 0, none⟩) 6 6) ∧ v.cell? ⟨w.heap.size + 1, 1, none⟩ = some (.slice (some ⟨bW, 0, none⟩) 6 6) ∧ v.cell? ⟨w.heap.size + 1, 2, none⟩ = some (.slice (some ⟨bT, 0, none⟩) 6 6) ∧ v.cell? ⟨w.heap.size + 1, 3, none⟩ = some (.slice (some ⟨bS, 0, none⟩) 12 12) ∧ v.cell? ⟨w.heap.size + 1, 4, none⟩ = some (.int .i64 0) ∧ v.cell? ⟨w.heap.size + 1, 5, none⟩ = some (.int .i64 0) ∧ v.cell? ⟨b, k, none⟩ = some (heldV v ⟨b, k, none⟩) ∧ v.frozen? ⟨b, k, none⟩ = false ∧ FluZ w bB bW bT bS b k v) := Lib.hid fun v h => ⟨h.x.p 1 _ rfl, h.x.p 4 _ rfl, h.x.s 0 _ rfl, h.x.s 1 _ rfl, h.x.s 2 _ rfl, h.x.s 3 _ rfl, h.x.s 4 _ rfl, h.x.s 5 _ rfl, h.x.row k hlt, h.x.fz k, h⟩
      have ST : Hid (∀ v u, FluZ w bB bW bT bS b k v → FluZ w bB bW bT bS b k (v.setCell ⟨b, k, none⟩ u)) := Lib.hid fun v u h => h.set u
      have KD : Hid (∀ v, FluZ w bB bW bT bS b k v → Calls Tryz.prog 100 #[.pointer (some ⟨T.g, 0, none⟩), .int .i64 0, seaV bB bW bT bS, .int .i64 k, .float .f64 u] v fun e w' => e = .returned (.float .f64 d) ∧ FluZ w bB bW bT bS b k w') := Lib.hid fun v h => by
        rw [HU.out.1, HU.out.2]
        exact (rdepth_ok k hlt v (HN.out.below h.x.bel) (HP.out.below h.x.bel)).mono fun _ _ ⟨q, hb⟩ => ⟨q, h.call hb⟩
      have KL : Hid (∀ v, FluZ w bB bW bT bS b k v → Calls Tryz.prog 14 #[.pointer (some ⟨T.g, 0, none⟩), .int .i64 k] v fun e w' => e = .returned (.float .f64 4607879128087016221) ∧ FluZ w bB bW bT bS b k w') := Lib.hid fun v h =>
        (length_e k hlt v (HN.out.below h.x.bel)).mono fun _ _ ⟨q, hb⟩ => ⟨q, by rw [hb]; exact h⟩
      have KQ : Hid (∀ v, FluZ w bB bW bT bS b k v → Calls Tryz.prog 99 #[.float .f64 u, .float .f64 d, .float .f64 4607879128087016221, .float .f64 4602678819172646912] v fun e w' => e = .returned (.int .i64 (flo k)) ∧ FluZ w bB bW bT bS b k w') := Lib.hid fun v h => by
        rw [HU.out.1, HU.out.2]
        exact (quanta_1 k v).mono fun _ _ ⟨q, hb⟩ => ⟨q, by rw [hb]; exact h⟩
      obtain ⟨s0, s1, s2, s3', s4, s5, s6, s7, s8, s9, s10⟩ := KEEP.out _ HZ0.out
      clear s3 c0 HZ0
      go_region_held3 (fun v => v.cell? ⟨w.heap.size, 1, none⟩ = some (.float .f64 4602678819172646912) ∧ v.cell? ⟨w.heap.size, 4, none⟩ = some (.int .i64 0) ∧ v.cell? ⟨w.heap.size + 1, 0, none⟩ = some (.slice (some ⟨bB, 0, none⟩) 6 6) ∧ v.cell? ⟨w.heap.size + 1, 1, none⟩ = some (.slice (some ⟨bW, 0, none⟩) 6 6) ∧ v.cell? ⟨w.heap.size + 1, 2, none⟩ = some (.slice (some ⟨bT, 0, none⟩) 6 6) ∧ v.cell? ⟨w.heap.size + 1, 3, none⟩ = some (.slice (some ⟨bS, 0, none⟩) 12 12) ∧ v.cell? ⟨w.heap.size + 1, 4, none⟩ = some (.int .i64 0) ∧ v.cell? ⟨w.heap.size + 1, 5, none⟩ = some (.int .i64 0) ∧ v.cell? ⟨b, k, none⟩ = some (heldV v ⟨b, k, none⟩) ∧ v.frozen? ⟨b, k, none⟩ = false ∧ FluZ w bB bW bT bS b k v)
        ((refine KEEP.out _ ?_; repeat (first | with_reducible assumption | with_reducible exact FluZ.draw (by with_reducible assumption) | with_reducible refine ST.out _ _ ?_)))
        (first | (go_at_call 100; ((with_reducible refine (KD.out _ (by first | with_reducible assumption | with_reducible exact FluZ.draw (by with_reducible assumption))).mono ?_)); rintro e w3 ⟨rfl, hX3⟩) | (go_at_call 14; ((with_reducible refine (KL.out _ (by first | with_reducible assumption | with_reducible exact FluZ.draw (by with_reducible assumption))).mono ?_)); rintro e w3 ⟨rfl, hX3⟩) | (go_at_call 99; ((with_reducible refine (KQ.out _ (by first | with_reducible assumption | with_reducible exact FluZ.draw (by with_reducible assumption))).mono ?_)); rintro e w3 ⟨rfl, hX3⟩))
      all_goals
        have HX3 := Lib.hid hX3
        go_wp2_with fail
        go_roundw
        case rel => exact ⟨k + 1, by omega, by go_num, HX3.out.done hlt⟩
        case measure => simp [intOf]; omega
    · have hE : k = 12 := by omega
      subst hE
      have hb := hY.x.b1
      go_wp2
      refine bodyPost_ret (results_tmp2 rfl _ _ _) rfl ?_
      exact ⟨b, rfl, hY.x.bel, by omega, hY.x.lt, hY.row.same fun i hi => if_pos hi⟩
end Go.Proofs.YtkjjecghbhppgaaGreatDoor
/- Shares: what fits; the outflows of a cell. -/
namespace Go.Proofs.YtkjjecghbhppgaaGreatDoor
open Go Go.RowKit Go.Maps TF

set_option maxRecDepth 100000
set_option maxHeartbeats 4000000
theorem flo_in (k : Nat) : 0 ≤ flo k ∧ flo k ≤ 214249 := by unfold flo; split <;> omega
theorem good_ok {T : NetT} (bW bF : Nat) (w : World) (hN : Net 1 T w) (hW : IW w bW 6 wat) (hF : IW w bF 12 flo) :
    Calls Tryz.prog 101 #[.pointer (some ⟨T.g, 0, none⟩), .slice (some ⟨bW, 0, none⟩) 6 6, .slice (some ⟨bF, 0, none⟩) 12 12] w fun e w' => e = .returned (.bool true) ∧ w = w' := by
  have KC := Lib.hid ((cells_1 w hN).mono fun _ _ h => (⟨h.1, h.2.symm⟩ : _ ∧ w = _))
  have KE := Lib.hid ((edges_1 w hN).mono fun _ _ h => (⟨h.1, h.2.symm⟩ : _ ∧ w = _))
  have HW := Lib.hid hW
  have HF := Lib.hid hF
  clear hN hW hF
  go_enter Tryz.func101, Tryz.ntmps101
  go_wp2_with (first | (go_at_call 6; ((with_reducible refine (KC.out).mono ?_)); rintro e w' ⟨rfl, rfl⟩) | (go_at_call 7; ((with_reducible refine (KE.out).mono ?_)); rintro e w' ⟨rfl, rfl⟩))
  go_loopw [25] (fun i wr => ∃ k : Nat, k ≤ 6 ∧ i = .int .i64 k ∧ wr = w) (fun i _ => 6 - (intOf i).toNat)
  case atStart => exact ⟨0, by omega, rfl, rfl⟩
  case round =>
    obtain ⟨k, hk, rfl, hw⟩ := hrel
    subst hw
    by_cases hlt : k < 6
    · have c0 := HW.out k hlt
      obtain ⟨q1, q2⟩ := wat_lt k
      generalize wat k = x at c0 q1 q2
      go_wp2
      go_roundw
      case rel => exact ⟨k + 1, by omega, by go_num, by trivial⟩
      case measure => simp [intOf]; omega
    · have hE : ((k : Nat) : Int) = 6 := by omega
      rw [hE]
      clear hE hlt hk
      go_wp2_with fail
      go_loopw [34] (fun i wz => ∃ k : Nat, k ≤ 12 ∧ i = .int .i64 k ∧ wz = wr) (fun i _ => 12 - (intOf i).toNat)
      case atStart => exact ⟨0, by omega, rfl, rfl⟩
      case round =>
        obtain ⟨k, hk, rfl, hw⟩ := hrel
        subst hw
        by_cases hlt : k < 12
        · have c0 := HF.out k hlt
          obtain ⟨q1, q2⟩ := flo_in k
          generalize flo k = x at c0 q1 q2
          go_wp2
          go_roundw
          case rel => exact ⟨k + 1, by omega, by go_num, by trivial⟩
          case measure => simp [intOf]; omega
        · have hE : k = 12 := by omega
          subst hE
          go_wp2
          go_ret
          exact ⟨rfl, rfl⟩
theorem cut_ok (b : Nat) (q water : Int) (h0 : 0 ≤ q) (h1 : q ≤ 214249) (h2 : 4 * q ≤ water) (h3 : water ≤ 1433053866) (w : World) (hl : b < w.heap.size) (hb : IW w b 4 (fun _ => q)) :
    Calls Tryz.prog 102 #[.int .i64 water, .slice (some ⟨b, 0, none⟩) 4 4] w fun e w' => ∃ b', e = .returned (.tuple #[.slice (some ⟨b', 0, none⟩) 4 4, .int .i64 0]) ∧ Below w.heap.size w w' ∧ w.heap.size ≤ b' ∧ b' < w'.heap.size ∧ IW w' b' 4 (fun _ => q) := by
  have HB := Lib.hid hb
  clear hb
  go_enter Tryz.func102, Tryz.ntmps102
  go_wp2_with fail
  go_loopw [16, 6] (fun i s wr => ∃ k : Nat, k ≤ 4 ∧ i = .int .i64 k ∧ s = .int .i64 (k * q) ∧ wr = w) (fun i _ _ => 4 - (intOf i).toNat)
  case atStart => exact ⟨0, by omega, rfl, by simp, rfl⟩
  case round =>
    obtain ⟨k, hk, rfl, rfl, hw⟩ := hrel
    subst hw
    by_cases hlt : k < 4
    · have c0 := HB.out k hlt
      obtain ⟨s, hs⟩ : ∃ s : Int, s = k * q := ⟨_, rfl⟩
      have hs0 : 0 ≤ s := by rw [hs]; exact Int.mul_nonneg (by omega) h0
      have hs1 : s ≤ 1000000 := by
        obtain rfl | rfl | rfl | rfl : k = 0 ∨ k = 1 ∨ k = 2 ∨ k = 3 := by omega
        all_goals simp at hs; omega
      have HS : Hid (s + q = ((k + 1 : Nat) : Int) * q) := Lib.hid (by rw [hs]; push_cast; rw [Int.add_mul]; omega)
      rw [← hs]
      clear hs
      go_wp2
      go_roundw
      case rel => exact ⟨k + 1, by omega, by go_num, by rw [HS.out], by trivial⟩
      case measure => simp [intOf]; omega
    · have hE : ((k : Nat) : Int) = 4 := by omega
      rw [hE]
      clear hE hlt hk
      have hmk := make_i4
      obtain ⟨w2, h⟩ : ∃ w2, w2 = wr := ⟨_, rfl⟩
      subst h
      have hD : decide (water < 4 * q) = false := decide_eq_false (by omega)
      obtain ⟨s, hs⟩ : ∃ s : Int, s = 4 * q := ⟨_, rfl⟩
      rw [← hs] at hD h2 ⊢
      have HS := Lib.hid hs
      clear hs
      go_wp2_with fail
      have h0 : Below w2.heap.size w2 (w2.alloc (Obj.cells #[Value.int IntKind.i64 0, Value.int IntKind.i64 0, Value.int IntKind.i64 0, Value.int IntKind.i64 0] 2)) ∧ w2.heap.size < (w2.alloc (Obj.cells #[Value.int IntKind.i64 0, Value.int IntKind.i64 0, Value.int IntKind.i64 0, Value.int IntKind.i64 0] 2)).heap.size ∧ (∀ o, (w2.alloc (Obj.cells #[Value.int IntKind.i64 0, Value.int IntKind.i64 0, Value.int IntKind.i64 0, Value.int IntKind.i64 0] 2)).frozen? ⟨w2.heap.size, o, none⟩ = false) ∧
          IW (w2.alloc (Obj.cells #[Value.int IntKind.i64 0, Value.int IntKind.i64 0, Value.int IntKind.i64 0, Value.int IntKind.i64 0] 2)) w2.heap.size 4 (fun _ => 0) := by
        refine ⟨by (repeat' (first | with_reducible assumption | with_reducible exact Nat.le_refl _ | with_reducible refine Below.setCell ?_ ?_ _ | with_reducible refine Below.drew ?_ | with_reducible refine Below.alloc ?_ ?_ _ | with_reducible exact Below.refl _ _ | omega | (simp; done) | (simp; omega))), by simp, fun o => by simp [go_sem], fun i hi => ?_⟩
        obtain rfl | rfl | rfl | rfl : i = 0 ∨ i = 1 ∨ i = 2 ∨ i = 3 := by omega
        all_goals simp [go_sem]
      generalize w2.alloc (Obj.cells #[Value.int IntKind.i64 0, Value.int IntKind.i64 0, Value.int IntKind.i64 0, Value.int IntKind.i64 0] 2) = W at h0 ⊢
      have H0 := Lib.hid h0
      clear h0
      go_loopw [37] (fun i wz => ∃ k : Nat, k ≤ 4 ∧ i = .int .i64 k ∧ Below w2.heap.size w2 wz ∧ w2.heap.size < wz.heap.size ∧ (∀ o, wz.frozen? ⟨w2.heap.size, o, none⟩ = false) ∧ IW wz w2.heap.size 4 (fun i => if i < k then q else 0)) (fun i _ => 4 - (intOf i).toNat)
      case atStart => exact ⟨0, by omega, rfl, H0.out.1, H0.out.2.1, H0.out.2.2.1, H0.out.2.2.2⟩
      case round =>
        clear H0
        obtain ⟨k, hk, rfl, hB, hl2, hf, hc⟩ := hrel
        by_cases hlt : k < 4
        · have c0 := (hB.cell (p := ⟨b, k, none⟩) hl).trans (HB.out k hlt)
          have c1 : wr.cell? ⟨w2.heap.size, k, none⟩ = some (.int .i64 (if k < k then q else 0)) := hc k hlt
          have f1 := hf k
          obtain ⟨x, hx⟩ : ∃ x, x = (if k < k then q else 0) := ⟨_, rfl⟩
          rw [← hx] at c1
          have HC := Lib.hid (⟨hB, hl2, hf, hc⟩ : _ ∧ _ ∧ _ ∧ _)
          obtain ⟨n, hn⟩ : ∃ n, n = w2.heap.size := ⟨_, rfl⟩
          rw [← hn] at c1 f1 ⊢
          have HN := Lib.hid hn
          clear hB hl2 hf hc hx hn
          go_wp2_with fail
          go_roundw
          case rel =>
            obtain ⟨hB, hl2, hf, hc⟩ := HC.out
            have hn := HN.out
            subst hn
            exact ⟨k + 1, by omega, by go_num, hB.setCell (Nat.le_refl _) _, by rw [World.size_setCell]; exact hl2, fun o => by rw [World.frozen?_setCell]; exact hf o, (hc.set k q).same fun i hi => by
              by_cases e : i = k
              · subst e; rw [if_pos rfl, if_pos (by omega)]
              · rw [if_neg e]; by_cases e2 : i < k
                · rw [if_pos e2, if_pos (by omega)]
                · rw [if_neg e2, if_neg (by omega)]⟩
          case measure => simp [intOf]; omega
        · have hE : k = 4 := by omega
          subst hE
          go_wp2
          refine bodyPost_ret (results_tmp2 rfl _ _ _) rfl ?_
          exact ⟨w2.heap.size, rfl, hB, Nat.le_refl _, hl2, hc.same fun i hi => if_pos hi⟩
end Go.Proofs.YtkjjecghbhppgaaGreatDoor
