/- Laid together: TopYg, TopZf. -/
import Derived.Test.YtkjjecghbhppgaaGreatDoorK19
import Derived.Test.YtkjjecghbhppgaaGreatDoorK07
import Derived.Deep.RegionHeld3
import Derived.StillTailTactics
/- Forces: the two cells of an edge; whether water can go. -/
namespace Go.Proofs.YtkjjecghbhppgaaGreatDoor
open Go Go.RowKit Go.Maps TF

attribute [local go_sem] cmp_eq cmp_ne cmp_lt cmp_gt cmp_le cmp_ge run_store_float
set_option maxRecDepth 100000
set_option maxHeartbeats 8000000
theorem edge_1 {T : NetT} (k : Nat) (hk : k < 12) (w : World) (h : Net 1 T w) :
    Calls Tryz.prog 9 #[.pointer (some ⟨T.g, 0, none⟩), .int .i64 k] w fun e w' => e = .returned (.tuple #[.agg #[.int .i64 (tE k / 4 : Nat), .int .i64 (tE k % 4 : Nat), .int .i64 (tS k / 4 : Nat), .int .i64 (tS k % 4 : Nat)], .bool true]) ∧ Below w.heap.size w w' := by
  have h := edge_net ⟨by decide, by decide⟩ (el1 k hk) w h
  rw [sg1 k hk] at h
  exact h
theorem open_ok (a b c a' b' c' : Nat) (w : World) :
    Calls Tryz.prog 127 #[.agg #[.float .f64 a, .float .f64 b, .float .f64 c, .bool true], .agg #[.float .f64 a', .float .f64 b', .float .f64 c', .bool true]] w fun e w' => e = .returned (.bool true) ∧ Below w.heap.size w w' := by
  go_enter Tryz.func127, Tryz.ntmps127
  go_wp2
  go_ret
  exact ⟨rfl, by (repeat' (first | with_reducible assumption | with_reducible exact Nat.le_refl _ | with_reducible refine Below.setCell ?_ ?_ _ | with_reducible refine Below.drew ?_ | with_reducible refine Below.alloc ?_ ?_ _ | with_reducible exact Below.refl _ _ | omega | (simp; done) | (simp; omega)))⟩
/-- the blocks of two results -/
def two (a b : Nat) (x : Nat) : Bool := x == a || x == b
theorem two_a (a b : Nat) : two a b a = true := by simp [two]
theorem two_b (a b : Nat) : two a b b = true := by simp [two]
theorem two_no {a b x : Nat} (h1 : x ≠ a) (h2 : x ≠ b) : two a b x = false := by simp [two, h1, h2]
theorem both_ok {bB bW bT bS : Nat} {sp : Nat → Nat} {T : NetT} (k : Nat) (hk : k < 12) (w : World) (hN : Net 1 T w) (hP : Pond bB bW bT bS sp w) :
    Calls Tryz.prog 126 #[.pointer (some ⟨T.g, 0, none⟩), seaV bB bW bT bS, .int .i64 k] w fun e w' => e = .returned (.tuple #[.agg #[.float .f64 0, .float .f64 (dep (tE k / 4)), .float .f64 (dep (tE k / 4)), .bool true], .agg #[.float .f64 0, .float .f64 (dep (tS k / 4)), .float .f64 (dep (tS k / 4)), .bool true], .bool true]) ∧ Below w.heap.size w w' := by
  obtain ⟨l1, l2, -⟩ := cells1 k hk
  have ke := fun w (h : Net 1 T w) => edge_1 k hk w h
  have kf := fun w (h : Net 1 T w) => fits_ok (bB := bB) (bW := bW) (bT := bT) (bS := bS) w h
  have k1 := fun (v : World) (h : Net 1 T v) (h2 : Pond bB bW bT bS sp v) => look_ok (tE k / 4) l1 v h h2
  have k2 := fun (v : World) (h : Net 1 T v) (h2 : Pond bB bW bT bS sp v) => look_ok (tS k / 4) l2 v h h2
  generalize tE k / 4 = x at ke k1 ⊢
  generalize tS k / 4 = y at ke k2 ⊢
  generalize tE k % 4 = o at ke
  generalize tS k % 4 = p at ke
  have KE := Lib.hid ke
  have KF := Lib.hid kf
  have K1a := Lib.hid k1
  have K2a := Lib.hid k2
  have HN := Lib.hid hN
  have HP := Lib.hid hP
  clear l1 l2 ke kf k1 k2 hN hP hk
  go_enter Tryz.func126, Tryz.ntmps126
  go_upto_region 4 with (first | (go_at_call 9; ((with_reducible refine (KE.out _ (HN.out.below (by (repeat' (first | with_reducible assumption | with_reducible exact Nat.le_refl _ | with_reducible refine Below.setCell ?_ ?_ _ | with_reducible refine Below.drew ?_ | with_reducible refine Below.alloc ?_ ?_ _ | with_reducible exact Below.refl _ _ | omega | (simp; done) | (simp; omega)))))).mono ?_)); rintro e w1 ⟨rfl, hB1⟩; obtain ⟨hd1, hf1⟩ := bcell hB1; have hz1 : w.heap.size + 2 < w1.heap.size := (by have := hB1.size; simp at this; omega); have hz1b : w.heap.size + 1 < w1.heap.size := (by omega); have hz1c : w.heap.size < w1.heap.size := (by omega); have hV1 : Below w.heap.size w w1 := Below.trans (by (repeat' (first | with_reducible assumption | with_reducible exact Nat.le_refl _ | with_reducible refine Below.setCell ?_ ?_ _ | with_reducible refine Below.drew ?_ | with_reducible refine Below.alloc ?_ ?_ _ | with_reducible exact Below.refl _ _ | omega | (simp; done) | (simp; omega)))) (hB1.mono (by first | exact Nat.le_refl _ | omega | (simp; done) | (simp; omega)))) | (go_at_call 97; ((with_reducible refine (KF.out _ (HN.out.below (by (repeat' (first | with_reducible assumption | with_reducible exact Nat.le_refl _ | with_reducible refine Below.setCell ?_ ?_ _ | with_reducible refine Below.drew ?_ | with_reducible refine Below.alloc ?_ ?_ _ | with_reducible exact Below.refl _ _ | omega | (simp; done) | (simp; omega)))))).mono ?_)); rintro e w2 ⟨rfl, hB2⟩))
  have hV2 : Below w.heap.size w w2 := Below.trans (by (repeat' (first | with_reducible assumption | with_reducible exact Nat.le_refl _ | with_reducible refine Below.setCell ?_ ?_ _ | with_reducible refine Below.drew ?_ | with_reducible refine Below.alloc ?_ ?_ _ | with_reducible exact Below.refl _ _ | omega | (simp; done) | (simp; omega)))) (hB2.mono (by first | exact Nat.le_refl _ | omega | (simp; done) | (simp; omega)))
  have hA1 := (((Held.start (w0 := w) (fun _ => false) (by (repeat' (first | with_reducible assumption | with_reducible exact Nat.le_refl _ | with_reducible refine Below.setCell ?_ ?_ _ | with_reducible refine Below.drew ?_ | with_reducible refine Below.alloc ?_ ?_ _ | with_reducible exact Below.refl _ _ | omega | (simp; done) | (simp; omega))) : Below w.heap.size w (((w.alloc (Obj.cells #[Value.slice (some { block := bB, off := 0 }) 6 6, Value.slice (some { block := bW, off := 0 }) 6 6, Value.slice (some { block := bT, off := 0 }) 6 6, Value.slice (some { block := bS, off := 0 }) 12 12, Value.int IntKind.i64 0, Value.int IntKind.i64 0] 48)).alloc (Obj.cells #[Value.float FloatKind.f64 0, Value.float FloatKind.f64 0, Value.float FloatKind.f64 0, Value.bool false] 177)).alloc (Obj.cells #[Value.float FloatKind.f64 0, Value.float FloatKind.f64 0, Value.float FloatKind.f64 0, Value.bool false] 177)))).call hB1).alloc _).call hB2
  have hE1 := (Held.start (w0 := w1) (fun _ => false) ((Below.refl w1.heap.size w1).alloc (Nat.le_refl _) _)).call hB2
  have a0 := (hA1.cell w.heap.size 0 (by simp; omega) rfl).trans (by simp [go_sem] : _ = some (.slice (some ⟨bB, 0, none⟩) 6 6))
  have a1 := (hA1.cell w.heap.size 1 (by simp; omega) rfl).trans (by simp [go_sem] : _ = some (.slice (some ⟨bW, 0, none⟩) 6 6))
  have a2 := (hA1.cell w.heap.size 2 (by simp; omega) rfl).trans (by simp [go_sem] : _ = some (.slice (some ⟨bT, 0, none⟩) 6 6))
  have a3 := (hA1.cell w.heap.size 3 (by simp; omega) rfl).trans (by simp [go_sem] : _ = some (.slice (some ⟨bS, 0, none⟩) 12 12))
  have a4 := (hA1.cell w.heap.size 4 (by simp; omega) rfl).trans (by simp [go_sem] : _ = some (.int .i64 0))
  have a5 := (hA1.cell w.heap.size 5 (by simp; omega) rfl).trans (by simp [go_sem] : _ = some (.int .i64 0))
  have e0 := (hE1.cell w1.heap.size 0 (by simp) rfl).trans (by simp [go_sem] : _ = some (.int .i64 x))
  have e2 := (hE1.cell w1.heap.size 2 (by simp) rfl).trans (by simp [go_sem] : _ = some (.int .i64 y))
  have f1 : ∀ o, w2.frozen? ⟨w.heap.size + 1, o, none⟩ = false := fun o => (hA1.froz (w.heap.size + 1) o (by first | exact Nat.le_refl _ | omega | (simp; done) | (simp; omega))).trans (by simp [go_sem])
  have f2 : ∀ o, w2.frozen? ⟨w.heap.size + 1 + 1, o, none⟩ = false := fun o => (hA1.froz (w.heap.size + 1 + 1) o (by first | exact Nat.le_refl _ | omega | (simp; done) | (simp; omega))).trans (by simp [go_sem])
  have c1 : ∀ o < 4, w2.cell? ⟨w.heap.size + 1, o, none⟩ = some (heldV w2 ⟨w.heap.size + 1, o, none⟩) := fun o ho => by
    obtain rfl | rfl | rfl | rfl : o = 0 ∨ o = 1 ∨ o = 2 ∨ o = 3 := by omega
    all_goals exact heldV_of ((hA1.cell (w.heap.size + 1) _ (by first | exact Nat.le_refl _ | omega | (simp; done) | (simp; omega)) rfl).trans (by simp [go_sem]; rfl))
  have c2 : ∀ o < 4, w2.cell? ⟨w.heap.size + 1 + 1, o, none⟩ = some (heldV w2 ⟨w.heap.size + 1 + 1, o, none⟩) := fun o ho => by
    obtain rfl | rfl | rfl | rfl : o = 0 ∨ o = 1 ∨ o = 2 ∨ o = 3 := by omega
    all_goals exact heldV_of ((hA1.cell (w.heap.size + 1 + 1) _ (by first | exact Nat.le_refl _ | omega | (simp; done) | (simp; omega)) rfl).trans (by simp [go_sem]; rfl))
  have s1 : w1.heap.size < w2.heap.size := by have := hE1.size; simp at this; omega
  have KEEP : Hid (∀ v, Held w w2 (two (w.heap.size + 1) (w.heap.size + 1 + 1)) v → v.cell? ⟨w.heap.size, 0, none⟩ = some (.slice (some ⟨bB, 0, none⟩) 6 6) ∧ v.cell? ⟨w.heap.size, 1, none⟩ = some (.slice (some ⟨bW, 0, none⟩) 6 6) ∧ v.cell? ⟨w.heap.size, 2, none⟩ = some (.slice (some ⟨bT, 0, none⟩) 6 6) ∧ v.cell? ⟨w.heap.size, 3, none⟩ = some (.slice (some ⟨bS, 0, none⟩) 12 12) ∧ v.cell? ⟨w.heap.size, 4, none⟩ = some (.int .i64 0) ∧ v.cell? ⟨w.heap.size, 5, none⟩ = some (.int .i64 0) ∧ v.cell? ⟨w1.heap.size, 0, none⟩ = some (.int .i64 x) ∧ v.cell? ⟨w1.heap.size, 2, none⟩ = some (.int .i64 y) ∧ v.cell? ⟨w.heap.size + 1, 0, none⟩ = some (heldV v ⟨w.heap.size + 1, 0, none⟩) ∧ v.frozen? ⟨w.heap.size + 1, 0, none⟩ = false ∧ v.cell? ⟨w.heap.size + 1, 1, none⟩ = some (heldV v ⟨w.heap.size + 1, 1, none⟩) ∧ v.frozen? ⟨w.heap.size + 1, 1, none⟩ = false ∧ v.cell? ⟨w.heap.size + 1, 2, none⟩ = some (heldV v ⟨w.heap.size + 1, 2, none⟩) ∧ v.frozen? ⟨w.heap.size + 1, 2, none⟩ = false ∧ v.cell? ⟨w.heap.size + 1, 3, none⟩ = some (heldV v ⟨w.heap.size + 1, 3, none⟩) ∧ v.frozen? ⟨w.heap.size + 1, 3, none⟩ = false ∧ v.cell? ⟨w.heap.size + 1 + 1, 0, none⟩ = some (heldV v ⟨w.heap.size + 1 + 1, 0, none⟩) ∧ v.frozen? ⟨w.heap.size + 1 + 1, 0, none⟩ = false ∧ v.cell? ⟨w.heap.size + 1 + 1, 1, none⟩ = some (heldV v ⟨w.heap.size + 1 + 1, 1, none⟩) ∧ v.frozen? ⟨w.heap.size + 1 + 1, 1, none⟩ = false ∧ v.cell? ⟨w.heap.size + 1 + 1, 2, none⟩ = some (heldV v ⟨w.heap.size + 1 + 1, 2, none⟩) ∧ v.frozen? ⟨w.heap.size + 1 + 1, 2, none⟩ = false ∧ v.cell? ⟨w.heap.size + 1 + 1, 3, none⟩ = some (heldV v ⟨w.heap.size + 1 + 1, 3, none⟩) ∧ v.frozen? ⟨w.heap.size + 1 + 1, 3, none⟩ = false ∧ Held w w2 (two (w.heap.size + 1) (w.heap.size + 1 + 1)) v) := Lib.hid fun v h => by
    have q := fun o => h.cell w.heap.size o (by omega) (two_no (by omega) (by omega))
    have q' := fun o => h.cell w1.heap.size o (by omega) (two_no (by omega) (by omega))
    exact ⟨(q 0).trans a0, (q 1).trans a1, (q 2).trans a2, (q 3).trans a3, (q 4).trans a4, (q 5).trans a5, (q' 0).trans e0, (q' 2).trans e2, h.own _ 0 (by omega) (c1 0 (by omega)), (h.froz _ 0 (by omega)).trans (f1 0), h.own _ 1 (by omega) (c1 1 (by omega)), (h.froz _ 1 (by omega)).trans (f1 1), h.own _ 2 (by omega) (c1 2 (by omega)), (h.froz _ 2 (by omega)).trans (f1 2), h.own _ 3 (by omega) (c1 3 (by omega)), (h.froz _ 3 (by omega)).trans (f1 3), h.own _ 0 (by omega) (c2 0 (by omega)), (h.froz _ 0 (by omega)).trans (f2 0), h.own _ 1 (by omega) (c2 1 (by omega)), (h.froz _ 1 (by omega)).trans (f2 1), h.own _ 2 (by omega) (c2 2 (by omega)), (h.froz _ 2 (by omega)).trans (f2 2), h.own _ 3 (by omega) (c2 3 (by omega)), (h.froz _ 3 (by omega)).trans (f2 3), h⟩
  have ST : Hid (∀ v o u, Held w w2 (two (w.heap.size + 1) (w.heap.size + 1 + 1)) v → Held w w2 (two (w.heap.size + 1) (w.heap.size + 1 + 1)) (v.setCell ⟨w.heap.size + 1, o, none⟩ u) ∧ Held w w2 (two (w.heap.size + 1) (w.heap.size + 1 + 1)) (v.setCell ⟨w.heap.size + 1 + 1, o, none⟩ u)) :=
    Lib.hid fun v o u h => ⟨h.store _ _ _ (by omega) fun _ => two_a _ _, h.store _ _ _ (by omega) fun _ => two_b _ _⟩
  have K1 : Hid (∀ v, Held w w2 (two (w.heap.size + 1) (w.heap.size + 1 + 1)) v → Calls Tryz.prog 151 #[.pointer (some ⟨T.g, 0, none⟩), seaV bB bW bT bS, .int .i64 x] v fun e w' => e = .returned (.agg #[.float .f64 0, .float .f64 (dep x), .float .f64 (dep x), .bool true]) ∧ Held w w2 (two (w.heap.size + 1) (w.heap.size + 1 + 1)) w') :=
    Lib.hid fun v h => (K1a.out v (HN.out.below h.bel) (HP.out.below h.bel)).mono fun _ _ ⟨a, b⟩ => ⟨a, h.call b⟩
  have K2 : Hid (∀ v, Held w w2 (two (w.heap.size + 1) (w.heap.size + 1 + 1)) v → Calls Tryz.prog 151 #[.pointer (some ⟨T.g, 0, none⟩), seaV bB bW bT bS, .int .i64 y] v fun e w' => e = .returned (.agg #[.float .f64 0, .float .f64 (dep y), .float .f64 (dep y), .bool true]) ∧ Held w w2 (two (w.heap.size + 1) (w.heap.size + 1 + 1)) w') :=
    Lib.hid fun v h => (K2a.out v (HN.out.below h.bel) (HP.out.below h.bel)).mono fun _ _ ⟨a, b⟩ => ⟨a, h.call b⟩
  have h0 : Held w w2 (two (w.heap.size + 1) (w.heap.size + 1 + 1)) w2 := Held.start _ hV2
  clear hA1 hE1 hB1 hB2 hd1 hf1 hV1 hV2 hz1 hz1b hz1c s1 K1a K2a KE KF HN HP
  go_region_held3 (fun v => v.cell? ⟨w.heap.size, 0, none⟩ = some (.slice (some ⟨bB, 0, none⟩) 6 6) ∧ v.cell? ⟨w.heap.size, 1, none⟩ = some (.slice (some ⟨bW, 0, none⟩) 6 6) ∧ v.cell? ⟨w.heap.size, 2, none⟩ = some (.slice (some ⟨bT, 0, none⟩) 6 6) ∧ v.cell? ⟨w.heap.size, 3, none⟩ = some (.slice (some ⟨bS, 0, none⟩) 12 12) ∧ v.cell? ⟨w.heap.size, 4, none⟩ = some (.int .i64 0) ∧ v.cell? ⟨w.heap.size, 5, none⟩ = some (.int .i64 0) ∧ v.cell? ⟨w1.heap.size, 0, none⟩ = some (.int .i64 x) ∧ v.cell? ⟨w1.heap.size, 2, none⟩ = some (.int .i64 y) ∧ v.cell? ⟨w.heap.size + 1, 0, none⟩ = some (heldV v ⟨w.heap.size + 1, 0, none⟩) ∧ v.frozen? ⟨w.heap.size + 1, 0, none⟩ = false ∧ v.cell? ⟨w.heap.size + 1, 1, none⟩ = some (heldV v ⟨w.heap.size + 1, 1, none⟩) ∧ v.frozen? ⟨w.heap.size + 1, 1, none⟩ = false ∧ v.cell? ⟨w.heap.size + 1, 2, none⟩ = some (heldV v ⟨w.heap.size + 1, 2, none⟩) ∧ v.frozen? ⟨w.heap.size + 1, 2, none⟩ = false ∧ v.cell? ⟨w.heap.size + 1, 3, none⟩ = some (heldV v ⟨w.heap.size + 1, 3, none⟩) ∧ v.frozen? ⟨w.heap.size + 1, 3, none⟩ = false ∧ v.cell? ⟨w.heap.size + 1 + 1, 0, none⟩ = some (heldV v ⟨w.heap.size + 1 + 1, 0, none⟩) ∧ v.frozen? ⟨w.heap.size + 1 + 1, 0, none⟩ = false ∧ v.cell? ⟨w.heap.size + 1 + 1, 1, none⟩ = some (heldV v ⟨w.heap.size + 1 + 1, 1, none⟩) ∧ v.frozen? ⟨w.heap.size + 1 + 1, 1, none⟩ = false ∧ v.cell? ⟨w.heap.size + 1 + 1, 2, none⟩ = some (heldV v ⟨w.heap.size + 1 + 1, 2, none⟩) ∧ v.frozen? ⟨w.heap.size + 1 + 1, 2, none⟩ = false ∧ v.cell? ⟨w.heap.size + 1 + 1, 3, none⟩ = some (heldV v ⟨w.heap.size + 1 + 1, 3, none⟩) ∧ v.frozen? ⟨w.heap.size + 1 + 1, 3, none⟩ = false ∧ Held w w2 (two (w.heap.size + 1) (w.heap.size + 1 + 1)) v)
    ((refine KEEP.out _ ?_; repeat (first | with_reducible assumption | with_reducible exact Held.draw (by with_reducible assumption) | with_reducible refine (ST.out _ _ _ ?_).1 | with_reducible refine (ST.out _ _ _ ?_).2)))
    (first | (go_at_call 151; ((with_reducible refine (K1.out _ (by first | with_reducible assumption | with_reducible exact Held.draw (by with_reducible assumption))).mono ?_)); rintro e w3 ⟨rfl, hH3⟩) | (go_at_call 151; ((with_reducible refine (K2.out _ (by first | with_reducible assumption | with_reducible exact Held.draw (by with_reducible assumption))).mono ?_)); rintro e w3 ⟨rfl, hH3⟩))
  all_goals
    have H3 := Lib.hid hH3
    have H3b := hH3.bel
    obtain ⟨-, -, -, -, -, -, -, -, d0, -, d1, -, d2, -, d3, -, d4, -, d5, -, d6, -, d7, -, -⟩ := KEEP.out _ hH3
    have D := Lib.hid (⟨d0, d1, d2, d3, d4, d5, d6, d7, H3b⟩ : _ ∧ _ ∧ _ ∧ _ ∧ _ ∧ _ ∧ _ ∧ _ ∧ _)
    clear d0 d1 d2 d3 d4 d5 d6 d7 H3b hH3 KEEP ST K1 K2 f1 f2 c1 c2 h0
    go_wp2
    obtain ⟨d0, d1, d2, d3, d4, d5, d6, d7, hb⟩ := D.out
    exact bodyPost_ret (v := .tuple #[.agg #[.float .f64 0, .float .f64 (dep x), .float .f64 (dep x), .bool true], .agg #[.float .f64 0, .float .f64 (dep y), .float .f64 (dep y), .bool true], .bool true]) (by simp [results, Tryz.results126, go_sem, d0, d1, d2, d3, d4, d5, d6, d7]) rfl ⟨rfl, by (repeat' (first | with_reducible assumption | with_reducible exact Nat.le_refl _ | with_reducible refine Below.setCell ?_ ?_ _ | with_reducible refine Below.drew ?_ | with_reducible refine Below.alloc ?_ ?_ _ | with_reducible exact Below.refl _ _ | omega | (simp; done) | (simp; omega)))⟩
end Go.Proofs.YtkjjecghbhppgaaGreatDoor
/- Flows: quanta over one edge; the slope that is none; the depth of a cell. -/
namespace Go.Proofs.YtkjjecghbhppgaaGreatDoor
open Go Go.RowKit Go.Maps TF

attribute [local go_sem] cmp_eq cmp_ne cmp_lt cmp_gt cmp_le cmp_ge run_store_float
set_option maxRecDepth 100000
set_option maxHeartbeats 4000000
theorem quanta_gen {u d x1 x2 x3 x4 : Nat} {q : Int} (f1 : floatBits .mul .f64 u d = some x1) (f2 : floatBits .mul .f64 x1 4607879128087016221 = some x2) (f3 : floatBits .mul .f64 x2 4602678819172646912 = some x3) (f4 : floatBits .mul .f64 x3 4742290407621132288 = some x4)
    (hq : clampI x4 4503599627370496 = q) (h64 : W64 x4) (w : World) :
    Calls Tryz.prog 99 #[.float .f64 u, .float .f64 d, .float .f64 4607879128087016221, .float .f64 4602678819172646912] w fun e w' => e = .returned (.int .i64 q) ∧ w' = w := by
  have k1 := run_valid (P := Tryz.prog) 35 f1
  have k2 := run_valid (P := Tryz.prog) 35 f2
  have k3 := run_valid (P := Tryz.prog) 35 f3
  have k4 := run_valid (P := Tryz.prog) 35 f4
  have hc := fun w => clamp_any x4 4503599627370496 h64 (by omega) w
  rw [hq] at hc
  have KC := Lib.hid hc
  clear hc hq h64 f1 f2 f3 f4
  go_enter Tryz.func99, Tryz.ntmps99
  go_wp2_with (first | (go_at_call 128; ((with_reducible refine (KC.out _).mono ?_)); rintro e w' ⟨rfl, rfl⟩))
  go_ret
  exact ⟨rfl, rfl⟩
/-- depths over the edges -/
def dpe (k : Nat) : Nat := if k < 4 then 4607186816845480960 else 0
theorem quanta_1 (k : Nat) (w : World) : Calls Tryz.prog 99 #[.float .f64 (spd k), .float .f64 (dpe k), .float .f64 4607879128087016221, .float .f64 4602678819172646912] w fun e w' => e = .returned (.int .i64 (flo k)) ∧ w' = w := by
  by_cases h : k < 4
  · rw [show spd k = 4555004673799709393 from if_pos h, show dpe k = 4607186816845480960 from if_pos h, show flo k = 214249 from if_pos h]
    exact quanta_gen f_a1 f_a2 f_a3 f_a4 clamp1 (by unfold W64; decide) w
  · rw [show spd k = 0 from if_neg h, show dpe k = 0 from if_neg h, show flo k = 0 from if_neg h]
    exact quanta_gen f_d0 f_b2 f_dg f_b4 clamp0 (by unfold W64; decide) w
/-- The table of limiters, laid anew. -/
def limTable : Obj := Obj.cells #[Value.func (Fn.func 162) #[] #[], Value.func (Fn.func 134) #[] #[], Value.func (Fn.func 163) #[] #[], Value.func (Fn.func 164) #[] #[]] 203
theorem limiters_any (w : World) :
    Calls Tryz.prog 152 #[] w fun e w' => e = .returned (.slice (some ⟨w.heap.size, 0, none⟩) 4 4) ∧ w.alloc limTable = w' := by
  go_enter Tryz.func152, Tryz.ntmps152
  go_wp2_with fail
  go_ret
  exact ⟨rfl, rfl⟩
theorem lim_cell (w : World) : (w.alloc limTable).cell? ⟨w.heap.size, 0, none⟩ = some (Value.func (Fn.func 162) #[] #[]) := by
  unfold limTable; simp
theorem slope_none {x y : Nat} (h0 : ltW 0 x = true) (h1 : ltW 0 y = false) (h2 : ltW x 0 = false) (w : World) :
    Calls Tryz.prog 131 #[.int .i64 0, .float .f64 x, .float .f64 y] w fun e w' => e = .returned (.float .f64 0) ∧ Below w.heap.size w w' := by
  have d0 := lim_cell w
  go_enter Tryz.func131, Tryz.ntmps131
  go_wp2_with (first | (go_at_call 93; ((with_reducible refine (valid_zero _).mono ?_)); rintro e w' ⟨rfl, rfl⟩) | (go_at_call 152; ((with_reducible refine (limiters_any _).mono ?_)); rintro e w' ⟨rfl, rfl⟩))
  go_ret
  exact ⟨rfl, (Below.refl _ _).alloc (Nat.le_refl _) _⟩
/-- the closure that reckons a cell's depth -/
theorem depthc_ok {bB bW bT bS : Nat} {sp : Nat → Nat} {T : NetT} (c : Nat) (hc : c < 6) (bg bs : Nat) (w : World) (hN : Net 1 T w) (hP : Pond bB bW bT bS sp w) (hg : w.cell? ⟨bg, 0, none⟩ = some (.pointer (some ⟨T.g, 0, none⟩))) (hs : w.cell? ⟨bs, 1, none⟩ = some (.slice (some ⟨bW, 0, none⟩) 6 6)) :
    Calls Tryz.prog 130 #[.int .i64 c, .pointer (some ⟨bs, 0, none⟩), .pointer (some ⟨bg, 0, none⟩)] w fun e w' => e = .returned (.float .f64 (dep c)) ∧ Below w.heap.size w w' := by
  have pW := hP.wat c hc
  have KA := Lib.hid (area_1 c hc w.drew (hN.below (Below.refl _ _).drew))
  have KD := Lib.hid (depth_1 c hc)
  have hi0 : (0 : Int) ≤ (c : Int) := by omega
  have hi1 : (c : Int) < 6 := by omega
  have hi2 : (c : Int).toNat = c := by omega
  clear hN hP
  go_enter Tryz.func130, Tryz.ntmps130
  go_wp2
  refine wp_region_still_lit (by kernel_rfl) (by kernel_rfl) ?_
  repeat (first | still_step | still_call (KA.out) | still_call (KD.out _))
  refine wpStill_nil ?_
  change Exit.then _ _ _ _ (World.drew w)
  have HB : Hid (Below w.heap.size w w.drew) := Lib.hid (Below.refl _ _).drew
  clear pW KA hg hs
  generalize World.drew w = w2 at HB ⊢
  go_wp2
  go_ret
  exact ⟨rfl, HB.out⟩
end Go.Proofs.YtkjjecghbhppgaaGreatDoor
