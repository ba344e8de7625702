/- Laid together: TopG, TopH. -/
import Derived.Test.YtkjjecghbhppgaaGreatDoorKTopP
import Derived.Test.YtkjjecghbhppgaaGreatDoorK13
import Derived.Test.YtkjjecghbhppgaaGreatDoorK05
/- Points, lengths and areas on the sphere. -/
namespace Go.Proofs.YtkjjecghbhppgaaGreatDoor
open Go.RowKit TF

attribute [local go_sem] cmp_eq cmp_ne cmp_lt cmp_gt cmp_le cmp_ge run_store_float

theorem ratio_any (n : Nat) (k : Int) (h1 : 1 ≤ n) (h2 : n ≤ 32) (hk : k.natAbs ≤ n) (w : World) :
    Calls Tryz.prog 50 #[.int .i64 k, .int .i64 n] w fun e w' => e = .returned (.float .f64 (rt k n)) ∧ w = w' := by
  have k1 := run_valid (P := Tryz.prog) 35 (rt_is h1 h2 hk).run
  clear h1 h2 hk
  go_enter Tryz.func50, Tryz.ntmps50
  go_wp2_with fail
  go_ret
  exact ⟨rfl, rfl⟩

theorem point_vc (n f : Nat) (k l : Int) (h1 : 1 ≤ n) (h2 : n ≤ 32) (hf : f < 6) (hk : k.natAbs ≤ n) (hl : l.natAbs ≤ n) (w : World) (hG : FrG w) :
    Calls Tryz.prog 49 #[.int .i64 f, .float .f64 (rt k n), .float .f64 (rt l n)] w fun e w' =>
      e = .returned (.agg #[.float .f64 (VX n (PT n f k l 0) (PT n f k l 1) (PT n f k l 2)), .float .f64 (VY n (PT n f k l 0) (PT n f k l 1) (PT n f k l 2)), .float .f64 (VZ n (PT n f k l 0) (PT n f k l 1) (PT n f k l 2))]) ∧ Below w.heap.size w w' := by
  have e0 := xv_is (a := 0) h1 h2 hf (by omega) hk hl
  have e1 := xv_is (a := 1) h1 h2 hf (by omega) hk hl
  have e2 := xv_is (a := 2) h1 h2 hf (by omega) hk hl
  obtain ⟨l1, l2⟩ := LN_mid (pt_sf h1 h2 hf hk hl)
  have q1 := CLO_eq
  have q2 := CHI_eq
  have h := point_any f hf (rt k n) (rt l n) (LN n (PT n f k l 0) (PT n f k l 1) (PT n f k l 2)) (rt_fw h1 h2 hk) (rt_fw h1 h2 hl) (by rw [e0, e1, e2]; rfl) (by omega) (by omega) w hG
  rw [e0, e1, e2] at h
  exact h

theorem two_sub (n : Nat) (i : Int) (h2 : n ≤ 32) (i0 : 0 ≤ i) (i1 : i ≤ n) : IntKind.i64.wrap (2 * i) = 2 * i ∧ IntKind.i64.wrap (2 * i - n) = 2 * i - n := by
  constructor <;> (rw [IntKind.wrap_i64] <;> omega)

theorem corner_any (n f : Nat) (i j : Int) (h1 : 1 ≤ n) (h2 : n ≤ 32) (hf : f < 6) (i0 : 0 ≤ i) (i1 : i ≤ n) (j0 : 0 ≤ j) (j1 : j ≤ n) (w : World) (hG : FrG w) :
    Calls Tryz.prog 48 #[.int .i64 n, .int .i64 f, .int .i64 i, .int .i64 j] w fun e w' =>
      e = .returned (.tuple #[.agg #[.float .f64 (CX n f i j), .float .f64 (CY n f i j), .float .f64 (CZ n f i j)], .bool true]) ∧ Below w.heap.size w w' := by
  have KP := Lib.hid (point_vc n f (2 * i - n) (2 * j - n) h1 h2 hf (by omega) (by omega))
  have hr1 := Lib.hid (ratio_any n (2 * i - n) h1 h2 (by omega))
  have hr2 := Lib.hid (ratio_any n (2 * j - n) h1 h2 (by omega))
  have hcl := fun w => cells_any (n : Int) w
  have hg : goodB (n : Int) = true := good_of (by omega) (by omega)
  have hc6 : cellsI (n : Int) = 6 * n * n := by unfold cellsI; rw [if_pos hg]
  obtain ⟨C, hC⟩ : ∃ C, cellsI (n : Int) = C := ⟨_, rfl⟩
  have hC0 : (C == 0) = false := by
    rw [← hC, hc6, six_sq]
    have := (sq_le (n := (n : Int)) (by omega) (by omega)).1
    rw [beq_eq_false_iff_ne]; omega
  rw [hC] at hcl
  obtain ⟨w1, w2⟩ := two_sub n i h2 i0 i1
  obtain ⟨w3, w4⟩ := two_sub n j h2 j0 j1
  obtain ⟨N, hN⟩ : ∃ N : Int, N = n := ⟨_, rfl⟩
  obtain ⟨F, hF⟩ : ∃ F : Int, F = f := ⟨_, rfl⟩
  rw [← hN] at i1 j1 w2 w4 hr1 hr2 hcl ⊢
  have KC := Lib.hid hcl
  rw [← hF] at KP ⊢
  have hF0 : 0 ≤ F := by omega
  have hF5 : F ≤ 5 := by omega
  unfold CX CY CZ
  generalize hx : VX n (PT n f (2 * i - n) (2 * j - n) 0) (PT n f (2 * i - n) (2 * j - n) 1) (PT n f (2 * i - n) (2 * j - n) 2) = x at KP ⊢
  generalize hy : VY n (PT n f (2 * i - n) (2 * j - n) 0) (PT n f (2 * i - n) (2 * j - n) 1) (PT n f (2 * i - n) (2 * j - n) 2) = y at KP ⊢
  generalize hz : VZ n (PT n f (2 * i - n) (2 * j - n) 0) (PT n f (2 * i - n) (2 * j - n) 1) (PT n f (2 * i - n) (2 * j - n) 2) = z at KP ⊢
  rw [← hN] at KP
  generalize rt (2 * i - N) N = p at hr1 KP
  generalize rt (2 * j - N) N = q at hr2 KP
  have HG := Lib.hid hG
  clear hx hy hz hg hc6 hC hN hF hcl hG h1 h2 hf
  have d1 : decide (F < 0) = false := decide_eq_false (by omega)
  have d2 : decide (5 < F) = false := decide_eq_false (by omega)
  have d3 : decide (i < 0) = false := decide_eq_false (by omega)
  have d4 : decide (N < i) = false := decide_eq_false (by omega)
  have d5 : decide (j < 0) = false := decide_eq_false (by omega)
  have d6 : decide (N < j) = false := decide_eq_false (by omega)
  go_enter Tryz.func48, Tryz.ntmps48
  go_wp2_with (first | (go_at_call 21; ((with_reducible refine (KC.out _).mono ?_)); rintro e w3 ⟨rfl, rfl⟩) | (go_at_call 50; ((with_reducible refine (hr1.out _).mono ?_)); rintro e w3 ⟨rfl, rfl⟩) | (go_at_call 50; ((with_reducible refine (hr2.out _).mono ?_)); rintro e w3 ⟨rfl, rfl⟩) | (go_at_call 49; ((with_reducible refine (KP.out _ (HG.out.below (by first | with_reducible assumption | exact (Below.refl _ _).alloc (Nat.le_refl _) _))).mono ?_)); rintro e w3 ⟨rfl, hB3⟩; obtain ⟨hd, hg⟩ := bcell hB3))
  exact bodyPost_ret (v := .tuple #[.agg #[.float .f64 x, .float .f64 y, .float .f64 z], .bool true]) (by simp [results, Tryz.results48, go_sem, hd]) rfl ⟨rfl, (((up1 _ hB3).setCell (Nat.le_refl _) _).setCell (Nat.le_refl _) _).setCell (Nat.le_refl _) _⟩

theorem mid_sub (n : Nat) (i : Int) (h2 : n ≤ 32) (i0 : 0 ≤ i) (i1 : i ≤ n) : IntKind.i64.wrap (2 * i) = 2 * i ∧ IntKind.i64.wrap (2 * i + 1) = 2 * i + 1 ∧ IntKind.i64.wrap (2 * i + 1 - n) = 2 * i + 1 - n := by
  refine ⟨?_, ?_, ?_⟩ <;> (rw [IntKind.wrap_i64] <;> omega)

/-- where a cell lies -/
theorem tplace_ok {n : Nat} {i j : Int} {f : Nat} (h : On n f i j) (w : World) :
    Calls Tryz.prog 40 #[.int .i64 n, .int .i64 (cellN n f i j)] w fun e w' => e = .returned (.tuple #[.int .i64 f, .int .i64 i, .int .i64 j, .bool true]) ∧ Below w.heap.size w w' := place_at n _ i j f h.place w

theorem gmiddle_any (n f : Nat) (i j : Int) (h : On n f i j) (w : World) (hG : FrG w) :
    Calls Tryz.prog 28 #[.int .i64 n, .int .i64 (cellN n f i j)] w fun e w' =>
      e = .returned (.tuple #[.agg #[.float .f64 (MX n f i j), .float .f64 (MY n f i j), .float .f64 (MZ n f i j)], .bool true]) ∧ Below w.heap.size w w' := by
  obtain ⟨hf, g1, g2, i0, i1, j0, j1⟩ := (⟨h.f6, h.n1, h.n32, h.i0, h.i1, h.j0, h.j1⟩ : f < 6 ∧ 1 ≤ (n : Int) ∧ (n : Int) ≤ 32 ∧ 0 ≤ i ∧ i < n ∧ 0 ≤ j ∧ j < n)
  have h1 : 1 ≤ n := by omega
  have h2 : n ≤ 32 := by omega
  have KP := Lib.hid (point_vc n f (2 * i + 1 - n) (2 * j + 1 - n) h1 h2 hf (by omega) (by omega))
  have hr1 := Lib.hid (ratio_any n (2 * i + 1 - n) h1 h2 (by omega))
  have hr2 := Lib.hid (ratio_any n (2 * j + 1 - n) h1 h2 (by omega))
  have hpl := fun w => tplace_ok h w
  obtain ⟨w1, w1', w2⟩ := mid_sub n i h2 i0 (by omega)
  obtain ⟨w3, w3', w4⟩ := mid_sub n j h2 j0 (by omega)
  obtain ⟨N, hN⟩ : ∃ N : Int, N = n := ⟨_, rfl⟩
  obtain ⟨F, hF⟩ : ∃ F : Int, F = f := ⟨_, rfl⟩
  obtain ⟨C, hC⟩ : ∃ C : Int, C = cellN n f i j := ⟨_, rfl⟩
  rw [← hC] at hpl ⊢
  rw [← hF] at hpl KP
  rw [← hN] at w2 w4 hr1 hr2 hpl ⊢
  have KL := Lib.hid hpl
  unfold MX MY MZ
  generalize hx : VX n (PT n f (2 * i + 1 - n) (2 * j + 1 - n) 0) (PT n f (2 * i + 1 - n) (2 * j + 1 - n) 1) (PT n f (2 * i + 1 - n) (2 * j + 1 - n) 2) = x at KP ⊢
  generalize hy : VY n (PT n f (2 * i + 1 - n) (2 * j + 1 - n) 0) (PT n f (2 * i + 1 - n) (2 * j + 1 - n) 1) (PT n f (2 * i + 1 - n) (2 * j + 1 - n) 2) = y at KP ⊢
  generalize hz : VZ n (PT n f (2 * i + 1 - n) (2 * j + 1 - n) 0) (PT n f (2 * i + 1 - n) (2 * j + 1 - n) 1) (PT n f (2 * i + 1 - n) (2 * j + 1 - n) 2) = z at KP ⊢
  rw [← hN] at KP
  generalize rt (2 * i + 1 - N) N = p at hr1 KP
  generalize rt (2 * j + 1 - N) N = q at hr2 KP
  have HG := Lib.hid hG
  clear hx hy hz hC hN hF hpl h h1 h2 hf g1 g2 i0 i1 j0 j1
  go_enter Tryz.func28, Tryz.ntmps28
  go_wp2_with (first | (go_at_call 40; ((with_reducible refine (KL.out _).mono ?_)); rintro e w4 ⟨rfl, hB4⟩; obtain ⟨ha, hb⟩ := bcell hB4; have hz4 : w.heap.size < w4.heap.size := (by have := hB4.size; simp at this; omega); have hW4 := up1 _ hB4) | (go_at_call 50; ((with_reducible refine (hr1.out _).mono ?_)); rintro e w3 ⟨rfl, rfl⟩) | (go_at_call 50; ((with_reducible refine (hr2.out _).mono ?_)); rintro e w3 ⟨rfl, rfl⟩) | (go_at_call 49; ((with_reducible refine (KP.out _ (HG.out.below (by with_reducible assumption))).mono ?_)); rintro e w3 ⟨rfl, hB3⟩; obtain ⟨hd, hg⟩ := bcell hB3))
  exact bodyPost_ret (v := .tuple #[.agg #[.float .f64 x, .float .f64 y, .float .f64 z], .bool true]) (by simp [results, Tryz.results28, go_sem, hd, ha, hz4]) rfl ⟨rfl, (((hW4.trans (hB3.mono hW4.size)).setCell (Nat.le_refl _) _).setCell (Nat.le_refl _) _).setCell (Nat.le_refl _) _⟩
end Go.Proofs.YtkjjecghbhppgaaGreatDoor
/- A cell's corners. -/
namespace Go.Proofs.YtkjjecghbhppgaaGreatDoor
open Go.RowKit TF

attribute [local go_sem] cmp_eq cmp_ne cmp_lt cmp_gt cmp_le cmp_ge run_store_float

/-- Twelve floats in a block that may be written. -/
def Row12 (w : World) (b : Nat) (c : Nat → Nat) : Prop := ∀ j < 12, w.cell? ⟨b, j, none⟩ = some (.float .f64 (c j)) ∧ w.frozen? ⟨b, j, none⟩ = false
def fupd (c : Nat → Nat) (k v : Nat) : Nat → Nat := fun j => if j = k then v else c j
theorem Row12.lt {w : World} {b : Nat} {c : Nat → Nat} (h : Row12 w b c) : b < w.heap.size := lt_of_cell (h 0 (by omega)).1
theorem Row12.below {w w1 : World} {b : Nat} {c : Nat → Nat} (h : Row12 w b c) (hB : Below w.heap.size w w1) : Row12 w1 b c := fun j hj =>
  ⟨(hB.cell (p := ⟨b, j, none⟩) h.lt).trans (h j hj).1, (hB.frozen (p := ⟨b, j, none⟩) h.lt).trans (h j hj).2⟩
theorem Row12.put {w : World} {b : Nat} {c : Nat → Nat} (h : Row12 w b c) {k : Nat} (hk : k < 12) (v : Nat) : Row12 (w.setCell ⟨b, k, none⟩ (.float .f64 v)) b (fupd c k v) := fun j hj => by
  have hs := (h k hk).1
  unfold fupd
  by_cases e : j = k
  · subst e; rw [if_pos rfl]
    exact ⟨by simp [go_sem, hs], by simp [go_sem, (h j hj).2]⟩
  · rw [if_neg e]
    have _e : k ≠ j := fun x => e x.symm
    exact ⟨by simp [go_sem, (h j hj).1], by simp [go_sem, (h j hj).2]⟩
theorem Row12.far {w : World} {b b' k : Nat} {c : Nat → Nat} (h : Row12 w b c) (hb : b' ≠ b) (v : Value) : Row12 (w.setCell ⟨b', k, none⟩ v) b c := fun j hj =>
  ⟨(World.cell?_setCell_far _ _ _ _ hb).trans (h j hj).1, by simp [go_sem, (h j hj).2]⟩
theorem Row12.put3 {w : World} {b : Nat} {c : Nat → Nat} (h : Row12 w b c) {k : Nat} (hk : k + 2 < 12) (x y z : Nat) :
    Row12 (((w.setCell ⟨b, k, none⟩ (.float .f64 x)).setCell ⟨b, k + 1, none⟩ (.float .f64 y)).setCell ⟨b, k + 2, none⟩ (.float .f64 z)) b (fupd (fupd (fupd c k x) (k + 1) y) (k + 2) z) :=
  ((h.put (by omega) x).put (by omega) y).put hk z

/-- The corners' numbers, as far as they are laid. -/
def co (n f : Nat) (i j : Int) (m : Nat) : Nat → Nat := fun k =>
  if 3 * m ≤ k then 0 else
  [CX n f i j, CY n f i j, CZ n f i j, CX n f (i + 1) j, CY n f (i + 1) j, CZ n f (i + 1) j, CX n f (i + 1) (j + 1), CY n f (i + 1) (j + 1), CZ n f (i + 1) (j + 1), CX n f i (j + 1), CY n f i (j + 1), CZ n f i (j + 1)].getD k 0
structure CoS (n f : Nat) (i j : Int) (w : World) (m : Nat) (wr : World) : Prop where
  bel : Below w.heap.size w wr
  sz : w.heap.size < wr.heap.size
  res : Row12 wr w.heap.size (fun _ => 0)
  row : ∃ b, w.heap.size < b ∧ Row12 wr b (co n f i j m)

theorem CoS.next {n f : Nat} {i j : Int} {w wr w3 : World} {b m : Nat} (hB : Below w.heap.size w wr) (hr : Row12 wr w.heap.size (fun _ => 0)) (hc : Row12 wr b (co n f i j m)) (hb : w.heap.size < b) (hm : m < 4)
    (hB3 : Below wr.heap.size wr w3) (x y z : Nat) (hx : co n f i j (m + 1) (3 * m) = x) (hy : co n f i j (m + 1) (3 * m + 1) = y) (hz : co n f i j (m + 1) (3 * m + 2) = z) :
    Below w.heap.size w (((w3.setCell ⟨b, 3 * m, none⟩ (.float .f64 x)).setCell ⟨b, 3 * m + 1, none⟩ (.float .f64 y)).setCell ⟨b, 3 * m + 2, none⟩ (.float .f64 z)) ∧
    Row12 (((w3.setCell ⟨b, 3 * m, none⟩ (.float .f64 x)).setCell ⟨b, 3 * m + 1, none⟩ (.float .f64 y)).setCell ⟨b, 3 * m + 2, none⟩ (.float .f64 z)) w.heap.size (fun _ => 0) ∧
    Row12 (((w3.setCell ⟨b, 3 * m, none⟩ (.float .f64 x)).setCell ⟨b, 3 * m + 1, none⟩ (.float .f64 y)).setCell ⟨b, 3 * m + 2, none⟩ (.float .f64 z)) b (co n f i j (m + 1)) := by
  have hle : w.heap.size ≤ b := Nat.le_of_lt hb
  refine ⟨(((hB.trans (hB3.mono hB.size)).setCell hle _).setCell hle _).setCell hle _, (((hr.below hB3).far (by omega) _).far (by omega) _).far (by omega) _, ?_⟩
  have h := (hc.below hB3).put3 (k := 3 * m) (by omega) x y z
  have e : fupd (fupd (fupd (co n f i j m) (3 * m) x) (3 * m + 1) y) (3 * m + 2) z = co n f i j (m + 1) := by
    funext k
    unfold fupd
    by_cases h2 : k = 3 * m + 2
    · rw [if_pos h2, h2, hz]
    · rw [if_neg h2]
      by_cases h1 : k = 3 * m + 1
      · rw [if_pos h1, h1, hy]
      · rw [if_neg h1]
        by_cases h0 : k = 3 * m
        · rw [if_pos h0, h0, hx]
        · rw [if_neg h0]
          unfold co
          by_cases hk : 3 * m ≤ k
          · rw [if_pos hk, if_pos (by omega)]
          · rw [if_neg hk, if_neg (by omega)]
  rwa [e] at h

theorem row12_new (w : World) (t : TypeId) : Row12 (w.alloc (.cells (Array.replicate 12 (.float .f64 0)) t)) w.heap.size (fun _ => 0) := by
  intro j hj
  have : j = 0 ∨ j = 1 ∨ j = 2 ∨ j = 3 ∨ j = 4 ∨ j = 5 ∨ j = 6 ∨ j = 7 ∨ j = 8 ∨ j = 9 ∨ j = 10 ∨ j = 11 := by omega
  rcases this with rfl | rfl | rfl | rfl | rfl | rfl | rfl | rfl | rfl | rfl | rfl | rfl <;> exact ⟨by simp [go_sem], by simp [go_sem]⟩

def CoR (n f : Nat) (i j : Int) (w : World) (b m : Nat) (wr : World) : Prop := Below w.heap.size w wr ∧ Row12 wr w.heap.size (fun _ => 0) ∧ Row12 wr b (co n f i j m)

set_option maxRecDepth 100000 in
set_option maxHeartbeats 8000000 in
theorem corners_any (n f : Nat) (i j : Int) (h : On n f i j) (w : World) (hG : FrG w) :
    Calls Tryz.prog 26 #[.int .i64 n, .int .i64 (cellN n f i j)] w fun e w' =>
      e = .returned (.tuple #[.agg #[.float .f64 (CX n f i j), .float .f64 (CY n f i j), .float .f64 (CZ n f i j), .float .f64 (CX n f (i + 1) j), .float .f64 (CY n f (i + 1) j), .float .f64 (CZ n f (i + 1) j),
        .float .f64 (CX n f (i + 1) (j + 1)), .float .f64 (CY n f (i + 1) (j + 1)), .float .f64 (CZ n f (i + 1) (j + 1)), .float .f64 (CX n f i (j + 1)), .float .f64 (CY n f i (j + 1)), .float .f64 (CZ n f i (j + 1))], .bool true]) ∧ Below w.heap.size w w' := by
  obtain ⟨hf, g1, g2, i0, i1, j0, j1⟩ := (⟨h.f6, h.n1, h.n32, h.i0, h.i1, h.j0, h.j1⟩ : f < 6 ∧ 1 ≤ (n : Int) ∧ (n : Int) ≤ 32 ∧ 0 ≤ i ∧ i < n ∧ 0 ≤ j ∧ j < n)
  have h1 : 1 ≤ n := by omega
  have h2 : n ≤ 32 := by omega
  have hpl := fun w => tplace_ok h w
  have wi : IntKind.i64.wrap (i + 1) = i + 1 := by rw [IntKind.wrap_i64] <;> omega
  have wi0 : IntKind.i64.wrap i = i := by rw [IntKind.wrap_i64] <;> omega
  have wj0 : IntKind.i64.wrap j = j := by rw [IntKind.wrap_i64] <;> omega
  have wj : IntKind.i64.wrap (j + 1) = j + 1 := by rw [IntKind.wrap_i64] <;> omega
  have hr0 := fun w => corner_any n f i j h1 h2 hf i0 (by omega) j0 (by omega) w
  have hr1 := fun w => corner_any n f (i + 1) j h1 h2 hf (by omega) (by omega) j0 (by omega) w
  have hr2 := fun w => corner_any n f (i + 1) (j + 1) h1 h2 hf (by omega) (by omega) (by omega) (by omega) w
  have hr3 := fun w => corner_any n f i (j + 1) h1 h2 hf i0 (by omega) (by omega) (by omega) w
  obtain ⟨N, hN⟩ : ∃ N : Int, N = n := ⟨_, rfl⟩
  obtain ⟨F, hF⟩ : ∃ F : Int, F = f := ⟨_, rfl⟩
  obtain ⟨C, hC⟩ : ∃ C : Int, C = cellN n f i j := ⟨_, rfl⟩
  rw [← hC] at hpl ⊢
  rw [← hF] at hpl hr0 hr1 hr2 hr3
  rw [← hN] at hpl hr0 hr1 hr2 hr3 ⊢
  have KL := Lib.hid hpl
  have K0 := Lib.hid hr0
  have K1 := Lib.hid hr1
  have K2 := Lib.hid hr2
  have K3 := Lib.hid hr3
  have HG := Lib.hid hG
  clear hr0 hr1 hr2 hr3 hpl hC hN hF h h1 h2 hf g1 g2 i0 i1 j0 j1 hG
  go_enter Tryz.func26, Tryz.ntmps26
  go_upto_region 4 with (first | (go_at_call 40; ((with_reducible refine (KL.out _).mono ?_)); rintro e w4 ⟨rfl, hB4⟩))
  have hW4 := up1 _ hB4
  have hZ0 : Row12 (w.alloc (.cells (Array.replicate 12 (.float .f64 0)) 70)) w.heap.size (fun _ => 0) := row12_new _ _
  have hZ4 := hZ0.below hB4
  have hblt : w.heap.size < w4.heap.size := by have := hB4.size; simp at this; omega
  have hP4 : Row12 (w4.alloc (.cells (Array.replicate 12 (.float .f64 0)) 70)) w4.heap.size (co n f i j 0) := by
    have := row12_new w4 70
    rwa [show (fun _ => 0 : Nat → Nat) = co n f i j 0 from by funext k; unfold co; rw [if_pos (by omega)]] at this
  have hB5 : Below w.heap.size w (w4.alloc (.cells (Array.replicate 12 (.float .f64 0)) 70)) := hW4.alloc hW4.size _
  have hZ5 := hZ4.below ((Below.refl w4.heap.size w4).alloc (Nat.le_refl _) (.cells (Array.replicate 12 (.float .f64 0)) 70))
  obtain ⟨b, hb⟩ : ∃ b, b = w4.heap.size := ⟨_, rfl⟩
  have zz : (Array.replicate 12 (Value.float .f64 0)) = #[.float .f64 0, .float .f64 0, .float .f64 0, .float .f64 0, .float .f64 0, .float .f64 0, .float .f64 0, .float .f64 0, .float .f64 0, .float .f64 0, .float .f64 0, .float .f64 0] := rfl
  rw [zz] at hP4 hB5 hZ5
  rw [← hb] at hblt hP4
  have HS := Lib.hid (⟨hB5, hZ5, hP4⟩ : _ ∧ _ ∧ _)
  clear hB5 hZ5 hP4 hZ4 hZ0 hB4 zz hW4
  go_wp2_with fail
  rw [← hb]
  clear hb
  go_loopw [29] (fun c wr => (c = .int .i64 0 ∧ CoR n f i j w b 0 wr) ∨ (c = .int .i64 1 ∧ CoR n f i j w b 1 wr) ∨ (c = .int .i64 2 ∧ CoR n f i j w b 2 wr) ∨ (c = .int .i64 3 ∧ CoR n f i j w b 3 wr) ∨ (c = .int .i64 4 ∧ CoR n f i j w b 4 wr)) (fun c _ => 4 - (intOf c).toNat)
  case atStart => exact .inl ⟨rfl, HS.out⟩
  case round =>
    clear HS
    obtain ⟨rfl, hB, hr, hc⟩ | ⟨rfl, hB, hr, hc⟩ | ⟨rfl, hB, hr, hc⟩ | ⟨rfl, hB, hr, hc⟩ | ⟨rfl, hB, hr, hc⟩ := hrel
    · have hbr := hc.lt
      have ki : ∀ w : World, (Instr.index 73 (.agg #[.int .i64 0, .int .i64 0, .int .i64 1, .int .i64 0, .int .i64 1, .int .i64 1, .int .i64 0, .int .i64 1]) (.int .i64 0)).run Tryz.prog w = .ok (.agg #[.int .i64 0, .int .i64 0]) w := fun w => by kernel_rfl
      have HC := Lib.hid (⟨hB, hr, hc⟩ : _ ∧ _ ∧ _)
      clear hr hc
      go_wp2_with (first | (go_at_call 48; ((with_reducible refine (K0.out _ (HG.out.below (hB.alloc hB.size _))).mono ?_)); rintro e w3 ⟨rfl, hB3⟩; have hB4 := up1 _ hB3; have hc3 := HC.out.2.2.below hB4; obtain ⟨p0, q0⟩ := hc3 0 (by omega); obtain ⟨p1, q1⟩ := hc3 1 (by omega); obtain ⟨p2, q2⟩ := hc3 2 (by omega); clear hc3 hB3))
      have hN := CoS.next HC.out.1 HC.out.2.1 HC.out.2.2 hblt (by omega) hB4 (CX n f i j) (CY n f i j) (CZ n f i j) rfl rfl rfl
      go_roundw
      case rel => exact .inr (.inl ⟨rfl, hN⟩)
      case measure => simp [intOf]
    · have hbr := hc.lt
      have ki : ∀ w : World, (Instr.index 73 (.agg #[.int .i64 0, .int .i64 0, .int .i64 1, .int .i64 0, .int .i64 1, .int .i64 1, .int .i64 0, .int .i64 1]) (.int .i64 1)).run Tryz.prog w = .ok (.agg #[.int .i64 1, .int .i64 0]) w := fun w => by kernel_rfl
      have HC := Lib.hid (⟨hB, hr, hc⟩ : _ ∧ _ ∧ _)
      clear hr hc
      go_wp2_with (first | (go_at_call 48; ((with_reducible refine (K1.out _ (HG.out.below (hB.alloc hB.size _))).mono ?_)); rintro e w3 ⟨rfl, hB3⟩; have hB4 := up1 _ hB3; have hc3 := HC.out.2.2.below hB4; obtain ⟨p0, q0⟩ := hc3 3 (by omega); obtain ⟨p1, q1⟩ := hc3 4 (by omega); obtain ⟨p2, q2⟩ := hc3 5 (by omega); clear hc3 hB3))
      have hN := CoS.next HC.out.1 HC.out.2.1 HC.out.2.2 hblt (by omega) hB4 (CX n f (i + 1) j) (CY n f (i + 1) j) (CZ n f (i + 1) j) rfl rfl rfl
      go_roundw
      case rel => exact .inr (.inr (.inl ⟨rfl, hN⟩))
      case measure => simp [intOf]
    · have hbr := hc.lt
      have ki : ∀ w : World, (Instr.index 73 (.agg #[.int .i64 0, .int .i64 0, .int .i64 1, .int .i64 0, .int .i64 1, .int .i64 1, .int .i64 0, .int .i64 1]) (.int .i64 2)).run Tryz.prog w = .ok (.agg #[.int .i64 1, .int .i64 1]) w := fun w => by kernel_rfl
      have HC := Lib.hid (⟨hB, hr, hc⟩ : _ ∧ _ ∧ _)
      clear hr hc
      go_wp2_with (first | (go_at_call 48; ((with_reducible refine (K2.out _ (HG.out.below (hB.alloc hB.size _))).mono ?_)); rintro e w3 ⟨rfl, hB3⟩; have hB4 := up1 _ hB3; have hc3 := HC.out.2.2.below hB4; obtain ⟨p0, q0⟩ := hc3 6 (by omega); obtain ⟨p1, q1⟩ := hc3 7 (by omega); obtain ⟨p2, q2⟩ := hc3 8 (by omega); clear hc3 hB3))
      have hN := CoS.next HC.out.1 HC.out.2.1 HC.out.2.2 hblt (by omega) hB4 (CX n f (i + 1) (j + 1)) (CY n f (i + 1) (j + 1)) (CZ n f (i + 1) (j + 1)) rfl rfl rfl
      go_roundw
      case rel => exact .inr (.inr (.inr (.inl ⟨rfl, hN⟩)))
      case measure => simp [intOf]
    · have hbr := hc.lt
      have ki : ∀ w : World, (Instr.index 73 (.agg #[.int .i64 0, .int .i64 0, .int .i64 1, .int .i64 0, .int .i64 1, .int .i64 1, .int .i64 0, .int .i64 1]) (.int .i64 3)).run Tryz.prog w = .ok (.agg #[.int .i64 0, .int .i64 1]) w := fun w => by kernel_rfl
      have HC := Lib.hid (⟨hB, hr, hc⟩ : _ ∧ _ ∧ _)
      clear hr hc
      go_wp2_with (first | (go_at_call 48; ((with_reducible refine (K3.out _ (HG.out.below (hB.alloc hB.size _))).mono ?_)); rintro e w3 ⟨rfl, hB3⟩; have hB4 := up1 _ hB3; have hc3 := HC.out.2.2.below hB4; obtain ⟨p0, q0⟩ := hc3 9 (by omega); obtain ⟨p1, q1⟩ := hc3 10 (by omega); obtain ⟨p2, q2⟩ := hc3 11 (by omega); clear hc3 hB3))
      have hN := CoS.next HC.out.1 HC.out.2.1 HC.out.2.2 hblt (by omega) hB4 (CX n f i (j + 1)) (CY n f i (j + 1)) (CZ n f i (j + 1)) rfl rfl rfl
      go_roundw
      case rel => exact .inr (.inr (.inr (.inr ⟨rfl, hN⟩)))
      case measure => simp [intOf]
    · obtain ⟨c0, c1, c2, c3, c4, c5, c6, c7, c8, c9, c10, c11⟩ := (⟨(hc 0 (by omega)).1, (hc 1 (by omega)).1, (hc 2 (by omega)).1, (hc 3 (by omega)).1, (hc 4 (by omega)).1, (hc 5 (by omega)).1, (hc 6 (by omega)).1, (hc 7 (by omega)).1, (hc 8 (by omega)).1, (hc 9 (by omega)).1, (hc 10 (by omega)).1, (hc 11 (by omega)).1⟩ : wr.cell? ⟨b, 0, none⟩ = some (.float .f64 (CX n f i j)) ∧ wr.cell? ⟨b, 1, none⟩ = some (.float .f64 (CY n f i j)) ∧ wr.cell? ⟨b, 2, none⟩ = some (.float .f64 (CZ n f i j)) ∧ wr.cell? ⟨b, 3, none⟩ = some (.float .f64 (CX n f (i + 1) j)) ∧ wr.cell? ⟨b, 4, none⟩ = some (.float .f64 (CY n f (i + 1) j)) ∧ wr.cell? ⟨b, 5, none⟩ = some (.float .f64 (CZ n f (i + 1) j)) ∧ wr.cell? ⟨b, 6, none⟩ = some (.float .f64 (CX n f (i + 1) (j + 1))) ∧ wr.cell? ⟨b, 7, none⟩ = some (.float .f64 (CY n f (i + 1) (j + 1))) ∧ wr.cell? ⟨b, 8, none⟩ = some (.float .f64 (CZ n f (i + 1) (j + 1))) ∧ wr.cell? ⟨b, 9, none⟩ = some (.float .f64 (CX n f i (j + 1))) ∧ wr.cell? ⟨b, 10, none⟩ = some (.float .f64 (CY n f i (j + 1))) ∧ wr.cell? ⟨b, 11, none⟩ = some (.float .f64 (CZ n f i (j + 1))))
      obtain ⟨r0, r1, r2, r3, r4, r5, r6, r7, r8, r9, r10, r11⟩ := (⟨(hr 0 (by omega)).1, (hr 1 (by omega)).1, (hr 2 (by omega)).1, (hr 3 (by omega)).1, (hr 4 (by omega)).1, (hr 5 (by omega)).1, (hr 6 (by omega)).1, (hr 7 (by omega)).1, (hr 8 (by omega)).1, (hr 9 (by omega)).1, (hr 10 (by omega)).1, (hr 11 (by omega)).1⟩ : wr.cell? ⟨w.heap.size, 0, none⟩ = some (.float .f64 0) ∧ wr.cell? ⟨w.heap.size, 1, none⟩ = some (.float .f64 0) ∧ wr.cell? ⟨w.heap.size, 2, none⟩ = some (.float .f64 0) ∧ wr.cell? ⟨w.heap.size, 3, none⟩ = some (.float .f64 0) ∧ wr.cell? ⟨w.heap.size, 4, none⟩ = some (.float .f64 0) ∧ wr.cell? ⟨w.heap.size, 5, none⟩ = some (.float .f64 0) ∧ wr.cell? ⟨w.heap.size, 6, none⟩ = some (.float .f64 0) ∧ wr.cell? ⟨w.heap.size, 7, none⟩ = some (.float .f64 0) ∧ wr.cell? ⟨w.heap.size, 8, none⟩ = some (.float .f64 0) ∧ wr.cell? ⟨w.heap.size, 9, none⟩ = some (.float .f64 0) ∧ wr.cell? ⟨w.heap.size, 10, none⟩ = some (.float .f64 0) ∧ wr.cell? ⟨w.heap.size, 11, none⟩ = some (.float .f64 0))
      obtain ⟨s0, s1, s2, s3, s4, s5, s6, s7, s8, s9, s10, s11⟩ := (⟨(hr 0 (by omega)).2, (hr 1 (by omega)).2, (hr 2 (by omega)).2, (hr 3 (by omega)).2, (hr 4 (by omega)).2, (hr 5 (by omega)).2, (hr 6 (by omega)).2, (hr 7 (by omega)).2, (hr 8 (by omega)).2, (hr 9 (by omega)).2, (hr 10 (by omega)).2, (hr 11 (by omega)).2⟩ : wr.frozen? ⟨w.heap.size, 0, none⟩ = false ∧ wr.frozen? ⟨w.heap.size, 1, none⟩ = false ∧ wr.frozen? ⟨w.heap.size, 2, none⟩ = false ∧ wr.frozen? ⟨w.heap.size, 3, none⟩ = false ∧ wr.frozen? ⟨w.heap.size, 4, none⟩ = false ∧ wr.frozen? ⟨w.heap.size, 5, none⟩ = false ∧ wr.frozen? ⟨w.heap.size, 6, none⟩ = false ∧ wr.frozen? ⟨w.heap.size, 7, none⟩ = false ∧ wr.frozen? ⟨w.heap.size, 8, none⟩ = false ∧ wr.frozen? ⟨w.heap.size, 9, none⟩ = false ∧ wr.frozen? ⟨w.heap.size, 10, none⟩ = false ∧ wr.frozen? ⟨w.heap.size, 11, none⟩ = false)
      clear hr hc
      go_wp2_with fail
      refine bodyPost_ret (v := .tuple #[.agg #[.float .f64 (CX n f i j), .float .f64 (CY n f i j), .float .f64 (CZ n f i j), .float .f64 (CX n f (i + 1) j), .float .f64 (CY n f (i + 1) j), .float .f64 (CZ n f (i + 1) j), .float .f64 (CX n f (i + 1) (j + 1)), .float .f64 (CY n f (i + 1) (j + 1)), .float .f64 (CZ n f (i + 1) (j + 1)), .float .f64 (CX n f i (j + 1)), .float .f64 (CY n f i (j + 1)), .float .f64 (CZ n f i (j + 1))], .bool true]) (by simp [results, Tryz.results26, go_sem, r0, r1, r2, r3, r4, r5, r6, r7, r8, r9, r10, r11]) rfl ⟨rfl, ?_⟩
      exact ((((((((((((hB.setCell (Nat.le_refl _) _).setCell (Nat.le_refl _) _).setCell (Nat.le_refl _) _).setCell (Nat.le_refl _) _).setCell (Nat.le_refl _) _).setCell (Nat.le_refl _) _).setCell (Nat.le_refl _) _).setCell (Nat.le_refl _) _).setCell (Nat.le_refl _) _).setCell (Nat.le_refl _) _).setCell (Nat.le_refl _) _).setCell (Nat.le_refl _) _)
end Go.Proofs.YtkjjecghbhppgaaGreatDoor
