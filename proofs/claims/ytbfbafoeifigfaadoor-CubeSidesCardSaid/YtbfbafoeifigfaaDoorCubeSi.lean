/- The statement CubeSides: Beside and Turn of all numbers. -/
import Derived.Test.YtbfbafoeifigfaaDoorRefBw
import Derived.Test.YtbfbafoeifigfaaDoorCubeN
import Derived.Deep.RegionHeld3
namespace Go.Proofs.YtbfbafoeifigfaaDoor
open Go.RowKit TF

/-- Bad numbers, as the reference tests them. -/
theorem rbeside_none (n c s : Int) (h : c < 0 ∨ (0 ≤ c ∧ cellsI n ≤ c) ∨ (0 ≤ c ∧ c < cellsI n ∧ s < 0) ∨ (0 ≤ c ∧ c < cellsI n ∧ 0 ≤ s ∧ 4 ≤ s)) (w : World) :
    Calls Tryd.prog 21 #[.int .i64 n, .int .i64 c, .int .i64 s] w fun e w' => e = .returned (.tuple #[.int .i64 (-1), .int .i64 0]) ∧ w = w' := by
  have CE : Hid (∀ x, Calls Tryd.prog 15 #[.int .i64 n] x fun e w' => e = .returned (.int .i64 (cellsI n)) ∧ x = w') := Lib.hid fun x => rcells_any n x
  generalize cellsI n = ss at *
  rcases h with h | ⟨h, h1⟩ | ⟨h, h1, h2⟩ | ⟨h, h1, h2, h3⟩
  all_goals
    go_enter Tryd.func21, Tryd.ntmps21
    go_wp2_with (first | (go_at_call 15; ((with_reducible refine (CE.out _).mono ?_)); rintro e x ⟨rfl, rfl⟩))
    go_ret2
    exact ⟨rfl, rfl⟩
theorem rturn_none (n c t : Int) (h : t < 0 ∨ (0 ≤ t ∧ 24 ≤ t) ∨ (0 ≤ t ∧ t < 24 ∧ c < 0) ∨ (0 ≤ t ∧ t < 24 ∧ 0 ≤ c ∧ cellsI n ≤ c)) (w : World) :
    Calls Tryd.prog 23 #[.int .i64 n, .int .i64 t, .int .i64 c] w fun e w' => e = .returned (.tuple #[.int .i64 (-1), .int .i64 0]) ∧ w = w' := by
  have CE : Hid (∀ x, Calls Tryd.prog 15 #[.int .i64 n] x fun e w' => e = .returned (.int .i64 (cellsI n)) ∧ x = w') := Lib.hid fun x => rcells_any n x
  generalize cellsI n = ss at *
  rcases h with h | ⟨h, h1⟩ | ⟨h, h1, h2⟩ | ⟨h, h1, h2, h3⟩
  all_goals
    go_enter Tryd.func23, Tryd.ntmps23
    go_wp2_with (first | (go_at_call 15; ((with_reducible refine (CE.out _).mono ?_)); rintro e x ⟨rfl, rfl⟩))
    go_ret2
    exact ⟨rfl, rfl⟩
theorem place_true (n c : Int) : (placeI n c).2.2.2 = true ∧ 0 ≤ c ∧ c < cellsI n ∨ (placeI n c).2.2.2 = false ∧ (c < 0 ∨ (0 ≤ c ∧ cellsI n ≤ c)) := by
  unfold placeI
  by_cases h : 0 ≤ c ∧ c < cellsI n
  · rw [if_pos h]; exact .inl ⟨rfl, h⟩
  · rw [if_neg h]; exact .inr ⟨rfl, by omega⟩
theorem on_cells {n c : Int} (h : 0 ≤ c) (h2 : c < cellsI n) : ∃ f i j, On n f i j ∧ c = cellN n f i j := by
  rcases cells_cases n with ⟨_, e⟩ | ⟨_, e, h1, h3, h4, h5⟩
  · rw [e] at h2; omega
  · exact on_of h4 h5 h (by rw [e] at h2; exact h2)
/-- Beside and Turn of all numbers: ours and the reference's answer alike. -/
theorem beside_both (n c s : Int) : ∃ d b : Int, (∀ x, Fr x → Calls Tryd.prog 20 #[.int .i64 n, .int .i64 c, .int .i64 s] x fun e w' => e = .returned (.tuple #[.int .i64 d, .int .i64 b]) ∧ Below x.heap.size x w') ∧
    (∀ x, Calls Tryd.prog 21 #[.int .i64 n, .int .i64 c, .int .i64 s] x fun e w' => e = .returned (.tuple #[.int .i64 d, .int .i64 b]) ∧ Below x.heap.size x w') := by
  rcases place_true n c with ⟨e, h1, h2⟩ | ⟨e, h1⟩
  · by_cases hs : 0 ≤ s ∧ s < 4
    · obtain ⟨f, i, j, hO, rfl⟩ := on_cells h1 h2
      obtain ⟨s', rfl⟩ : ∃ k : Nat, s = k := ⟨s.toNat, by omega⟩
      exact ⟨_, _, fun x hF => beside_ok hO (by omega) x hF, fun x => rbeside_on hO (by omega) x⟩
    · exact ⟨-1, 0, fun x _ => beside_none n c s (by rw [e]; simp; omega) x, fun x => same_behind (rbeside_none n c s (by omega) x)⟩
  · exact ⟨-1, 0, fun x _ => beside_none n c s (.inl e) x, fun x => same_behind (rbeside_none n c s (by omega) x)⟩
theorem turn_both (n t c : Int) : ∃ d b : Int, (∀ x, Fr x → Calls Tryd.prog 22 #[.int .i64 n, .int .i64 t, .int .i64 c] x fun e w' => e = .returned (.tuple #[.int .i64 d, .int .i64 b]) ∧ Below x.heap.size x w') ∧
    (∀ x, Calls Tryd.prog 23 #[.int .i64 n, .int .i64 t, .int .i64 c] x fun e w' => e = .returned (.tuple #[.int .i64 d, .int .i64 b]) ∧ Below x.heap.size x w') := by
  rcases place_true n c with ⟨e, h1, h2⟩ | ⟨e, h1⟩
  · by_cases ht : 0 ≤ t ∧ t < 24
    · obtain ⟨f, i, j, hO, rfl⟩ := on_cells h1 h2
      obtain ⟨t', rfl⟩ : ∃ k : Nat, t = k := ⟨t.toNat, by omega⟩
      exact ⟨_, _, fun x hF => turn_ok hO (by omega) x hF, fun x => rturn_on hO (by omega) x⟩
    · exact ⟨-1, 0, fun x _ => turn_none n c t (by rw [e]; simp; omega) x, fun x => same_behind (rturn_none n c t (by omega) x)⟩
  · exact ⟨-1, 0, fun x _ => turn_none n c t (.inl e) x, fun x => same_behind (rturn_none n c t (by omega) x)⟩
set_option maxRecDepth 100000 in
set_option maxHeartbeats 3000000 in
theorem cubeSides_walk (A : Option Addr) (len cap : Nat) (os : Nat → Nat → Int) (w : World) (hF : Fr w) (hl : len ≤ 9223372036854775807) (hp : AsksAt w A len os) :
    Calls Tryd.prog 4 #[.slice A len cap] w fun e w' => e = .returned (.bool true) ∧ Below w.heap.size w w' := by
  have KAw := Lib.hid (awake_any w hF)
  have HP := Lib.hid hp
  have HF := Lib.hid hF
  clear hp hF
  go_enter Tryd.func4, Tryd.ntmps4
  go_wp2_with fail
  refine (KAw.out).mono ?_
  rintro e w1 ⟨rfl, hb1⟩
  have HB1 := Lib.hid hb1
  clear hb1 KAw
  go_wp2_with fail
  go_loopw [3] (fun i wr => ∃ k : Nat, k ≤ len ∧ i = .int .i64 k ∧ Below w.heap.size w wr) (fun i _ => len - (intOf i).toNat)
  case atStart => exact ⟨0, by omega, rfl, HB1.out⟩
  case round =>
    obtain ⟨k, hk, rfl, hwr⟩ := hrel
    by_cases hlt : k < len
    · have hl2 : (k : Int) < len := by omega
      obtain ⟨b, off, rfl, hbl, hc0, hc1, hc2, hc3, hc4, hc5, hc6, hc7⟩ := HP.out k hlt
      have d0 := hwr.cell (p := ⟨b, off + k * 8, none⟩) hbl
      have d1 := hwr.cell (p := ⟨b, off + k * 8 + 1, none⟩) hbl
      have d2 := hwr.cell (p := ⟨b, off + k * 8 + 2, none⟩) hbl
      have d3 := hwr.cell (p := ⟨b, off + k * 8 + 3, none⟩) hbl
      have d4 := hwr.cell (p := ⟨b, off + k * 8 + 4, none⟩) hbl
      have d5 := hwr.cell (p := ⟨b, off + k * 8 + 5, none⟩) hbl
      have d6 := hwr.cell (p := ⟨b, off + k * 8 + 6, none⟩) hbl
      have d7 := hwr.cell (p := ⟨b, off + k * 8 + 7, none⟩) hbl
      rw [hc0] at d0
      rw [hc1] at d1
      rw [hc2] at d2
      rw [hc3] at d3
      rw [hc4] at d4
      rw [hc5] at d5
      rw [hc6] at d6
      rw [hc7] at d7
      clear hc0 hc1 hc2 hc3 hc4 hc5 hc6 hc7
      generalize os k = q at *
      go_upto_region 7 with fail
      obtain ⟨OB, hOB⟩ : ∃ z, z = wr.heap.size := ⟨_, rfl⟩
      obtain ⟨W8, hW8⟩ : ∃ W, W = wr.alloc (.cells #[.int .i64 (q 0), .int .i64 (q 1), .int .i64 (q 2), .int .i64 (q 3), .int .i64 (q 4), .int .i64 (q 5), .int .i64 (q 6), .int .i64 (q 7)] 25) := ⟨_, rfl⟩
      rw [← hW8, ← hOB]
      have hb8 : Below w.heap.size w W8 := by rw [hW8]; exact hwr.alloc hwr.size _
      have hF8 : Fr W8 := HF.out.below hb8
      have hlo : OB < W8.heap.size := by rw [hW8, hOB]; simp
      have cl : ∀ i, W8.cell? ⟨OB, i, none⟩ = (#[.int .i64 (q 0), .int .i64 (q 1), .int .i64 (q 2), .int .i64 (q 3), .int .i64 (q 4), .int .i64 (q 5), .int .i64 (q 6), .int .i64 (q 7)] : Array Value)[i]? := fun i => by rw [hW8, hOB]; exact World.cell?_alloc_new _ _ _ _
      have f0 : W8.cell? ⟨OB, 0, none⟩ = some (.int .i64 (q 0)) := cl 0
      have f1 : W8.cell? ⟨OB, 1, none⟩ = some (.int .i64 (q 1)) := cl 1
      have f2 : W8.cell? ⟨OB, 2, none⟩ = some (.int .i64 (q 2)) := cl 2
      have f3 : W8.cell? ⟨OB, 3, none⟩ = some (.int .i64 (q 3)) := cl 3
      have f4 : W8.cell? ⟨OB, 4, none⟩ = some (.int .i64 (q 4)) := cl 4
      have f5 : W8.cell? ⟨OB, 5, none⟩ = some (.int .i64 (q 5)) := cl 5
      have f6 : W8.cell? ⟨OB, 6, none⟩ = some (.int .i64 (q 6)) := cl 6
      have f7 : W8.cell? ⟨OB, 7, none⟩ = some (.int .i64 (q 7)) := cl 7
      have HB8 := Lib.hid hb8
      have hB0 : Below W8.heap.size W8 W8 := Below.refl _ _
      obtain ⟨x0, x1, BE, RB⟩ : ∃ x0 x1 : Int, Hid (∀ x, Below W8.heap.size W8 x → Calls Tryd.prog 20 #[.int .i64 (q 0), .int .i64 (q 4), .int .i64 (q 5)] x fun e w' => e = .returned (.tuple #[.int .i64 x0, .int .i64 x1]) ∧ Below W8.heap.size W8 w') ∧ Hid (∀ x, Below W8.heap.size W8 x → Calls Tryd.prog 21 #[.int .i64 (q 0), .int .i64 (q 4), .int .i64 (q 5)] x fun e w' => e = .returned (.tuple #[.int .i64 x0, .int .i64 x1]) ∧ Below W8.heap.size W8 w') := by
        obtain ⟨d, b, h1, h2⟩ := beside_both (q 0) (q 4) (q 5)
        exact ⟨d, b, behind fun x hx => h1 x (hF8.below hx), behind fun x _ => h2 x⟩
      obtain ⟨y0, y1, TU, RT⟩ : ∃ y0 y1 : Int, Hid (∀ x, Below W8.heap.size W8 x → Calls Tryd.prog 22 #[.int .i64 (q 0), .int .i64 (q 6), .int .i64 (q 4)] x fun e w' => e = .returned (.tuple #[.int .i64 y0, .int .i64 y1]) ∧ Below W8.heap.size W8 w') ∧ Hid (∀ x, Below W8.heap.size W8 x → Calls Tryd.prog 23 #[.int .i64 (q 0), .int .i64 (q 6), .int .i64 (q 4)] x fun e w' => e = .returned (.tuple #[.int .i64 y0, .int .i64 y1]) ∧ Below W8.heap.size W8 w') := by
        obtain ⟨d, b, h1, h2⟩ := turn_both (q 0) (q 6) (q 4)
        exact ⟨d, b, behind fun x hx => h1 x (hF8.below hx), behind fun x _ => h2 x⟩
      clear hW8 hOB cl d0 d1 d2 d3 d4 d5 d6 d7 hb8
      go_upto_region 11 with (first | (go_at_call 20; ((with_reducible refine (BE.out _ (by first | with_reducible assumption | with_reducible exact Below.drew (by with_reducible assumption))).mono ?_)); rintro e x ⟨rfl, hB⟩; have hcx := (bcell hB).1) | (go_at_call 21; ((with_reducible refine (RB.out _ (by first | with_reducible assumption | with_reducible exact Below.drew (by with_reducible assumption))).mono ?_)); rintro e x ⟨rfl, hB⟩; have hcx := (bcell hB).1) | (go_at_call 22; ((with_reducible refine (TU.out _ (by first | with_reducible assumption | with_reducible exact Below.drew (by with_reducible assumption))).mono ?_)); rintro e x ⟨rfl, hB⟩; have hcx := (bcell hB).1) | (go_at_call 23; ((with_reducible refine (RT.out _ (by first | with_reducible assumption | with_reducible exact Below.drew (by with_reducible assumption))).mono ?_)); rintro e x ⟨rfl, hB⟩; have hcx := (bcell hB).1))
      clear f0 f1 f2 f3 f4 f5 f6 f7
      go_wp2
      go_roundw
      case rel => exact ⟨k + 1, by omega, by go_num, HB8.out.trans ((by with_reducible assumption : Below W8.heap.size W8 _).mono HB8.out.size)⟩
      case measure => simp [intOf]; omega
    · have hl2 : ¬ (k : Int) < len := by omega
      go_wp2_with fail
      go_ret
      exact ⟨rfl, hwr⟩
end Go.Proofs.YtbfbafoeifigfaaDoor
