/- The statement CubeNumbers: Cells, Cell, Place and After of all numbers. -/
import Derived.Test.YtbfbafoeifigfaaDoorCubeN
import Derived.Deep.RegionHeld3
namespace Go.Proofs.YtbfbafoeifigfaaDoor
open Go.RowKit TF

set_option maxRecDepth 100000 in
set_option maxHeartbeats 4000000 in
theorem cubeNumbers_walk (A : Option Addr) (len cap : Nat) (os : Nat → Nat → Int) (w : World) (hF : Fr w) (hl : len ≤ 9223372036854775807) (hp : AsksAt w A len os) :
    Calls Tryd.prog 3 #[.slice A len cap] w fun e w' => e = .returned (.bool true) ∧ Below w.heap.size w w' := by
  have KAw := Lib.hid (awake_any w hF)
  have HP := Lib.hid hp
  have HF := Lib.hid hF
  clear hp hF
  go_enter Tryd.func3, Tryd.ntmps3
  go_wp2_with fail
  refine (KAw.out).mono ?_
  rintro e w1 ⟨rfl, hb1⟩
  have HB1 := Lib.hid hb1
  clear hb1 KAw
  go_wp2_with fail
  go_loopw [3] (fun i wr => ∃ k : Nat, k ≤ len ∧ i = .int .i64 k ∧ Below w.heap.size w wr) (fun i _ => len - (intOf i).toNat)
  case atStart => exact ⟨0, by omega, rfl, HB1.out⟩
  case round =>
    obtain ⟨k, hk, rfl, hwr⟩ := hrel
    by_cases hlt : k < len
    · have hl2 : (k : Int) < len := by omega
      obtain ⟨b, off, rfl, hbl, hc0, hc1, hc2, hc3, hc4, hc5, hc6, hc7⟩ := HP.out k hlt
      have d0 := hwr.cell (p := ⟨b, off + k * 8, none⟩) hbl
      have d1 := hwr.cell (p := ⟨b, off + k * 8 + 1, none⟩) hbl
      have d2 := hwr.cell (p := ⟨b, off + k * 8 + 2, none⟩) hbl
      have d3 := hwr.cell (p := ⟨b, off + k * 8 + 3, none⟩) hbl
      have d4 := hwr.cell (p := ⟨b, off + k * 8 + 4, none⟩) hbl
      have d5 := hwr.cell (p := ⟨b, off + k * 8 + 5, none⟩) hbl
      have d6 := hwr.cell (p := ⟨b, off + k * 8 + 6, none⟩) hbl
      have d7 := hwr.cell (p := ⟨b, off + k * 8 + 7, none⟩) hbl
      rw [hc0] at d0
      rw [hc1] at d1
      rw [hc2] at d2
      rw [hc3] at d3
      rw [hc4] at d4
      rw [hc5] at d5
      rw [hc6] at d6
      rw [hc7] at d7
      clear hc0 hc1 hc2 hc3 hc4 hc5 hc6 hc7
      generalize os k = q at *
      go_upto_region 7 with fail
      obtain ⟨OB, hOB⟩ : ∃ z, z = wr.heap.size := ⟨_, rfl⟩
      obtain ⟨W8, hW8⟩ : ∃ W, W = wr.alloc (.cells #[.int .i64 (q 0), .int .i64 (q 1), .int .i64 (q 2), .int .i64 (q 3), .int .i64 (q 4), .int .i64 (q 5), .int .i64 (q 6), .int .i64 (q 7)] 25) := ⟨_, rfl⟩
      rw [← hW8, ← hOB]
      have hb8 : Below w.heap.size w W8 := by rw [hW8]; exact hwr.alloc hwr.size _
      have hF8 : Fr W8 := HF.out.below hb8
      have hlo : OB < W8.heap.size := by rw [hW8, hOB]; simp
      have cl : ∀ i, W8.cell? ⟨OB, i, none⟩ = (#[.int .i64 (q 0), .int .i64 (q 1), .int .i64 (q 2), .int .i64 (q 3), .int .i64 (q 4), .int .i64 (q 5), .int .i64 (q 6), .int .i64 (q 7)] : Array Value)[i]? := fun i => by rw [hW8, hOB]; exact World.cell?_alloc_new _ _ _ _
      have f0 : W8.cell? ⟨OB, 0, none⟩ = some (.int .i64 (q 0)) := cl 0
      have f1 : W8.cell? ⟨OB, 1, none⟩ = some (.int .i64 (q 1)) := cl 1
      have f2 : W8.cell? ⟨OB, 2, none⟩ = some (.int .i64 (q 2)) := cl 2
      have f3 : W8.cell? ⟨OB, 3, none⟩ = some (.int .i64 (q 3)) := cl 3
      have f4 : W8.cell? ⟨OB, 4, none⟩ = some (.int .i64 (q 4)) := cl 4
      have f5 : W8.cell? ⟨OB, 5, none⟩ = some (.int .i64 (q 5)) := cl 5
      have f6 : W8.cell? ⟨OB, 6, none⟩ = some (.int .i64 (q 6)) := cl 6
      have f7 : W8.cell? ⟨OB, 7, none⟩ = some (.int .i64 (q 7)) := cl 7
      have HB8 := Lib.hid hb8
      have hB0 : Below W8.heap.size W8 W8 := Below.refl _ _
      have KEEP : Hid (∀ x : World, Below W8.heap.size W8 x → x.cell? ⟨OB, 0, none⟩ = some (.int .i64 (q 0)) ∧ x.cell? ⟨OB, 1, none⟩ = some (.int .i64 (q 1)) ∧ x.cell? ⟨OB, 2, none⟩ = some (.int .i64 (q 2)) ∧ x.cell? ⟨OB, 3, none⟩ = some (.int .i64 (q 3)) ∧ x.cell? ⟨OB, 4, none⟩ = some (.int .i64 (q 4)) ∧ x.cell? ⟨OB, 5, none⟩ = some (.int .i64 (q 5)) ∧ x.cell? ⟨OB, 6, none⟩ = some (.int .i64 (q 6)) ∧ x.cell? ⟨OB, 7, none⟩ = some (.int .i64 (q 7)) ∧ Below W8.heap.size W8 x) := Lib.hid (fun x h => by
        have hc := (bcell h).1
        exact ⟨(hc OB 0 hlo).trans f0, (hc OB 1 hlo).trans f1, (hc OB 2 hlo).trans f2, (hc OB 3 hlo).trans f3, (hc OB 4 hlo).trans f4, (hc OB 5 hlo).trans f5, (hc OB 6 hlo).trans f6, (hc OB 7 hlo).trans f7, h⟩)
      obtain ⟨p0, p1, p2, p3, PL, RP⟩ : ∃ (p0 p1 p2 : Int) (p3 : Bool), Hid (∀ x, Below W8.heap.size W8 x → Calls Tryd.prog 12 #[.int .i64 (q 0), .int .i64 (q 4)] x fun e w' => e = .returned (.tuple #[.int .i64 p0, .int .i64 p1, .int .i64 p2, .bool p3]) ∧ Below W8.heap.size W8 w') ∧ Hid (∀ x, Below W8.heap.size W8 x → Calls Tryd.prog 13 #[.int .i64 (q 0), .int .i64 (q 4)] x fun e w' => e = .returned (.tuple #[.int .i64 p0, .int .i64 p1, .int .i64 p2, .bool p3]) ∧ Below W8.heap.size W8 w') :=
        ⟨_, _, _, _, behind fun x _ => drewN_behind (place_any (q 0) (q 4) x), behind fun x _ => drewN_behind (rplace_any (q 0) (q 4) x)⟩
      obtain ⟨v0, CE, RC⟩ : ∃ v0 : Int, Hid (∀ x, Below W8.heap.size W8 x → Calls Tryd.prog 14 #[.int .i64 (q 0)] x fun e w' => e = .returned (.int .i64 v0) ∧ Below W8.heap.size W8 w') ∧ Hid (∀ x, Below W8.heap.size W8 x → Calls Tryd.prog 15 #[.int .i64 (q 0)] x fun e w' => e = .returned (.int .i64 v0) ∧ Below W8.heap.size W8 w') :=
        ⟨_, behind fun x _ => same_behind (cells_any (q 0) x), behind fun x _ => same_behind (rcells_any (q 0) x)⟩
      obtain ⟨v1, CL, RL⟩ : ∃ v1 : Int, Hid (∀ x, Below W8.heap.size W8 x → Calls Tryd.prog 16 #[.int .i64 (q 0), .int .i64 (q 1), .int .i64 (q 2), .int .i64 (q 3)] x fun e w' => e = .returned (.int .i64 v1) ∧ Below W8.heap.size W8 w') ∧ Hid (∀ x, Below W8.heap.size W8 x → Calls Tryd.prog 17 #[.int .i64 (q 0), .int .i64 (q 1), .int .i64 (q 2), .int .i64 (q 3)] x fun e w' => e = .returned (.int .i64 v1) ∧ Below W8.heap.size W8 w') :=
        ⟨_, behind fun x _ => same_behind (cell_any (q 0) (q 1) (q 2) (q 3) x), behind fun x _ => same_behind (rcell_any (q 0) (q 1) (q 2) (q 3) x)⟩
      obtain ⟨v2, AF, RA⟩ : ∃ v2 : Int, Hid (∀ x, Below W8.heap.size W8 x → Calls Tryd.prog 18 #[.int .i64 (q 7), .int .i64 (q 6)] x fun e w' => e = .returned (.int .i64 v2) ∧ Below W8.heap.size W8 w') ∧ Hid (∀ x, Below W8.heap.size W8 x → Calls Tryd.prog 19 #[.int .i64 (q 7), .int .i64 (q 6)] x fun e w' => e = .returned (.int .i64 v2) ∧ Below W8.heap.size W8 w') :=
        ⟨_, behind fun x hx => after_all (q 7) (q 6) x (hF8.below hx), behind fun x _ => rafter_all (q 7) (q 6) x⟩
      clear hW8 hOB cl d0 d1 d2 d3 d4 d5 d6 d7 hb8
      go_upto_region 11 with (first | (go_at_call 12; ((with_reducible refine (PL.out _ (by with_reducible assumption)).mono ?_)); rintro e x ⟨rfl, hB⟩; have hcx := (bcell hB).1) | (go_at_call 13; ((with_reducible refine (RP.out _ (by with_reducible assumption)).mono ?_)); rintro e x ⟨rfl, hB⟩; have hcx := (bcell hB).1))
      clear f0 f1 f2 f3 f4 f5 f6 f7
      go_region_held3 (fun x => x.cell? ⟨OB, 0, none⟩ = some (.int .i64 (q 0)) ∧ x.cell? ⟨OB, 1, none⟩ = some (.int .i64 (q 1)) ∧ x.cell? ⟨OB, 2, none⟩ = some (.int .i64 (q 2)) ∧ x.cell? ⟨OB, 3, none⟩ = some (.int .i64 (q 3)) ∧ x.cell? ⟨OB, 4, none⟩ = some (.int .i64 (q 4)) ∧ x.cell? ⟨OB, 5, none⟩ = some (.int .i64 (q 5)) ∧ x.cell? ⟨OB, 6, none⟩ = some (.int .i64 (q 6)) ∧ x.cell? ⟨OB, 7, none⟩ = some (.int .i64 (q 7)) ∧ Below W8.heap.size W8 x)
        (first | exact KEEP.out _ (by with_reducible assumption) | exact KEEP.out _ (Below.drew (by with_reducible assumption)))
        (first | (go_at_call 14; ((with_reducible refine (CE.out _ (by first | with_reducible assumption | with_reducible exact Below.drew (by with_reducible assumption))).mono ?_)); rintro e x ⟨rfl, hB⟩) | (go_at_call 15; ((with_reducible refine (RC.out _ (by first | with_reducible assumption | with_reducible exact Below.drew (by with_reducible assumption))).mono ?_)); rintro e x ⟨rfl, hB⟩) | (go_at_call 16; ((with_reducible refine (CL.out _ (by first | with_reducible assumption | with_reducible exact Below.drew (by with_reducible assumption))).mono ?_)); rintro e x ⟨rfl, hB⟩) | (go_at_call 17; ((with_reducible refine (RL.out _ (by first | with_reducible assumption | with_reducible exact Below.drew (by with_reducible assumption))).mono ?_)); rintro e x ⟨rfl, hB⟩) | (go_at_call 18; ((with_reducible refine (AF.out _ (by first | with_reducible assumption | with_reducible exact Below.drew (by with_reducible assumption))).mono ?_)); rintro e x ⟨rfl, hB⟩) | (go_at_call 19; ((with_reducible refine (RA.out _ (by first | with_reducible assumption | with_reducible exact Below.drew (by with_reducible assumption))).mono ?_)); rintro e x ⟨rfl, hB⟩))
      go_wp2
      go_roundw
      case rel => exact ⟨k + 1, by omega, by go_num, HB8.out.trans ((by with_reducible assumption : Below W8.heap.size W8 _).mono HB8.out.size)⟩
      case measure => simp [intOf]; omega
    · have hl2 : ¬ (k : Int) < len := by omega
      go_wp2_with fail
      go_ret
      exact ⟨rfl, hwr⟩
end Go.Proofs.YtbfbafoeifigfaaDoor
