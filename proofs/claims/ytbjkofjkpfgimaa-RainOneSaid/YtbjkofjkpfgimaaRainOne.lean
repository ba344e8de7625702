/- The statement RainOne: one rain alone. -/
import Derived.Test.YtbjkofjkpfgimaaRainK
namespace Go.Proofs.Ytbjkofjkpfgimaa
open Go Go.RowKit TF

/-- the cells of both boxes. -/
theorem box2_cells (A : Option Addr) (n cap : Nat) (s : Int) (R : Option Addr) (m cap2 : Nat) (st : Int) (c a f t : Int) (ty ty2 : TypeId) (w : World) :
    ∀ x : World, Below ((w.alloc (.cells #[.slice A n cap, .int .i64 s, .slice R m cap2, .int .i64 st] ty)).alloc (.cells #[.int .i64 c, .int .i64 a, .int .i64 f, .int .i64 t] ty2)).heap.size ((w.alloc (.cells #[.slice A n cap, .int .i64 s, .slice R m cap2, .int .i64 st] ty)).alloc (.cells #[.int .i64 c, .int .i64 a, .int .i64 f, .int .i64 t] ty2)) x →
      x.cell? ⟨w.heap.size, 0, none⟩ = some (.slice A n cap) ∧ x.cell? ⟨w.heap.size, 1, none⟩ = some (.int .i64 s) ∧ x.cell? ⟨w.heap.size, 2, none⟩ = some (.slice R m cap2) ∧ x.cell? ⟨w.heap.size, 3, none⟩ = some (.int .i64 st) ∧
      x.cell? ⟨w.heap.size + 1, 0, none⟩ = some (.int .i64 c) ∧ x.cell? ⟨w.heap.size + 1, 1, none⟩ = some (.int .i64 a) ∧ x.cell? ⟨w.heap.size + 1, 2, none⟩ = some (.int .i64 f) ∧ x.cell? ⟨w.heap.size + 1, 3, none⟩ = some (.int .i64 t) := by
  intro x h
  obtain ⟨h0, h1, h2, h3⟩ := box_cells A n cap s R m cap2 st ty w x (past1 h)
  have hl : w.heap.size + 1 < ((w.alloc (.cells #[.slice A n cap, .int .i64 s, .slice R m cap2, .int .i64 st] ty)).alloc (.cells #[.int .i64 c, .int .i64 a, .int .i64 f, .int .i64 t] ty2)).heap.size := by simp
  refine ⟨h0, h1, h2, h3, ?_, ?_, ?_, ?_⟩ <;> rw [h.cell (p := ⟨w.heap.size + 1, _, none⟩) hl, World.cell?_alloc_at _ _ _ _ (by simp)] <;> rfl

theorem four_cells {cs : Array Value} {b0 b1 b2 b3 : Value} (hs : cs.size = 4) (e0 : cs[0]? = some b0) (e1 : cs[1]? = some b1) (e2 : cs[2]? = some b2) (e3 : cs[3]? = some b3) : cs = #[b0, b1, b2, b3] := by
  obtain ⟨l⟩ := cs
  match l, hs with
  | [c0, c1, c2, c3], _ =>
    simp at e0 e1 e2 e3
    subst e0 e1 e2 e3
    rfl

set_option maxRecDepth 100000 in
set_option maxHeartbeats 4000000 in
theorem rainOne_walk (A : Option Addr) (n cap : Nat) (Z : Nat → Int) (s : Int) (R : Option Addr) (m cap2 : Nat) (C Am F T : Nat → Int) (st c a f t : Int) (w : World) (hW : WeatherAt w A n cap Z s R m cap2 C Am F T st) :
    Calls Try.prog 5 #[.agg #[.slice A n cap, .int .i64 s, .slice R m cap2, .int .i64 st], .agg #[.int .i64 c, .int .i64 a, .int .i64 f, .int .i64 t]] w fun e w' => e = .returned (.bool true) ∧ Below w.heap.size w w' := by
  have KB := Lib.hid (box2_cells A n cap s R m cap2 st c a f t 25 29 w)
  have hn9 := hW.n8
  have h8 : ∀ x : World, Below ((w.alloc (.cells #[.slice A n cap, .int .i64 s, .slice R m cap2, .int .i64 st] 25)).alloc (.cells #[.int .i64 c, .int .i64 a, .int .i64 f, .int .i64 t] 29)).heap.size ((w.alloc (.cells #[.slice A n cap, .int .i64 s, .slice R m cap2, .int .i64 st] 25)).alloc (.cells #[.int .i64 c, .int .i64 a, .int .i64 f, .int .i64 t] 29)) x → IntsAt x A n Z := fun x h => hW.hz.below (past1 (past1 h))
  have H8 := Lib.hid h8
  clear h8
  cases hq0 : refuseB n Z s 0 (con c) (con a) (con f) (con t) st with
  | true =>
    have FBAD := Lib.hid (fun (x : World) h => fall_bad A n cap Z s (some ⟨x.heap.size, 0, none⟩) 1 1 (con c) (con a) (con f) (con t) st (x.alloc (.cells #[.int .i64 c, .int .i64 a, .int .i64 f, .int .i64 t] 29)) hW.n8 (by omega) ((H8.out x h).alloc _) (rains_one x _ c a f t rfl) (by rw [refuse_one, hq0]; rfl))
    have FBAD0 := Lib.hid (fun (x : World) h => fall_bad A n cap Z s none 0 0 (con c) (con a) (con f) (con t) st x hW.n8 (by omega) (H8.out x h) (rains_none _ _ _ _ _ _) hq0)
    clear hq0 hW
    go_enter Try.func5, Try.ntmps5
    go_wp2_with (first | (go_at_call 9; ((with_reducible refine (awake_any _).mono ?_)); rintro e wa ⟨rfl, hBa⟩; obtain ⟨a0, a1, a2, a3, a4, a5, a6, a7⟩ := KB.out _ hBa; have hl0 : w.heap.size < wa.heap.size := (by have := hBa.size; simp at this; omega)) | (go_at_call 12; ((with_reducible refine (FBAD.out wa hBa).mono ?_)); rintro e wb ⟨rfl, hBb⟩; have hBab := join hBa (past1 hBb); obtain ⟨b0, b1, b2, b3, b4, b5, b6, b7⟩ := KB.out _ hBab) | (go_at_call 12; ((with_reducible refine (FBAD0.out wb hBab).mono ?_)); rintro e wc ⟨rfl, hBc⟩))
    go_ret
    exact ⟨rfl, past1 (past1 (join hBab hBc))⟩
  | false =>
    have FOK0 := Lib.hid (fun (x : World) h => fall_ok A n cap Z s none 0 0 (con c) (con a) (con f) (con t) st x hW.n8 hW.hnil (H8.out x h) (rains_none _ _ _ _ _ _) hq0)
    cases hv : validB n c a f t with
    | false =>
      have FBAD := Lib.hid (fun (x : World) h => fall_bad A n cap Z s (some ⟨x.heap.size, 0, none⟩) 1 1 (con c) (con a) (con f) (con t) st (x.alloc (.cells #[.int .i64 c, .int .i64 a, .int .i64 f, .int .i64 t] 29)) hW.n8 (by omega) ((H8.out x h).alloc _) (rains_one x _ c a f t rfl) (by rw [refuse_one, hq0, hv]; rfl))
      clear hq0 hW
      go_enter Try.func5, Try.ntmps5
      go_wp2_with (first | (go_at_call 9; ((with_reducible refine (awake_any _).mono ?_)); rintro e wa ⟨rfl, hBa⟩; obtain ⟨a0, a1, a2, a3, a4, a5, a6, a7⟩ := KB.out _ hBa; have hl0 : w.heap.size < wa.heap.size := (by have := hBa.size; simp at this; omega)) | (go_at_call 12; ((with_reducible refine (FBAD.out wa hBa).mono ?_)); rintro e wb ⟨rfl, hBb⟩; have hBab := join hBa (past1 hBb); obtain ⟨b0, b1, b2, b3, b4, b5, b6, b7⟩ := KB.out _ hBab) | (go_at_call 12; ((with_reducible refine (FOK0.out wb hBab).mono ?_)); rintro e wc ⟨L0, capL0, rfl, hcL0, hO0, hBc⟩; have hBac := join hBab hBc; obtain ⟨c0, c1, c2, c3, c4, c5, c6, c7⟩ := KB.out _ hBac) | (go_at_call 10; ((with_reducible refine (valid_any _ _ _ _ _ _).mono ?_)); rintro e wd ⟨rfl, hBd⟩; have hBad := join hBac hBd; obtain ⟨d0, d1, d2, d3, d4, d5, d6, d7⟩ := KB.out _ hBad))
      go_ret
      exact ⟨rfl, past1 (past1 hBad)⟩
    | true =>
      have hq1 : refuseB n Z s 1 (con c) (con a) (con f) (con t) st = false := by rw [refuse_one, hq0, hv]; rfl
      have FOK := Lib.hid (fun (x : World) h => fall_ok A n cap Z s (some ⟨x.heap.size, 0, none⟩) 1 1 (con c) (con a) (con f) (con t) st (x.alloc (.cells #[.int .i64 c, .int .i64 a, .int .i64 f, .int .i64 t] 29)) hW.n8 hW.hnil ((H8.out x h).alloc _) (rains_one x _ c a f t rfl) hq1)
      obtain ⟨t1, ⟨t2, t3⟩, -, t5, -⟩ := taken hq0
      obtain ⟨u1, u2, u3, u4, -, -⟩ := validB_true hv
      clear hq0 hq1 hW
      obtain ⟨k, rfl⟩ : ∃ k : Nat, c = k := ⟨c.toNat, by omega⟩
      have hk : k < n := by omega
      rw [rs_one.1, rs_one.2, Int.toNat_natCast] at FOK
      obtain ⟨z1, z2⟩ := t5 k hk
      obtain ⟨d, hd⟩ : ∃ d, d = down st a f t s (Z k) := ⟨_, rfl⟩
      have db := down_bnd (st := st) (f := f) (t := t) u3 u4 t2 z1
      rw [← hd] at FOK db
      obtain ⟨db1, db2, db3, db4⟩ := db
      obtain ⟨y, hy⟩ : ∃ y, y = Z k + d := ⟨_, rfl⟩
      obtain ⟨S, hS⟩ : ∃ S, S = s - d := ⟨_, rfl⟩
      rw [← hy, ← hS] at FOK
      have y1 : 0 ≤ y := by omega
      have y2 : y ≤ 9007199254740992 := by omega
      have S1 : 0 ≤ S := by omega
      have S2 : S ≤ 9007199254740992 := by omega
      have HD := Lib.hid (show d = down st a f t s (Z k) ∧ y = Z k + d ∧ S = s - d from ⟨hd, hy, hS⟩)
      clear hd hy hS t5 db1 db2 db3 db4
      go_enter Try.func5, Try.ntmps5
      go_wp2_with (first | (go_at_call 9; ((with_reducible refine (awake_any _).mono ?_)); rintro e wa ⟨rfl, hBa⟩; obtain ⟨a0, a1, a2, a3, a4, a5, a6, a7⟩ := KB.out _ hBa; have hl0 : w.heap.size < wa.heap.size := (by have := hBa.size; simp at this; omega)) | (go_at_call 12; ((with_reducible refine (FOK.out wa hBa).mono ?_)); rintro e wb ⟨L, capL, rfl, hcL, hO, hBb⟩; have hBab := join hBa (past1 hBb); obtain ⟨b0, b1, b2, b3, b4, b5, b6, b7⟩ := KB.out _ hBab) | (go_at_call 12; ((with_reducible refine (FOK0.out wb hBab).mono ?_)); rintro e wc ⟨L0, capL0, rfl, hcL0, hO0, hBc⟩; have hBac := join hBab hBc; obtain ⟨c0, c1, c2, c3, c4, c5, c6, c7⟩ := KB.out _ hBac) | (go_at_call 10; ((with_reducible refine (valid_any _ _ _ _ _ _).mono ?_)); rintro e wd ⟨rfl, hBd⟩; have hBad := join hBac hBd; obtain ⟨d0, d1, d2, d3, d4, d5, d6, d7⟩ := KB.out _ hBad))
      obtain ⟨bz, oz, rfl, hbz, hcz⟩ := (H8.out _ hBad) k hk
      obtain ⟨bl, ol, rfl, hbl, hcl⟩ := (hO.ints.below (join hBc hBd)) k hk
      rw [upd_at] at hcl
      go_region
      go_wp2
      go_loopw [12] (fun i wr => ∃ j : Nat, j ≤ n ∧ i = .int .i64 j ∧ Below wd.heap.size wd wr) (fun i _ => n - (intOf i).toNat)
      case atStart => exact ⟨0, Nat.zero_le _, rfl, by first | exact Below.refl _ _ | exact (Below.refl _ _).drew⟩
      case round =>
        obtain ⟨j, hj, rfl, hB⟩ := hrel
        have hBe := join hBad hB
        obtain ⟨g0, g1, g2, g3, g4, g5, g6, g7⟩ := KB.out _ hBe
        by_cases hlt : j < n
        · have hl : (j : Int) < (n : Int) := by omega
          obtain ⟨bz', oz', e1, hbz', hcz'⟩ := (H8.out _ hBe) j hlt
          obtain ⟨bl', ol', e2, hbl', hcl'⟩ := (hO.ints.below (join hBc (join hBd hB))) j hlt
          obtain ⟨rfl, rfl⟩ : bz = bz' ∧ oz = oz' := by simpa using e1
          obtain ⟨rfl, rfl⟩ : bl = bl' ∧ ol = ol' := by simpa using e2
          clear e1 e2
          by_cases hjk : j = k
          · subst hjk
            rw [upd_at] at hcl'
            go_wp2
            go_region
            all_goals go_wp2
            all_goals go_roundw
            case rel => exact ⟨j + 1, by omega, by go_num, by first | exact hB | exact hB.drew⟩
            case measure => simp [intOf]; omega
          · rw [upd_off _ _ hjk] at hcl'
            have hjk' : ((j : Int) != (k : Int)) = true := by simp; omega
            go_wp2
            go_region
            all_goals go_wp2
            all_goals go_roundw
            case rel => exact ⟨j + 1, by omega, by go_num, by first | exact hB | exact hB.drew⟩
            case measure => simp [intOf]; omega
        · have hjn : j = n := by omega
          subst hjn
          obtain ⟨bz', oz', e1, hbz', hcz'⟩ := (H8.out _ hBe) k hk
          obtain ⟨bl', ol', e2, hbl', hcl'⟩ := (hO.ints.below (join hBc (join hBd hB))) k hk
          obtain ⟨rfl, rfl⟩ : bz = bz' ∧ oz = oz' := by simpa using e1
          obtain ⟨rfl, rfl⟩ : bl = bl' ∧ ol = ol' := by simpa using e2
          rw [upd_at] at hcl'
          obtain ⟨hdc, hy, hS⟩ := HD.out
          unfold down at hdc
          have r15 : (s - S != y - Z k) = false := by simp; omega
          rcases (show (st < f ∧ d = 0) ∨ (f ≤ st ∧ t ≤ st ∧ d = 0) ∨ (f ≤ st ∧ st < t ∧ 0 ≤ a ∧ s < a ∧ d = s) ∨ (f ≤ st ∧ st < t ∧ 0 ≤ a ∧ a ≤ s ∧ d = a) ∨ (f ≤ st ∧ st < t ∧ a < 0 ∧ Z k < -a ∧ d = -(Z k)) ∨ (f ≤ st ∧ st < t ∧ a < 0 ∧ -a ≤ Z k ∧ d = a) by
            split at hdc
            · omega
            · split at hdc <;> omega) with ⟨q1, hd⟩ | ⟨q1, q2, hd⟩ | ⟨q1, q2, q3, q4, hd⟩ | ⟨q1, q2, q3, q4, hd⟩ | ⟨q1, q2, q3, q4, hd⟩ | ⟨q1, q2, q3, q4, hd⟩
          · have r18 : (y - Z k == 0) = true := by simp; omega
            clear hdc hl0 HD hy hS hd
            go_wp2
            go_ret
            exact ⟨rfl, past1 (past1 hBe)⟩
          · have r18 : (y - Z k == 0) = true := by simp; omega
            clear hdc hl0 HD hy hS hd
            go_wp2
            go_ret
            exact ⟨rfl, past1 (past1 hBe)⟩
          · have r18 : (y - Z k == a) = false := by simp; omega
            have r19 : (y - Z k == s) = true := by simp; omega
            clear hdc hl0 HD hy hS hd
            go_wp2
            go_ret
            exact ⟨rfl, past1 (past1 hBe)⟩
          · have r18 : (y - Z k == a) = true := by simp; omega
            clear hdc hl0 HD hy hS hd
            go_wp2
            go_ret
            exact ⟨rfl, past1 (past1 hBe)⟩
          · have r18 : (y - Z k == a) = false := by simp; omega
            have r19 : (y - Z k == -(Z k)) = true := by simp; omega
            have r20 : decide (Z k < -a) = true := by simp; omega
            clear hdc hl0 HD hy hS hd
            go_wp2
            go_region
            all_goals go_wp2
            all_goals go_ret
            all_goals exact ⟨rfl, past1 (past1 (by first | exact hBe | exact hBe.drew))⟩
          · have r18 : (y - Z k == a) = true := by simp; omega
            have r19 : decide (0 ≤ y) = true := by simp; omega
            clear hdc hl0 HD hy hS hd
            go_wp2
            go_region
            all_goals go_wp2
            all_goals go_ret
            all_goals exact ⟨rfl, past1 (past1 (by first | exact hBe | exact hBe.drew))⟩
end Go.Proofs.Ytbjkofjkpfgimaa
