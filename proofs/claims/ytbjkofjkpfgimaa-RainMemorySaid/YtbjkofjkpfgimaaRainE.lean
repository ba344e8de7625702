/- same; awake. -/
import Derived.Test.YtbjkofjkpfgimaaRainD
namespace Go.Proofs.Ytbjkofjkpfgimaa
open Go Go.RowKit TF

set_option maxHeartbeats 1000000 in
theorem same_yes (A B : Option Addr) (n c1 c2 : Nat) (X Y : Nat → Int) (w : World) (hn : n ≤ 9223372036854775807) (hx : IntsAt w A n X) (hy : IntsAt w B n Y) (he : ∀ i, i < n → X i = Y i) :
    Calls Try.prog 14 #[.slice A n c1, .slice B n c2] w fun e w' => e = .returned (.bool true) ∧ Below w.heap.size w w' := by
  go_enter Try.func14, Try.ntmps14
  go_wp2
  go_loopw [5] (fun i wr => ∃ k : Nat, k ≤ n ∧ i = .int .i64 k ∧ Below w.heap.size w wr) (fun i _ => n - (intOf i).toNat)
  case atStart => exact ⟨0, Nat.zero_le _, rfl, Below.refl _ _⟩
  case round =>
    obtain ⟨k, hk, rfl, hb⟩ := hrel
    by_cases hlt : k < n
    · obtain ⟨b, off, rfl, hbl, g0⟩ := (hx.below hb) k hlt
      obtain ⟨b2, off2, rfl, hbl2, g1⟩ := (hy.below hb) k hlt
      rw [he k hlt] at g0
      have hl : (k : Int) < (n : Int) := by omega
      clear hx hy he
      go_wp2
      go_region
      go_wp2
      go_roundw
      case rel => exact ⟨k + 1, by omega, by go_num, by first | exact hb | exact hb.drew⟩
      case measure => simp [intOf]; omega
    · go_wp2
      go_ret
      exact ⟨rfl, hb⟩

theorem fall_one (b : Nat) (g : Nat) (w : World) (ha : IntsAt w (some ⟨b, 0, none⟩) 2 (two 1 2)) (hr : RainsAt w (some ⟨g, 0, none⟩) 2 (two 0 1) (two 4 4) (two 0 0) (two 5 5)) :
    Calls Try.prog 12 #[.slice (some ⟨b, 0, none⟩) 2 2, .int .i64 3, .slice (some ⟨g, 0, none⟩) 2 2, .int .i64 0] w fun e w' => FallP w 2 (two 4 2) 0 e w' :=
  (fall_ok _ 2 2 _ 3 _ 2 2 _ _ _ _ 0 w (by omega) (by simp) ha hr (by decide)).mono fun e w' ⟨A, c, h1, h2, h3, h4⟩ => ⟨A, c, h1, h2, h3.congr (by decide), h4⟩
theorem fall_two (b : Nat) (g : Nat) (w : World) (ha : IntsAt w (some ⟨b, 0, none⟩) 2 (two 1 2)) (hr : RainsAt w (some ⟨g, 0, none⟩) 2 (two 1 0) (two (-5) 1) (two 0 0) (two 1 1)) :
    Calls Try.prog 12 #[.slice (some ⟨b, 0, none⟩) 2 2, .int .i64 0, .slice (some ⟨g, 0, none⟩) 2 2, .int .i64 0] w fun e w' => FallP w 2 (two 2 0) 1 e w' :=
  (fall_ok _ 2 2 _ 0 _ 2 2 _ _ _ _ 0 w (by omega) (by simp) ha hr (by decide)).mono fun e w' ⟨A, c, h1, h2, h3, h4⟩ => ⟨A, c, h1, h2, h3.congr (by decide), h4⟩

set_option maxHeartbeats 1000000 in
theorem awake_any (w : World) : Calls Try.prog 9 #[] w fun e w' => e = .returned (.bool true) ∧ Below w.heap.size w w' := by
  have hv : validB 6 6 0 0 0 = false := by decide
  go_enter Try.func9, Try.ntmps9
  go_wp2_with (first | (go_at_call 12; ((with_reducible refine (fall_one _ _ _ ((ints_lit w _ 1 2 rfl).alloc _) (rains_lit _ _ 0 4 0 5 1 4 0 5 (by simp))).mono ?_)); rintro e w1 ⟨A1, k1, rfl, hk1, hO1, hB1⟩) | (go_at_call 12; ((with_reducible refine (fall_two _ _ _ ((ints_lit w1 _ 1 2 rfl).alloc _) (rains_lit _ _ 1 (-5) 0 1 0 1 0 1 (by simp))).mono ?_)); rintro e w2 ⟨A2, k2, rfl, hk2, hO2, hB2⟩) | (go_at_call 14; ((with_reducible refine (same_yes A1 _ 2 k1 _ (two 4 2) (two 4 2) _ (by omega) ((hO1.ints.below (((Below.refl _ _).alloc (Nat.le_refl _) _).alloc (by simp) _)).below hB2 |>.alloc _) (ints_lit w2 _ 4 2 rfl) (fun _ _ => rfl)).mono ?_)); rintro e w3 ⟨rfl, hB3⟩) | (go_at_call 14; ((with_reducible refine (same_yes A2 _ 2 k2 _ (two 2 0) (two 2 0) _ (by omega) ((hO2.ints.alloc _).below hB3 |>.alloc _) (ints_lit w3 _ 2 0 rfl) (fun _ _ => rfl)).mono ?_)); rintro e w4 ⟨rfl, hB4⟩) | (go_at_call 10; ((with_reducible refine (valid_any _ _ _ _ _ _).mono ?_)); rintro e w5 ⟨rfl, hB5⟩))
  go_ret
  exact ⟨rfl, join (past1 (past1 hB1)) (join (past1 (past1 hB2)) (join (past1 hB3) (join (past1 hB4) hB5)))⟩
end Go.Proofs.Ytbjkofjkpfgimaa
