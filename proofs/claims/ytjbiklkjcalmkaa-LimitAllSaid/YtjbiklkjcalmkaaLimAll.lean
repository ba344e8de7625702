/- The statement LimitAll: Valid and Slope as the reference. -/
import Derived.Test.YtjbiklkjcalmkaaLimTurn
import Derived.Test.YtjbiklkjcalmkaaOpenT
import Derived.Deep.RegionHeld3
import Derived.BigQuiet
namespace Go.Proofs.Ytjbiklkjcalmkaa
open Go.RowKit TF

attribute [local go_sem] cmp_eq cmp_ne cmp_lt cmp_gt cmp_le cmp_ge

theorem rslope_in (k : Int) {a b : Nat} (ha : W64 a) (hb : W64 b) (w0 w : World) (hw : Below w0.heap.size w0 w) :
    Calls Try.prog 10 #[.int .i64 k, .float .f64 a, .float .f64 b] w fun e w' => e = .returned (.float .f64 (slopeW k a b)) ∧ Below w0.heap.size w0 w' :=
  (rslope_any k ha hb w).mono fun _ _ ⟨h1, n, h2⟩ => ⟨h1, by rw [h2]; exact below_drewN hw n⟩

set_option maxRecDepth 100000 in
set_option maxHeartbeats 4000000 in
theorem limitAll_walk (A : Option Addr) (len cap : Nat) (ns : Nat → Int) (xs ys : Nat → Nat) (w : World) (hm : len ≤ 9223372036854775807) (hp : IFF w .i64 A len ns xs ys) :
    Calls Try.prog 3 #[.slice A len cap] w fun e w' => e = .returned (.bool true) ∧ Below w.heap.size w w' := by
  have hw0 : Below w.heap.size w w := Below.refl _ _
  have s1 := sameB_self
  go_enter Try.func3, Try.ntmps3
  go_wp2_with (first | (go_at_call 7; refine (lives_any _ _ (by assumption)).mono ?_; rintro e w' ⟨rfl, hB⟩))
  go_loopw [3] (fun i wr => ∃ k : Nat, k ≤ len ∧ i = .int .i64 k ∧ Below w.heap.size w wr) (fun i _ => len - (intOf i).toNat)
  case atStart => exact ⟨0, Nat.zero_le _, rfl, by assumption⟩
  case round =>
    obtain ⟨k, hk, rfl, hw⟩ := hrel
    by_cases hlt : k < len
    · obtain ⟨b, off, rfl, hbl, hc0, hc1, hc2, hz, hx, hy⟩ := hp k hlt
      have held : ∀ w1 : World, Below w.heap.size w w1 → w1.cell? ⟨b, off + k * 3, none⟩ = some (.int .i64 (ns k)) ∧ w1.cell? ⟨b, off + k * 3 + 1, none⟩ = some (.float .f64 (xs k)) ∧ w1.cell? ⟨b, off + k * 3 + 2, none⟩ = some (.float .f64 (ys k)) := by
        intro w1 h1
        exact ⟨by rw [h1.cell hbl]; exact hc0, by rw [h1.cell hbl]; exact hc1, by rw [h1.cell hbl]; exact hc2⟩
      have HELD := Lib.hid held
      have KEEP : Hid (∀ w1 : World, Below w.heap.size w w1 → w1.cell? ⟨b, off + k * 3 + 1, none⟩ = some (.float .f64 (xs k)) ∧ w1.cell? ⟨b, off + k * 3 + 2, none⟩ = some (.float .f64 (ys k)) ∧ Below w.heap.size w w1) := Lib.hid (fun w1 h => ⟨(held w1 h).2.1, (held w1 h).2.2, h⟩)
      clear held hc0 hc1 hc2 hp
      go_wp2
      obtain ⟨wo, rfl⟩ : ∃ wo : World, wo = wr := ⟨_, rfl⟩
      go_loopw [4] (fun i wr => ∃ j : Int, -1 ≤ j ∧ j ≤ 6 ∧ i = .int .i64 j ∧ Below w.heap.size w wr) (fun i _ => (6 - intOf i).toNat)
      case atStart => exact ⟨-1, by omega, by omega, rfl, hw⟩
      case round =>
        obtain ⟨j, hj1, hj2, rfl, hw1⟩ := hrel
        by_cases hj : j < 6
        · have hd0 := (HELD.out wr hw1).2.1
          have hd1 := (HELD.out wr hw1).2.2
          go_wp2
          go_region_held3 (fun w' => w'.cell? ⟨b, off + k * 3 + 1, none⟩ = some (.float .f64 (xs k)) ∧ w'.cell? ⟨b, off + k * 3 + 2, none⟩ = some (.float .f64 (ys k)) ∧ Below w.heap.size w w')
            (first | exact KEEP.out _ (by assumption) | exact KEEP.out _ (Below.drew (by assumption)) | go_keep)
            (first | (go_at_call 9; refine (slope_in _ hx hy w _ (by first | assumption | exact Below.drew (by assumption))).mono ?_; rintro e w' ⟨rfl, hB⟩) | (go_at_call 10; refine (rslope_in _ hx hy w _ (by first | assumption | exact Below.drew (by assumption))).mono ?_; rintro e w' ⟨rfl, hB⟩) | (go_at_call 8; refine (same_any _ _ _).mono ?_; rintro e w' ⟨rfl, rfl⟩) | (go_at_call 11; refine (valid_any _ _).mono ?_; rintro e w' ⟨rfl, rfl⟩) | (go_at_call 12; refine (rvalid_any _ _).mono ?_; rintro e w' ⟨rfl, rfl⟩))
          go_wp2
          go_roundw
          case rel => exact ⟨j + 1, by omega, by omega, rfl, by first | assumption | (have h := ‹_ ∧ _ ∧ Below _ _ _›; exact h.2.2)⟩
          case measure => simp [intOf]; omega
        · have hd0 := (HELD.out wr hw1).2.1
          have hd1 := (HELD.out wr hw1).2.2
          have hdn := (HELD.out wr hw1).1
          go_wp2
          go_region_held3 (fun w' => w'.cell? ⟨b, off + k * 3 + 1, none⟩ = some (.float .f64 (xs k)) ∧ w'.cell? ⟨b, off + k * 3 + 2, none⟩ = some (.float .f64 (ys k)) ∧ Below w.heap.size w w')
            (first | exact KEEP.out _ (by assumption) | exact KEEP.out _ (Below.drew (by assumption)) | go_keep)
            (first | (go_at_call 9; refine (slope_in _ hx hy w _ (by first | assumption | exact Below.drew (by assumption))).mono ?_; rintro e w' ⟨rfl, hB⟩) | (go_at_call 10; refine (rslope_in _ hx hy w _ (by first | assumption | exact Below.drew (by assumption))).mono ?_; rintro e w' ⟨rfl, hB⟩) | (go_at_call 8; refine (same_any _ _ _).mono ?_; rintro e w' ⟨rfl, rfl⟩) | (go_at_call 11; refine (valid_any _ _).mono ?_; rintro e w' ⟨rfl, rfl⟩) | (go_at_call 12; refine (rvalid_any _ _).mono ?_; rintro e w' ⟨rfl, rfl⟩))
          go_wp2
          go_roundw
          case rel => exact ⟨k + 1, by omega, by go_num, by first | assumption | (have h := ‹_ ∧ _ ∧ Below _ _ _›; exact h.2.2)⟩
          case measure => simp [intOf]; omega
    · go_wp2
      go_ret
      exact ⟨rfl, hw⟩
end Go.Proofs.Ytjbiklkjcalmkaa
