/- The statement TwinProducts: Product and Split answer as the reference. -/
import Derived.Test.YtkkikcfolinkfaaTwE
import Derived.Test.YtkkikcfolinkfaaOpenS
import Derived.Deep.QuietTactic
import Derived.BigQuiet
namespace Go.Proofs.Ytkkikcfolinkfaa
open Go.RowKit TF

attribute [local go_sem] cmp_eq cmp_ne cmp_lt cmp_gt cmp_le cmp_ge

set_option maxHeartbeats 2000000 in
theorem twinProducts_walk (A : Option Addr) (len cap : Nat) (xs ys : Nat → Nat) (w : World) (hm : len ≤ 9223372036854775807) (hp : Pairs w A len xs ys) :
    Calls Try.prog 4 #[.slice A len cap] w fun e w' => e = .returned (.bool true) ∧ Below w.heap.size w w' := by
  go_enter Try.func4, Try.ntmps4
  go_wp2_with (first | (go_at_call 11; refine (awake_any _).mono ?_; rintro e w' ⟨rfl, rfl⟩))
  go_loopw [3] (fun i wr => ∃ k : Nat, k ≤ len ∧ i = .int .i64 k ∧ ∃ n, wr = w.drewN n) (fun i _ => len - (intOf i).toNat)
  case atStart => exact ⟨0, Nat.zero_le _, rfl, 0, rfl⟩
  case round =>
    obtain ⟨k, hk, rfl, hw⟩ := hrel
    have HW := Lib.hid hw
    clear hw
    by_cases hlt : k < len
    · obtain ⟨b, off, rfl, _, hc0', hc1', hx, hy⟩ := hp k hlt
      have hc0 : wr.cell? ⟨b, off + k * 2, none⟩ = some (.float .f64 (xs k)) := by obtain ⟨n, rfl⟩ := HW.out; exact hc0'
      have hc1 : wr.cell? ⟨b, off + k * 2 + 1, none⟩ = some (.float .f64 (ys k)) := by obtain ⟨n, rfl⟩ := HW.out; exact hc1'
      clear hc0' hc1' hp
      have e1 : (sameB (prodW (xs k) (ys k)).1 (prodW (xs k) (ys k)).1 && sameB (prodW (xs k) (ys k)).2 (prodW (xs k) (ys k)).2) = true := by simp [sameB_self]
      have e2 : (sameB (splitW (xs k)).1 (splitW (xs k)).1 && sameB (splitW (xs k)).2 (splitW (xs k)).2) = true := by simp [sameB_self]
      go_wp2
      go_quiet ((go_at_call 15; exact Calls.quiet_of (product_any _ _ hx hy _)))
      obtain ⟨wr2, hw2⟩ : ∃ wr2, wr2 = wr.drewN nq := ⟨_, rfl⟩
      have hd0 : wr2.cell? ⟨b, off + k * 2, none⟩ = some (.float .f64 (xs k)) := by rw [hw2]; exact hc0
      have hd1 : wr2.cell? ⟨b, off + k * 2 + 1, none⟩ = some (.float .f64 (ys k)) := by rw [hw2]; exact hc1
      have HW2 := Lib.hid hw2
      rw [← hw2]
      clear hw2 hc0 hc1
      go_wp2
      go_quiet ((go_at_call 16; exact Calls.quiet_of (rproduct_any _ _ hx hy _)))
      go_wp2_with (first | (go_at_call 17; refine (split_any _ (by assumption) _).mono ?_; rintro e w' ⟨rfl, rfl⟩) | (go_at_call 18; refine (rsplit_any _ (by assumption) _).mono ?_; rintro e w' ⟨rfl, rfl⟩) | (go_at_call 14; refine (same_any _ _ _ _ _).mono ?_; rintro e w' ⟨rfl, rfl⟩))
      go_roundw
      case rel => exact ⟨k + 1, by omega, by go_num, by obtain ⟨n, hn⟩ := HW.out; exact ⟨_, by rw [HW2.out, hn, World.drewN_drewN, World.drewN_drewN]⟩⟩
      case measure => simp [intOf]; omega
    · go_wp2
      go_ret
      exact ⟨rfl, by obtain ⟨n, rfl⟩ := HW.out; exact below_drewN (Below.refl _ _) _⟩
end Go.Proofs.Ytkkikcfolinkfaa
