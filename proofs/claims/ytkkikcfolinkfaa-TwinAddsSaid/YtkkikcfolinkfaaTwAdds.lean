/- The statement TwinAdds: Add answers as the reference, along a row. -/
import Derived.Test.YtkkikcfolinkfaaTwC
import Derived.Test.YtkkikcfolinkfaaOpenS
import Derived.Deep.QuietTactic
import Derived.BigQuiet
namespace Go.Proofs.Ytkkikcfolinkfaa
open Go.RowKit TF

attribute [local go_sem] cmp_eq cmp_ne cmp_lt cmp_gt cmp_le cmp_ge

set_option maxHeartbeats 2000000 in
theorem twinAdds_walk (hi lo : Nat) (A : Option Addr) (len cap : Nat) (xs : Nat → Nat) (w : World) (hh : W64 hi) (_hl : W64 lo) (hm : len ≤ 9223372036854775807) (hp : Floats w A len xs) :
    Calls Try.prog 9 #[.float .f64 hi, .float .f64 lo, .slice A len cap] w fun e w' => e = .returned (.bool true) ∧ Below w.heap.size w w' := by
  go_enter Try.func9, Try.ntmps9
  go_wp2_with (first | (go_at_call 11; refine (awake_any _).mono ?_; rintro e w' ⟨rfl, rfl⟩))
  go_loopw [0, 1, 7] (fun a b i wr => ∃ k p q : Nat, k ≤ len ∧ a = .float .f64 p ∧ b = .float .f64 q ∧ W64 p ∧ i = .int .i64 k ∧ ∃ n, wr = w.drewN n) (fun _ _ i _ => len - (intOf i).toNat)
  case atStart => exact ⟨0, hi, lo, Nat.zero_le _, rfl, rfl, hh, rfl, 0, rfl⟩
  case round =>
    obtain ⟨k, p, q, hk, rfl, rfl, hp64, rfl, hw⟩ := hrel
    have HW := Lib.hid hw
    clear hw
    by_cases hlt : k < len
    · obtain ⟨b, off, rfl, _, hc0', hx⟩ := hp k hlt
      have hc0 : wr.cell? ⟨b, off + k, none⟩ = some (.float .f64 (xs k)) := by obtain ⟨n, rfl⟩ := HW.out; exact hc0'
      clear hc0' hp
      have e1 : (sameB (addW p q (xs k)).1 (addW p q (xs k)).1 && sameB (addW p q (xs k)).2 (addW p q (xs k)).2) = true := by simp [sameB_self]
      go_wp2_with (first | (go_at_call 28; refine (add_any _ _ _ (by assumption) (by assumption) _).mono ?_; rintro e w' ⟨rfl, n, rfl⟩) | (go_at_call 29; refine (radd_any _ _ _ (by assumption) (by assumption) _).mono ?_; rintro e w' ⟨rfl, n, rfl⟩) | (go_at_call 14; refine (same_any _ _ _ _ _).mono ?_; rintro e w' ⟨rfl, rfl⟩))
      go_roundw
      case rel => exact ⟨k + 1, _, _, by omega, rfl, rfl, (addW_lt _ _ _).1, by go_num, by obtain ⟨n, hn⟩ := HW.out; exact ⟨_, by rw [hn, World.drewN_drewN]⟩⟩
      case measure => simp [intOf]; omega
    · go_wp2
      go_ret
      exact ⟨rfl, by obtain ⟨n, rfl⟩ := HW.out; exact below_drewN (Below.refl _ _) _⟩
end Go.Proofs.Ytkkikcfolinkfaa
