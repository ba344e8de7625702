/- The statement BitsAll: every call of layer 1 answers as the document's answer, at all bit patterns. -/
import Derived.Test.YtcjnnhmijpnicaaBitsB
import Derived.Test.YtcjnnhmijpnicaaRefA
import Derived.Test.YtcjnnhmijpnicaaOpenS
import Derived.Deep.QuietTactic
import Derived.BigQuiet
namespace Go.Proofs.Ytcjnnhmijpnicaa
open Go.RowKit TF

attribute [local go_sem] cmp_eq cmp_ne cmp_lt cmp_gt cmp_le cmp_ge

theorem one_any (x : Nat) (hx : W64 x) (w : World) : Calls Try.prog 25 #[.float .f64 x] w fun e w' => e = .returned (.bool true) ∧ ∃ n, w' = w.drewN n := by
  have s1 := sameB_self
  go_enter Try.func25, Try.ntmps25
  go_wp2_with (first | (go_at_call 18; refine (class_any _ (by first | assumption | (show _ < 2 ^ 64; decide) | ((repeat (first | assumption | apply W64.op | apply W64.up | apply W64.down | apply W64.canon | apply W64.mg | apply W64.ulp | apply W64.max | apply W64.min)); done)) _).mono ?_; rintro e w' ⟨rfl, rfl⟩) | (go_at_call 37; refine (rclass_any _ _).mono ?_; rintro e w' ⟨rfl, rfl⟩) | (go_at_call 17; refine (canon_any _ _).mono ?_; rintro e w' ⟨rfl, rfl⟩) | (go_at_call 38; refine (rcanon_any _ _).mono ?_; rintro e w' ⟨rfl, rfl⟩) | (go_at_call 16; refine (up_any _ (by first | assumption | (show _ < 2 ^ 64; decide) | ((repeat (first | assumption | apply W64.op | apply W64.up | apply W64.down | apply W64.canon | apply W64.mg | apply W64.ulp | apply W64.max | apply W64.min)); done)) _).mono ?_; rintro e w' ⟨rfl, rfl⟩) | (go_at_call 39; refine (rup_any _ (by assumption) _).mono ?_; rintro e w' ⟨rfl, rfl⟩) | (go_at_call 23; refine (down_any _ (by first | assumption | (show _ < 2 ^ 64; decide) | ((repeat (first | assumption | apply W64.op | apply W64.up | apply W64.down | apply W64.canon | apply W64.mg | apply W64.ulp | apply W64.max | apply W64.min)); done)) _).mono ?_; rintro e w' ⟨rfl, rfl⟩) | (go_at_call 40; refine (rdown_any _ (by assumption) _).mono ?_; rintro e w' ⟨rfl, rfl⟩) | (go_at_call 24; refine (ulp_any _ (by first | assumption | (show _ < 2 ^ 64; decide) | ((repeat (first | assumption | apply W64.op | apply W64.up | apply W64.down | apply W64.canon | apply W64.mg | apply W64.ulp | apply W64.max | apply W64.min)); done)) _).mono ?_; rintro e w' ⟨rfl, n, rfl⟩) | (go_at_call 41; refine (rulp_any _ _).mono ?_; rintro e w' ⟨rfl, rfl⟩) | (go_at_call 12; refine (same_any _ _ _).mono ?_; rintro e w' ⟨rfl, rfl⟩))
  go_ret
  exact ⟨rfl, _, rfl⟩

theorem two_any (a b : Nat) (ha : W64 a) (hb : W64 b) (w : World) : Calls Try.prog 26 #[.float .f64 a, .float .f64 b] w fun e w' => e = .returned (.bool true) ∧ ∃ n, w' = w.drewN n := by
  have s1 := sameB_self
  go_enter Try.func26, Try.ntmps26
  go_wp2_with (first | (go_at_call 13; refine (between_any _ _ (by first | assumption | (show _ < 2 ^ 64; decide) | ((repeat (first | assumption | apply W64.op | apply W64.up | apply W64.down | apply W64.canon | apply W64.mg | apply W64.ulp | apply W64.max | apply W64.min)); done)) (by first | assumption | (show _ < 2 ^ 64; decide) | ((repeat (first | assumption | apply W64.op | apply W64.up | apply W64.down | apply W64.canon | apply W64.mg | apply W64.ulp | apply W64.max | apply W64.min)); done)) _).mono ?_; rintro e w' ⟨rfl, rfl⟩) | (go_at_call 42; refine (rbetween_any _ _ (by assumption) (by assumption) _).mono ?_; rintro e w' ⟨rfl, rfl⟩) | (go_at_call 11; refine (order_any _ _ (by first | assumption | (show _ < 2 ^ 64; decide) | ((repeat (first | assumption | apply W64.op | apply W64.up | apply W64.down | apply W64.canon | apply W64.mg | apply W64.ulp | apply W64.max | apply W64.min)); done)) (by first | assumption | (show _ < 2 ^ 64; decide) | ((repeat (first | assumption | apply W64.op | apply W64.up | apply W64.down | apply W64.canon | apply W64.mg | apply W64.ulp | apply W64.max | apply W64.min)); done)) _).mono ?_; rintro e w' ⟨rfl, rfl⟩) | (go_at_call 43; refine (rorder_any _ _ (by assumption) (by assumption) _).mono ?_; rintro e w' ⟨rfl, rfl⟩) | (go_at_call 21; refine (max_any _ _ (by first | assumption | (show _ < 2 ^ 64; decide) | ((repeat (first | assumption | apply W64.op | apply W64.up | apply W64.down | apply W64.canon | apply W64.mg | apply W64.ulp | apply W64.max | apply W64.min)); done)) (by first | assumption | (show _ < 2 ^ 64; decide) | ((repeat (first | assumption | apply W64.op | apply W64.up | apply W64.down | apply W64.canon | apply W64.mg | apply W64.ulp | apply W64.max | apply W64.min)); done)) _).mono ?_; rintro e w' ⟨rfl, rfl⟩) | (go_at_call 44; refine (rmax_any _ _ (by assumption) (by assumption) _).mono ?_; rintro e w' ⟨rfl, rfl⟩) | (go_at_call 22; refine (min_any _ _ (by first | assumption | (show _ < 2 ^ 64; decide) | ((repeat (first | assumption | apply W64.op | apply W64.up | apply W64.down | apply W64.canon | apply W64.mg | apply W64.ulp | apply W64.max | apply W64.min)); done)) (by first | assumption | (show _ < 2 ^ 64; decide) | ((repeat (first | assumption | apply W64.op | apply W64.up | apply W64.down | apply W64.canon | apply W64.mg | apply W64.ulp | apply W64.max | apply W64.min)); done)) _).mono ?_; rintro e w' ⟨rfl, rfl⟩) | (go_at_call 45; refine (rmin_any _ _ (by assumption) (by assumption) _).mono ?_; rintro e w' ⟨rfl, rfl⟩) | (go_at_call 12; refine (same_any _ _ _).mono ?_; rintro e w' ⟨rfl, rfl⟩))
  go_ret
  exact ⟨rfl, 0, rfl⟩

set_option maxHeartbeats 2000000 in
theorem bitsAll_walk (A : Option Addr) (len cap : Nat) (xs ys : Nat → Nat) (w : World) (hm : len ≤ 9223372036854775807) (hp : Pairs w A len xs ys) :
    Calls Try.prog 9 #[.slice A len cap] w fun e w' => e = .returned (.bool true) ∧ Below w.heap.size w w' := by
  go_enter Try.func9, Try.ntmps9
  go_wp2_with (first | (go_at_call 10; refine (lives_any _).mono ?_; rintro e w' ⟨rfl, rfl⟩))
  go_loopw [3] (fun i wr => ∃ k : Nat, k ≤ len ∧ i = .int .i64 k ∧ ∃ n, wr = w.drewN n) (fun i _ => len - (intOf i).toNat)
  case atStart => exact ⟨0, Nat.zero_le _, rfl, 0, rfl⟩
  case round =>
    obtain ⟨k, hk, rfl, hw⟩ := hrel
    have HW := Lib.hid hw
    clear hw
    by_cases hlt : k < len
    · obtain ⟨b, off, rfl, _, hc0', hc1', hx, hy⟩ := hp k hlt
      have hc0 : wr.cell? ⟨b, off + k * 2, none⟩ = some (.float .f64 (xs k)) := by obtain ⟨n, rfl⟩ := HW.out; exact hc0'
      have hc1 : wr.cell? ⟨b, off + k * 2 + 1, none⟩ = some (.float .f64 (ys k)) := by obtain ⟨n, rfl⟩ := HW.out; exact hc1'
      clear hc0' hc1' hp
      go_wp2
      go_quiet ((first | (go_at_call 25; exact Calls.quiet_of (one_any _ (by first | exact hx | exact hy) _)) | (go_at_call 26; exact Calls.quiet_of (two_any _ _ hx hy _))))
      go_wp2
      go_roundw
      case rel => exact ⟨k + 1, by omega, by go_num, by obtain ⟨n, hn⟩ := HW.out; exact ⟨_, by rw [hn, World.drewN_drewN]⟩⟩
      case measure => simp [intOf]; omega
    · go_wp2
      go_ret
      exact ⟨rfl, by obtain ⟨n, rfl⟩ := HW.out; exact below_drewN (Below.refl _ _) _⟩
end Go.Proofs.Ytcjnnhmijpnicaa
