/- The reference's functions of layer 1: each answers the plain function. -/
import Derived.Test.YtjobpkomlgkakaaBase
import Derived.Test.YtjobpkomlgkakaaRefF
namespace Go.Proofs.Ytjobpkomlgkakaa
open Go.RowKit TF

attribute [local go_sem] cmp_eq cmp_ne cmp_lt cmp_gt cmp_le cmp_ge

theorem mag_any (b : Nat) (m : Int) (hm : m = mg b) (w : World) :
    Calls Try.prog 28 #[.float .f64 b] w fun e w' => e = .returned (.int .u64 m) ∧ w = w' := by
  obtain ⟨n, hn⟩ : ∃ n : Int, n = b := ⟨_, rfl⟩
  have k1 := mod_mg n m hn hm
  have h0 : 0 ≤ n := by omega
  have HN := Lib.hid hn
  clear hn hm
  go_enter Try.func28, Try.ntmps28
  go_wp2_with (first | (go_at_call 15; refine (rbits_any _ n HN.out _).mono ?_; rintro e w' ⟨rfl, rfl⟩))
  go_ret
  exact ⟨by first | rfl | exact ret_int' k1, rfl⟩


theorem none_any (b : Nat) (w : World) :
    Calls Try.prog 26 #[.float .f64 b] w fun e w' => e = .returned (.bool (isN b)) ∧ w = w' := by
  obtain ⟨m, hm⟩ : ∃ m : Int, m = mg b := ⟨_, rfl⟩
  have HM := Lib.hid hm
  rcases none_cases m hm with ⟨e, h⟩ | ⟨e, h⟩
  · have q : decide (9218868437227405312 < m) = true := decide_eq_true h
    rw [e]; clear e hm
    go_enter Try.func26, Try.ntmps26
    go_wp2_with (first | (go_at_call 28; refine (mag_any _ m HM.out _).mono ?_; rintro e w' ⟨rfl, rfl⟩))
    go_ret
    exact ⟨by first | rfl | exact ret_bool' q, rfl⟩
  · have q : decide (9218868437227405312 < m) = false := decide_eq_false (by omega)
    rw [e]; clear e hm
    go_enter Try.func26, Try.ntmps26
    go_wp2_with (first | (go_at_call 28; refine (mag_any _ m HM.out _).mono ?_; rintro e w' ⟨rfl, rfl⟩))
    go_ret
    exact ⟨by first | rfl | exact ret_bool' q, rfl⟩

theorem rquiet_any (w : World) :
    Calls Try.prog 27 #[] w fun e w' => e = .returned (.float .f64 9221120237041090561) ∧ w = w' := by
  go_enter Try.func27, Try.ntmps27
  go_wp2_with (first | (go_at_call 23; refine (from_any _ _).mono ?_; rintro e w' ⟨rfl, rfl⟩))
  go_ret
  exact ⟨rfl, rfl⟩


theorem rcanon_any (b : Nat) (w : World) :
    Calls Try.prog 20 #[.float .f64 b] w fun e w' => e = .returned (.float .f64 (canonW b)) ∧ w = w' := by
  obtain ⟨m, hm⟩ : ∃ m : Int, m = mg b := ⟨_, rfl⟩
  have HM := Lib.hid hm
  rcases canon_cases b m hm with ⟨e, h⟩ | ⟨h, ⟨e, h2⟩ | ⟨e, h2⟩⟩
  all_goals
    rw [e]; clear e hm
    go_enter Try.func20, Try.ntmps20
    go_wp2_with (first | (go_at_call 26; refine (none_any _ _).mono ?_; rintro e w' ⟨rfl, rfl⟩) | (go_at_call 27; refine (rquiet_any _).mono ?_; rintro e w' ⟨rfl, rfl⟩) | (go_at_call 28; refine (mag_any _ m HM.out _).mono ?_; rintro e w' ⟨rfl, rfl⟩) | (go_at_call 23; refine (from_any _ _).mono ?_; rintro e w' ⟨rfl, rfl⟩))
    go_ret
    exact ⟨rfl, rfl⟩









end Go.Proofs.Ytjobpkomlgkakaa
