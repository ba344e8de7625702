/- The reference's functions of layer 1: each answers the plain function. -/
import Derived.Test.YtkkikcfolinkfaaBase
import Derived.Test.YtkkikcfolinkfaaRefF
namespace Go.Proofs.Ytkkikcfolinkfaa
open Go.RowKit TF

attribute [local go_sem] cmp_eq cmp_ne cmp_lt cmp_gt cmp_le cmp_ge

theorem mag_any (b : Nat) (m : Int) (hm : m = mg b) (w : World) :
    Calls Try.prog 35 #[.float .f64 b] w fun e w' => e = .returned (.int .u64 m) ∧ w = w' := by
  obtain ⟨n, hn⟩ : ∃ n : Int, n = b := ⟨_, rfl⟩
  have k1 := mod_mg n m hn hm
  have h0 : 0 ≤ n := by omega
  have HN := Lib.hid hn
  clear hn hm
  go_enter Try.func35, Try.ntmps35
  go_wp2_with (first | (go_at_call 23; refine (rbits_any _ n HN.out _).mono ?_; rintro e w' ⟨rfl, rfl⟩))
  go_ret
  exact ⟨by first | rfl | exact ret_int' k1, rfl⟩

theorem below_any (b : Nat) (hb : W64 b) (w : World) :
    Calls Try.prog 39 #[.float .f64 b] w fun e w' => e = .returned (.bool (ng b)) ∧ w = w' := by
  obtain ⟨n, hn⟩ : ∃ n : Int, n = b := ⟨_, rfl⟩
  have HN := Lib.hid hn
  rcases below_cases hb n hn with ⟨e, h⟩ | ⟨e, h⟩
  · have q : decide (9223372036854775808 ≤ n) = true := decide_eq_true h
    rw [e]; clear e hn
    go_enter Try.func39, Try.ntmps39
    go_wp2_with (first | (go_at_call 23; refine (rbits_any _ n HN.out _).mono ?_; rintro e w' ⟨rfl, rfl⟩))
    go_ret
    exact ⟨by first | rfl | exact ret_bool' q, rfl⟩
  · have q : decide (9223372036854775808 ≤ n) = false := decide_eq_false (by omega)
    rw [e]; clear e hn
    go_enter Try.func39, Try.ntmps39
    go_wp2_with (first | (go_at_call 23; refine (rbits_any _ n HN.out _).mono ?_; rintro e w' ⟨rfl, rfl⟩))
    go_ret
    exact ⟨by first | rfl | exact ret_bool' q, rfl⟩

theorem none_any (b : Nat) (w : World) :
    Calls Try.prog 49 #[.float .f64 b] w fun e w' => e = .returned (.bool (isN b)) ∧ w = w' := by
  obtain ⟨m, hm⟩ : ∃ m : Int, m = mg b := ⟨_, rfl⟩
  have HM := Lib.hid hm
  rcases none_cases m hm with ⟨e, h⟩ | ⟨e, h⟩
  · have q : decide (9218868437227405312 < m) = true := decide_eq_true h
    rw [e]; clear e hm
    go_enter Try.func49, Try.ntmps49
    go_wp2_with (first | (go_at_call 35; refine (mag_any _ m HM.out _).mono ?_; rintro e w' ⟨rfl, rfl⟩))
    go_ret
    exact ⟨by first | rfl | exact ret_bool' q, rfl⟩
  · have q : decide (9218868437227405312 < m) = false := decide_eq_false (by omega)
    rw [e]; clear e hm
    go_enter Try.func49, Try.ntmps49
    go_wp2_with (first | (go_at_call 35; refine (mag_any _ m HM.out _).mono ?_; rintro e w' ⟨rfl, rfl⟩))
    go_ret
    exact ⟨by first | rfl | exact ret_bool' q, rfl⟩

theorem rquiet_any (w : World) :
    Calls Try.prog 50 #[] w fun e w' => e = .returned (.float .f64 9221120237041090561) ∧ w = w' := by
  go_enter Try.func50, Try.ntmps50
  go_wp2_with (first | (go_at_call 25; refine (from_any _ _).mono ?_; rintro e w' ⟨rfl, rfl⟩))
  go_ret
  exact ⟨rfl, rfl⟩


theorem rcanon_any (b : Nat) (w : World) :
    Calls Try.prog 36 #[.float .f64 b] w fun e w' => e = .returned (.float .f64 (canonW b)) ∧ w = w' := by
  obtain ⟨m, hm⟩ : ∃ m : Int, m = mg b := ⟨_, rfl⟩
  have HM := Lib.hid hm
  rcases canon_cases b m hm with ⟨e, h⟩ | ⟨h, ⟨e, h2⟩ | ⟨e, h2⟩⟩
  all_goals
    rw [e]; clear e hm
    go_enter Try.func36, Try.ntmps36
    go_wp2_with (first | (go_at_call 49; refine (none_any _ _).mono ?_; rintro e w' ⟨rfl, rfl⟩) | (go_at_call 50; refine (rquiet_any _).mono ?_; rintro e w' ⟨rfl, rfl⟩) | (go_at_call 35; refine (mag_any _ m HM.out _).mono ?_; rintro e w' ⟨rfl, rfl⟩) | (go_at_call 25; refine (from_any _ _).mono ?_; rintro e w' ⟨rfl, rfl⟩))
    go_ret
    exact ⟨rfl, rfl⟩









end Go.Proofs.Ytkkikcfolinkfaa
