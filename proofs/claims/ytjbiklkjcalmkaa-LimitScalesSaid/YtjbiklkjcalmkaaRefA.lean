/- The reference's functions of layer 1: each answers the plain function. -/
import Derived.Test.YtjbiklkjcalmkaaBase
import Derived.Test.YtjbiklkjcalmkaaRefF
namespace Go.Proofs.Ytjbiklkjcalmkaa
open Go.RowKit TF

attribute [local go_sem] cmp_eq cmp_ne cmp_lt cmp_gt cmp_le cmp_ge

theorem mag_any (b : Nat) (m : Int) (hm : m = mg b) (w : World) :
    Calls Try.prog 31 #[.float .f64 b] w fun e w' => e = .returned (.int .u64 m) ∧ w = w' := by
  obtain ⟨n, hn⟩ : ∃ n : Int, n = b := ⟨_, rfl⟩
  have k1 := mod_mg n m hn hm
  have h0 : 0 ≤ n := by omega
  have HN := Lib.hid hn
  clear hn hm
  go_enter Try.func31, Try.ntmps31
  go_wp2_with (first | (go_at_call 40; refine (rbits_any _ n HN.out _).mono ?_; rintro e w' ⟨rfl, rfl⟩))
  go_ret
  exact ⟨by first | rfl | exact ret_int' k1, rfl⟩


theorem none_any (b : Nat) (w : World) :
    Calls Try.prog 29 #[.float .f64 b] w fun e w' => e = .returned (.bool (isN b)) ∧ w = w' := by
  obtain ⟨m, hm⟩ : ∃ m : Int, m = mg b := ⟨_, rfl⟩
  have HM := Lib.hid hm
  rcases none_cases m hm with ⟨e, h⟩ | ⟨e, h⟩
  · have q : decide (9218868437227405312 < m) = true := decide_eq_true h
    rw [e]; clear e hm
    go_enter Try.func29, Try.ntmps29
    go_wp2_with (first | (go_at_call 31; refine (mag_any _ m HM.out _).mono ?_; rintro e w' ⟨rfl, rfl⟩))
    go_ret
    exact ⟨by first | rfl | exact ret_bool' q, rfl⟩
  · have q : decide (9218868437227405312 < m) = false := decide_eq_false (by omega)
    rw [e]; clear e hm
    go_enter Try.func29, Try.ntmps29
    go_wp2_with (first | (go_at_call 31; refine (mag_any _ m HM.out _).mono ?_; rintro e w' ⟨rfl, rfl⟩))
    go_ret
    exact ⟨by first | rfl | exact ret_bool' q, rfl⟩

theorem rquiet_any (w : World) :
    Calls Try.prog 30 #[] w fun e w' => e = .returned (.float .f64 9221120237041090561) ∧ w = w' := by
  go_enter Try.func30, Try.ntmps30
  go_wp2_with (first | (go_at_call 32; refine (from_any _ _).mono ?_; rintro e w' ⟨rfl, rfl⟩))
  go_ret
  exact ⟨rfl, rfl⟩

theorem rclass_any (b : Nat) (w : World) :
    Calls Try.prog 35 #[.float .f64 b] w fun e w' => e = .returned (.int .i64 (classW b)) ∧ w = w' := by
  obtain ⟨m, hm⟩ : ∃ m : Int, m = mg b := ⟨_, rfl⟩
  have HM := Lib.hid hm
  rcases class_cases b m hm with ⟨e, h⟩ | ⟨e, h, h2⟩ | ⟨e, h, h2⟩ | ⟨e, h⟩ | ⟨e, h⟩
  all_goals
    rw [e]; clear e hm
    go_enter Try.func35, Try.ntmps35
    go_wp2_with (first | (go_at_call 31; refine (mag_any _ m HM.out _).mono ?_; rintro e w' ⟨rfl, rfl⟩))
    go_ret
    exact ⟨rfl, rfl⟩

theorem rcanon_any (b : Nat) (w : World) :
    Calls Try.prog 19 #[.float .f64 b] w fun e w' => e = .returned (.float .f64 (canonW b)) ∧ w = w' := by
  obtain ⟨m, hm⟩ : ∃ m : Int, m = mg b := ⟨_, rfl⟩
  have HM := Lib.hid hm
  rcases canon_cases b m hm with ⟨e, h⟩ | ⟨h, ⟨e, h2⟩ | ⟨e, h2⟩⟩
  all_goals
    rw [e]; clear e hm
    go_enter Try.func19, Try.ntmps19
    go_wp2_with (first | (go_at_call 29; refine (none_any _ _).mono ?_; rintro e w' ⟨rfl, rfl⟩) | (go_at_call 30; refine (rquiet_any _).mono ?_; rintro e w' ⟨rfl, rfl⟩) | (go_at_call 31; refine (mag_any _ m HM.out _).mono ?_; rintro e w' ⟨rfl, rfl⟩) | (go_at_call 32; refine (from_any _ _).mono ?_; rintro e w' ⟨rfl, rfl⟩))
    go_ret
    exact ⟨rfl, rfl⟩









end Go.Proofs.Ytjbiklkjcalmkaa
