/- Split and Product on both sides. -/
import Derived.Test.YtkkikcfolinkfaaTwC
import Derived.Test.YtkkikcfolinkfaaTwinZ
namespace Go.Proofs.Ytkkikcfolinkfaa
open Go.RowKit TF

attribute [local go_sem] cmp_eq cmp_ne cmp_lt cmp_gt cmp_le cmp_ge

theorem split_any (x : Nat) (hx : W64 x) (w : World) :
    Calls Try.prog 17 #[.float .f64 x] w fun e w' => e = .returned (.tuple #[.float .f64 (splitW x).1, .float .f64 (splitW x).2]) ∧ w = w' := by
  rcases split_ways hx with ⟨h1, e⟩ | ⟨h1, h2, e⟩ | ⟨h1, h2, h, l, k, e⟩
  · rw [e]; clear e
    go_enter Try.func17, Try.ntmps17
    go_wp2_with (first | (go_at_call 32; refine (tfin_any _ (by assumption) _).mono ?_; rintro e w' ⟨rfl, rfl⟩) | (go_at_call 33; refine (abs_any _ (by assumption) _).mono ?_; rintro e w' ⟨rfl, rfl⟩) | (go_at_call 21; refine (canon_any _ _).mono ?_; rintro e w' ⟨rfl, rfl⟩))
    go_ret2
    exact ⟨rfl, rfl⟩
  · rw [e]; clear e
    go_enter Try.func17, Try.ntmps17
    go_wp2_with (first | (go_at_call 32; refine (tfin_any _ (by assumption) _).mono ?_; rintro e w' ⟨rfl, rfl⟩) | (go_at_call 33; refine (abs_any _ (by assumption) _).mono ?_; rintro e w' ⟨rfl, rfl⟩) | (go_at_call 21; refine (canon_any _ _).mono ?_; rintro e w' ⟨rfl, rfl⟩))
    go_ret2
    exact ⟨rfl, rfl⟩
  · rw [e]; clear e
    have H : Cut x h l := ⟨k⟩
    clear k
    go_enter Try.func17, Try.ntmps17
    go_wp2_with (first | (go_at_call 32; refine (tfin_any _ (by assumption) _).mono ?_; rintro e w' ⟨rfl, rfl⟩) | (go_at_call 33; refine (abs_any _ (by assumption) _).mono ?_; rintro e w' ⟨rfl, rfl⟩) | (go_at_call 34; refine (canons_any _ _ _).mono ?_; rintro e w' ⟨rfl, rfl⟩) | (go_at_call 41; refine (halves_of (by assumption) _).mono ?_; rintro e w' ⟨rfl, rfl⟩))
    go_ret2
    exact ⟨rfl, rfl⟩

theorem rsplit_any (x : Nat) (hx : W64 x) (w : World) :
    Calls Try.prog 18 #[.float .f64 x] w fun e w' => e = .returned (.tuple #[.float .f64 (splitW x).1, .float .f64 (splitW x).2]) ∧ w = w' := by
  obtain ⟨m, hm⟩ : ∃ m : Int, m = mg x := ⟨_, rfl⟩
  have HM := Lib.hid hm
  have hm0 : 0 ≤ m := by omega
  rcases rsplit_ways hx m hm with ⟨h1, e⟩ | ⟨h1, h, l, c, d, k1, k2, k3, k4, e⟩
  · rw [e]; clear e hm
    go_enter Try.func18, Try.ntmps18
    go_wp2_with (first | (go_at_call 35; refine (mag_any _ m HM.out _).mono ?_; rintro e w' ⟨rfl, rfl⟩) | (go_at_call 36; refine (rcanon_any _ _).mono ?_; rintro e w' ⟨rfl, rfl⟩))
    go_ret2
    exact ⟨rfl, rfl⟩
  · rw [e]; clear e hm
    have k1 := run_valid (P := Try.prog) 24 k1
    have k2 := run_valid (P := Try.prog) 24 k2
    have k3 := run_valid (P := Try.prog) 24 k3
    have k4 := run_valid (P := Try.prog) 24 k4
    go_enter Try.func18, Try.ntmps18
    go_wp2_with (first | (go_at_call 35; refine (mag_any _ m HM.out _).mono ?_; rintro e w' ⟨rfl, rfl⟩) | (go_at_call 36; refine (rcanon_any _ _).mono ?_; rintro e w' ⟨rfl, rfl⟩))
    go_ret2
    exact ⟨rfl, rfl⟩

theorem power_at (k : Nat) (n : Int) (hn : n = (k : Int) - 1074) (hk : k ≤ 2097) (w : World) :
    Calls Try.prog 40 #[.int .i64 n] w fun e w' => e = .returned (.float .f64 (pw k)) ∧ w = w' := by
  by_cases h : k < 52
  · go_enter Try.func40, Try.ntmps40
    go_wp2_with (first | (go_at_call 25; refine (from_any _ _).mono ?_; rintro e w' ⟨rfl, rfl⟩))
    go_ret
    refine ⟨ret_f64 ?_, rfl⟩
    subst hn
    unfold pw
    rw [if_pos h, u64w]
    have h1 : 2 ^ k < 2 ^ 52 := Nat.pow_lt_pow_right (by omega) h
    have h2 : ((2 ^ k : Nat) : Int) = 2 ^ k := by simp
    rw [← h2]
    generalize 2 ^ k = q at *
    omega
  · go_enter Try.func40, Try.ntmps40
    go_wp2_with (first | (go_at_call 25; refine (from_any _ _).mono ?_; rintro e w' ⟨rfl, rfl⟩))
    go_ret
    refine ⟨ret_f64 ?_, rfl⟩
    subst hn
    unfold pw
    rw [if_neg h]
    omega
theorem power_52 (w : World) : Calls Try.prog 40 #[.int .i64 (-52)] w fun e w' => e = .returned (.float .f64 (pw 1022)) ∧ w = w' := power_at 1022 (-52) (by omega) (by omega) w

theorem scaled_any (x : Int) (K : Nat) (below : Bool) (h0 : 0 ≤ x) (h : x ≤ 4503599627370496) (hK : K ≤ 2097) (hb : below = true → 0 < x) (w : World) :
    Calls Try.prog 42 #[.int .i64 x, .int .i64 ((K : Int) - 1074), .bool below] w fun e w' => e = .returned (.float .f64 (rw' false ((if below = true then -x else x) * (2 ^ K : Nat)))) ∧ w = w' := by
  by_cases hlow : K < 52
  · obtain ⟨y, r, k1, k2, k3, k4, k5⟩ := scaled_low h0 h hlow
    have k1 := run_valid (P := Try.prog) 24 k1
    have k2 := run_valid (P := Try.prog) 24 k2
    cases below
    · have k7 := k4
      go_enter Try.func42, Try.ntmps42
      go_wp2
      go_loopw [0, 1] (fun a b wr => a = .int .i64 x ∧ b = .int .i64 ((K : Int) - 1074) ∧ wr = w) (fun _ _ _ => 0)
      case atStart => exact ⟨rfl, rfl, rfl⟩
      case round =>
        obtain ⟨rfl, rfl, rfl⟩ := hrel
        go_wp2_with (first | (go_at_call 40; refine (power_at (K + 52) _ (by omega) (by omega) _).mono ?_; rintro e w' ⟨rfl, rfl⟩) | (go_at_call 40; refine (power_52 _).mono ?_; rintro e w' ⟨rfl, rfl⟩) | (go_at_call 36; refine (rcanon_any _ _).mono ?_; rintro e w' ⟨rfl, rfl⟩))
        go_ret
        exact ⟨rfl, rfl⟩
    · have k7 := k5 (hb rfl)
      have k6 := run_neg Try.prog k3
      go_enter Try.func42, Try.ntmps42
      go_wp2
      go_loopw [0, 1] (fun a b wr => a = .int .i64 x ∧ b = .int .i64 ((K : Int) - 1074) ∧ wr = w) (fun _ _ _ => 0)
      case atStart => exact ⟨rfl, rfl, rfl⟩
      case round =>
        obtain ⟨rfl, rfl, rfl⟩ := hrel
        go_wp2_with (first | (go_at_call 40; refine (power_at (K + 52) _ (by omega) (by omega) _).mono ?_; rintro e w' ⟨rfl, rfl⟩) | (go_at_call 40; refine (power_52 _).mono ?_; rintro e w' ⟨rfl, rfl⟩) | (go_at_call 36; refine (rcanon_any _ _).mono ?_; rintro e w' ⟨rfl, rfl⟩))
        go_ret
        exact ⟨rfl, rfl⟩
  · obtain ⟨r, k1, k3, k4, k5⟩ := scaled_near h0 h hK
    have k1 := run_valid (P := Try.prog) 24 k1
    cases below
    · have k7 := k4
      go_enter Try.func42, Try.ntmps42
      go_wp2
      go_loopw [0, 1] (fun a b wr => a = .int .i64 x ∧ b = .int .i64 ((K : Int) - 1074) ∧ wr = w) (fun _ _ _ => 0)
      case atStart => exact ⟨rfl, rfl, rfl⟩
      case round =>
        obtain ⟨rfl, rfl, rfl⟩ := hrel
        go_wp2_with (first | (go_at_call 40; refine (power_at K _ (by omega) (by omega) _).mono ?_; rintro e w' ⟨rfl, rfl⟩) | (go_at_call 36; refine (rcanon_any _ _).mono ?_; rintro e w' ⟨rfl, rfl⟩))
        go_ret
        exact ⟨rfl, rfl⟩
    · have k7 := k5 (hb rfl)
      have k6 := run_neg Try.prog k3
      go_enter Try.func42, Try.ntmps42
      go_wp2
      go_loopw [0, 1] (fun a b wr => a = .int .i64 x ∧ b = .int .i64 ((K : Int) - 1074) ∧ wr = w) (fun _ _ _ => 0)
      case atStart => exact ⟨rfl, rfl, rfl⟩
      case round =>
        obtain ⟨rfl, rfl, rfl⟩ := hrel
        go_wp2_with (first | (go_at_call 40; refine (power_at K _ (by omega) (by omega) _).mono ?_; rintro e w' ⟨rfl, rfl⟩) | (go_at_call 36; refine (rcanon_any _ _).mono ?_; rintro e w' ⟨rfl, rfl⟩))
        go_ret
        exact ⟨rfl, rfl⟩
end Go.Proofs.Ytkkikcfolinkfaa
