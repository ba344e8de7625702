/- The leaves of bits: what each call gives, as a plain function of the words. -/
import Derived.Test.YtjbiklkjcalmkaaBase
namespace Go.Proofs.Ytjbiklkjcalmkaa
open Go.RowKit TF

attribute [local go_sem] cmp_eq cmp_ne cmp_lt cmp_gt cmp_le cmp_ge


theorem quiet_any (w : World) :
    Calls Try.prog 21 #[] w fun e w' => e = .returned (.float .f64 9221120237041090561) ∧ w = w' := by
  have k1 : (callFunc 36 #[.int .u64 9221120237041090561]).run Try.prog w = .ok (.value (.float .f64 9221120237041090561)) w := run_f64from 9221120237041090561 w
  go_enter Try.func21, Try.ntmps21
  go_wp2
  go_ret
  exact ⟨rfl, rfl⟩

theorem canon_any (b : Nat) (w : World) :
    Calls Try.prog 13 #[.float .f64 b] w fun e w' => e = .returned (.float .f64 (canonW b)) ∧ w = w' := by
  unfold canonW
  rw [isN_eq]
  by_cases h : eqW b b = false
  · rw [h]
    go_enter Try.func13, Try.ntmps13
    go_wp2_with (go_at_call 21; refine (quiet_any _).mono ?_; rintro e w' ⟨rfl, rfl⟩)
    go_ret
    exact ⟨rfl, rfl⟩
  · rw [Bool.not_eq_false] at h
    rw [h]
    have hz : eqW b 0 = decide (mg b = 0) := by rw [eqW_zero]; rw [eqW_self] at h; rw [h]; rfl
    by_cases h0 : mg b = 0
    · rw [decide_eq_true h0] at hz
      simp only [h0]
      clear h0
      go_enter Try.func13, Try.ntmps13
      go_wp2_with fail
      go_ret
      exact ⟨rfl, rfl⟩
    · rw [decide_eq_false h0] at hz
      simp only [h0]
      clear h0
      go_enter Try.func13, Try.ntmps13
      go_wp2_with fail
      go_ret
      exact ⟨rfl, rfl⟩



theorem place_any (b : Nat) (hb : b < 2 ^ 64) (w : World) :
    Calls Try.prog 38 #[.float .f64 b] w fun e w' => e = .returned (.int .u64 (placeW b)) ∧ w = w' := by
  obtain ⟨n, hn⟩ : ∃ n : Int, n = b := ⟨_, rfl⟩
  have k1 := bits_of b n hn
  rcases place_cases hb n hn with ⟨h1, e⟩ | ⟨h1, e⟩
  all_goals
    clear hb hn
    go_enter Try.func38, Try.ntmps38
    go_wp2_with fail
    go_ret
    exact ⟨rfl, rfl⟩

theorem compare_any (a b : Nat) (w : World) :
    Calls Try.prog 37 #[.int .u64 a, .int .u64 b] w fun e w' => e = .returned (.int .i64 (cmpN a b)) ∧ w = w' := by
  unfold cmpN
  by_cases h1 : a < b
  · rw [if_pos h1]
    go_enter Try.func37, Try.ntmps37
    go_wp2
    go_ret
    exact ⟨rfl, rfl⟩
  · rw [if_neg h1]
    by_cases h2 : b < a
    · rw [if_pos h2]
      go_enter Try.func37, Try.ntmps37
      go_wp2
      go_ret
      exact ⟨rfl, rfl⟩
    · rw [if_neg h2]
      go_enter Try.func37, Try.ntmps37
      go_wp2
      go_ret
      exact ⟨rfl, rfl⟩

theorem order_any (a b : Nat) (ha : a < 2 ^ 64) (hb : b < 2 ^ 64) (w : World) :
    Calls Try.prog 22 #[.float .f64 a, .float .f64 b] w fun e w' => e = .returned (.int .i64 (orderW a b)) ∧ w = w' := by
  have HA := Lib.hid ha
  have HB := Lib.hid hb
  clear ha hb
  unfold orderW
  go_enter Try.func22, Try.ntmps22
  go_wp2_with (first | (go_at_call 38; refine (place_any _ (by first | exact HA.out | exact HB.out) _).mono ?_; rintro e w' ⟨rfl, rfl⟩) | (go_at_call 37; refine (compare_any _ _ _).mono ?_; rintro e w' ⟨rfl, rfl⟩))
  go_ret
  exact ⟨rfl, rfl⟩


theorem max_any (a b : Nat) (ha : a < 2 ^ 64) (hb : b < 2 ^ 64) (w : World) :
    Calls Try.prog 16 #[.float .f64 a, .float .f64 b] w fun e w' => e = .returned (.float .f64 (maxW a b)) ∧ w = w' := by
  have HA := Lib.hid ha
  have HB := Lib.hid hb
  clear ha hb
  rcases max_cases a b with ⟨e, h1 | ⟨h1, h2⟩⟩ | ⟨h1, h2, ⟨e, h3⟩ | ⟨e, h3⟩⟩
  all_goals
    rw [e]; clear e
    go_enter Try.func16, Try.ntmps16
    go_wp2_with (first | (go_at_call 21; refine (quiet_any _).mono ?_; rintro e w' ⟨rfl, rfl⟩) | (go_at_call 22; refine (order_any _ _ HA.out HB.out _).mono ?_; rintro e w' ⟨rfl, rfl⟩))
    go_ret
    exact ⟨rfl, rfl⟩

theorem min_any (a b : Nat) (ha : a < 2 ^ 64) (hb : b < 2 ^ 64) (w : World) :
    Calls Try.prog 25 #[.float .f64 a, .float .f64 b] w fun e w' => e = .returned (.float .f64 (minW a b)) ∧ w = w' := by
  have HA := Lib.hid ha
  have HB := Lib.hid hb
  clear ha hb
  rcases min_cases a b with ⟨e, h1 | ⟨h1, h2⟩⟩ | ⟨h1, h2, ⟨e, h3⟩ | ⟨e, h3⟩⟩
  all_goals
    rw [e]; clear e
    go_enter Try.func25, Try.ntmps25
    go_wp2_with (first | (go_at_call 21; refine (quiet_any _).mono ?_; rintro e w' ⟨rfl, rfl⟩) | (go_at_call 22; refine (order_any _ _ HA.out HB.out _).mono ?_; rintro e w' ⟨rfl, rfl⟩))
    go_ret
    exact ⟨rfl, rfl⟩



theorem abs_any (b : Nat) (hb : b < 2 ^ 64) (w : World) :
    Calls Try.prog 39 #[.float .f64 b] w fun e w' => e = .returned (.float .f64 (mg b)) ∧ w = w' := by
  have k1 := run_f64bits
  have k2 := andNot_eq hb
  have k3 := run_f64from
  clear hb
  go_enter Try.func39, Try.ntmps39
  go_wp2
  go_ret
  exact ⟨rfl, rfl⟩

theorem isinf1_any (b : Nat) (w : World) :
    Calls Try.prog 28 #[.float .f64 b, .int .i64 1] w fun e w' => e = .returned (.bool (ltW 9218868437227405311 b)) ∧ w = w' := by
  go_enter Try.func28, Try.ntmps28
  go_wp2_with fail
  go_ret
  exact ⟨rfl, rfl⟩



end Go.Proofs.Ytjbiklkjcalmkaa
