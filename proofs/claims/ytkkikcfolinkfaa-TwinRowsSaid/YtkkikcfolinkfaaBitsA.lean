/- The leaves of bits: what each call gives, as a plain function of the words. -/
import Derived.Test.YtkkikcfolinkfaaBase
namespace Go.Proofs.Ytkkikcfolinkfaa
open Go.RowKit TF

attribute [local go_sem] cmp_eq cmp_ne cmp_lt cmp_gt cmp_le cmp_ge


theorem quiet_any (w : World) :
    Calls Try.prog 44 #[] w fun e w' => e = .returned (.float .f64 9221120237041090561) ∧ w = w' := by
  have k1 : (callFunc 45 #[.int .u64 9221120237041090561]).run Try.prog w = .ok (.value (.float .f64 9221120237041090561)) w := run_f64from 9221120237041090561 w
  go_enter Try.func44, Try.ntmps44
  go_wp2
  go_ret
  exact ⟨rfl, rfl⟩

theorem canon_any (b : Nat) (w : World) :
    Calls Try.prog 21 #[.float .f64 b] w fun e w' => e = .returned (.float .f64 (canonW b)) ∧ w = w' := by
  unfold canonW
  rw [isN_eq]
  by_cases h : eqW b b = false
  · rw [h]
    go_enter Try.func21, Try.ntmps21
    go_wp2_with (go_at_call 44; refine (quiet_any _).mono ?_; rintro e w' ⟨rfl, rfl⟩)
    go_ret
    exact ⟨rfl, rfl⟩
  · rw [Bool.not_eq_false] at h
    rw [h]
    have hz : eqW b 0 = decide (mg b = 0) := by rw [eqW_zero]; rw [eqW_self] at h; rw [h]; rfl
    by_cases h0 : mg b = 0
    · rw [decide_eq_true h0] at hz
      simp only [h0]
      clear h0
      go_enter Try.func21, Try.ntmps21
      go_wp2_with fail
      go_ret
      exact ⟨rfl, rfl⟩
    · rw [decide_eq_false h0] at hz
      simp only [h0]
      clear h0
      go_enter Try.func21, Try.ntmps21
      go_wp2_with fail
      go_ret
      exact ⟨rfl, rfl⟩











theorem abs_any (b : Nat) (hb : b < 2 ^ 64) (w : World) :
    Calls Try.prog 33 #[.float .f64 b] w fun e w' => e = .returned (.float .f64 (mg b)) ∧ w = w' := by
  have k1 := run_f64bits
  have k2 := andNot_eq hb
  have k3 := run_f64from
  clear hb
  go_enter Try.func33, Try.ntmps33
  go_wp2
  go_ret
  exact ⟨rfl, rfl⟩

theorem isinf1_any (b : Nat) (w : World) :
    Calls Try.prog 48 #[.float .f64 b, .int .i64 1] w fun e w' => e = .returned (.bool (ltW 9218868437227405311 b)) ∧ w = w' := by
  go_enter Try.func48, Try.ntmps48
  go_wp2_with fail
  go_ret
  exact ⟨rfl, rfl⟩



end Go.Proofs.Ytkkikcfolinkfaa
