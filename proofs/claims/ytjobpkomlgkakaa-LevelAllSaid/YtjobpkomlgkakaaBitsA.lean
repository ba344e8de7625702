/- The leaves of bits: what each call gives, as a plain function of the words. -/
import Derived.Test.YtjobpkomlgkakaaBase
namespace Go.Proofs.Ytjobpkomlgkakaa
open Go.RowKit TF

attribute [local go_sem] cmp_eq cmp_ne cmp_lt cmp_gt cmp_le cmp_ge


theorem quiet_any (w : World) :
    Calls Try.prog 25 #[] w fun e w' => e = .returned (.float .f64 9221120237041090561) ∧ w = w' := by
  have k1 : (callFunc 35 #[.int .u64 9221120237041090561]).run Try.prog w = .ok (.value (.float .f64 9221120237041090561)) w := run_f64from 9221120237041090561 w
  go_enter Try.func25, Try.ntmps25
  go_wp2
  go_ret
  exact ⟨rfl, rfl⟩

theorem canon_any (b : Nat) (w : World) :
    Calls Try.prog 19 #[.float .f64 b] w fun e w' => e = .returned (.float .f64 (canonW b)) ∧ w = w' := by
  unfold canonW
  rw [isN_eq]
  by_cases h : eqW b b = false
  · rw [h]
    go_enter Try.func19, Try.ntmps19
    go_wp2_with (go_at_call 25; refine (quiet_any _).mono ?_; rintro e w' ⟨rfl, rfl⟩)
    go_ret
    exact ⟨rfl, rfl⟩
  · rw [Bool.not_eq_false] at h
    rw [h]
    have hz : eqW b 0 = decide (mg b = 0) := by rw [eqW_zero]; rw [eqW_self] at h; rw [h]; rfl
    by_cases h0 : mg b = 0
    · rw [decide_eq_true h0] at hz
      simp only [h0]
      clear h0
      go_enter Try.func19, Try.ntmps19
      go_wp2_with fail
      go_ret
      exact ⟨rfl, rfl⟩
    · rw [decide_eq_false h0] at hz
      simp only [h0]
      clear h0
      go_enter Try.func19, Try.ntmps19
      go_wp2_with fail
      go_ret
      exact ⟨rfl, rfl⟩











theorem abs_any (b : Nat) (hb : b < 2 ^ 64) (w : World) :
    Calls Try.prog 30 #[.float .f64 b] w fun e w' => e = .returned (.float .f64 (mg b)) ∧ w = w' := by
  have k1 := run_f64bits
  have k2 := andNot_eq hb
  have k3 := run_f64from
  clear hb
  go_enter Try.func30, Try.ntmps30
  go_wp2
  go_ret
  exact ⟨rfl, rfl⟩

theorem isinf1_any (b : Nat) (w : World) :
    Calls Try.prog 41 #[.float .f64 b, .int .i64 1] w fun e w' => e = .returned (.bool (ltW 9218868437227405311 b)) ∧ w = w' := by
  go_enter Try.func41, Try.ntmps41
  go_wp2_with fail
  go_ret
  exact ⟨rfl, rfl⟩



end Go.Proofs.Ytjobpkomlgkakaa
