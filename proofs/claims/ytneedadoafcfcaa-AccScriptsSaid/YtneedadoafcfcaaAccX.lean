/- Value. -/
import Derived.Test.YtneedadoafcfcaaAccV2
import Derived.Deep.MidRow
import Derived.Deep.WholeRow
namespace Go.Proofs.Ytneedadoafcfcaa
open Go Go.RowKit TF

attribute [local go_sem] cmp_eq cmp_ne cmp_lt cmp_gt cmp_le cmp_ge

theorem inf_acc' (w : World) : Calls Try.prog 35 #[.int .i64 (-1)] w fun x w' => x = .returned (.float .f64 18442240474082181120) ∧ w = w' := by
  have k1 := run_f64from
  go_enter Try.func35, Try.ntmps35
  go_wp2_with fail
  go_ret
  exact ⟨rfl, rfl⟩
theorem value_nil (w : World) :
    Calls Try.prog 13 #[.pointer none] w fun e w' => e = .returned (.float .f64 0) ∧ w = w' := by
  go_enter Try.func13, Try.ntmps13
  go_wp2_with fail
  go_ret
  exact ⟨rfl, rfl⟩
theorem value_odd (b : Nat) (s : AccS) (w : World) (h : AccAt w b s) (r : Nat) (hc : s.cnt = 0 ∧ r = 0 ∨ s.cnt ≠ 0 ∧ (s.nn = true ∧ r = 9221120237041090561 ∨ s.nn = false ∧ (s.up = true ∧ s.dn = true ∧ r = 9221120237041090561 ∨ s.up = true ∧ s.dn = false ∧ r = 9218868437227405312 ∨ s.up = false ∧ s.dn = true ∧ r = 18442240474082181120))) :
    Calls Try.prog 13 #[.pointer (some ⟨b, 0, none⟩)] w fun e w' => e = .returned (.float .f64 r) ∧ ∃ n, w' = w.drewN n := by
  have k1 := run_f64from
  obtain ⟨c1, -⟩ := h.cnt
  obtain ⟨c2, -⟩ := h.nz
  obtain ⟨c3, -⟩ := h.up
  obtain ⟨c4, -⟩ := h.dn
  obtain ⟨c5, -⟩ := h.nn
  clear h
  obtain ⟨h0, rfl⟩ | ⟨h0, ⟨h1, rfl⟩ | ⟨h1, ⟨h2, h3, rfl⟩ | ⟨h2, h3, rfl⟩ | ⟨h2, h3, rfl⟩⟩⟩ := hc
  · rw [h0] at c1
    go_enter Try.func13, Try.ntmps13
    go_wp2_with fail
    go_ret
    exact ⟨rfl, 0, rfl⟩
  · rw [h1] at c5
    go_enter Try.func13, Try.ntmps13
    go_wp2_with fail
    go_ret
    exact ⟨rfl, 0, rfl⟩
  all_goals
    rw [h1] at c5
    rw [h2] at c3
    rw [h3] at c4
    clear h1 h2 h3
    go_enter Try.func13, Try.ntmps13
    go_wp2_with (first | (go_at_call 35; ((with_reducible refine (inf_acc _).mono ?_)); rintro e w' ⟨rfl, rfl⟩) | (go_at_call 35; ((with_reducible refine (inf_acc' _).mono ?_)); rintro e w' ⟨rfl, rfl⟩))
    first | (go_ret; exact ⟨rfl, 0, rfl⟩) | trace_state
end Go.Proofs.Ytneedadoafcfcaa
