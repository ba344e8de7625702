/- A float's bits and back: what the functions of package math and of the references give. -/
import Derived.Test.YtneedadoafcfcaaRows
import Derived.Test.YtneedadoafcfcaaBitsF
namespace Go.Proofs.Ytneedadoafcfcaa
open Go.RowKit TF

attribute [local go_sem] cmp_eq cmp_ne cmp_lt cmp_gt cmp_le cmp_ge

theorem run_f64bits (b : Nat) (w : World) : (callFunc 39 #[.float .f64 b]).run Try.prog w = .ok (.value (.int .u64 b)) w := by
  rw [run_callFunc_extern Try.func39 (by kernel_rfl) (by kernel_rfl) (by kernel_rfl) (e := Extern.MathFloatBits.float64bits) (by kernel_rfl)]
  rfl
theorem bits_of (b : Nat) (n : Int) (hn : n = b) : ∀ w : World, (callFunc 39 #[.float .f64 b]).run Try.prog w = .ok (.value (.int .u64 n)) w := by
  subst hn; exact run_f64bits b

theorem run_f64from (n : Int) (w : World) : (callFunc 34 #[.int .u64 n]).run Try.prog w = .ok (.value (.float .f64 n.toNat)) w := by
  rw [run_callFunc_extern Try.func34 (by kernel_rfl) (by kernel_rfl) (by kernel_rfl) (e := Extern.MathFloatBits.float64frombits) (by kernel_rfl)]
  rfl

theorem rbits_any (b : Nat) (n : Int) (hn : n = b) (w : World) :
    Calls Try.prog 14 #[.float .f64 b] w fun e w' => e = .returned (.int .u64 n) ∧ w = w' := by
  have k := bits_of b n hn
  clear hn
  go_enter Try.func14, Try.ntmps14
  go_wp2_with fail
  go_ret
  exact ⟨rfl, rfl⟩

theorem from_any (n : Int) (w : World) :
    Calls Try.prog 15 #[.int .u64 n] w fun e w' => e = .returned (.float .f64 n.toNat) ∧ w = w' := by
  have k1 := run_f64from
  go_enter Try.func15, Try.ntmps15
  go_wp2_with fail
  go_ret
  exact ⟨rfl, rfl⟩

theorem rsame_any (a b : Nat) (w : World) :
    Calls Try.prog 16 #[.float .f64 a, .float .f64 b] w fun e w' => e = .returned (.bool (sameB a b)) ∧ w = w' := by
  have k1 := run_f64bits
  go_enter Try.func16, Try.ntmps16
  go_wp2_with fail
  go_ret
  exact ⟨ret_bool' (cast_beq a b), rfl⟩

theorem grown_drewN (w : World) (n : Nat) : Grown w (w.drewN n) := ⟨(Grown.refl w).1, fun _ => rfl, Nat.le_refl _⟩

end Go.Proofs.Ytneedadoafcfcaa
