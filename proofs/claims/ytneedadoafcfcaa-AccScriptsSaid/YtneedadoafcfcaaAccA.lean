/- The functions of acc: bits and words. -/
import Derived.Test.YtneedadoafcfcaaBitsA
import Derived.Test.YtneedadoafcfcaaAccW
import Derived.Test.YtneedadoafcfcaaTwinS
import Derived.WalkLawsBesides
import Derived.Outline
import Derived.BigQuiet
namespace Go.Proofs.Ytneedadoafcfcaa
open Go Go.RowKit TF

attribute [local go_sem] cmp_eq cmp_ne cmp_lt cmp_gt cmp_le cmp_ge

theorem run_add64 (x y c : Int) (x0 : 0 ≤ x) (y0 : 0 ≤ y) (hc : c = 0 ∨ c = 1) (w : World) :
    (callFunc 43 #[.int .u64 x, .int .u64 y, .int .u64 c]).run Try.prog w = .ok (.value (.tuple #[.int .u64 ((x + y + c) % 18446744073709551616), .int .u64 ((x + y + c) / 18446744073709551616)])) w := by
  obtain ⟨X, rfl⟩ := Int.eq_ofNat_of_zero_le x0
  obtain ⟨Y, rfl⟩ := Int.eq_ofNat_of_zero_le y0
  rw [run_callFunc_extern Try.func43 (by kernel_rfl) (by kernel_rfl) (by kernel_rfl) (e := (Extern.MathBitsCarry.rows[0]'(by decide)).2) (by kernel_rfl)]
  rcases hc with rfl | rfl <;> rfl
theorem ok_pair {a a' b b' : Int} (h1 : a = a') (h2 : b = b') (w : World) : (Result.ok (Next.value (.tuple #[.int .u64 a, .int .u64 b])) w : Result Next) = .ok (.value (.tuple #[.int .u64 a', .int .u64 b'])) w := by rw [h1, h2]
theorem run_sub64 (x y c : Int) (x0 : 0 ≤ x) (y0 : 0 ≤ y) (y9 : y < 18446744073709551616) (hc : c = 0 ∨ c = 1) (w : World) :
    (callFunc 37 #[.int .u64 x, .int .u64 y, .int .u64 c]).run Try.prog w = .ok (.value (.tuple #[.int .u64 ((x + 18446744073709551616 - y - c) % 18446744073709551616), .int .u64 (if x < y + c then 1 else 0)])) w := by
  obtain ⟨X, rfl⟩ := Int.eq_ofNat_of_zero_le x0
  obtain ⟨Y, rfl⟩ := Int.eq_ofNat_of_zero_le y0
  rw [run_callFunc_extern Try.func37 (by kernel_rfl) (by kernel_rfl) (by kernel_rfl) (e := (Extern.MathBitsCarry.rows[1]'(by decide)).2) (by kernel_rfl)]
  have key : ∀ C : Nat, C ≤ 1 → (((X + 18446744073709551616 - Y - C) % 18446744073709551616 : Nat) : Int) = ((X : Int) + 18446744073709551616 - Y - C) % 18446744073709551616 ∧ (((if X < Y + C then 1 else 0 : Nat) : Nat) : Int) = if (X : Int) < Y + C then 1 else 0 := by
    intro C hC
    refine ⟨by omega, ?_⟩
    split <;> split <;> omega
  rcases hc with rfl | rfl
  · obtain ⟨k1, k2⟩ := key 0 (by omega)
    exact Eq.trans (show _ = Result.ok (Next.value (.tuple #[.int .u64 (((X + 18446744073709551616 - Y - 0) % 18446744073709551616 : Nat) : Int), .int .u64 (((if X < Y + 0 then 1 else 0 : Nat) : Nat) : Int)])) w from rfl) (ok_pair k1 k2 w)
  · obtain ⟨k1, k2⟩ := key 1 (by omega)
    exact Eq.trans (show _ = Result.ok (Next.value (.tuple #[.int .u64 (((X + 18446744073709551616 - Y - 1) % 18446744073709551616 : Nat) : Int), .int .u64 (((if X < Y + 1 then 1 else 0 : Nat) : Nat) : Int)])) w from rfl) (ok_pair k1 k2 w)
end Go.Proofs.Ytneedadoafcfcaa
