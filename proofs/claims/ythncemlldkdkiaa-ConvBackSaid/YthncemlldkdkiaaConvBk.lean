/- The statement ConvBack: bits and whole numbers come back. -/
import Derived.Test.YthncemlldkdkiaaConvK
import Derived.Test.YthncemlldkdkiaaConG
import Derived.Test.YthncemlldkdkiaaOpenC
namespace Go.Proofs.Ythncemlldkdkiaa
open Go Go.RowKit TF

attribute [local go_sem] cmp_eq cmp_ne cmp_lt cmp_gt cmp_le cmp_ge

theorem below_drawn3 (w : World) (n : Nat) : Below w.heap.size w (w.drewN n) :=
  have h := Below.refl w.heap.size w
  ⟨h.os, h.tape, h.output, h.size, h.block⟩
theorem from32_w64 (b : Nat) : W64 (from32 b) := by
  have hI := INF_eq
  unfold from32
  split
  · show _ < 2 ^ 64; omega
  · refine wd_lt ?_
    split
    · omega
    · have := w32_fin (r := mg32 b) (by omega); omega
theorem from16_w64 (b : Nat) : W64 (from16 b) := by
  have hI := INF_eq
  unfold from16
  split
  · show _ < 2 ^ 64; omega
  · refine wd_lt ?_
    split
    · omega
    · have := w16_fin (r := mg16 b) (by omega); omega

set_option maxHeartbeats 4000000 in
theorem convBack_walk (b h i : Int) (w : World) (hb : (Lit.int .u32 b).wf = true) (hh : (Lit.int .u16 h).wf = true) (hi : (Lit.int .i64 i).wf = true) :
    Calls Try.prog 4 #[.int .u32 b, .int .u16 h, .int .i64 i] w fun e w' => e = .returned (.bool true) ∧ Below w.heap.size w w' := by
  obtain ⟨b1, b2⟩ := u32_wf hb
  obtain ⟨h1, h2⟩ := u16_wf hh
  have i1 := int_lo hi
  have i2 := int_hi hi
  clear hb hh hi
  obtain ⟨p, hp⟩ : ∃ c, c = from32 b.toNat := ⟨_, rfl⟩
  obtain ⟨q, hq⟩ : ∃ c, c = from16 h.toNat := ⟨_, rfl⟩
  obtain ⟨t, ht⟩ : ∃ c : Int, c = to32 p := ⟨_, rfl⟩
  obtain ⟨s, hs⟩ : ∃ c : Int, c = to16 q := ⟨_, rfl⟩
  have F1 := Lib.hid fun w => (by rw [hp]; exact from32_any b b1 b2 w : Calls Try.prog 21 #[.int .u32 b] w fun e w' => e = .returned (.float .f64 p) ∧ w = w')
  have H1 := Lib.hid fun w => (by rw [hq]; exact from16_any h h1 h2 w : Calls Try.prog 25 #[.int .u16 h] w fun e w' => e = .returned (.float .f64 q) ∧ w = w')
  have T1 := Lib.hid fun w => (by rw [ht]; exact to32_any p (by rw [hp]; exact from32_w64 _) w : Calls Try.prog 19 #[.float .f64 p] w fun e w' => e = .returned (.int .u32 t) ∧ w = w')
  have S1 := Lib.hid fun w => (by rw [hs]; exact to16_any q (by rw [hq]; exact from16_w64 _) w : Calls Try.prog 23 #[.float .f64 q] w fun e w' => e = .returned (.int .u16 s) ∧ w = w')
  have BQ := Lib.hid fun w => (rbits_any 9221120237041090561 9221120237041090561 rfl w : Calls Try.prog 27 #[.float .f64 9221120237041090561] w fun e w' => e = .returned (.int .u64 9221120237041090561) ∧ w = w')
  have m32 : (mg32 b.toNat : Int) = b % 2147483648 := by unfold mg32; omega
  have m16 : (mg16 h.toNat : Int) = h % 32768 := by unfold mg16; omega
  have g32 : (b % 2147483648 ≤ 2139095040 ∧ t = b) ∨ (2139095040 < b % 2147483648 ∧ p = 9221120237041090561 ∧ t = 2143289344) := by
    by_cases hc : b % 2147483648 ≤ 2139095040
    · have := back32 (b := b.toNat) (by omega) (by omega)
      exact .inl ⟨hc, by rw [ht, hp, this]; omega⟩
    · obtain ⟨e1, e2⟩ := back32_nan (b := b.toNat) (by omega)
      have e3 : p = 9221120237041090561 := by rw [hp, e1]
      exact .inr ⟨by omega, e3, by rw [ht, e3, e2]; rfl⟩
  have g16 : (h % 32768 ≤ 31744 ∧ s = h) ∨ (31744 < h % 32768 ∧ q = 9221120237041090561 ∧ s = 32256) := by
    by_cases hc : h % 32768 ≤ 31744
    · have := back16 (b := h.toNat) (by omega) (by omega)
      exact .inl ⟨hc, by rw [hs, hq, this]; omega⟩
    · obtain ⟨e1, e2⟩ := back16_nan (b := h.toNat) (by omega)
      have e3 : q = 9221120237041090561 := by rw [hq, e1]
      exact .inr ⟨by omega, e3, by rw [hs, e3, e2]; rfl⟩
  clear hp hq ht hs m32 m16
  by_cases hin : -9007199254740992 ≤ i ∧ i ≤ 9007199254740992
  · obtain ⟨f, hf, hf64, hr, hfl⟩ := fint_back hin.1 hin.2
    obtain ⟨j1, j2⟩ := hin
    have I1 := Lib.hid fun w => (by rw [← hf]; exact fromint_any i w : Calls Try.prog 17 #[.int .i64 i] w fun e w' => e = .returned (.float .f64 f) ∧ w = w')
    have R1 := Lib.hid fun w => (by have := round_any f hf64 w; rw [hr] at this; exact this : Calls Try.prog 10 #[.float .f64 f] w fun e w' => e = .returned (.tuple #[.int .i64 i, .bool true]) ∧ w = w')
    have L1 := Lib.hid fun w => (by have := floor_conv f w; rw [hfl] at this; exact this : Calls Try.prog 12 #[.float .f64 f] w fun e w' => e = .returned (.tuple #[.int .i64 i, .bool true]) ∧ ∃ n, w' = w.drewN n)
    clear hf hf64 hr hfl
    rcases g32 with ⟨g1, rfl⟩ | ⟨g1, rfl, rfl⟩ <;> rcases g16 with ⟨g2, rfl⟩ | ⟨g2, rfl, rfl⟩
    all_goals
      go_enter Try.func4, Try.ntmps4
      go_wp2_with (first | (go_at_call 9; ((with_reducible refine (awake_any _).mono ?_)); rintro e w' ⟨rfl, n, rfl⟩) | (go_at_call 21; ((with_reducible refine (F1.out _).mono ?_)); rintro e w' ⟨rfl, rfl⟩) | (go_at_call 19; ((with_reducible refine (T1.out _).mono ?_)); rintro e w' ⟨rfl, rfl⟩) | (go_at_call 25; ((with_reducible refine (H1.out _).mono ?_)); rintro e w' ⟨rfl, rfl⟩) | (go_at_call 23; ((with_reducible refine (S1.out _).mono ?_)); rintro e w' ⟨rfl, rfl⟩) | (go_at_call 17; ((with_reducible refine (I1.out _).mono ?_)); rintro e w' ⟨rfl, rfl⟩) | (go_at_call 10; ((with_reducible refine (R1.out _).mono ?_)); rintro e w' ⟨rfl, rfl⟩) | (go_at_call 12; ((with_reducible refine (L1.out _).mono ?_)); rintro e w' ⟨rfl, n, rfl⟩) | (go_at_call 27; ((with_reducible refine (BQ.out _).mono ?_)); rintro e w' ⟨rfl, rfl⟩))
      go_ret
      exact ⟨rfl, below_drawn3 _ _⟩
  · rcases g32 with ⟨g1, rfl⟩ | ⟨g1, rfl, rfl⟩ <;> rcases g16 with ⟨g2, rfl⟩ | ⟨g2, rfl, rfl⟩
    all_goals
      by_cases hlo : i < -9007199254740992
      · clear hin
        go_enter Try.func4, Try.ntmps4
        go_wp2_with (first | (go_at_call 9; ((with_reducible refine (awake_any _).mono ?_)); rintro e w' ⟨rfl, n, rfl⟩) | (go_at_call 21; ((with_reducible refine (F1.out _).mono ?_)); rintro e w' ⟨rfl, rfl⟩) | (go_at_call 19; ((with_reducible refine (T1.out _).mono ?_)); rintro e w' ⟨rfl, rfl⟩) | (go_at_call 25; ((with_reducible refine (H1.out _).mono ?_)); rintro e w' ⟨rfl, rfl⟩) | (go_at_call 23; ((with_reducible refine (S1.out _).mono ?_)); rintro e w' ⟨rfl, rfl⟩) | (go_at_call 27; ((with_reducible refine (BQ.out _).mono ?_)); rintro e w' ⟨rfl, rfl⟩))
        go_ret
        exact ⟨rfl, below_drawn3 _ _⟩
      · have hhi : 9007199254740992 < i := by omega
        clear hin
        go_enter Try.func4, Try.ntmps4
        go_wp2_with (first | (go_at_call 9; ((with_reducible refine (awake_any _).mono ?_)); rintro e w' ⟨rfl, n, rfl⟩) | (go_at_call 21; ((with_reducible refine (F1.out _).mono ?_)); rintro e w' ⟨rfl, rfl⟩) | (go_at_call 19; ((with_reducible refine (T1.out _).mono ?_)); rintro e w' ⟨rfl, rfl⟩) | (go_at_call 25; ((with_reducible refine (H1.out _).mono ?_)); rintro e w' ⟨rfl, rfl⟩) | (go_at_call 23; ((with_reducible refine (S1.out _).mono ?_)); rintro e w' ⟨rfl, rfl⟩) | (go_at_call 27; ((with_reducible refine (BQ.out _).mono ?_)); rintro e w' ⟨rfl, rfl⟩))
        go_ret
        exact ⟨rfl, below_drawn3 _ _⟩
end Go.Proofs.Ythncemlldkdkiaa
