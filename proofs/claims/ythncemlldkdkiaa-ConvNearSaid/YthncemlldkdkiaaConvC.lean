/- The functions of conv: to floats of 32 and 16 bits, and back. -/
import Derived.Test.YthncemlldkdkiaaConvB
namespace Go.Proofs.Ythncemlldkdkiaa
open Go.RowKit TF

attribute [local go_sem] cmp_eq cmp_ne cmp_lt cmp_gt cmp_le cmp_ge

theorem run_f32bits (b : Nat) (w : World) : (callFunc 41 #[.float .f32 b]).run Try.prog w = .ok (.value (.int .u32 b)) w := by
  rw [run_callFunc_extern Try.func41 (by kernel_rfl) (by kernel_rfl) (by kernel_rfl) (e := Extern.MathFloatBits.float32bits) (by kernel_rfl)]
  rfl
theorem run_f32from (n : Int) (w : World) : (callFunc 43 #[.int .u32 n]).run Try.prog w = .ok (.value (.float .f32 n.toNat)) w := by
  rw [run_callFunc_extern Try.func43 (by kernel_rfl) (by kernel_rfl) (by kernel_rfl) (e := Extern.MathFloatBits.float32frombits) (by kernel_rfl)]
  rfl

theorem to32_any (x : Nat) (h64 : W64 x) (w : World) :
    Calls Try.prog 19 #[.float .f64 x] w fun e w' => e = .returned (.int .u32 (to32 x)) ∧ w = w' := by
  obtain ⟨n, hn⟩ : ∃ n : Int, n = x := ⟨_, rfl⟩
  have k1 := bits_of x n hn
  have hs := sign32 h64 n hn
  have h64' : x < 2 ^ 64 := h64
  have hw := to32_ways x
  obtain ⟨s, es⟩ : ∃ s, s = ng x := ⟨_, rfl⟩
  obtain ⟨t, et⟩ : ∃ t : Int, t = to32 x := ⟨_, rfl⟩
  rw [← es] at hs hw
  rw [← et]
  rcases hw with ⟨g1, e⟩ | ⟨g1, g2, e⟩ | ⟨g1, g2, r, hr, hc, e⟩
  · have et2 : t = 2143289344 := by rw [et, e]; rfl
    subst et2
    clear e et
    rcases hs with ⟨hs, k2⟩ | ⟨hs, k2⟩
    all_goals
      clear hn es hs
      go_enter Try.func19, Try.ntmps19
      go_wp2_with (first | (go_at_call 30; ((with_reducible refine (abs_any _ (by assumption) _).mono ?_)); rintro e w' ⟨rfl, rfl⟩) | (go_at_call 38; ((with_reducible refine (isnan_any _ _).mono ?_)); rintro e w' ⟨rfl, rfl⟩))
      go_ret
      exact ⟨rfl, rfl⟩
  · rw [e] at et
    rcases hs with ⟨hs, k2⟩ | ⟨hs, k2⟩
    · have et2 : t = 2139095040 := by rw [et, hs]; rfl
      have k3 : bits .or .u32 0 2139095040 = 2139095040 := by kernel_rfl
      subst et2
      clear e et hn es hs
      go_enter Try.func19, Try.ntmps19
      go_wp2_with (first | (go_at_call 30; ((with_reducible refine (abs_any _ (by assumption) _).mono ?_)); rintro e w' ⟨rfl, rfl⟩) | (go_at_call 38; ((with_reducible refine (isnan_any _ _).mono ?_)); rintro e w' ⟨rfl, rfl⟩))
      go_ret
      exact ⟨rfl, rfl⟩
    · have et2 : t = 4286578688 := by rw [et, hs]; rfl
      have k3 : bits .or .u32 2147483648 2139095040 = 4286578688 := by kernel_rfl
      subst et2
      clear e et hn es hs
      go_enter Try.func19, Try.ntmps19
      go_wp2_with (first | (go_at_call 30; ((with_reducible refine (abs_any _ (by assumption) _).mono ?_)); rintro e w' ⟨rfl, rfl⟩) | (go_at_call 38; ((with_reducible refine (isnan_any _ _).mono ?_)); rintro e w' ⟨rfl, rfl⟩))
      go_ret
      exact ⟨rfl, rfl⟩
  · obtain ⟨R, hR⟩ : ∃ R : Int, R = r := ⟨_, rfl⟩
    obtain ⟨o0, o1⟩ := or32 (r := r) (by omega) R hR
    have k4 : ∀ w : World, (convert 24 58 (.float .f64 (mg x))).run Try.prog w = .ok (.float .f32 r) w := fun w => run_convert_float_float w 24 58 .f64 .f32 (mg x) r (by kernel_rfl) (by kernel_rfl) hc
    have k5 : ∀ w : World, (callFunc 41 #[.float .f32 r]).run Try.prog w = .ok (.value (.int .u32 R)) w := fun w => by rw [hR]; exact run_f32bits r w
    rw [e] at et
    rcases hs with ⟨hs, k2⟩ | ⟨hs, k2⟩
    · have k3 : bits .or .u32 0 R = t := by rw [o0, et, hs]
      clear e et hn es hs o0 o1 hR hr hc
      go_enter Try.func19, Try.ntmps19
      go_wp2_with (first | (go_at_call 30; ((with_reducible refine (abs_any _ (by assumption) _).mono ?_)); rintro e w' ⟨rfl, rfl⟩) | (go_at_call 38; ((with_reducible refine (isnan_any _ _).mono ?_)); rintro e w' ⟨rfl, rfl⟩))
      go_ret
      exact ⟨rfl, rfl⟩
    · have k3 : bits .or .u32 2147483648 R = t := by rw [o1, et, hs]
      clear e et hn es hs o0 o1 hR hr hc
      go_enter Try.func19, Try.ntmps19
      go_wp2_with (first | (go_at_call 30; ((with_reducible refine (abs_any _ (by assumption) _).mono ?_)); rintro e w' ⟨rfl, rfl⟩) | (go_at_call 38; ((with_reducible refine (isnan_any _ _).mono ?_)); rintro e w' ⟨rfl, rfl⟩))
      go_ret
      exact ⟨rfl, rfl⟩

theorem from32_any (n : Int) (h0 : 0 ≤ n) (h1 : n < 4294967296) (w : World) :
    Calls Try.prog 21 #[.int .u32 n] w fun e w' => e = .returned (.float .f64 (from32 n.toNat)) ∧ w = w' := by
  obtain ⟨m, k1, m0, m1, ⟨g1, e⟩ | ⟨g1, hc⟩⟩ := from32_ways n h0 h1
  · have k2 := run_f64from
    rw [e]; clear e h0 h1
    go_enter Try.func21, Try.ntmps21
    go_wp2_with fail
    go_ret
    exact ⟨rfl, rfl⟩
  · obtain ⟨y, hy⟩ : ∃ y, y = from32 n.toNat := ⟨_, rfl⟩
    rw [← hy] at hc ⊢
    obtain ⟨b, hb⟩ : ∃ b, b = n.toNat := ⟨_, rfl⟩
    rw [← hb] at hc
    have k2 : ∀ w : World, (callFunc 43 #[.int .u32 n]).run Try.prog w = .ok (.value (.float .f32 b)) w := fun w => by rw [hb]; exact run_f32from n w
    have k4 : ∀ w : World, (convert 58 24 (.float .f32 b)).run Try.prog w = .ok (.float .f64 y) w := fun w => run_convert_float_float w 58 24 .f32 .f64 b y (by kernel_rfl) (by kernel_rfl) hc
    clear hy hb hc h0 h1
    go_enter Try.func21, Try.ntmps21
    go_wp2_with fail
    go_ret
    exact ⟨rfl, rfl⟩

theorem to16_any (x : Nat) (h64 : W64 x) (w : World) :
    Calls Try.prog 23 #[.float .f64 x] w fun e w' => e = .returned (.int .u16 (to16 x)) ∧ w = w' := by
  obtain ⟨n, hn⟩ : ∃ n : Int, n = x := ⟨_, rfl⟩
  have k1 := bits_of x n hn
  have hs := sign63 h64 n hn
  have h64' : x < 2 ^ 64 := h64
  have hw := to16_ways x
  obtain ⟨s, es⟩ : ∃ s, s = ng x := ⟨_, rfl⟩
  obtain ⟨t, et⟩ : ∃ t : Int, t = to16 x := ⟨_, rfl⟩
  rw [← es] at hs hw
  rw [← et]
  rcases hw with ⟨g1, e⟩ | ⟨g1, g2, e⟩ | ⟨g1, g2, g3, p, k, hc, hp, hk, hk2, e⟩ | ⟨g1, g2, g3, ex, p, k, he, he1, he2, hI, hc, hp, hk, hk1, hk2, hk3, e⟩
  · have et2 : t = 32256 := by rw [et, e]; rfl
    subst et2
    clear e et
    rcases hs with ⟨hs, k2⟩ | ⟨hs, k2⟩
    all_goals
      clear hn es hs
      go_enter Try.func23, Try.ntmps23
      go_wp2_with (first | (go_at_call 30; ((with_reducible refine (abs_any _ (by assumption) _).mono ?_)); rintro e w' ⟨rfl, rfl⟩) | (go_at_call 38; ((with_reducible refine (isnan_any _ _).mono ?_)); rintro e w' ⟨rfl, rfl⟩))
      go_ret
      exact ⟨rfl, rfl⟩
  · rw [e] at et
    rcases hs with ⟨hs, k2⟩ | ⟨hs, k2⟩
    · have et2 : t = 31744 := by rw [et, hs]; rfl
      have k3 : bits .or .u16 0 31744 = 31744 := by kernel_rfl
      subst et2
      clear e et hn es hs
      go_enter Try.func23, Try.ntmps23
      go_wp2_with (first | (go_at_call 30; ((with_reducible refine (abs_any _ (by assumption) _).mono ?_)); rintro e w' ⟨rfl, rfl⟩) | (go_at_call 38; ((with_reducible refine (isnan_any _ _).mono ?_)); rintro e w' ⟨rfl, rfl⟩))
      go_ret
      exact ⟨rfl, rfl⟩
    · have et2 : t = 64512 := by rw [et, hs]; rfl
      have k3 : bits .or .u16 32768 31744 = 64512 := by kernel_rfl
      subst et2
      clear e et hn es hs
      go_enter Try.func23, Try.ntmps23
      go_wp2_with (first | (go_at_call 30; ((with_reducible refine (abs_any _ (by assumption) _).mono ?_)); rintro e w' ⟨rfl, rfl⟩) | (go_at_call 38; ((with_reducible refine (isnan_any _ _).mono ?_)); rintro e w' ⟨rfl, rfl⟩))
      go_ret
      exact ⟨rfl, rfl⟩
  · have k4 := run_valid (P := Try.prog) 24 hc
    obtain ⟨R, hR⟩ : ∃ R : Int, R = k := ⟨_, rfl⟩
    obtain ⟨o0, o1⟩ := or16 (r := k) (by omega) R hR
    have KN := Lib.hid fun w => (by rw [hR, ← hk]; exact near_any _ ⟨hp⟩ w : Calls Try.prog 31 #[.float .f64 p] w fun e w' => e = .returned (.int .u64 R) ∧ w = w')
    have r0 : 0 ≤ R := by omega
    have r1 : R ≤ 1024 := by omega
    rw [e] at et
    rcases hs with ⟨hs, k2⟩ | ⟨hs, k2⟩
    · have k3 : bits .or .u16 0 R = t := by rw [o0, et, hs]
      clear e et hn es hs o0 o1 hR hc hp hk hk2
      go_enter Try.func23, Try.ntmps23
      go_wp2_with (first | (go_at_call 30; ((with_reducible refine (abs_any _ (by assumption) _).mono ?_)); rintro e w' ⟨rfl, rfl⟩) | (go_at_call 38; ((with_reducible refine (isnan_any _ _).mono ?_)); rintro e w' ⟨rfl, rfl⟩) | (go_at_call 31; ((with_reducible refine (KN.out _).mono ?_)); rintro e w' ⟨rfl, rfl⟩))
      go_ret
      exact ⟨rfl, rfl⟩
    · have k3 : bits .or .u16 32768 R = t := by rw [o1, et, hs]
      clear e et hn es hs o0 o1 hR hc hp hk hk2
      go_enter Try.func23, Try.ntmps23
      go_wp2_with (first | (go_at_call 30; ((with_reducible refine (abs_any _ (by assumption) _).mono ?_)); rintro e w' ⟨rfl, rfl⟩) | (go_at_call 38; ((with_reducible refine (isnan_any _ _).mono ?_)); rintro e w' ⟨rfl, rfl⟩) | (go_at_call 31; ((with_reducible refine (KN.out _).mono ?_)); rintro e w' ⟨rfl, rfl⟩))
      go_ret
      exact ⟨rfl, rfl⟩
  · have k4 := run_valid (P := Try.prog) 24 hc
    obtain ⟨K, hK⟩ : ∃ R : Int, R = k := ⟨_, rfl⟩
    rw [← hK] at hk3 e
    have KN := Lib.hid fun w => (by rw [hK, ← hk]; exact near_any _ ⟨hp⟩ w : Calls Try.prog 31 #[.float .f64 p] w fun e w' => e = .returned (.int .u64 K) ∧ w = w')
    have KE := Lib.hid fun w => (exponent_any (mg x) ex he he1 he2 (by omega) w : Calls Try.prog 45 #[.float .f64 (mg x)] w fun e w' => e = .returned (.int .i64 ex) ∧ w = w')
    have r0 : 1024 ≤ K := by omega
    have r1 : K ≤ 2048 := by omega
    have hR : (ex + 14) * 1024 + K = (((ex + 14) * 1024 + K).toNat : Int) := by omega
    obtain ⟨o0, o1⟩ := or16 (r := ((ex + 14) * 1024 + K).toNat) (by omega) ((ex + 14) * 1024 + K) hR
    rw [e] at et
    rcases hs with ⟨hs, k2⟩ | ⟨hs, k2⟩
    · have k3 : bits .or .u16 0 ((ex + 15 - 1) * 1024 + K) = t := by rw [show ex + 15 - 1 = ex + 14 by omega, o0, et, hs]
      clear e et hn es hs o0 o1 hR hc hp hk hk2 hK he hI
      go_enter Try.func23, Try.ntmps23
      go_wp2_with (first | (go_at_call 30; ((with_reducible refine (abs_any _ (by assumption) _).mono ?_)); rintro e w' ⟨rfl, rfl⟩) | (go_at_call 38; ((with_reducible refine (isnan_any _ _).mono ?_)); rintro e w' ⟨rfl, rfl⟩) | (go_at_call 45; ((with_reducible refine (KE.out _).mono ?_)); rintro e w' ⟨rfl, rfl⟩) | (go_at_call 46; ((with_reducible refine (power_any _ (by omega) (by omega) _).mono ?_)); rintro e w' ⟨rfl, rfl⟩) | (go_at_call 31; ((with_reducible refine (KN.out _).mono ?_)); rintro e w' ⟨rfl, rfl⟩))
      go_ret
      exact ⟨rfl, rfl⟩
    · have k3 : bits .or .u16 32768 ((ex + 15 - 1) * 1024 + K) = t := by rw [show ex + 15 - 1 = ex + 14 by omega, o1, et, hs]
      clear e et hn es hs o0 o1 hR hc hp hk hk2 hK he hI
      go_enter Try.func23, Try.ntmps23
      go_wp2_with (first | (go_at_call 30; ((with_reducible refine (abs_any _ (by assumption) _).mono ?_)); rintro e w' ⟨rfl, rfl⟩) | (go_at_call 38; ((with_reducible refine (isnan_any _ _).mono ?_)); rintro e w' ⟨rfl, rfl⟩) | (go_at_call 45; ((with_reducible refine (KE.out _).mono ?_)); rintro e w' ⟨rfl, rfl⟩) | (go_at_call 46; ((with_reducible refine (power_any _ (by omega) (by omega) _).mono ?_)); rintro e w' ⟨rfl, rfl⟩) | (go_at_call 31; ((with_reducible refine (KN.out _).mono ?_)); rintro e w' ⟨rfl, rfl⟩))
      go_ret
      exact ⟨rfl, rfl⟩

theorem from16_any (n : Int) (h0 : 0 ≤ n) (h1 : n < 65536) (w : World) :
    Calls Try.prog 25 #[.int .u16 n] w fun e w' => e = .returned (.float .f64 (from16 n.toNat)) ∧ w = w' := by
  obtain ⟨e, k1, e0, e1, f0, ⟨g1, g2, h⟩ | ⟨y, h, hy, ⟨g1, g2, g3⟩ | ⟨g1, g2⟩ | ⟨g1, g2, g, g3, g4⟩⟩⟩ := from16_ways n h0 h1
  · have k2 := run_f64from
    rw [h]; clear h
    subst g1
    go_enter Try.func25, Try.ntmps25
    go_wp2_with fail
    go_ret
    exact ⟨rfl, rfl⟩
  · rw [h]; clear h
    subst g1 g3
    by_cases hn : n < 32768
    · rw [if_neg (by omega)]
      have k2 : n / 32768 = 0 := by omega
      go_enter Try.func25, Try.ntmps25
      go_wp2_with (first | (go_at_call 47; ((with_reducible refine (inf_any _).mono ?_)); rintro e w' ⟨rfl, rfl⟩) | (go_at_call 48; ((with_reducible refine (copysign_any _ (by assumption) _).mono ?_)); rintro e w' ⟨rfl, rfl⟩))
      go_ret
      exact ⟨rfl, rfl⟩
    · rw [if_pos (by omega)]
      have k2 : n / 32768 = 1 := by omega
      go_enter Try.func25, Try.ntmps25
      go_wp2_with (first | (go_at_call 47; ((with_reducible refine (inf_any _).mono ?_)); rintro e w' ⟨rfl, rfl⟩) | (go_at_call 48; ((with_reducible refine (copysign_any _ (by assumption) _).mono ?_)); rintro e w' ⟨rfl, rfl⟩))
      go_ret
      exact ⟨rfl, rfl⟩
  · rw [h]; clear h
    subst g1
    have k3 := run_valid (P := Try.prog) 24 g2
    clear g2
    by_cases hn : n < 32768
    · rw [if_neg (by omega)]
      have k2 : n / 32768 = 0 := by omega
      go_enter Try.func25, Try.ntmps25
      go_wp2_with (first | (go_at_call 46; ((with_reducible refine (power_any _ (by omega) (by omega) _).mono ?_)); rintro e w' ⟨rfl, rfl⟩) | (go_at_call 48; ((with_reducible refine (copysign_any _ (by assumption) _).mono ?_)); rintro e w' ⟨rfl, rfl⟩))
      go_ret
      exact ⟨rfl, rfl⟩
    · rw [if_pos (by omega)]
      have k2 : n / 32768 = 1 := by omega
      go_enter Try.func25, Try.ntmps25
      go_wp2_with (first | (go_at_call 46; ((with_reducible refine (power_any _ (by omega) (by omega) _).mono ?_)); rintro e w' ⟨rfl, rfl⟩) | (go_at_call 48; ((with_reducible refine (copysign_any _ (by assumption) _).mono ?_)); rintro e w' ⟨rfl, rfl⟩))
      go_ret
      exact ⟨rfl, rfl⟩
  · rw [h]; clear h
    have k3 := run_valid (P := Try.prog) 24 g3
    have k4 := run_valid (P := Try.prog) 24 g4
    clear g3 g4
    by_cases hn : n < 32768
    · rw [if_neg (by omega)]
      have k2 : n / 32768 = 0 := by omega
      go_enter Try.func25, Try.ntmps25
      go_wp2_with (first | (go_at_call 46; ((with_reducible refine (power_any _ (by omega) (by omega) _).mono ?_)); rintro e w' ⟨rfl, rfl⟩) | (go_at_call 48; ((with_reducible refine (copysign_any _ (by assumption) _).mono ?_)); rintro e w' ⟨rfl, rfl⟩))
      go_ret
      exact ⟨rfl, rfl⟩
    · rw [if_pos (by omega)]
      have k2 : n / 32768 = 1 := by omega
      go_enter Try.func25, Try.ntmps25
      go_wp2_with (first | (go_at_call 46; ((with_reducible refine (power_any _ (by omega) (by omega) _).mono ?_)); rintro e w' ⟨rfl, rfl⟩) | (go_at_call 48; ((with_reducible refine (copysign_any _ (by assumption) _).mono ?_)); rintro e w' ⟨rfl, rfl⟩))
      go_ret
      exact ⟨rfl, rfl⟩
end Go.Proofs.Ythncemlldkdkiaa
