/- The functions of conv: Floor, powers, exponents. -/
import Derived.Test.YthncemlldkdkiaaConvA
import Derived.Outline
namespace Go.Proofs.Ythncemlldkdkiaa
open Go.RowKit TF

attribute [local go_sem] cmp_eq cmp_ne cmp_lt cmp_gt cmp_le cmp_ge

structure NanW (b : Nat) : Prop where
  out : INF < mg b
theorem nan_ge {f : Nat} (h : isN f = true) : (ltW 14114281232179134464 f || eqW f 14114281232179134464) = false := by
  unfold ltW eqW; rw [h]; simp
theorem floor_nan (b : Nat) (h : NanW b) (w : World) :
    Calls Try.prog 36 #[.float .f64 b] w fun e w' => ∃ f, isN f = true ∧ e = .returned (.float .f64 f) ∧ ∃ n, w' = w.drewN n := by
  obtain ⟨f, n, hf, k1⟩ := run_floor_nan h.out w
  have HF := Lib.hid hf
  clear h hf
  go_enter Try.func36, Try.ntmps36
  go_wp2_with fail
  go_ret
  exact ⟨f, HF.out, rfl, n, rfl⟩
theorem run_floor_inf {b : Nat} (h : mg b = INF) (w : World) : (callFunc 49 #[.float .f64 b]).run Try.prog w = .ok (.value (.float .f64 (wd (ng b) INF))) w := by
  rw [run_callFunc_extern Try.func49 (by kernel_rfl) (by kernel_rfl) (by kernel_rfl) (e := Extern.MathFloor.toIntegral "math.archFloor" .down) (by kernel_rfl)]
  have hr : FloatKind.f64.decode b = .infinity (ng b) := read_inf h
  have hE : Extern.MathFloor.toIntegral "math.archFloor" .down #[.float .f64 b] = (pure (Value.float .f64 (FloatKind.f64.encode (.infinity (ng b)))) : Sem Value) := by
    unfold Extern.MathFloor.toIntegral
    show (match FloatKind.f64.decode b with | .nan s t => _ | d => (pure (Value.float .f64 (FloatKind.f64.encode (d.integral .down))) : Sem Value)) = _
    rw [hr]; rfl
  have hw : FloatKind.f64.encode (.infinity (ng b)) = wd (ng b) INF := write_inf _
  rw [hE, hw]; rfl
theorem floor_conv (x : Nat) (w : World) :
    Calls Try.prog 12 #[.float .f64 x] w fun e w' => e = .returned (.tuple #[.int .i64 (floorI x).1, .bool (floorI x).2]) ∧ ∃ n, w' = w.drewN n := by
  rcases Nat.lt_trichotomy (mg x) INF with h | h | h
  · have hF : FinW x := ⟨h⟩
    have hw := floor_ways h
    obtain ⟨f, hf⟩ : ∃ f, f = flW x := ⟨_, rfl⟩
    have KF := Lib.hid fun w => (by rw [hf]; exact floor_fin x hF w : Calls Try.prog 36 #[.float .f64 x] w fun e w' => e = .returned (.float .f64 f) ∧ w = w')
    rw [← hf] at hw
    clear hf hF h
    rcases hw with ⟨g1, g2, n, hc, e⟩ | ⟨g1, g2, e⟩ | ⟨g1, e⟩
    · have k2 : ∀ w : World, (convert 24 2 (.float .f64 f)).run Try.prog w = .ok (.int .i64 n) w := fun w => run_convert_float_int w 24 2 .f64 .i64 f n (by kernel_rfl) (by kernel_rfl) hc
      rw [e]; clear e hc
      go_enter Try.func12, Try.ntmps12
      go_wp2_with (first | (go_at_call 36; ((with_reducible refine (KF.out _).mono ?_)); rintro e w' ⟨rfl, rfl⟩))
      go_ret2
      exact ⟨rfl, 0, rfl⟩
    · rw [e]; clear e
      go_enter Try.func12, Try.ntmps12
      go_wp2_with (first | (go_at_call 36; ((with_reducible refine (KF.out _).mono ?_)); rintro e w' ⟨rfl, rfl⟩))
      go_ret2
      exact ⟨rfl, 0, rfl⟩
    · rw [e]; clear e
      go_enter Try.func12, Try.ntmps12
      go_wp2_with (first | (go_at_call 36; ((with_reducible refine (KF.out _).mono ?_)); rintro e w' ⟨rfl, rfl⟩))
      go_ret2
      exact ⟨rfl, 0, rfl⟩
  · have e : floorI x = (0, false) := if_neg (by omega)
    have k0 := run_floor_inf h
    rw [e]; clear e h
    cases hg : ng x <;> rw [hg] at k0
    · have k1 : ∀ w : World, (callFunc 49 #[.float .f64 x]).run Try.prog w = .ok (.value (.float .f64 9218868437227405312)) w := k0
      have KF := Lib.hid (fun w => (by clear k0; go_enter Try.func36, Try.ntmps36; go_wp2_with fail; go_ret; exact ⟨rfl, rfl⟩ : Calls Try.prog 36 #[.float .f64 x] w fun e w' => e = .returned (.float .f64 9218868437227405312) ∧ w = w'))
      have g1 : (ltW 14114281232179134464 9218868437227405312 || eqW 9218868437227405312 14114281232179134464) = true := by kernel_rfl
      have g2 : ltW 9218868437227405312 4890909195324358656 = false := by kernel_rfl
      clear k0 k1
      go_enter Try.func12, Try.ntmps12
      go_wp2_with (first | (go_at_call 36; ((with_reducible refine (KF.out _).mono ?_)); rintro e w' ⟨rfl, rfl⟩))
      go_ret2
      exact ⟨rfl, 0, rfl⟩
    · have k1 : ∀ w : World, (callFunc 49 #[.float .f64 x]).run Try.prog w = .ok (.value (.float .f64 18442240474082181120)) w := k0
      have KF := Lib.hid (fun w => (by clear k0; go_enter Try.func36, Try.ntmps36; go_wp2_with fail; go_ret; exact ⟨rfl, rfl⟩ : Calls Try.prog 36 #[.float .f64 x] w fun e w' => e = .returned (.float .f64 18442240474082181120) ∧ w = w'))
      have g1 : (ltW 14114281232179134464 18442240474082181120 || eqW 18442240474082181120 14114281232179134464) = false := by kernel_rfl
      clear k0 k1
      go_enter Try.func12, Try.ntmps12
      go_wp2_with (first | (go_at_call 36; ((with_reducible refine (KF.out _).mono ?_)); rintro e w' ⟨rfl, rfl⟩))
      go_ret2
      exact ⟨rfl, 0, rfl⟩
  · have e : floorI x = (0, false) := if_neg (by omega)
    have hF : NanW x := ⟨h⟩
    rw [e]; clear e h
    go_enter Try.func12, Try.ntmps12
    go_wp2_with (first | (go_at_call 36; ((with_reducible refine (floor_nan _ (by assumption) _).mono ?_)); rintro e w' ⟨f, hf, rfl, n, rfl⟩; have hf1 := nan_ge hf))
    go_ret2
    exact ⟨rfl, _, rfl⟩

theorem power_any (e : Int) (h1 : -60 ≤ e) (h2 : e ≤ 60) (w : World) :
    Calls Try.prog 46 #[.int .i64 e] w fun x w' => x = .returned (.float .f64 (powW e)) ∧ w = w' := by
  have k1 := run_f64from
  go_enter Try.func46, Try.ntmps46
  go_wp2_with fail
  go_ret
  exact ⟨ret_f64 (by unfold powW; first | rfl | (simp only [u64w]; omega)), rfl⟩
theorem inf_any (w : World) : Calls Try.prog 47 #[.int .i64 1] w fun x w' => x = .returned (.float .f64 9218868437227405312) ∧ w = w' := by
  have k1 := run_f64from
  go_enter Try.func47, Try.ntmps47
  go_wp2_with fail
  go_ret
  exact ⟨rfl, rfl⟩
theorem copysign_any (y : Nat) (h : y < 9223372036854775808) (w : World) : Calls Try.prog 48 #[.float .f64 y, .float .f64 13830554455654793216] w fun x w' => x = .returned (.float .f64 (wd true y)) ∧ w = w' := by
  obtain ⟨n, hn⟩ : ∃ n : Int, n = y := ⟨_, rfl⟩
  have k1 := fun w => bits_of y n hn w
  have k2 : ∀ w : World, (callFunc 39 #[.float .f64 13830554455654793216]).run Try.prog w = .ok (.value (.int .u64 13830554455654793216)) w := fun w => run_f64bits _ w
  have k3 := run_f64from
  have k4 : bits .andNot .u64 n 9223372036854775808 = n := by rw [hn, andNot_eq (by omega), mg_small h]
  have k5 : bits .and .u64 13830554455654793216 9223372036854775808 = 9223372036854775808 := by kernel_rfl
  have k6 : bits .or .u64 n 9223372036854775808 = n + 9223372036854775808 := by rw [hn, or_bits h]; simp
  have n1 : 0 ≤ n := by omega
  have n2 : n < 9223372036854775808 := by omega
  have HN := Lib.hid hn
  clear hn h
  go_enter Try.func48, Try.ntmps48
  go_wp2_with fail
  go_ret
  exact ⟨ret_f64 (by have := HN.out; unfold wd; rw [if_pos rfl]; omega), rfl⟩

theorem exponent_any (a : Nat) (e : Int) (he : expoI a = e) (h1 : -14 ≤ e) (h2 : e ≤ 15) (ha : a ≤ INF) (w : World) :
    Calls Try.prog 45 #[.float .f64 a] w fun x w' => x = .returned (.int .i64 e) ∧ w = w' := by
  have KT : Hid (∀ k : Int, 0 ≤ k → k ≤ 30 → ltW a (powW (k - 13)) = decide (e ≤ k - 14)) := Lib.hid fun k k0 k1 => by
    rw [expo_lt ha (by omega) (by omega), he, Bool.eq_iff_iff]; simp only [decide_eq_true_eq]; omega
  clear he ha
  go_enter Try.func45, Try.ntmps45
  go_wp2_with fail
  go_loop [5] (fun i => ∃ k : Int, 0 ≤ k ∧ k ≤ 30 ∧ k - 14 ≤ e ∧ i = .int .i64 k) (fun i => (30 - intOf i).toNat)
  case atStart => exact ⟨0, by omega, by omega, by omega, rfl⟩
  case round =>
    obtain ⟨k, k0, k1, k2, rfl⟩ := hrel
    have k3 : k < 30 := by omega
    have KP := Lib.hid fun w => (by
      rw [show k - 15 + 1 + 1 = k - 13 by omega]; exact power_any (k - 13) (by omega) (by omega) w : Calls Try.prog 46 #[.int .i64 (k - 15 + 1 + 1)] w fun x w' => x = .returned (.float .f64 (powW (k - 13))) ∧ w = w')
    have kt := KT.out k k0 k1
    by_cases hk : e = k - 14
    · have kt2 : ltW a (powW (k - 13)) = true := by rw [kt]; exact decide_eq_true (by omega)
      clear kt
      go_wp2_with (first | (go_at_call 46; ((with_reducible refine (KP.out _).mono ?_)); rintro e w' ⟨rfl, rfl⟩))
      go_ret
      exact ⟨ret_int' (by omega), rfl⟩
    · have kt2 : ltW a (powW (k - 13)) = false := by rw [kt]; exact decide_eq_false (by omega)
      clear kt
      go_wp2_with (first | (go_at_call 46; ((with_reducible refine (KP.out _).mono ?_)); rintro e w' ⟨rfl, rfl⟩))
      go_round
      case rel => exact ⟨k + 1, by omega, by omega, by omega, by go_num⟩
      case measure => simp [intOf]; omega
end Go.Proofs.Ythncemlldkdkiaa
