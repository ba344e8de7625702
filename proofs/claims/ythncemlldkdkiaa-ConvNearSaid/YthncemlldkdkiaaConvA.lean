/- The functions of conv. -/
import Derived.Test.YthncemlldkdkiaaBitsA
import Derived.Test.YthncemlldkdkiaaConD
import Derived.WalkLawsBesides
namespace Go.Proofs.Ythncemlldkdkiaa
open Go.RowKit TF

attribute [local go_sem] cmp_eq cmp_ne cmp_lt cmp_gt cmp_le cmp_ge

theorem fromint_any (n : Int) (w : World) :
    Calls Try.prog 17 #[.int .i64 n] w fun e w' => e = .returned (.float .f64 (floatOfInt .f64 n)) ∧ w = w' := by
  go_enter Try.func17, Try.ntmps17
  go_wp2_with fail
  go_ret
  exact ⟨rfl, rfl⟩

theorem isnan_any (b : Nat) (w : World) :
    Calls Try.prog 38 #[.float .f64 b] w fun e w' => e = .returned (.bool (!eqW b b)) ∧ w = w' := by
  go_enter Try.func38, Try.ntmps38
  go_wp2_with fail
  go_ret
  exact ⟨rfl, rfl⟩

theorem run_floor {b : Nat} (h : mg b < INF) (w : World) : (callFunc 49 #[.float .f64 b]).run Try.prog w = .ok (.value (.float .f64 (flW b))) w := by
  rw [run_callFunc_extern Try.func49 (by kernel_rfl) (by kernel_rfl) (by kernel_rfl) (e := Extern.MathFloor.toIntegral "math.archFloor" .down) (by kernel_rfl)]
  have hr : FloatKind.f64.decode b = .number (ng b) (M (mg b)) (-1074 + (E (mg b) : Int)) := read_fin h
  have hE : Extern.MathFloor.toIntegral "math.archFloor" .down #[.float .f64 b] = (pure (Value.float .f64 (FloatKind.f64.encode ((FloatKind.f64.decode b).integral .down))) : Sem Value) := by
    unfold Extern.MathFloor.toIntegral
    show (match FloatKind.f64.decode b with | .nan s t => _ | d => (pure (Value.float .f64 (FloatKind.f64.encode (d.integral .down))) : Sem Value)) = _
    rw [hr]
  rw [hE, integral_down h]; rfl
structure FinW (b : Nat) : Prop where
  out : mg b < INF
theorem floor_fin (b : Nat) (h : FinW b) (w : World) :
    Calls Try.prog 36 #[.float .f64 b] w fun e w' => e = .returned (.float .f64 (flW b)) ∧ w = w' := by
  have k1 := fun w => run_floor h.out w
  clear h
  go_enter Try.func36, Try.ntmps36
  go_wp2_with fail
  go_ret
  exact ⟨rfl, rfl⟩

structure Near63 (a : Nat) : Prop where
  out : a < 4890909195324358656
theorem near_any (a : Nat) (h : Near63 a) (w : World) :
    Calls Try.prog 31 #[.float .f64 a] w fun e w' => e = .returned (.int .u64 (nr (V a))) ∧ w = w' := by
  have hF : FinW a := ⟨by have := INF_eq; have := h.out; rw [mg_small (by omega)]; omega⟩
  obtain ⟨r, k, hk, hc, hs, hn, hw⟩ := near_ways h.out
  obtain ⟨N, hN⟩ : ∃ N, N = nr (V a) := ⟨_, rfl⟩
  rw [← hN] at hw hn ⊢
  obtain ⟨f, hf⟩ : ∃ f, f = flW a := ⟨_, rfl⟩
  rw [← hf] at hc hs
  have k1 := run_valid (P := Try.prog) 24 hs
  have k2 : ∀ w : World, (convert 24 39 (.float .f64 f)).run Try.prog w = .ok (.int .u64 k) w := fun w => run_convert_float_int w 24 39 .f64 .u64 f k (by kernel_rfl) (by kernel_rfl) hc
  have k3 : ∀ w : World, Calls Try.prog 36 #[.float .f64 a] w fun e w' => e = .returned (.float .f64 f) ∧ w = w' := fun w => by rw [hf]; exact floor_fin a hF w
  have K3 := Lib.hid k3
  obtain ⟨K, hK⟩ : ∃ K : Int, K = k := ⟨_, rfl⟩
  rw [← hK] at k2
  clear hN hf hc hs h hF k3
  rcases hw with ⟨g1, rfl⟩ | ⟨g1, ⟨g2, ⟨g3, rfl⟩ | ⟨g3, rfl⟩⟩ | ⟨g2, rfl⟩⟩
  all_goals
    have u1 : 0 ≤ K := by omega
    have u2 : K < 9223372036854775808 := by omega
    try (have u3 : K % 2 = 1 := by omega)
    try (have u3 : K % 2 = 0 := by omega)
    clear hk hn
    try clear g3
    have HK := Lib.hid hK
    clear hK
    go_enter Try.func31, Try.ntmps31
    go_wp2_with (go_at_call 36; ((with_reducible refine (K3.out _).mono ?_)); rintro e w' ⟨rfl, rfl⟩)
    go_ret
    exact ⟨by have := HK.out; first | rfl | exact ret_int' (by omega), rfl⟩

theorem clamp_any (x : Nat) (most : Int) (h64 : W64 x) (hm : most ≤ 9223372036854775807) (w : World) :
    Calls Try.prog 14 #[.float .f64 x, .int .i64 most] w fun e w' => e = .returned (.int .i64 (clampI x most)) ∧ w = w' := by
  obtain ⟨C, hC⟩ : ∃ C, C = clampI x most := ⟨_, rfl⟩
  have hw := clamp_ways x most hm
  rw [← hC] at hw ⊢
  have h64' : x < 2 ^ 64 := h64
  rcases hw with ⟨g1, rfl⟩ | ⟨g1, ⟨g2, ⟨g3, rfl⟩ | ⟨g3, rfl⟩⟩ | ⟨g2, hl, hw⟩⟩
  all_goals clear hC
  · go_enter Try.func14, Try.ntmps14
    go_wp2_with (first | (go_at_call 30; ((with_reducible refine (abs_any _ (by assumption) _).mono ?_)); rintro e w' ⟨rfl, rfl⟩) | (go_at_call 38; ((with_reducible refine (isnan_any _ _).mono ?_)); rintro e w' ⟨rfl, rfl⟩) | (go_at_call 31; ((with_reducible refine (near_any _ (by assumption) _).mono ?_)); rintro e w' ⟨rfl, rfl⟩))
    go_ret
    exact ⟨rfl, rfl⟩
  · go_enter Try.func14, Try.ntmps14
    go_wp2_with (first | (go_at_call 30; ((with_reducible refine (abs_any _ (by assumption) _).mono ?_)); rintro e w' ⟨rfl, rfl⟩) | (go_at_call 38; ((with_reducible refine (isnan_any _ _).mono ?_)); rintro e w' ⟨rfl, rfl⟩) | (go_at_call 31; ((with_reducible refine (near_any _ (by assumption) _).mono ?_)); rintro e w' ⟨rfl, rfl⟩))
    all_goals
      go_ret
      exact ⟨by first | rfl | exact ret_int' (by omega), rfl⟩
  · go_enter Try.func14, Try.ntmps14
    go_wp2_with (first | (go_at_call 30; ((with_reducible refine (abs_any _ (by assumption) _).mono ?_)); rintro e w' ⟨rfl, rfl⟩) | (go_at_call 38; ((with_reducible refine (isnan_any _ _).mono ?_)); rintro e w' ⟨rfl, rfl⟩) | (go_at_call 31; ((with_reducible refine (near_any _ (by assumption) _).mono ?_)); rintro e w' ⟨rfl, rfl⟩))
    all_goals
      go_ret
      exact ⟨by first | rfl | exact ret_int' (by omega), rfl⟩
  · obtain ⟨-, -, -, -, -, hn, -⟩ := near_ways hl
    have hN : Near63 (mg x) := ⟨hl⟩
    obtain ⟨N, hN2⟩ : ∃ N : Int, N = nr (V (mg x)) := ⟨_, rfl⟩
    have KN : ∀ w : World, Calls Try.prog 31 #[.float .f64 (mg x)] w fun e w' => e = .returned (.int .u64 N) ∧ w = w' := fun w => by rw [hN2]; exact near_any _ hN w
    have KN := Lib.hid KN
    rw [← hN2] at hw
    have n1 : 0 ≤ N := by omega
    have n2 : N < 9223372036854775808 := by omega
    clear hl hN hN2 hn
    rcases hw with ⟨g3, rfl⟩ | ⟨g3, rfl⟩
    all_goals
      go_enter Try.func14, Try.ntmps14
      go_wp2_with (first | (go_at_call 31; ((with_reducible refine (KN.out _).mono ?_)); rintro e w' ⟨rfl, rfl⟩) | (first | (go_at_call 30; ((with_reducible refine (abs_any _ (by assumption) _).mono ?_)); rintro e w' ⟨rfl, rfl⟩) | (go_at_call 38; ((with_reducible refine (isnan_any _ _).mono ?_)); rintro e w' ⟨rfl, rfl⟩)))
      all_goals
        go_ret
        exact ⟨by first | rfl | exact ret_int' (by omega), rfl⟩


theorem ret_ib2 {a b : Int} {c d : Bool} (h : (a, c) = (b, d)) : Ending.returned (.tuple #[.int .i64 a, .bool c]) = .returned (.tuple #[.int .i64 b, .bool d]) := by
  obtain ⟨rfl, rfl⟩ := Prod.mk.inj h; rfl
theorem round_any (x : Nat) (h64 : W64 x) (w : World) :
    Calls Try.prog 10 #[.float .f64 x] w fun e w' => e = .returned (.tuple #[.int .i64 (roundI x).1, .bool (roundI x).2]) ∧ w = w' := by
  have h64' : x < 2 ^ 64 := h64
  rcases round_ways x with ⟨g1, hl, hn, ⟨g2, e⟩ | ⟨g2, e⟩⟩ | ⟨g1, g2, e⟩ | ⟨g1, g2, e⟩
  · have hN : Near63 (mg x) := ⟨hl⟩
    obtain ⟨N, hN2⟩ : ∃ N : Int, N = nr (V (mg x)) := ⟨_, rfl⟩
    have KN := Lib.hid fun w => (by rw [hN2]; exact near_any _ hN w : Calls Try.prog 31 #[.float .f64 (mg x)] w fun e w' => e = .returned (.int .u64 N) ∧ w = w')
    have n1 : 0 ≤ N := by omega
    have n2 : N < 9223372036854775808 := by omega
    rw [e, ← hN2]
    clear hl hN hN2 hn e
    go_enter Try.func10, Try.ntmps10
    go_wp2_with (first | (go_at_call 30; ((with_reducible refine (abs_any _ (by assumption) _).mono ?_)); rintro e w' ⟨rfl, rfl⟩) | (go_at_call 31; ((with_reducible refine (KN.out _).mono ?_)); rintro e w' ⟨rfl, rfl⟩))
    go_ret2
    exact ⟨rfl, rfl⟩
  · have hN : Near63 (mg x) := ⟨hl⟩
    obtain ⟨N, hN2⟩ : ∃ N : Int, N = nr (V (mg x)) := ⟨_, rfl⟩
    have KN := Lib.hid fun w => (by rw [hN2]; exact near_any _ hN w : Calls Try.prog 31 #[.float .f64 (mg x)] w fun e w' => e = .returned (.int .u64 N) ∧ w = w')
    have n1 : 0 ≤ N := by omega
    have n2 : N < 9223372036854775808 := by omega
    rw [e, ← hN2]
    clear hl hN hN2 hn e
    go_enter Try.func10, Try.ntmps10
    go_wp2_with (first | (go_at_call 30; ((with_reducible refine (abs_any _ (by assumption) _).mono ?_)); rintro e w' ⟨rfl, rfl⟩) | (go_at_call 31; ((with_reducible refine (KN.out _).mono ?_)); rintro e w' ⟨rfl, rfl⟩))
    go_ret2
    exact ⟨rfl, rfl⟩
  · rw [e]; clear e
    go_enter Try.func10, Try.ntmps10
    go_wp2_with (first | (go_at_call 30; ((with_reducible refine (abs_any _ (by assumption) _).mono ?_)); rintro e w' ⟨rfl, rfl⟩))
    go_ret2
    exact ⟨rfl, rfl⟩
  · rw [e]; clear e
    go_enter Try.func10, Try.ntmps10
    go_wp2_with (first | (go_at_call 30; ((with_reducible refine (abs_any _ (by assumption) _).mono ?_)); rintro e w' ⟨rfl, rfl⟩))
    go_ret2
    exact ⟨rfl, rfl⟩

theorem quiet_lt {t : Nat} (h : t < 2 ^ 52) : 0 < Ieee.double.quiet t % Ieee.double.binade ∧ Ieee.double.quiet t % Ieee.double.binade < 2 ^ 52 := by
  have e2 : Ieee.double.binade = 2 ^ 52 := by decide
  unfold Ieee.Format.quiet
  rw [e2, show Ieee.double.fractionBits - 1 = 51 from rfl]
  have h1 : t ||| 2 ^ 51 < 2 ^ 52 := Nat.or_lt_two_pow h (by omega)
  have h2 : 2 ^ 51 ≤ t ||| 2 ^ 51 := Nat.right_le_or
  omega
theorem run_floor_nan {b : Nat} (h : INF < mg b) (w : World) : ∃ f n, isN f = true ∧ (callFunc 49 #[.float .f64 b]).run Try.prog w = .ok (.value (.float .f64 f)) (w.drewN n) := by
  have hI := INF_eq
  obtain ⟨t, ht⟩ : ∃ t, t = mg b - INF := ⟨_, rfl⟩
  have hr : FloatKind.f64.decode b = .nan (ng b) t := by rw [ht]; exact read_nan h
  obtain ⟨y, hy⟩ : ∃ y, y = FloatKind.f64.encode (.nan (ng b) (FloatKind.f64.format.quiet t)) := ⟨_, rfl⟩
  have hN2 : isN y = true := by
    have e3 : Ieee.double.infRung = INF := by decide
    have hb := mg_lt b
    obtain ⟨k1, k2⟩ := quiet_lt (t := t) (by omega)
    refine isN_true.2 ?_
    rw [hy]
    show INF < mg (Ieee.double.word _ (Ieee.double.infRung + Ieee.double.quiet t % Ieee.double.binade))
    rw [word_eq, e3, mg_wd (by omega)]; omega
  have hE : Extern.MathFloor.toIntegral "math.archFloor" .down #[.float .f64 b] = (if FloatKind.f64.format.quiet t = t then (pure (Value.float .f64 b) : Sem Value) else
      (choose (.extern "math.Floor,Ceil,Trunc,RoundToEven.signallingNaN kept" 2) >>= fun kept => pure (.float .f64 (if kept == 1 then b else y)))) := by
    rw [hy]
    unfold Extern.MathFloor.toIntegral
    show (match FloatKind.f64.decode b with | .nan s t => (if FloatKind.f64.format.quiet t = t then (pure (Value.float .f64 b) : Sem Value) else _) | d => (pure (Value.float .f64 (FloatKind.f64.encode (d.integral .down))) : Sem Value)) = _
    rw [hr]
  have hb := isN_true.2 h
  have key : ∃ f n, isN f = true ∧ (Extern.MathFloor.toIntegral "math.archFloor" .down #[.float .f64 b]).run Try.prog w = .ok (.float .f64 f) (w.drewN n) := by
    rw [hE]
    clear hE hy hr ht h hI
    by_cases hq : FloatKind.f64.format.quiet t = t
    · rw [if_pos hq]
      exact ⟨b, 0, hb, rfl⟩
    · rw [if_neg hq]
      have hall : ∀ c : Bool, isN (if c = true then b else y) = true := by
        intro c; cases c
        · exact hN2
        · exact hb
      exact ⟨_, 1, hall _, rfl⟩
  obtain ⟨f, n, h1, h2⟩ := key
  refine ⟨f, n, h1, ?_⟩
  rw [run_callFunc_extern Try.func49 (by kernel_rfl) (by kernel_rfl) (by kernel_rfl) (e := Extern.MathFloor.toIntegral "math.archFloor" .down) (by kernel_rfl)]
  rw [h2]; rfl
end Go.Proofs.Ythncemlldkdkiaa
