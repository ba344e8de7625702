/- Laid together: Base, BitsA, TopC, TopS. -/
import Derived.Test.YtkjjecghbhppgaaGreatDoorRows
import Derived.Test.YtkjjecghbhppgaaGreatDoorK02
import Derived.Test.YtkjjecghbhppgaaGreatDoorK04
import Derived.WalkLawsBesides
/- A float's bits and back: what the functions of package math and of the references give. -/
namespace Go.Proofs.YtkjjecghbhppgaaGreatDoor
open Go.RowKit TF

attribute [local go_sem] cmp_eq cmp_ne cmp_lt cmp_gt cmp_le cmp_ge

theorem run_f64bits (b : Nat) (w : World) : (callFunc 20 #[.float .f64 b]).run Tryz.prog w = .ok (.value (.int .u64 b)) w := by
  rw [run_callFunc_extern Tryz.func20 (by kernel_rfl) (by kernel_rfl) (by kernel_rfl) (e := Extern.MathFloatBits.float64bits) (by kernel_rfl)]
  rfl
theorem bits_of (b : Nat) (n : Int) (hn : n = b) : ∀ w : World, (callFunc 20 #[.float .f64 b]).run Tryz.prog w = .ok (.value (.int .u64 n)) w := by
  subst hn; exact run_f64bits b

theorem run_f64from (n : Int) (w : World) : (callFunc 90 #[.int .u64 n]).run Tryz.prog w = .ok (.value (.float .f64 n.toNat)) w := by
  rw [run_callFunc_extern Tryz.func90 (by kernel_rfl) (by kernel_rfl) (by kernel_rfl) (e := Extern.MathFloatBits.float64frombits) (by kernel_rfl)]
  rfl




theorem grown_drewN (w : World) (n : Nat) : Grown w (w.drewN n) := ⟨(Grown.refl w).1, fun _ => rfl, Nat.le_refl _⟩

end Go.Proofs.YtkjjecghbhppgaaGreatDoor
/- The leaves of bits: what each call gives, as a plain function of the words. -/
namespace Go.Proofs.YtkjjecghbhppgaaGreatDoor
open Go.RowKit TF

attribute [local go_sem] cmp_eq cmp_ne cmp_lt cmp_gt cmp_le cmp_ge


theorem quiet_any (w : World) :
    Calls Tryz.prog 81 #[] w fun e w' => e = .returned (.float .f64 9221120237041090561) ∧ w = w' := by
  have k1 : (callFunc 90 #[.int .u64 9221120237041090561]).run Tryz.prog w = .ok (.value (.float .f64 9221120237041090561)) w := run_f64from 9221120237041090561 w
  go_enter Tryz.func81, Tryz.ntmps81
  go_wp2
  go_ret
  exact ⟨rfl, rfl⟩

theorem canon_any (b : Nat) (w : World) :
    Calls Tryz.prog 51 #[.float .f64 b] w fun e w' => e = .returned (.float .f64 (canonW b)) ∧ w = w' := by
  unfold canonW
  rw [isN_eq]
  by_cases h : eqW b b = false
  · rw [h]
    go_enter Tryz.func51, Tryz.ntmps51
    go_wp2_with (go_at_call 81; refine (quiet_any _).mono ?_; rintro e w' ⟨rfl, rfl⟩)
    go_ret
    exact ⟨rfl, rfl⟩
  · rw [Bool.not_eq_false] at h
    rw [h]
    have hz : eqW b 0 = decide (mg b = 0) := by rw [eqW_zero]; rw [eqW_self] at h; rw [h]; rfl
    by_cases h0 : mg b = 0
    · rw [decide_eq_true h0] at hz
      simp only [h0]
      clear h0
      go_enter Tryz.func51, Tryz.ntmps51
      go_wp2_with fail
      go_ret
      exact ⟨rfl, rfl⟩
    · rw [decide_eq_false h0] at hz
      simp only [h0]
      clear h0
      go_enter Tryz.func51, Tryz.ntmps51
      go_wp2_with fail
      go_ret
      exact ⟨rfl, rfl⟩



theorem place_any (b : Nat) (hb : b < 2 ^ 64) (w : World) :
    Calls Tryz.prog 119 #[.float .f64 b] w fun e w' => e = .returned (.int .u64 (placeW b)) ∧ w = w' := by
  obtain ⟨n, hn⟩ : ∃ n : Int, n = b := ⟨_, rfl⟩
  have k1 := bits_of b n hn
  rcases place_cases hb n hn with ⟨h1, e⟩ | ⟨h1, e⟩
  all_goals
    clear hb hn
    go_enter Tryz.func119, Tryz.ntmps119
    go_wp2_with fail
    go_ret
    exact ⟨rfl, rfl⟩

theorem compare_any (a b : Nat) (w : World) :
    Calls Tryz.prog 86 #[.int .u64 a, .int .u64 b] w fun e w' => e = .returned (.int .i64 (cmpN a b)) ∧ w = w' := by
  unfold cmpN
  by_cases h1 : a < b
  · rw [if_pos h1]
    go_enter Tryz.func86, Tryz.ntmps86
    go_wp2
    go_ret
    exact ⟨rfl, rfl⟩
  · rw [if_neg h1]
    by_cases h2 : b < a
    · rw [if_pos h2]
      go_enter Tryz.func86, Tryz.ntmps86
      go_wp2
      go_ret
      exact ⟨rfl, rfl⟩
    · rw [if_neg h2]
      go_enter Tryz.func86, Tryz.ntmps86
      go_wp2
      go_ret
      exact ⟨rfl, rfl⟩

theorem order_any (a b : Nat) (ha : a < 2 ^ 64) (hb : b < 2 ^ 64) (w : World) :
    Calls Tryz.prog 88 #[.float .f64 a, .float .f64 b] w fun e w' => e = .returned (.int .i64 (orderW a b)) ∧ w = w' := by
  have HA := Lib.hid ha
  have HB := Lib.hid hb
  clear ha hb
  unfold orderW
  go_enter Tryz.func88, Tryz.ntmps88
  go_wp2_with (first | (go_at_call 119; refine (place_any _ (by first | exact HA.out | exact HB.out) _).mono ?_; rintro e w' ⟨rfl, rfl⟩) | (go_at_call 86; refine (compare_any _ _ _).mono ?_; rintro e w' ⟨rfl, rfl⟩))
  go_ret
  exact ⟨rfl, rfl⟩


theorem max_any (a b : Nat) (ha : a < 2 ^ 64) (hb : b < 2 ^ 64) (w : World) :
    Calls Tryz.prog 133 #[.float .f64 a, .float .f64 b] w fun e w' => e = .returned (.float .f64 (maxW a b)) ∧ w = w' := by
  have HA := Lib.hid ha
  have HB := Lib.hid hb
  clear ha hb
  rcases max_cases a b with ⟨e, h1 | ⟨h1, h2⟩⟩ | ⟨h1, h2, ⟨e, h3⟩ | ⟨e, h3⟩⟩
  all_goals
    rw [e]; clear e
    go_enter Tryz.func133, Tryz.ntmps133
    go_wp2_with (first | (go_at_call 81; refine (quiet_any _).mono ?_; rintro e w' ⟨rfl, rfl⟩) | (go_at_call 88; refine (order_any _ _ HA.out HB.out _).mono ?_; rintro e w' ⟨rfl, rfl⟩))
    go_ret
    exact ⟨rfl, rfl⟩

theorem min_any (a b : Nat) (ha : a < 2 ^ 64) (hb : b < 2 ^ 64) (w : World) :
    Calls Tryz.prog 134 #[.float .f64 a, .float .f64 b] w fun e w' => e = .returned (.float .f64 (minW a b)) ∧ w = w' := by
  have HA := Lib.hid ha
  have HB := Lib.hid hb
  clear ha hb
  rcases min_cases a b with ⟨e, h1 | ⟨h1, h2⟩⟩ | ⟨h1, h2, ⟨e, h3⟩ | ⟨e, h3⟩⟩
  all_goals
    rw [e]; clear e
    go_enter Tryz.func134, Tryz.ntmps134
    go_wp2_with (first | (go_at_call 81; refine (quiet_any _).mono ?_; rintro e w' ⟨rfl, rfl⟩) | (go_at_call 88; refine (order_any _ _ HA.out HB.out _).mono ?_; rintro e w' ⟨rfl, rfl⟩))
    go_ret
    exact ⟨rfl, rfl⟩



theorem abs_any (b : Nat) (hb : b < 2 ^ 64) (w : World) :
    Calls Tryz.prog 55 #[.float .f64 b] w fun e w' => e = .returned (.float .f64 (mg b)) ∧ w = w' := by
  have k1 := run_f64bits
  have k2 := andNot_eq hb
  have k3 := run_f64from
  clear hb
  go_enter Tryz.func55, Tryz.ntmps55
  go_wp2
  go_ret
  exact ⟨rfl, rfl⟩

theorem isinf1_any (b : Nat) (w : World) :
    Calls Tryz.prog 115 #[.float .f64 b, .int .i64 1] w fun e w' => e = .returned (.bool (ltW 9218868437227405311 b)) ∧ w = w' := by
  go_enter Tryz.func115, Tryz.ntmps115
  go_wp2_with fail
  go_ret
  exact ⟨rfl, rfl⟩



end Go.Proofs.YtkjjecghbhppgaaGreatDoor
/- The functions of conv and level that the top law reaches. -/
namespace Go.Proofs.YtkjjecghbhppgaaGreatDoor
open Go.RowKit TF

attribute [local go_sem] cmp_eq cmp_ne cmp_lt cmp_gt cmp_le cmp_ge

theorem fromint_any (n : Int) (w : World) :
    Calls Tryz.prog 112 #[.int .i64 n] w fun e w' => e = .returned (.float .f64 (floatOfInt .f64 n)) ∧ w = w' := by
  go_enter Tryz.func112, Tryz.ntmps112
  go_wp2_with fail
  go_ret
  exact ⟨rfl, rfl⟩

theorem isnan_any (b : Nat) (w : World) :
    Calls Tryz.prog 149 #[.float .f64 b] w fun e w' => e = .returned (.bool (!eqW b b)) ∧ w = w' := by
  go_enter Tryz.func149, Tryz.ntmps149
  go_wp2_with fail
  go_ret
  exact ⟨rfl, rfl⟩

theorem run_floor {b : Nat} (h : mg b < INF) (w : World) : (callFunc 121 #[.float .f64 b]).run Tryz.prog w = .ok (.value (.float .f64 (flW b))) w := by
  rw [run_callFunc_extern Tryz.func121 (by kernel_rfl) (by kernel_rfl) (by kernel_rfl) (e := Extern.MathFloor.toIntegral "math.archFloor" .down) (by kernel_rfl)]
  have hr : FloatKind.f64.decode b = .number (ng b) (M (mg b)) (-1074 + (E (mg b) : Int)) := read_fin h
  have hE : Extern.MathFloor.toIntegral "math.archFloor" .down #[.float .f64 b] = (pure (Value.float .f64 (FloatKind.f64.encode ((FloatKind.f64.decode b).integral .down))) : Sem Value) := by
    unfold Extern.MathFloor.toIntegral
    show (match FloatKind.f64.decode b with | .nan s t => _ | d => (pure (Value.float .f64 (FloatKind.f64.encode (d.integral .down))) : Sem Value)) = _
    rw [hr]
  rw [hE, integral_down h]; rfl
structure FinW (b : Nat) : Prop where
  out : mg b < INF
theorem floor_fin (b : Nat) (h : FinW b) (w : World) :
    Calls Tryz.prog 91 #[.float .f64 b] w fun e w' => e = .returned (.float .f64 (flW b)) ∧ w = w' := by
  have k1 := fun w => run_floor h.out w
  clear h
  go_enter Tryz.func91, Tryz.ntmps91
  go_wp2_with fail
  go_ret
  exact ⟨rfl, rfl⟩

structure Near63 (a : Nat) : Prop where
  out : a < 4890909195324358656
theorem near_any (a : Nat) (h : Near63 a) (w : World) :
    Calls Tryz.prog 56 #[.float .f64 a] w fun e w' => e = .returned (.int .u64 (nr (V a))) ∧ w = w' := by
  have hF : FinW a := ⟨by have := INF_eq; have := h.out; rw [mg_small (by omega)]; omega⟩
  obtain ⟨r, k, hk, hc, hs, hn, hw⟩ := near_ways h.out
  obtain ⟨N, hN⟩ : ∃ N, N = nr (V a) := ⟨_, rfl⟩
  rw [← hN] at hw hn ⊢
  obtain ⟨f, hf⟩ : ∃ f, f = flW a := ⟨_, rfl⟩
  rw [← hf] at hc hs
  have k1 := run_valid (P := Tryz.prog) 35 hs
  have k2 : ∀ w : World, (convert 35 53 (.float .f64 f)).run Tryz.prog w = .ok (.int .u64 k) w := fun w => run_convert_float_int w 35 53 .f64 .u64 f k (by kernel_rfl) (by kernel_rfl) hc
  have k3 : ∀ w : World, Calls Tryz.prog 91 #[.float .f64 a] w fun e w' => e = .returned (.float .f64 f) ∧ w = w' := fun w => by rw [hf]; exact floor_fin a hF w
  have K3 := Lib.hid k3
  obtain ⟨K, hK⟩ : ∃ K : Int, K = k := ⟨_, rfl⟩
  rw [← hK] at k2
  clear hN hf hc hs h hF k3
  rcases hw with ⟨g1, rfl⟩ | ⟨g1, ⟨g2, ⟨g3, rfl⟩ | ⟨g3, rfl⟩⟩ | ⟨g2, rfl⟩⟩
  all_goals
    have u1 : 0 ≤ K := by omega
    have u2 : K < 9223372036854775808 := by omega
    try (have u3 : K % 2 = 1 := by omega)
    try (have u3 : K % 2 = 0 := by omega)
    clear hk hn
    try clear g3
    have HK := Lib.hid hK
    clear hK
    go_enter Tryz.func56, Tryz.ntmps56
    go_wp2_with (go_at_call 91; ((with_reducible refine (K3.out _).mono ?_)); rintro e w' ⟨rfl, rfl⟩)
    go_ret
    exact ⟨by have := HK.out; first | rfl | exact ret_int' (by omega), rfl⟩

theorem clamp_any (x : Nat) (most : Int) (h64 : W64 x) (hm : most ≤ 9223372036854775807) (w : World) :
    Calls Tryz.prog 128 #[.float .f64 x, .int .i64 most] w fun e w' => e = .returned (.int .i64 (clampI x most)) ∧ w = w' := by
  obtain ⟨C, hC⟩ : ∃ C, C = clampI x most := ⟨_, rfl⟩
  have hw := clamp_ways x most hm
  rw [← hC] at hw ⊢
  have h64' : x < 2 ^ 64 := h64
  rcases hw with ⟨g1, rfl⟩ | ⟨g1, ⟨g2, ⟨g3, rfl⟩ | ⟨g3, rfl⟩⟩ | ⟨g2, hl, hw⟩⟩
  all_goals clear hC
  · go_enter Tryz.func128, Tryz.ntmps128
    go_wp2_with (first | (go_at_call 55; ((with_reducible refine (abs_any _ (by assumption) _).mono ?_)); rintro e w' ⟨rfl, rfl⟩) | (go_at_call 149; ((with_reducible refine (isnan_any _ _).mono ?_)); rintro e w' ⟨rfl, rfl⟩) | (go_at_call 56; ((with_reducible refine (near_any _ (by assumption) _).mono ?_)); rintro e w' ⟨rfl, rfl⟩))
    go_ret
    exact ⟨rfl, rfl⟩
  · go_enter Tryz.func128, Tryz.ntmps128
    go_wp2_with (first | (go_at_call 55; ((with_reducible refine (abs_any _ (by assumption) _).mono ?_)); rintro e w' ⟨rfl, rfl⟩) | (go_at_call 149; ((with_reducible refine (isnan_any _ _).mono ?_)); rintro e w' ⟨rfl, rfl⟩) | (go_at_call 56; ((with_reducible refine (near_any _ (by assumption) _).mono ?_)); rintro e w' ⟨rfl, rfl⟩))
    all_goals
      go_ret
      exact ⟨by first | rfl | exact ret_int' (by omega), rfl⟩
  · go_enter Tryz.func128, Tryz.ntmps128
    go_wp2_with (first | (go_at_call 55; ((with_reducible refine (abs_any _ (by assumption) _).mono ?_)); rintro e w' ⟨rfl, rfl⟩) | (go_at_call 149; ((with_reducible refine (isnan_any _ _).mono ?_)); rintro e w' ⟨rfl, rfl⟩) | (go_at_call 56; ((with_reducible refine (near_any _ (by assumption) _).mono ?_)); rintro e w' ⟨rfl, rfl⟩))
    all_goals
      go_ret
      exact ⟨by first | rfl | exact ret_int' (by omega), rfl⟩
  · obtain ⟨-, -, -, -, -, hn, -⟩ := near_ways hl
    have hN : Near63 (mg x) := ⟨hl⟩
    obtain ⟨N, hN2⟩ : ∃ N : Int, N = nr (V (mg x)) := ⟨_, rfl⟩
    have KN : ∀ w : World, Calls Tryz.prog 56 #[.float .f64 (mg x)] w fun e w' => e = .returned (.int .u64 N) ∧ w = w' := fun w => by rw [hN2]; exact near_any _ hN w
    have KN := Lib.hid KN
    rw [← hN2] at hw
    have n1 : 0 ≤ N := by omega
    have n2 : N < 9223372036854775808 := by omega
    clear hl hN hN2 hn
    rcases hw with ⟨g3, rfl⟩ | ⟨g3, rfl⟩
    all_goals
      go_enter Tryz.func128, Tryz.ntmps128
      go_wp2_with (first | (go_at_call 56; ((with_reducible refine (KN.out _).mono ?_)); rintro e w' ⟨rfl, rfl⟩) | (first | (go_at_call 55; ((with_reducible refine (abs_any _ (by assumption) _).mono ?_)); rintro e w' ⟨rfl, rfl⟩) | (go_at_call 149; ((with_reducible refine (isnan_any _ _).mono ?_)); rintro e w' ⟨rfl, rfl⟩)))
      all_goals
        go_ret
        exact ⟨by first | rfl | exact ret_int' (by omega), rfl⟩


theorem ret_ib2 {a b : Int} {c d : Bool} (h : (a, c) = (b, d)) : Ending.returned (.tuple #[.int .i64 a, .bool c]) = .returned (.tuple #[.int .i64 b, .bool d]) := by
  obtain ⟨rfl, rfl⟩ := Prod.mk.inj h; rfl
theorem round_any (x : Nat) (h64 : W64 x) (w : World) :
    Calls Tryz.prog 32 #[.float .f64 x] w fun e w' => e = .returned (.tuple #[.int .i64 (roundI x).1, .bool (roundI x).2]) ∧ w = w' := by
  have h64' : x < 2 ^ 64 := h64
  rcases round_ways x with ⟨g1, hl, hn, ⟨g2, e⟩ | ⟨g2, e⟩⟩ | ⟨g1, g2, e⟩ | ⟨g1, g2, e⟩
  · have hN : Near63 (mg x) := ⟨hl⟩
    obtain ⟨N, hN2⟩ : ∃ N : Int, N = nr (V (mg x)) := ⟨_, rfl⟩
    have KN := Lib.hid fun w => (by rw [hN2]; exact near_any _ hN w : Calls Tryz.prog 56 #[.float .f64 (mg x)] w fun e w' => e = .returned (.int .u64 N) ∧ w = w')
    have n1 : 0 ≤ N := by omega
    have n2 : N < 9223372036854775808 := by omega
    rw [e, ← hN2]
    clear hl hN hN2 hn e
    go_enter Tryz.func32, Tryz.ntmps32
    go_wp2_with (first | (go_at_call 55; ((with_reducible refine (abs_any _ (by assumption) _).mono ?_)); rintro e w' ⟨rfl, rfl⟩) | (go_at_call 56; ((with_reducible refine (KN.out _).mono ?_)); rintro e w' ⟨rfl, rfl⟩))
    go_ret2
    exact ⟨rfl, rfl⟩
  · have hN : Near63 (mg x) := ⟨hl⟩
    obtain ⟨N, hN2⟩ : ∃ N : Int, N = nr (V (mg x)) := ⟨_, rfl⟩
    have KN := Lib.hid fun w => (by rw [hN2]; exact near_any _ hN w : Calls Tryz.prog 56 #[.float .f64 (mg x)] w fun e w' => e = .returned (.int .u64 N) ∧ w = w')
    have n1 : 0 ≤ N := by omega
    have n2 : N < 9223372036854775808 := by omega
    rw [e, ← hN2]
    clear hl hN hN2 hn e
    go_enter Tryz.func32, Tryz.ntmps32
    go_wp2_with (first | (go_at_call 55; ((with_reducible refine (abs_any _ (by assumption) _).mono ?_)); rintro e w' ⟨rfl, rfl⟩) | (go_at_call 56; ((with_reducible refine (KN.out _).mono ?_)); rintro e w' ⟨rfl, rfl⟩))
    go_ret2
    exact ⟨rfl, rfl⟩
  · rw [e]; clear e
    go_enter Tryz.func32, Tryz.ntmps32
    go_wp2_with (first | (go_at_call 55; ((with_reducible refine (abs_any _ (by assumption) _).mono ?_)); rintro e w' ⟨rfl, rfl⟩))
    go_ret2
    exact ⟨rfl, rfl⟩
  · rw [e]; clear e
    go_enter Tryz.func32, Tryz.ntmps32
    go_wp2_with (first | (go_at_call 55; ((with_reducible refine (abs_any _ (by assumption) _).mono ?_)); rintro e w' ⟨rfl, rfl⟩))
    go_ret2
    exact ⟨rfl, rfl⟩

theorem depth_any (water area : Int) (h1 : water ≤ 9223372036854775807) (h2 : area ≤ 9223372036854775807) (w : World) :
    Calls Tryz.prog 77 #[.int .i64 water, .int .i64 area] w fun e w' => e = .returned (.float .f64 (depthW water area)) ∧ w = w' := by
  by_cases h : water < 1 ∨ area < 1
  · rw [depth_zero h]
    rcases h with h | h
    · go_enter Tryz.func77, Tryz.ntmps77
      go_wp2_with fail
      go_ret
      exact ⟨rfl, rfl⟩
    · by_cases h3 : water < 1
      all_goals
        go_enter Tryz.func77, Tryz.ntmps77
        go_wp2_with fail
        go_ret
        exact ⟨rfl, rfl⟩
  · have D := dep_is (water := water) (area := area) (by omega) h1 (by omega) h2
    have k1 := run_valid (P := Tryz.prog) 35 D.run
    obtain ⟨h3, h4⟩ : ¬ water < 1 ∧ ¬ area < 1 := by omega
    clear D h
    go_enter Tryz.func77, Tryz.ntmps77
    go_wp2_with (first | (go_at_call 112; ((with_reducible refine (fromint_any _ _).mono ?_)); rintro e w' ⟨rfl, rfl⟩))
    go_ret
    exact ⟨rfl, rfl⟩

theorem canon_of_nan {q : Nat} (h : INF < mg q) : canonW q = 9221120237041090561 := by unfold canonW; rw [isN_true.2 h]; rfl
theorem level_any (bed : Nat) (water area : Int) (h1 : water ≤ 9223372036854775807) (h2 : area ≤ 9223372036854775807) (w : World) :
    Calls Tryz.prog 132 #[.float .f64 bed, .int .i64 water, .int .i64 area] w fun e w' => e = .returned (.float .f64 (levelW bed water area)) ∧ ∃ n, w' = w.drewN n := by
  rcases level_ways bed water area h1 h2 with ⟨g1, g2, e⟩ | ⟨g1, s, g2, e⟩
  · rw [e]; clear e
    obtain ⟨q, q1, q2, k1⟩ := run_invalid (P := Tryz.prog) 35 (.inl rfl) g2 w
    have HQ := Lib.hid (canon_of_nan q2)
    clear q1 q2 g2
    go_enter Tryz.func132, Tryz.ntmps132
    go_wp2_with (first | (go_at_call 77; ((with_reducible refine (depth_any _ _ (by first | assumption | omega) (by first | assumption | omega) _).mono ?_)); rintro e w' ⟨rfl, rfl⟩) | (go_at_call 51; ((with_reducible refine (canon_any _ _).mono ?_)); rintro e w' ⟨rfl, rfl⟩))
    go_ret
    exact ⟨ret_f64 HQ.out, 1, rfl⟩
  · rw [e]; clear e
    have k1 := run_valid (P := Tryz.prog) 35 g2
    clear g2
    go_enter Tryz.func132, Tryz.ntmps132
    go_wp2_with (first | (go_at_call 77; ((with_reducible refine (depth_any _ _ (by first | assumption | omega) (by first | assumption | omega) _).mono ?_)); rintro e w' ⟨rfl, rfl⟩) | (go_at_call 51; ((with_reducible refine (canon_any _ _).mono ?_)); rintro e w' ⟨rfl, rfl⟩))
    go_ret
    exact ⟨rfl, 0, rfl⟩
end Go.Proofs.YtkjjecghbhppgaaGreatDoor
/- sum.Three: what sorts, what adds. -/
namespace Go.Proofs.YtkjjecghbhppgaaGreatDoor
open Go.RowKit TF

attribute [local go_sem] cmp_eq cmp_ne cmp_lt cmp_gt cmp_le cmp_ge

theorem run_store_float (P : Program) (w : World) (a : Addr) (m : Mode) (k : FloatKind) (n : Nat) : (store a (.float k n) m).run P w = stored P w a (.float k n) m := run_store P w a _ m rfl

theorem smag_any (x : Nat) (h : PW x) (w : World) :
    Calls Tryz.prog 87 #[.float .f64 x] w fun e w' => e = .returned (.int .u64 ((x * 2 : Nat) : Int)) ∧ w = w' := by
  obtain ⟨n, hn⟩ : ∃ n : Int, n = x := ⟨_, rfl⟩
  have k := bits_of x n hn
  have h0 := h.out
  have hr : ((x * 2 : Nat) : Int) = n * 2 := by omega
  have h1 : 0 ≤ n := by omega
  have h2 : n ≤ 9218868437227405312 := by omega
  rw [hr]
  clear hn hr h0 h
  go_enter Tryz.func87, Tryz.ntmps87
  go_wp2_with fail
  go_ret
  exact ⟨rfl, rfl⟩

theorem isnanu_any (x : Int) (w : World) : Calls Tryz.prog 118 #[.int .u64 x] w fun e w' => e = .returned (.bool false) ∧ w = w' := by
  go_enter Tryz.func118, Tryz.ntmps118
  go_wp2_with fail
  go_ret
  exact ⟨rfl, rfl⟩

theorem or_any (b : Nat) (x y : Int) (w : World) (c0 : w.cell? ⟨b, 0, none⟩ = some (.int .i64 x)) (c1 : w.cell? ⟨b, 1, none⟩ = some (.int .i64 y)) :
    Calls Tryz.prog 85 #[.slice (some ⟨b, 0, none⟩) 2 2] w fun e w' => e = .returned (.int .i64 (if x = 0 then y else x)) ∧ w = w' := by
  obtain ⟨r, hr⟩ : ∃ r, (if x = 0 then y else x) = r := ⟨_, rfl⟩
  rw [hr]
  have HR := Lib.hid hr
  clear hr
  go_enter Tryz.func85, Tryz.ntmps85
  go_wp2_with fail
  go_loopw [5, 8] (fun _ i wr => wr = w ∧ (i = .int .i64 0 ∨ (i = .int .i64 1 ∧ x = 0) ∨ (i = .int .i64 2 ∧ x = 0 ∧ y = 0))) (fun _ i _ => 2 - (intOf i).toNat)
  case atStart => exact ⟨rfl, .inl rfl⟩
  case round =>
    obtain ⟨rfl, rfl | ⟨rfl, h0⟩ | ⟨rfl, h0, h1⟩⟩ := hrel
    · by_cases hx : x = 0
      · go_wp2
        go_roundw
        case rel => exact ⟨trivial, .inr (.inl ⟨rfl, hx⟩)⟩
        case measure => simp [intOf]
      · go_wp2
        go_ret
        exact ⟨ret_int' (by rw [← HR.out, if_neg hx]), rfl⟩
    · by_cases hx : y = 0
      · go_wp2
        go_roundw
        case rel => exact ⟨trivial, .inr (.inr ⟨rfl, h0, hx⟩)⟩
        case measure => simp [intOf]
      · go_wp2
        go_ret
        exact ⟨ret_int' (by rw [← HR.out, if_pos h0]), rfl⟩
    · go_wp2
      go_ret
      exact ⟨ret_int' (by rw [← HR.out, if_pos h0, h1]), rfl⟩

theorem squiet_any (x : Nat) (h : PW x) (w : World) :
    Calls Tryz.prog 120 #[.float .f64 x] w fun e w' => e = .returned (.float .f64 x) ∧ w = w' := by
  have he : eqW x x = true := by
    have h0 := h.out
    have : mg x = x := mg_small (by omega)
    rw [eqW_self, show isN x = false from isN_false.2 (by rw [this]; exact h0)]; rfl
  clear h
  go_enter Tryz.func120, Tryz.ntmps120
  go_wp2_with (first | (go_at_call 149; ((with_reducible refine (isnan_any _ _).mono ?_)); rintro e w' ⟨rfl, rfl⟩))
  go_ret
  exact ⟨rfl, rfl⟩

/-- How two numbers that are not below nought stand. -/
def cI (x y : Nat) : Int := if x < y then -1 else if y < x then 1 else 0
theorem cI_neg {x y : Nat} : cI x y < 0 ↔ x < y := by unfold cI; split <;> (try split) <;> omega

theorem less_any (x y : Nat) (hx : PW x) (hy : PW y) (w : World) :
    Calls Tryz.prog 84 #[.float .f64 x, .float .f64 y] w fun e w' => e = .returned (.int .i64 (cI x y)) ∧ Below w.heap.size w w' := by
  have hx0 := hx.out
  have hy0 := hy.out
  have ho : ∀ w : World, Calls Tryz.prog 88 #[.float .f64 x, .float .f64 y] w fun e w' => e = .returned (.int .i64 (orderW x y)) ∧ w = w' := fun w => order_any x y (by omega) (by omega) w
  have HO := Lib.hid ho
  have hc : (if cmpN (x * 2) (y * 2) = 0 then orderW x y else cmpN (x * 2) (y * 2)) = cI x y := by
    rcases Nat.lt_trichotomy x y with h | h | h
    · have e : cmpN (x * 2) (y * 2) = -1 := if_pos (by omega)
      rw [e, if_neg (by omega)]; exact (if_pos h).symm
    · subst h
      have e : cmpN (x * 2) (x * 2) = 0 := by unfold cmpN; simp
      have e2 : orderW x x = 0 := by unfold orderW cmpN; simp
      have e3 : cI x x = 0 := by unfold cI; simp
      rw [e, if_pos rfl, e2, e3]
    · have e : cmpN (x * 2) (y * 2) = 1 := by unfold cmpN; rw [if_neg (by omega), if_pos (by omega)]
      rw [e, if_neg (by omega)]; unfold cI; rw [if_neg (by omega), if_pos h]
  have h2c := fun w => compare_any (x * 2) (y * 2) w
  have hmx := fun w => smag_any x hx w
  have hmy := fun w => smag_any y hy w
  generalize ((x * 2 : Nat) : Int) = X at h2c hmx
  generalize ((y * 2 : Nat) : Int) = Y at h2c hmy
  have HX := Lib.hid hmx
  have HY := Lib.hid hmy
  generalize orderW x y = o at ho HO hc
  generalize cmpN (x * 2) (y * 2) = c at hc h2c
  have H2 := Lib.hid h2c
  rw [← hc]
  have hor := fun (w : World) => or_any w.heap.size c o (w.alloc (.cells #[.int .i64 c, .int .i64 o] 3)) (by simp [go_sem]) (by simp [go_sem])
  generalize (if c = 0 then o else c) = r at hor ⊢
  have HR := Lib.hid hor
  clear hor ho h2c hc hx0 hy0 hmx hmy
  go_enter Tryz.func84, Tryz.ntmps84
  go_wp2_with (first | (go_at_call 87; ((with_reducible refine (HX.out _).mono ?_)); rintro e w' ⟨rfl, rfl⟩) | (go_at_call 87; ((with_reducible refine (HY.out _).mono ?_)); rintro e w' ⟨rfl, rfl⟩) | (go_at_call 86; ((with_reducible refine (H2.out _).mono ?_)); rintro e w' ⟨rfl, rfl⟩) | (go_at_call 88; ((with_reducible refine (HO.out _).mono ?_)); rintro e w' ⟨rfl, rfl⟩) | (go_at_call 85; ((with_reducible refine (HR.out _).mono ?_)); rintro e w' ⟨rfl, rfl⟩))
  go_ret
  exact ⟨rfl, (Below.refl _ _).alloc (Nat.le_refl _) _⟩
end Go.Proofs.YtkjjecghbhppgaaGreatDoor
