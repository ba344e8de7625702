/- The functions of level and what they lean on. -/
import Derived.Test.YtjobpkomlgkakaaBitsA
import Derived.Test.YtjobpkomlgkakaaLevH
import Derived.WalkLawsBesides
namespace Go.Proofs.Ytjobpkomlgkakaa
open Go.RowKit TF

attribute [local go_sem] cmp_eq cmp_ne cmp_lt cmp_gt cmp_le cmp_ge

theorem fromint_any (n : Int) (w : World) :
    Calls Try.prog 17 #[.int .i64 n] w fun e w' => e = .returned (.float .f64 (floatOfInt .f64 n)) ∧ w = w' := by
  go_enter Try.func17, Try.ntmps17
  go_wp2_with fail
  go_ret
  exact ⟨rfl, rfl⟩

theorem depth_any (water area : Int) (h1 : water ≤ 9223372036854775807) (h2 : area ≤ 9223372036854775807) (w : World) :
    Calls Try.prog 9 #[.int .i64 water, .int .i64 area] w fun e w' => e = .returned (.float .f64 (depthW water area)) ∧ w = w' := by
  by_cases h : water < 1 ∨ area < 1
  · rw [depth_zero h]
    rcases h with h | h
    · go_enter Try.func9, Try.ntmps9
      go_wp2_with fail
      go_ret
      exact ⟨rfl, rfl⟩
    · by_cases h3 : water < 1
      all_goals
        go_enter Try.func9, Try.ntmps9
        go_wp2_with fail
        go_ret
        exact ⟨rfl, rfl⟩
  · have D := dep_is (water := water) (area := area) (by omega) h1 (by omega) h2
    have k1 := run_valid (P := Try.prog) 24 D.run
    obtain ⟨h3, h4⟩ : ¬ water < 1 ∧ ¬ area < 1 := by omega
    clear D h
    go_enter Try.func9, Try.ntmps9
    go_wp2_with (first | (go_at_call 17; ((with_reducible refine (fromint_any _ _).mono ?_)); rintro e w' ⟨rfl, rfl⟩))
    go_ret
    exact ⟨rfl, rfl⟩

theorem isnan_any (b : Nat) (w : World) :
    Calls Try.prog 29 #[.float .f64 b] w fun e w' => e = .returned (.bool (!eqW b b)) ∧ w = w' := by
  go_enter Try.func29, Try.ntmps29
  go_wp2_with fail
  go_ret
  exact ⟨rfl, rfl⟩

theorem run_floor {b : Nat} (h : mg b < INF) (w : World) : (callFunc 39 #[.float .f64 b]).run Try.prog w = .ok (.value (.float .f64 (flW b))) w := by
  rw [run_callFunc_extern Try.func39 (by kernel_rfl) (by kernel_rfl) (by kernel_rfl) (e := Extern.MathFloor.toIntegral "math.archFloor" .down) (by kernel_rfl)]
  have hr : FloatKind.f64.decode b = .number (ng b) (M (mg b)) (-1074 + (E (mg b) : Int)) := read_fin h
  have hE : Extern.MathFloor.toIntegral "math.archFloor" .down #[.float .f64 b] = (pure (Value.float .f64 (FloatKind.f64.encode ((FloatKind.f64.decode b).integral .down))) : Sem Value) := by
    unfold Extern.MathFloor.toIntegral
    show (match FloatKind.f64.decode b with | .nan s t => _ | d => (pure (Value.float .f64 (FloatKind.f64.encode (d.integral .down))) : Sem Value)) = _
    rw [hr]
  rw [hE, integral_down h]; rfl
structure FinW (b : Nat) : Prop where
  out : mg b < INF
theorem floor_fin (b : Nat) (h : FinW b) (w : World) :
    Calls Try.prog 37 #[.float .f64 b] w fun e w' => e = .returned (.float .f64 (flW b)) ∧ w = w' := by
  have k1 := fun w => run_floor h.out w
  clear h
  go_enter Try.func37, Try.ntmps37
  go_wp2_with fail
  go_ret
  exact ⟨rfl, rfl⟩

structure Near63 (a : Nat) : Prop where
  out : a < 4890909195324358656
theorem near_any (a : Nat) (h : Near63 a) (w : World) :
    Calls Try.prog 31 #[.float .f64 a] w fun e w' => e = .returned (.int .u64 (nr (V a))) ∧ w = w' := by
  have hF : FinW a := ⟨by have := INF_eq; have := h.out; rw [mg_small (by omega)]; omega⟩
  obtain ⟨r, k, hk, hc, hs, hn, hw⟩ := near_ways h.out
  obtain ⟨N, hN⟩ : ∃ N, N = nr (V a) := ⟨_, rfl⟩
  rw [← hN] at hw hn ⊢
  obtain ⟨f, hf⟩ : ∃ f, f = flW a := ⟨_, rfl⟩
  rw [← hf] at hc hs
  have k1 := run_valid (P := Try.prog) 24 hs
  have k2 : ∀ w : World, (convert 24 32 (.float .f64 f)).run Try.prog w = .ok (.int .u64 k) w := fun w => run_convert_float_int w 24 32 .f64 .u64 f k (by kernel_rfl) (by kernel_rfl) hc
  have k3 : ∀ w : World, Calls Try.prog 37 #[.float .f64 a] w fun e w' => e = .returned (.float .f64 f) ∧ w = w' := fun w => by rw [hf]; exact floor_fin a hF w
  have K3 := Lib.hid k3
  obtain ⟨K, hK⟩ : ∃ K : Int, K = k := ⟨_, rfl⟩
  rw [← hK] at k2
  clear hN hf hc hs h hF k3
  rcases hw with ⟨g1, rfl⟩ | ⟨g1, ⟨g2, ⟨g3, rfl⟩ | ⟨g3, rfl⟩⟩ | ⟨g2, rfl⟩⟩
  all_goals
    have u1 : 0 ≤ K := by omega
    have u2 : K < 9223372036854775808 := by omega
    try (have u3 : K % 2 = 1 := by omega)
    try (have u3 : K % 2 = 0 := by omega)
    clear hk hn
    try clear g3
    have HK := Lib.hid hK
    clear hK
    go_enter Try.func31, Try.ntmps31
    go_wp2_with (go_at_call 37; ((with_reducible refine (K3.out _).mono ?_)); rintro e w' ⟨rfl, rfl⟩)
    go_ret
    exact ⟨by have := HK.out; first | rfl | exact ret_int' (by omega), rfl⟩

theorem clamp_any (x : Nat) (most : Int) (h64 : W64 x) (hm : most ≤ 9223372036854775807) (w : World) :
    Calls Try.prog 21 #[.float .f64 x, .int .i64 most] w fun e w' => e = .returned (.int .i64 (clampI x most)) ∧ w = w' := by
  obtain ⟨C, hC⟩ : ∃ C, C = clampI x most := ⟨_, rfl⟩
  have hw := clamp_ways x most hm
  rw [← hC] at hw ⊢
  have h64' : x < 2 ^ 64 := h64
  rcases hw with ⟨g1, rfl⟩ | ⟨g1, ⟨g2, ⟨g3, rfl⟩ | ⟨g3, rfl⟩⟩ | ⟨g2, hl, hw⟩⟩
  all_goals clear hC
  · go_enter Try.func21, Try.ntmps21
    go_wp2_with (first | (go_at_call 30; ((with_reducible refine (abs_any _ (by assumption) _).mono ?_)); rintro e w' ⟨rfl, rfl⟩) | (go_at_call 29; ((with_reducible refine (isnan_any _ _).mono ?_)); rintro e w' ⟨rfl, rfl⟩) | (go_at_call 31; ((with_reducible refine (near_any _ (by assumption) _).mono ?_)); rintro e w' ⟨rfl, rfl⟩))
    go_ret
    exact ⟨rfl, rfl⟩
  · go_enter Try.func21, Try.ntmps21
    go_wp2_with (first | (go_at_call 30; ((with_reducible refine (abs_any _ (by assumption) _).mono ?_)); rintro e w' ⟨rfl, rfl⟩) | (go_at_call 29; ((with_reducible refine (isnan_any _ _).mono ?_)); rintro e w' ⟨rfl, rfl⟩) | (go_at_call 31; ((with_reducible refine (near_any _ (by assumption) _).mono ?_)); rintro e w' ⟨rfl, rfl⟩))
    all_goals
      go_ret
      exact ⟨by first | rfl | exact ret_int' (by omega), rfl⟩
  · go_enter Try.func21, Try.ntmps21
    go_wp2_with (first | (go_at_call 30; ((with_reducible refine (abs_any _ (by assumption) _).mono ?_)); rintro e w' ⟨rfl, rfl⟩) | (go_at_call 29; ((with_reducible refine (isnan_any _ _).mono ?_)); rintro e w' ⟨rfl, rfl⟩) | (go_at_call 31; ((with_reducible refine (near_any _ (by assumption) _).mono ?_)); rintro e w' ⟨rfl, rfl⟩))
    all_goals
      go_ret
      exact ⟨by first | rfl | exact ret_int' (by omega), rfl⟩
  · obtain ⟨-, -, -, -, -, hn, -⟩ := near_ways hl
    have hN : Near63 (mg x) := ⟨hl⟩
    obtain ⟨N, hN2⟩ : ∃ N : Int, N = nr (V (mg x)) := ⟨_, rfl⟩
    have KN : ∀ w : World, Calls Try.prog 31 #[.float .f64 (mg x)] w fun e w' => e = .returned (.int .u64 N) ∧ w = w' := fun w => by rw [hN2]; exact near_any _ hN w
    have KN := Lib.hid KN
    rw [← hN2] at hw
    have n1 : 0 ≤ N := by omega
    have n2 : N < 9223372036854775808 := by omega
    clear hl hN hN2 hn
    rcases hw with ⟨g3, rfl⟩ | ⟨g3, rfl⟩
    all_goals
      go_enter Try.func21, Try.ntmps21
      go_wp2_with (first | (go_at_call 31; ((with_reducible refine (KN.out _).mono ?_)); rintro e w' ⟨rfl, rfl⟩) | (first | (go_at_call 30; ((with_reducible refine (abs_any _ (by assumption) _).mono ?_)); rintro e w' ⟨rfl, rfl⟩) | (go_at_call 29; ((with_reducible refine (isnan_any _ _).mono ?_)); rintro e w' ⟨rfl, rfl⟩)))
      all_goals
        go_ret
        exact ⟨by first | rfl | exact ret_int' (by omega), rfl⟩

theorem canon_of_nan {q : Nat} (h : INF < mg q) : canonW q = 9221120237041090561 := by unfold canonW; rw [isN_true.2 h]; rfl
theorem level_any (bed : Nat) (water area : Int) (h1 : water ≤ 9223372036854775807) (h2 : area ≤ 9223372036854775807) (w : World) :
    Calls Try.prog 11 #[.float .f64 bed, .int .i64 water, .int .i64 area] w fun e w' => e = .returned (.float .f64 (levelW bed water area)) ∧ ∃ n, w' = w.drewN n := by
  rcases level_ways bed water area h1 h2 with ⟨g1, g2, e⟩ | ⟨g1, s, g2, e⟩
  · rw [e]; clear e
    obtain ⟨q, q1, q2, k1⟩ := run_invalid (P := Try.prog) 24 (.inl rfl) g2 w
    have HQ := Lib.hid (canon_of_nan q2)
    clear q1 q2 g2
    go_enter Try.func11, Try.ntmps11
    go_wp2_with (first | (go_at_call 9; ((with_reducible refine (depth_any _ _ (by first | assumption | omega) (by first | assumption | omega) _).mono ?_)); rintro e w' ⟨rfl, rfl⟩) | (go_at_call 19; ((with_reducible refine (canon_any _ _).mono ?_)); rintro e w' ⟨rfl, rfl⟩))
    go_ret
    exact ⟨ret_f64 HQ.out, 1, rfl⟩
  · rw [e]; clear e
    have k1 := run_valid (P := Try.prog) 24 g2
    clear g2
    go_enter Try.func11, Try.ntmps11
    go_wp2_with (first | (go_at_call 9; ((with_reducible refine (depth_any _ _ (by first | assumption | omega) (by first | assumption | omega) _).mono ?_)); rintro e w' ⟨rfl, rfl⟩) | (go_at_call 19; ((with_reducible refine (canon_any _ _).mono ?_)); rintro e w' ⟨rfl, rfl⟩))
    go_ret
    exact ⟨rfl, 0, rfl⟩
theorem fill_any (bed : Nat) (area : Int) (level : Nat) (h64 : W64 bed) (h2 : area ≤ 9223372036854775807) (w : World) :
    Calls Try.prog 13 #[.float .f64 bed, .int .i64 area, .float .f64 level] w fun e w' => e = .returned (.int .i64 (fillW bed area level)) ∧ w = w' := by
  by_cases h : ltW bed level = false
  · rw [fill_none (.inl h)]
    go_enter Try.func13, Try.ntmps13
    go_wp2_with fail
    go_ret
    exact ⟨rfl, rfl⟩
  · rw [Bool.not_eq_false] at h
    by_cases h1 : area < 1
    · rw [fill_none (.inr h1)]
      go_enter Try.func13, Try.ntmps13
      go_wp2_with fail
      go_ret
      exact ⟨rfl, rfl⟩
    · obtain ⟨r, p, g1, g2, e⟩ := fill_ways h64 h (by omega : 1 ≤ area) h2
      have p64 := W64.of_wf (floatBits_wf g2)
      have k1 := run_valid (P := Try.prog) 24 g1
      have k2 := run_valid (P := Try.prog) 24 g2
      rw [← e]
      clear g1 g2 e
      go_enter Try.func13, Try.ntmps13
      go_wp2_with (first | (go_at_call 21; ((with_reducible refine (clamp_any _ _ (by assumption) (by omega) _).mono ?_)); rintro e w' ⟨rfl, rfl⟩) | (first | (go_at_call 17; ((with_reducible refine (fromint_any _ _).mono ?_)); rintro e w' ⟨rfl, rfl⟩)))
      go_ret
      exact ⟨rfl, rfl⟩

theorem awake_any (w : World) :
    Calls Try.prog 7 #[] w fun e w' => e = .returned (.bool true) ∧ ∃ n, w' = w.drewN n := by
  have k1 : eqW (depthW 3 2) 4609434218613702656 = true := by kernel_rfl
  have k2 : eqW (levelW 13836183955189006336 3 2) 13830554455654793216 = true := by kernel_rfl
  have k3 : fillW 0 10 4608308318706860032 = 12 := by kernel_rfl
  have k4 : fillW 0 10 4608758678669597082 = 14 := by kernel_rfl
  have z : W64 0 := by show _ < 2 ^ 64; decide
  go_enter Try.func7, Try.ntmps7
  go_wp2_with (first | (go_at_call 9; ((with_reducible refine (depth_any _ _ (by first | assumption | omega) (by first | assumption | omega) _).mono ?_)); rintro e w' ⟨rfl, rfl⟩) | (go_at_call 11; ((with_reducible refine (level_any _ _ _ (by first | assumption | omega) (by first | assumption | omega) _).mono ?_)); rintro e w' ⟨rfl, n, rfl⟩) | (go_at_call 13; ((with_reducible refine (fill_any _ _ _ (by first | assumption | (show _ < 2 ^ 64; decide)) (by first | assumption | omega) _).mono ?_)); rintro e w' ⟨rfl, rfl⟩))
  go_ret
  exact ⟨rfl, _, rfl⟩
end Go.Proofs.Ytjobpkomlgkakaa
