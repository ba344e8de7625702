/- The leaves of twin and of its reference. -/
import Derived.Test.YtkkikcfolinkfaaRefA
import Derived.Test.YtkkikcfolinkfaaBitsA
import Derived.Test.YtkkikcfolinkfaaTwinS
namespace Go.Proofs.Ytkkikcfolinkfaa
open Go.RowKit TF

attribute [local go_sem] cmp_eq cmp_ne cmp_lt cmp_gt cmp_le cmp_ge

theorem parts_any (b : Nat) (m e : Int) (hm : m = M (mg b)) (he : e = E (mg b)) (hb : mg b < INF) (w : World) :
    Calls Try.prog 37 #[.float .f64 b] w fun e' w' => e' = .returned (.tuple #[.int .u64 m, .int .i64 (e - 1074)]) ∧ w = w' := by
  obtain ⟨n, hn⟩ : ∃ n : Int, n = mg b := ⟨_, rfl⟩
  have HN := Lib.hid hn
  obtain ⟨h0, h1, ⟨h2, h3, h4⟩ | ⟨h2, h3, h4⟩⟩ := parts_cases n m e hn hm he hb
  all_goals
    have H3 := Lib.hid h3
    have H4 := Lib.hid h4
    clear hn hm he hb h3 h4
    go_enter Try.func37, Try.ntmps37
    go_wp2_with (go_at_call 35; refine (mag_any b n HN.out _).mono ?_; rintro e w' ⟨rfl, rfl⟩)
    go_ret2
    exact ⟨ret_ui H3.out (by have := H4.out; omega), rfl⟩

theorem power_any (k : Nat) (hk : k ≤ 2045) (w : World) :
    Calls Try.prog 40 #[.int .i64 ((k : Int) - 1074)] w fun e' w' => e' = .returned (.float .f64 (pw k)) ∧ w = w' := by
  by_cases h : k < 52
  · go_enter Try.func40, Try.ntmps40
    go_wp2_with (first | (go_at_call 25; refine (from_any _ _).mono ?_; rintro e w' ⟨rfl, rfl⟩))
    go_ret
    refine ⟨ret_f64 ?_, rfl⟩
    unfold pw
    rw [if_pos h, u64w]
    have h1 : 2 ^ k < 2 ^ 52 := Nat.pow_lt_pow_right (by omega) h
    have h2 : ((2 ^ k : Nat) : Int) = 2 ^ k := by simp
    rw [← h2]
    generalize 2 ^ k = q at *
    omega
  · go_enter Try.func40, Try.ntmps40
    go_wp2_with (first | (go_at_call 25; refine (from_any _ _).mono ?_; rintro e w' ⟨rfl, rfl⟩))
    go_ret
    refine ⟨ret_f64 ?_, rfl⟩
    unfold pw
    rw [if_neg h]
    omega

theorem shifted_any (m n : Int) (below : Bool) (h0 : 0 ≤ n) (hn : n ≤ 4096) (w : World) :
    Calls Try.prog 38 #[.int .u64 m, .int .i64 n, .bool below] w fun e' w' => e' = .returned (.int .u64 (shW m n below)) ∧ w = w' := by
  by_cases h : n < 64
  · have e1 := shW_near_f m n
    have e2 := shW_near_t m n
    have E1 := Lib.hid e1
    have E2 := Lib.hid e2
    clear e1 e2
    cases below
    · go_enter Try.func38, Try.ntmps38
      go_wp2_with fail
      go_ret
      exact ⟨ret_int' E1.out, rfl⟩
    · go_enter Try.func38, Try.ntmps38
      go_wp2_with fail
      go_ret
      exact ⟨ret_int' E2.out, rfl⟩
  · rw [shW_far below (by omega)]
    cases below
    · go_enter Try.func38, Try.ntmps38
      go_wp2_with fail
      go_ret
      exact ⟨rfl, rfl⟩
    · go_enter Try.func38, Try.ntmps38
      go_wp2_with fail
      go_ret
      exact ⟨rfl, rfl⟩

theorem isinf0_any (b : Nat) (hb : W64 b) (w : World) :
    Calls Try.prog 48 #[.float .f64 b, .int .i64 0] w fun e w' => e = .returned (.bool (ltW 9218868437227405311 (mg b))) ∧ w = w' := by
  go_enter Try.func48, Try.ntmps48
  go_wp2_with (first | (go_at_call 33; refine (abs_any _ (by assumption) _).mono ?_; rintro e w' ⟨rfl, rfl⟩))
  go_ret
  exact ⟨rfl, rfl⟩
theorem tfin_any (b : Nat) (hb : W64 b) (w : World) :
    Calls Try.prog 32 #[.float .f64 b] w fun e w' => e = .returned (.bool (finB b)) ∧ w = w' := by
  rcases tfin_cases b with ⟨e, h1, h2⟩ | ⟨e, h1⟩ | ⟨e, h1, h2⟩
  all_goals
    rw [e]; clear e
    go_enter Try.func32, Try.ntmps32
    go_wp2_with (go_at_call 48; refine (isinf0_any _ hb _).mono ?_; rintro e w' ⟨rfl, rfl⟩)
    go_ret
    exact ⟨rfl, rfl⟩
theorem canons_any (a b : Nat) (w : World) :
    Calls Try.prog 34 #[.float .f64 a, .float .f64 b] w fun e w' => e = .returned (.tuple #[.float .f64 (canonW a), .float .f64 (canonW b)]) ∧ w = w' := by
  go_enter Try.func34, Try.ntmps34
  go_wp2_with (first | (go_at_call 21; refine (canon_any _ _).mono ?_; rintro e w' ⟨rfl, rfl⟩))
  go_ret2
  exact ⟨rfl, rfl⟩

/-- A pair of floats, named whole. -/
theorem ret_ff {a b c d : Nat} (p : Nat × Nat) (h : p = (c, d)) (h1 : a = c) (h2 : b = d) : Ending.returned (.tuple #[.float .f64 a, .float .f64 b]) = .returned (.tuple #[.float .f64 p.1, .float .f64 p.2]) := by rw [h, h1, h2]

set_option maxHeartbeats 1000000 in
theorem sum_any (a b : Nat) (ha : W64 a) (hb : W64 b) (w : World) :
    Calls Try.prog 12 #[.float .f64 a, .float .f64 b] w fun e w' => e = .returned (.tuple #[.float .f64 (sumW a b).1, .float .f64 (sumW a b).2]) ∧ ∃ n, w' = w.drewN n := by
  rcases sum_ways ha hb with ⟨h, e⟩ | ⟨s, h, h1, e⟩ | ⟨s, h, h1, ⟨h2, t, r, h3, h4, e⟩ | ⟨h2, t, r, h3, h4, e⟩⟩
  · obtain ⟨n, n1, n2, k⟩ := run_invalid (P := Try.prog) 24 (.inl rfl) h w
    have hn : W64 n := n1
    have f1 : finB n = false := finB_false.2 (by omega)
    have HC := Lib.hid (canonW_nan n2)
    rw [e]
    clear h e n1 n2
    go_enter Try.func12, Try.ntmps12
    go_wp2_with (first | (go_at_call 32; refine (tfin_any _ (by assumption) _).mono ?_; rintro e w' ⟨rfl, rfl⟩) | (go_at_call 21; refine (canon_any _ _).mono ?_; rintro e w' ⟨rfl, rfl⟩))
    go_ret2
    exact ⟨by rw [HC.out]; rfl, 1, rfl⟩
  · have k := run_valid (P := Try.prog) 24 h
    have hs : W64 s := floatBits_lt h
    rw [e]
    clear h e
    go_enter Try.func12, Try.ntmps12
    go_wp2_with (first | (go_at_call 32; refine (tfin_any _ (by assumption) _).mono ?_; rintro e w' ⟨rfl, rfl⟩) | (go_at_call 21; refine (canon_any _ _).mono ?_; rintro e w' ⟨rfl, rfl⟩))
    go_ret2
    exact ⟨rfl, 0, rfl⟩
  all_goals
    have k := run_valid (P := Try.prog) 24 h
    have k1 := run_valid (P := Try.prog) 24 h3
    have k2 := run_valid (P := Try.prog) 24 h4
    have hs : W64 s := floatBits_lt h
    rw [e]
    clear h e h3 h4
    go_enter Try.func12, Try.ntmps12
    go_wp2_with (first | (go_at_call 32; refine (tfin_any _ (by assumption) _).mono ?_; rintro e w' ⟨rfl, rfl⟩) | (go_at_call 33; refine (abs_any _ (by assumption) _).mono ?_; rintro e w' ⟨rfl, rfl⟩) | (go_at_call 34; refine (canons_any _ _ _).mono ?_; rintro e w' ⟨rfl, rfl⟩))
    go_ret2
    exact ⟨rfl, 0, rfl⟩
end Go.Proofs.Ytkkikcfolinkfaa
