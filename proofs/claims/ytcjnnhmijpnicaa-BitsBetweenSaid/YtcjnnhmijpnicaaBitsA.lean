/- The leaves of bits: what each call gives, as a plain function of the words. -/
import Derived.Test.YtcjnnhmijpnicaaBase
namespace Go.Proofs.Ytcjnnhmijpnicaa
open Go.RowKit TF

attribute [local go_sem] cmp_eq cmp_ne cmp_lt cmp_gt cmp_le cmp_ge

theorem magnitude_any (b : Nat) (n : Int) (hn : n = mg b) (hb : b < 2 ^ 64) (w : World) :
    Calls Try.prog 34 #[.float .f64 b] w fun e w' => e = .returned (.int .u64 n) ∧ w = w' := by
  have k1 := run_f64bits
  have k2 := andNot_eq hb
  rw [← hn] at k2
  clear hb hn
  go_enter Try.func34, Try.ntmps34
  go_wp2
  go_ret
  exact ⟨rfl, rfl⟩

theorem quiet_any (w : World) :
    Calls Try.prog 32 #[] w fun e w' => e = .returned (.float .f64 9221120237041090561) ∧ w = w' := by
  have k1 : (callFunc 33 #[.int .u64 9221120237041090561]).run Try.prog w = .ok (.value (.float .f64 9221120237041090561)) w := run_f64from 9221120237041090561 w
  go_enter Try.func32, Try.ntmps32
  go_wp2
  go_ret
  exact ⟨rfl, rfl⟩

theorem canon_any (b : Nat) (w : World) :
    Calls Try.prog 17 #[.float .f64 b] w fun e w' => e = .returned (.float .f64 (canonW b)) ∧ w = w' := by
  unfold canonW
  rw [isN_eq]
  by_cases h : eqW b b = false
  · rw [h]
    go_enter Try.func17, Try.ntmps17
    go_wp2_with (go_at_call 32; refine (quiet_any _).mono ?_; rintro e w' ⟨rfl, rfl⟩)
    go_ret
    exact ⟨rfl, rfl⟩
  · rw [Bool.not_eq_false] at h
    rw [h]
    have hz : eqW b 0 = decide (mg b = 0) := by rw [eqW_zero]; rw [eqW_self] at h; rw [h]; rfl
    by_cases h0 : mg b = 0
    · rw [decide_eq_true h0] at hz
      simp only [h0]
      clear h0
      go_enter Try.func17, Try.ntmps17
      go_wp2_with fail
      go_ret
      exact ⟨rfl, rfl⟩
    · rw [decide_eq_false h0] at hz
      simp only [h0]
      clear h0
      go_enter Try.func17, Try.ntmps17
      go_wp2_with fail
      go_ret
      exact ⟨rfl, rfl⟩

theorem class_any (b : Nat) (hb : b < 2 ^ 64) (w : World) :
    Calls Try.prog 18 #[.float .f64 b] w fun e w' => e = .returned (.int .i64 (classW b)) ∧ w = w' := by
  have HB := Lib.hid hb
  clear hb
  obtain ⟨n, hn⟩ : ∃ n : Int, n = mg b := ⟨_, rfl⟩
  have HN := Lib.hid hn
  rcases class_cases b n hn with ⟨e, h⟩ | ⟨e, h, h2⟩ | ⟨e, h, h2⟩ | ⟨e, h⟩ | ⟨e, h⟩
  all_goals
    rw [e]; clear e hn
    go_enter Try.func18, Try.ntmps18
    go_wp2_with (go_at_call 34; refine (magnitude_any _ n HN.out HB.out _).mono ?_; rintro e w' ⟨rfl, rfl⟩)
    go_ret
    exact ⟨rfl, rfl⟩

theorem up_any (b : Nat) (hb : b < 2 ^ 64) (w : World) :
    Calls Try.prog 16 #[.float .f64 b] w fun e w' => e = .returned (.float .f64 (upW b)) ∧ w = w' := by
  obtain ⟨n, hn⟩ : ∃ n : Int, n = b := ⟨_, rfl⟩
  have k1 := bits_of b n hn
  have k2 := run_f64from
  rcases up_cases hb n hn with ⟨e, h1⟩ | ⟨h1, ⟨e, h2⟩ | ⟨h2, ⟨e, h3⟩ | ⟨h3, ⟨h4, h5, e⟩ | ⟨h4, h5, e⟩⟩⟩⟩
  · rw [e]; clear e hb hn
    go_enter Try.func16, Try.ntmps16
    go_wp2_with (go_at_call 32; refine (quiet_any _).mono ?_; rintro e w' ⟨rfl, rfl⟩)
    go_ret
    exact ⟨rfl, rfl⟩
  all_goals
    rw [e]; clear e hb hn
    go_enter Try.func16, Try.ntmps16
    go_wp2_with fail
    go_ret
    exact ⟨rfl, rfl⟩

theorem place_any (b : Nat) (hb : b < 2 ^ 64) (w : World) :
    Calls Try.prog 28 #[.float .f64 b] w fun e w' => e = .returned (.int .u64 (placeW b)) ∧ w = w' := by
  obtain ⟨n, hn⟩ : ∃ n : Int, n = b := ⟨_, rfl⟩
  have k1 := bits_of b n hn
  rcases place_cases hb n hn with ⟨h1, e⟩ | ⟨h1, e⟩
  all_goals
    clear hb hn
    go_enter Try.func28, Try.ntmps28
    go_wp2_with fail
    go_ret
    exact ⟨rfl, rfl⟩

theorem compare_any (a b : Nat) (w : World) :
    Calls Try.prog 27 #[.int .u64 a, .int .u64 b] w fun e w' => e = .returned (.int .i64 (cmpN a b)) ∧ w = w' := by
  unfold cmpN
  by_cases h1 : a < b
  · rw [if_pos h1]
    go_enter Try.func27, Try.ntmps27
    go_wp2
    go_ret
    exact ⟨rfl, rfl⟩
  · rw [if_neg h1]
    by_cases h2 : b < a
    · rw [if_pos h2]
      go_enter Try.func27, Try.ntmps27
      go_wp2
      go_ret
      exact ⟨rfl, rfl⟩
    · rw [if_neg h2]
      go_enter Try.func27, Try.ntmps27
      go_wp2
      go_ret
      exact ⟨rfl, rfl⟩

theorem order_any (a b : Nat) (ha : a < 2 ^ 64) (hb : b < 2 ^ 64) (w : World) :
    Calls Try.prog 11 #[.float .f64 a, .float .f64 b] w fun e w' => e = .returned (.int .i64 (orderW a b)) ∧ w = w' := by
  have HA := Lib.hid ha
  have HB := Lib.hid hb
  clear ha hb
  unfold orderW
  go_enter Try.func11, Try.ntmps11
  go_wp2_with (first | (go_at_call 28; refine (place_any _ (by first | exact HA.out | exact HB.out) _).mono ?_; rintro e w' ⟨rfl, rfl⟩) | (go_at_call 27; refine (compare_any _ _ _).mono ?_; rintro e w' ⟨rfl, rfl⟩))
  go_ret
  exact ⟨rfl, rfl⟩

theorem down_any (b : Nat) (hb : b < 2 ^ 64) (w : World) :
    Calls Try.prog 23 #[.float .f64 b] w fun e w' => e = .returned (.float .f64 (downW b)) ∧ w = w' := by
  have k1 := run_neg Try.prog hb
  have k2 := run_neg Try.prog (upW_lt (op_lt hb))
  have HB := Lib.hid hb
  clear hb
  unfold downW
  rw [isN_eq]
  by_cases h : eqW b b = false
  · rw [h]
    go_enter Try.func23, Try.ntmps23
    go_wp2_with (go_at_call 32; refine (quiet_any _).mono ?_; rintro e w' ⟨rfl, rfl⟩)
    go_ret
    exact ⟨rfl, rfl⟩
  · rw [Bool.not_eq_false] at h
    rw [h]
    go_enter Try.func23, Try.ntmps23
    go_wp2_with (go_at_call 16; refine (up_any _ (op_lt HB.out) _).mono ?_; rintro e w' ⟨rfl, rfl⟩)
    go_ret
    exact ⟨rfl, rfl⟩

theorem max_any (a b : Nat) (ha : a < 2 ^ 64) (hb : b < 2 ^ 64) (w : World) :
    Calls Try.prog 21 #[.float .f64 a, .float .f64 b] w fun e w' => e = .returned (.float .f64 (maxW a b)) ∧ w = w' := by
  have HA := Lib.hid ha
  have HB := Lib.hid hb
  clear ha hb
  rcases max_cases a b with ⟨e, h1 | ⟨h1, h2⟩⟩ | ⟨h1, h2, ⟨e, h3⟩ | ⟨e, h3⟩⟩
  all_goals
    rw [e]; clear e
    go_enter Try.func21, Try.ntmps21
    go_wp2_with (first | (go_at_call 32; refine (quiet_any _).mono ?_; rintro e w' ⟨rfl, rfl⟩) | (go_at_call 11; refine (order_any _ _ HA.out HB.out _).mono ?_; rintro e w' ⟨rfl, rfl⟩))
    go_ret
    exact ⟨rfl, rfl⟩

theorem min_any (a b : Nat) (ha : a < 2 ^ 64) (hb : b < 2 ^ 64) (w : World) :
    Calls Try.prog 22 #[.float .f64 a, .float .f64 b] w fun e w' => e = .returned (.float .f64 (minW a b)) ∧ w = w' := by
  have HA := Lib.hid ha
  have HB := Lib.hid hb
  clear ha hb
  rcases min_cases a b with ⟨e, h1 | ⟨h1, h2⟩⟩ | ⟨h1, h2, ⟨e, h3⟩ | ⟨e, h3⟩⟩
  all_goals
    rw [e]; clear e
    go_enter Try.func22, Try.ntmps22
    go_wp2_with (first | (go_at_call 32; refine (quiet_any _).mono ?_; rintro e w' ⟨rfl, rfl⟩) | (go_at_call 11; refine (order_any _ _ HA.out HB.out _).mono ?_; rintro e w' ⟨rfl, rfl⟩))
    go_ret
    exact ⟨rfl, rfl⟩

theorem rank_any (b : Nat) (hb : b < 2 ^ 64) (w : World) :
    Calls Try.prog 30 #[.float .f64 b] w fun e w' => e = .returned (.int .i64 (rk b)) ∧ w = w' := by
  have HB := Lib.hid hb
  obtain ⟨n, hn⟩ : ∃ n : Int, n = b := ⟨_, rfl⟩
  obtain ⟨m, hm⟩ : ∃ m : Int, m = mg b := ⟨_, rfl⟩
  have HM := Lib.hid hm
  have k1 := bits_of b n hn
  obtain ⟨h1, h2, ⟨h3, e⟩ | ⟨h3, e⟩⟩ := rank_cases n hn m hm hb
  all_goals
    rw [e]
    clear hb hn hm e
    go_enter Try.func30, Try.ntmps30
    go_wp2_with (go_at_call 34; refine (magnitude_any _ m HM.out HB.out _).mono ?_; rintro e w' ⟨rfl, rfl⟩)
    go_ret
    exact ⟨rfl, rfl⟩

theorem between_any (a b : Nat) (ha : a < 2 ^ 64) (hb : b < 2 ^ 64) (w : World) :
    Calls Try.prog 13 #[.float .f64 a, .float .f64 b] w fun e w' => e = .returned (.tuple #[.int .i64 (betweenW a b).1, .bool (betweenW a b).2]) ∧ w = w' := by
  have HA := Lib.hid ha
  have HB := Lib.hid hb
  clear ha hb
  rcases between_cases a b with ⟨e, h1 | ⟨h1, h2⟩⟩ | ⟨h1, h2, ⟨e, h3, h4⟩ | ⟨e, d, hd, ⟨h3, h4⟩ | ⟨h3, h4⟩⟩⟩
  · rw [e]; clear e
    go_enter Try.func13, Try.ntmps13
    go_wp2_with fail
    go_ret2
    exact ⟨rfl, rfl⟩
  · rw [e]; clear e
    go_enter Try.func13, Try.ntmps13
    go_wp2_with fail
    go_ret2
    exact ⟨rfl, rfl⟩
  · rw [e]; clear e
    by_cases hlt : rk a < rk b
    all_goals
      go_enter Try.func13, Try.ntmps13
      go_wp2_with (go_at_call 30; refine (rank_any _ (by first | exact HA.out | exact HB.out) _).mono ?_; rintro e w' ⟨rfl, rfl⟩)
      go_ret2
      exact ⟨rfl, rfl⟩
  · have q : decide (0 < d) = false := decide_eq_false (by omega)
    rw [e]; clear e
    go_enter Try.func13, Try.ntmps13
    go_wp2_with (go_at_call 30; refine (rank_any _ (by first | exact HA.out | exact HB.out) _).mono ?_; rintro e w' ⟨rfl, rfl⟩)
    go_ret2
    exact ⟨rfl, rfl⟩
  · have q : decide (rk a < rk b) = false := decide_eq_false (by omega)
    rw [e]; clear e
    go_enter Try.func13, Try.ntmps13
    go_wp2_with (go_at_call 30; refine (rank_any _ (by first | exact HA.out | exact HB.out) _).mono ?_; rintro e w' ⟨rfl, rfl⟩)
    go_ret2
    exact ⟨rfl, rfl⟩

theorem abs_any (b : Nat) (hb : b < 2 ^ 64) (w : World) :
    Calls Try.prog 35 #[.float .f64 b] w fun e w' => e = .returned (.float .f64 (mg b)) ∧ w = w' := by
  have k1 := run_f64bits
  have k2 := andNot_eq hb
  have k3 := run_f64from
  clear hb
  go_enter Try.func35, Try.ntmps35
  go_wp2
  go_ret
  exact ⟨rfl, rfl⟩

theorem isinf1_any (b : Nat) (w : World) :
    Calls Try.prog 36 #[.float .f64 b, .int .i64 1] w fun e w' => e = .returned (.bool (ltW 9218868437227405311 b)) ∧ w = w' := by
  go_enter Try.func36, Try.ntmps36
  go_wp2_with fail
  go_ret
  exact ⟨rfl, rfl⟩

theorem run_sub_nan (x y : Nat) (h : isN y = true) (w : World) : ∃ n, canonW n = 9221120237041090561 ∧ (binOp .sub 22 (.float .f64 x) (.float .f64 y)).run Try.prog w = .ok (.float .f64 n) w.drew := by
  have e : floatBits .sub .f64 x y = none := by
    show Ieee.double.sub x y = none
    unfold Ieee.Format.sub
    rw [read_nan (isN_true.1 h)]
    cases Ieee.double.read x <;> rfl
  obtain ⟨n, h1, h2, h3⟩ := run_invalid (P := Try.prog) 22 (.inr (.inl rfl)) e w
  exact ⟨n, canonW_nan h2, h3⟩

theorem ulp_any (b : Nat) (hb : b < 2 ^ 64) (w : World) :
    Calls Try.prog 24 #[.float .f64 b] w fun e w' => e = .returned (.float .f64 (ulpW b)) ∧ ∃ n, w' = w.drewN n := by
  have HB := Lib.hid hb
  rcases ulp_cases (x := b) with ⟨e, h1, h2⟩ | ⟨e, h1⟩ | ⟨h1, r, h2, h3, e, h4⟩
  · rw [e]; clear e hb
    obtain ⟨n, hn, hrun⟩ := run_sub_nan (upW (mg b)) (mg b) (by rw [isN_mg]; exact h2) w
    clear h2
    have HN := Lib.hid hn
    clear hn
    go_enter Try.func24, Try.ntmps24
    go_wp2_with (first | (go_at_call 35; refine (abs_any _ HB.out _).mono ?_; rintro e w' ⟨rfl, rfl⟩) | (go_at_call 36; refine (isinf1_any _ _).mono ?_; rintro e w' ⟨rfl, rfl⟩) | (go_at_call 16; refine (up_any _ (mg_word_lt _) _).mono ?_; rintro e w' ⟨rfl, rfl⟩) | (go_at_call 17; refine (canon_any _ _).mono ?_; rintro e w' ⟨rfl, rfl⟩))
    go_ret
    exact ⟨ret_f64 HN.out, 1, rfl⟩
  · rw [e]; clear e hb
    go_enter Try.func24, Try.ntmps24
    go_wp2_with (first | (go_at_call 35; refine (abs_any _ HB.out _).mono ?_; rintro e w' ⟨rfl, rfl⟩) | (go_at_call 36; refine (isinf1_any _ _).mono ?_; rintro e w' ⟨rfl, rfl⟩))
    go_ret
    exact ⟨rfl, 0, rfl⟩
  · rw [e]
    have HE := Lib.hid h4
    have hrun := run_valid (P := Try.prog) 22 h3
    clear e hb h4 h3
    go_enter Try.func24, Try.ntmps24
    go_wp2_with (first | (go_at_call 35; refine (abs_any _ HB.out _).mono ?_; rintro e w' ⟨rfl, rfl⟩) | (go_at_call 36; refine (isinf1_any _ _).mono ?_; rintro e w' ⟨rfl, rfl⟩) | (go_at_call 16; refine (up_any _ (mg_word_lt _) _).mono ?_; rintro e w' ⟨rfl, rfl⟩) | (go_at_call 17; refine (canon_any _ _).mono ?_; rintro e w' ⟨rfl, rfl⟩))
    go_ret
    exact ⟨ret_f64 HE.out, 0, rfl⟩

end Go.Proofs.Ytcjnnhmijpnicaa
