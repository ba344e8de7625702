/- The reference's functions of layer 2: small floats. -/
import Derived.Test.YthncemlldkdkiaaConvR
namespace Go.Proofs.Ythncemlldkdkiaa
open Go.RowKit TF

attribute [local go_sem] cmp_eq cmp_ne cmp_lt cmp_gt cmp_le cmp_ge


theorem smallok32_to {m : Nat} {e : Int} (h : m < 9007199254740992) (e1 : -1074 ≤ e) (e2 : e ≤ 971) : SmallOk m e 23 (-149) 2139095040 :=
  ⟨by omega, e1, e2, by omega, by omega, by omega, by omega, by omega, by omega, fun _ => by omega⟩
theorem rto32_any (x : Nat) (h64 : W64 x) (w : World) :
    Calls Try.prog 20 #[.float .f64 x] w fun e w' => e = .returned (.int .u32 (to32 x)) ∧ w = w' := by
  have hw := parts_small x
  obtain ⟨t, et⟩ : ∃ t : Int, t = to32 x := ⟨_, rfl⟩
  obtain ⟨m, em⟩ : ∃ m, m = partsM x := ⟨_, rfl⟩
  obtain ⟨e, ee⟩ : ∃ m, m = partsE x := ⟨_, rfl⟩
  obtain ⟨v, ev⟩ : ∃ m, m = partsW x := ⟨_, rfl⟩
  obtain ⟨g, eg⟩ : ∃ m, m = ng x := ⟨_, rfl⟩
  have KP := Lib.hid fun w => (by rw [em, ee, ev, eg]; exact rparts_any x h64 w : Calls Try.prog 32 #[.float .f64 x] w fun y w' => y = .returned (.tuple #[.bool g, .int .u64 m, .int .i64 e, .int .i64 v]) ∧ w = w')
  rw [← em, ← ee, ← ev] at hw
  rw [← et]
  clear em ee ev h64
  rcases hw with ⟨h, rfl⟩ | ⟨h, hI, rfl⟩ | ⟨h, hI, rfl, m', hm, m1, e1, e2, hs32, hs16⟩
  · have et2 : t = 2143289344 := by rw [et]; unfold to32; rw [h]; rfl
    subst et2
    clear et h eg
    go_enter Try.func20, Try.ntmps20
    go_wp2_with (first | (go_at_call 32; ((with_reducible refine (KP.out _).mono ?_)); rintro e w' ⟨rfl, rfl⟩))
    go_ret
    exact ⟨rfl, rfl⟩
  · have et2 : t = wd32 g 2139095040 := by rw [et, eg]; unfold to32; rw [h, if_pos hI]; rfl
    clear et h eg hI
    cases g
    all_goals
      first
      | (obtain rfl : t = 2139095040 := et2)
      | (obtain rfl : t = 2139095040 + 2147483648 := et2)
      try clear et2
      go_enter Try.func20, Try.ntmps20
      go_wp2_with (first | (go_at_call 32; ((with_reducible refine (KP.out _).mono ?_)); rintro e w' ⟨rfl, rfl⟩))
      go_ret
      exact ⟨rfl, rfl⟩
  · obtain ⟨k, hk⟩ : ∃ k : Int, k = ((min (n32 x) 2139095040 : Nat) : Int) := ⟨_, rfl⟩
    have et2 : t = wd32 g (min (n32 x) 2139095040) := by rw [et, eg]; unfold to32; rw [h, if_neg Bool.false_ne_true, if_neg (by omega)]
    have KS := Lib.hid fun w => (by rw [hk, ← hs32]; exact small_any m' m e 23 (-149) 2139095040 hm (smallok32_to (by omega) e1 e2) w : Calls Try.prog 40 #[.int .u64 m, .int .i64 e, .int .i64 23, .int .i64 (-149), .int .u64 2139095040] w fun y w' => y = .returned (.int .u64 k) ∧ w = w')
    have k0 : 0 ≤ k := by omega
    have k1 : k ≤ 2139095040 := by omega
    clear et h eg hI hs32 hs16 hm m1
    cases g
    · have et3 : t = k := by rw [et2, hk]; rfl
      clear et2 hk
      subst et3
      go_enter Try.func20, Try.ntmps20
      go_wp2_with (first | (go_at_call 32; ((with_reducible refine (KP.out _).mono ?_)); rintro e w' ⟨rfl, rfl⟩) | (go_at_call 40; ((with_reducible refine (KS.out _).mono ?_)); rintro e w' ⟨rfl, rfl⟩))
      go_ret
      exact ⟨rfl, rfl⟩
    · have et3 : t = k + 2147483648 := by rw [et2]; unfold wd32; rw [if_pos rfl]; omega
      clear et2 hk
      subst et3
      go_enter Try.func20, Try.ntmps20
      go_wp2_with (first | (go_at_call 32; ((with_reducible refine (KP.out _).mono ?_)); rintro e w' ⟨rfl, rfl⟩) | (go_at_call 40; ((with_reducible refine (KS.out _).mono ?_)); rintro e w' ⟨rfl, rfl⟩))
      go_ret
      exact ⟨rfl, rfl⟩

theorem wide32_val {r : Nat} (h : r < 2139095040) : smallI (TF32.M r) ((TF32.E r : Int) - 149) 52 (-1074) 9218868437227405312 = (w32 r : Int) := by
  have := w32_fin (r := r) (by omega)
  rw [small_word, rung_w32, Nat.min_eq_left (by omega)]
theorem wide32_ok {r : Nat} (h : r < 2139095040) : SmallOk (TF32.M r) ((TF32.E r : Int) - 149) 52 (-1074) 9218868437227405312 := by
  have hM := TF32.M_lt r
  have hE : TF32.E r ≤ 254 := by unfold TF32.E; omega
  exact ⟨by omega, by omega, by omega, by omega, by omega, by omega, by omega, by omega, by omega, fun _ => by omega⟩
theorem wide32_any (s : Bool) (r : Nat) (R : Int) (hR : R = r) (hr : r < 2147483648) (w : World) :
    Calls Try.prog 44 #[.bool s, .int .u64 R, .int .i64 23, .int .i64 (-149), .int .u64 2139095040] w fun e w' => e = .returned (.float .f64 (if 2139095040 < r then 9221120237041090561 else wd s (if r = 2139095040 then INF else w32 r))) ∧ w = w' := by
  have r0 : 0 ≤ R := by omega
  have r1 : R < 2147483648 := by omega
  have hI := INF_eq
  rcases Nat.lt_trichotomy r 2139095040 with h | h | h
  · rw [if_neg (by omega), if_neg (by omega)]
    have hf := w32_fin (r := r) (by omega)
    obtain ⟨k, hk⟩ : ∃ k : Int, k = w32 r := ⟨_, rfl⟩
    have hgoal : ∀ k' : Int, k' = (if s then 9223372036854775808 else 0) + k → k'.toNat = wd s (w32 r) := by
      intro k' h'; unfold wd; cases s <;> simp at h' ⊢ <;> omega
    have HG := Lib.hid hgoal
    have k0 : 0 ≤ k := by omega
    have k1 : k < 9223372036854775807 := by omega
    have r2 : R < 2139095040 := by omega
    have hv := wide32_val h
    have hok := wide32_ok h
    by_cases hs : r < 8388608
    · have hM : TF32.M r = r := if_pos hs
      have hE : TF32.E r = 0 := by unfold TF32.E; omega
      rw [hM, hE] at hv hok
      have q0 : R / 8388608 = 0 := by omega
      have q1 : R % 8388608 = R := by omega
      have KS := Lib.hid fun w => (by rw [hk, ← hv]; exact small_any r R (-149) 52 (-1074) 9218868437227405312 hR hok w : Calls Try.prog 40 #[.int .u64 R, .int .i64 (-149), .int .i64 52, .int .i64 (-1074), .int .u64 9218868437227405312] w fun y w' => y = .returned (.int .u64 k) ∧ w = w')
      clear hv hok hM hE hk hgoal hR h hs hf hr
      cases s
      all_goals
        go_enter Try.func44, Try.ntmps44
        go_wp2_with (first | (go_at_call 40; ((with_reducible refine (KS.out _).mono ?_)); rintro e w' ⟨rfl, rfl⟩) | (go_at_call 28; ((with_reducible refine (from_any _ _).mono ?_)); rintro e w' ⟨rfl, rfl⟩))
        go_ret
        exact ⟨ret_f64 (HG.out _ (by simp)), rfl⟩
    · have hM : TF32.M r = 8388608 + r % 8388608 := if_neg hs
      have hE : TF32.E r = r / 8388608 - 1 := rfl
      have q0 : 0 < R / 8388608 := by omega
      have q1 : R / 8388608 ≤ 256 := by omega
      have KS := Lib.hid fun w => (by
        have e1 : -149 + R / 8388608 - 1 = (TF32.E r : Int) - 149 := by rw [hE]; omega
        have e2 : R % 8388608 + 8388608 = (TF32.M r : Int) := by rw [hM]; omega
        rw [hk, ← hv, e1]; exact small_any (TF32.M r) _ _ 52 (-1074) 9218868437227405312 e2 hok w : Calls Try.prog 40 #[.int .u64 (R % 8388608 + 8388608), .int .i64 (-149 + R / 8388608 - 1), .int .i64 52, .int .i64 (-1074), .int .u64 9218868437227405312] w fun y w' => y = .returned (.int .u64 k) ∧ w = w')
      clear hv hok hM hE hk hgoal hR h hs hf hr
      cases s
      all_goals
        go_enter Try.func44, Try.ntmps44
        go_wp2_with (first | (go_at_call 40; ((with_reducible refine (KS.out _).mono ?_)); rintro e w' ⟨rfl, rfl⟩) | (go_at_call 28; ((with_reducible refine (from_any _ _).mono ?_)); rintro e w' ⟨rfl, rfl⟩))
        go_ret
        exact ⟨ret_f64 (HG.out _ (by simp)), rfl⟩
  · rw [if_neg (by omega), if_pos h]
    have r2 : R = 2139095040 := by omega
    clear hR hr h
    subst r2
    cases s
    all_goals
      go_enter Try.func44, Try.ntmps44
      go_wp2_with (first | (go_at_call 28; ((with_reducible refine (from_any _ _).mono ?_)); rintro e w' ⟨rfl, rfl⟩))
      go_ret
      exact ⟨rfl, rfl⟩
  · rw [if_pos h]
    have r2 : 2139095040 < R := by omega
    clear hR hr h
    cases s
    all_goals
      go_enter Try.func44, Try.ntmps44
      go_wp2_with (first | (go_at_call 28; ((with_reducible refine (from_any _ _).mono ?_)); rintro e w' ⟨rfl, rfl⟩))
      go_ret
      exact ⟨rfl, rfl⟩
theorem rfrom32_any (n : Int) (h0 : 0 ≤ n) (h1 : n < 4294967296) (w : World) :
    Calls Try.prog 22 #[.int .u32 n] w fun e w' => e = .returned (.float .f64 (from32 n.toNat)) ∧ w = w' := by
  have hr : mg32 n.toNat < 2147483648 := mg32_lt _
  have hR : n % 2147483648 = (mg32 n.toNat : Int) := by unfold mg32; omega
  have hs : (n / 2147483648 == 1) = ng32 n.toNat := by
    unfold ng32
    have : n.toNat / 2147483648 % 2 = (n / 2147483648).toNat := by omega
    rw [this, Bool.eq_iff_iff]; simp only [beq_iff_eq]; omega
  obtain ⟨y, hy⟩ : ∃ y, y = from32 n.toNat := ⟨_, rfl⟩
  have KW := Lib.hid fun w => (by rw [hy, hs]; exact wide32_any (ng32 n.toNat) (mg32 n.toNat) (n % 2147483648) hR hr w : Calls Try.prog 44 #[.bool (n / 2147483648 == 1), .int .u64 (n % 2147483648), .int .i64 23, .int .i64 (-149), .int .u64 2139095040] w fun e w' => e = .returned (.float .f64 y) ∧ w = w')
  rw [← hy]
  clear hy hs hR hr
  go_enter Try.func22, Try.ntmps22
  go_wp2_with (first | (go_at_call 44; ((with_reducible refine (KW.out _).mono ?_)); rintro e w' ⟨rfl, rfl⟩))
  go_ret
  exact ⟨rfl, rfl⟩

theorem smallok16_to {m : Nat} {e : Int} (h : m < 9007199254740992) (e1 : -1074 ≤ e) (e2 : e ≤ 971) : SmallOk m e 10 (-24) 31744 :=
  ⟨by omega, e1, e2, by omega, by omega, by omega, by omega, by omega, by omega, fun _ => by omega⟩
theorem rto16_any (x : Nat) (h64 : W64 x) (w : World) :
    Calls Try.prog 24 #[.float .f64 x] w fun e w' => e = .returned (.int .u16 (to16 x)) ∧ w = w' := by
  have hw := parts_small x
  obtain ⟨t, et⟩ : ∃ t : Int, t = to16 x := ⟨_, rfl⟩
  obtain ⟨m, em⟩ : ∃ m, m = partsM x := ⟨_, rfl⟩
  obtain ⟨e, ee⟩ : ∃ m, m = partsE x := ⟨_, rfl⟩
  obtain ⟨v, ev⟩ : ∃ m, m = partsW x := ⟨_, rfl⟩
  obtain ⟨g, eg⟩ : ∃ m, m = ng x := ⟨_, rfl⟩
  have KP := Lib.hid fun w => (by rw [em, ee, ev, eg]; exact rparts_any x h64 w : Calls Try.prog 32 #[.float .f64 x] w fun y w' => y = .returned (.tuple #[.bool g, .int .u64 m, .int .i64 e, .int .i64 v]) ∧ w = w')
  rw [← em, ← ee, ← ev] at hw
  rw [← et]
  clear em ee ev h64
  rcases hw with ⟨h, rfl⟩ | ⟨h, hI, rfl⟩ | ⟨h, hI, rfl, m', hm, m1, e1, e2, hs32, hs16⟩
  · have et2 : t = 32256 := by rw [et]; unfold to16; rw [h]; rfl
    subst et2
    clear et h eg
    go_enter Try.func24, Try.ntmps24
    go_wp2_with (first | (go_at_call 32; ((with_reducible refine (KP.out _).mono ?_)); rintro e w' ⟨rfl, rfl⟩))
    go_ret
    exact ⟨rfl, rfl⟩
  · have et2 : t = wd16 g 31744 := by rw [et, eg]; unfold to16; rw [h, if_pos hI]; rfl
    clear et h eg hI
    cases g
    all_goals
      first
      | (obtain rfl : t = 31744 := et2)
      | (obtain rfl : t = 31744 + 32768 := et2)
      try clear et2
      go_enter Try.func24, Try.ntmps24
      go_wp2_with (first | (go_at_call 32; ((with_reducible refine (KP.out _).mono ?_)); rintro e w' ⟨rfl, rfl⟩))
      go_ret
      exact ⟨rfl, rfl⟩
  · obtain ⟨k, hk⟩ : ∃ k : Int, k = ((min (n16 x) 31744 : Nat) : Int) := ⟨_, rfl⟩
    have et2 : t = wd16 g (min (n16 x) 31744) := by rw [et, eg]; unfold to16; rw [h, if_neg Bool.false_ne_true, if_neg (by omega)]
    have KS := Lib.hid fun w => (by rw [hk, ← hs16]; exact small_any m' m e 10 (-24) 31744 hm (smallok16_to (by omega) e1 e2) w : Calls Try.prog 40 #[.int .u64 m, .int .i64 e, .int .i64 10, .int .i64 (-24), .int .u64 31744] w fun y w' => y = .returned (.int .u64 k) ∧ w = w')
    have k0 : 0 ≤ k := by omega
    have k1 : k ≤ 31744 := by omega
    clear et h eg hI hs32 hs16 hm m1
    cases g
    · have et3 : t = k := by rw [et2, hk]; rfl
      clear et2 hk
      subst et3
      go_enter Try.func24, Try.ntmps24
      go_wp2_with (first | (go_at_call 32; ((with_reducible refine (KP.out _).mono ?_)); rintro e w' ⟨rfl, rfl⟩) | (go_at_call 40; ((with_reducible refine (KS.out _).mono ?_)); rintro e w' ⟨rfl, rfl⟩))
      go_ret
      exact ⟨rfl, rfl⟩
    · have et3 : t = k + 32768 := by rw [et2]; unfold wd16; rw [if_pos rfl]; omega
      clear et2 hk
      subst et3
      go_enter Try.func24, Try.ntmps24
      go_wp2_with (first | (go_at_call 32; ((with_reducible refine (KP.out _).mono ?_)); rintro e w' ⟨rfl, rfl⟩) | (go_at_call 40; ((with_reducible refine (KS.out _).mono ?_)); rintro e w' ⟨rfl, rfl⟩))
      go_ret
      exact ⟨rfl, rfl⟩

theorem wide16_val {r : Nat} (h : r < 31744) : smallI (TF16.M r) ((TF16.E r : Int) - 24) 52 (-1074) 9218868437227405312 = (w16 r : Int) := by
  have := w16_fin (r := r) (by omega)
  rw [small_word, rung_w16, Nat.min_eq_left (by omega)]
theorem wide16_ok {r : Nat} (h : r < 31744) : SmallOk (TF16.M r) ((TF16.E r : Int) - 24) 52 (-1074) 9218868437227405312 := by
  have hM := TF16.M_lt r
  have hE : TF16.E r ≤ 254 := by unfold TF16.E; omega
  exact ⟨by omega, by omega, by omega, by omega, by omega, by omega, by omega, by omega, by omega, fun _ => by omega⟩
theorem wide16_any (s : Bool) (r : Nat) (R : Int) (hR : R = r) (hr : r < 32768) (w : World) :
    Calls Try.prog 44 #[.bool s, .int .u64 R, .int .i64 10, .int .i64 (-24), .int .u64 31744] w fun e w' => e = .returned (.float .f64 (if 31744 < r then 9221120237041090561 else wd s (if r = 31744 then INF else w16 r))) ∧ w = w' := by
  have r0 : 0 ≤ R := by omega
  have r1 : R < 32768 := by omega
  have hI := INF_eq
  rcases Nat.lt_trichotomy r 31744 with h | h | h
  · rw [if_neg (by omega), if_neg (by omega)]
    have hf := w16_fin (r := r) (by omega)
    obtain ⟨k, hk⟩ : ∃ k : Int, k = w16 r := ⟨_, rfl⟩
    have hgoal : ∀ k' : Int, k' = (if s then 9223372036854775808 else 0) + k → k'.toNat = wd s (w16 r) := by
      intro k' h'; unfold wd; cases s <;> simp at h' ⊢ <;> omega
    have HG := Lib.hid hgoal
    have k0 : 0 ≤ k := by omega
    have k1 : k < 9223372036854775807 := by omega
    have r2 : R < 31744 := by omega
    have hv := wide16_val h
    have hok := wide16_ok h
    by_cases hs : r < 1024
    · have hM : TF16.M r = r := if_pos hs
      have hE : TF16.E r = 0 := by unfold TF16.E; omega
      rw [hM, hE] at hv hok
      have q0 : R / 1024 = 0 := by omega
      have q1 : R % 1024 = R := by omega
      have KS := Lib.hid fun w => (by rw [hk, ← hv]; exact small_any r R (-24) 52 (-1074) 9218868437227405312 hR hok w : Calls Try.prog 40 #[.int .u64 R, .int .i64 (-24), .int .i64 52, .int .i64 (-1074), .int .u64 9218868437227405312] w fun y w' => y = .returned (.int .u64 k) ∧ w = w')
      clear hv hok hM hE hk hgoal hR h hs hf hr
      cases s
      all_goals
        go_enter Try.func44, Try.ntmps44
        go_wp2_with (first | (go_at_call 40; ((with_reducible refine (KS.out _).mono ?_)); rintro e w' ⟨rfl, rfl⟩) | (go_at_call 28; ((with_reducible refine (from_any _ _).mono ?_)); rintro e w' ⟨rfl, rfl⟩))
        go_ret
        exact ⟨ret_f64 (HG.out _ (by simp)), rfl⟩
    · have hM : TF16.M r = 1024 + r % 1024 := if_neg hs
      have hE : TF16.E r = r / 1024 - 1 := rfl
      have q0 : 0 < R / 1024 := by omega
      have q1 : R / 1024 ≤ 256 := by omega
      have KS := Lib.hid fun w => (by
        have e1 : -24 + R / 1024 - 1 = (TF16.E r : Int) - 24 := by rw [hE]; omega
        have e2 : R % 1024 + 1024 = (TF16.M r : Int) := by rw [hM]; omega
        rw [hk, ← hv, e1]; exact small_any (TF16.M r) _ _ 52 (-1074) 9218868437227405312 e2 hok w : Calls Try.prog 40 #[.int .u64 (R % 1024 + 1024), .int .i64 (-24 + R / 1024 - 1), .int .i64 52, .int .i64 (-1074), .int .u64 9218868437227405312] w fun y w' => y = .returned (.int .u64 k) ∧ w = w')
      clear hv hok hM hE hk hgoal hR h hs hf hr
      cases s
      all_goals
        go_enter Try.func44, Try.ntmps44
        go_wp2_with (first | (go_at_call 40; ((with_reducible refine (KS.out _).mono ?_)); rintro e w' ⟨rfl, rfl⟩) | (go_at_call 28; ((with_reducible refine (from_any _ _).mono ?_)); rintro e w' ⟨rfl, rfl⟩))
        go_ret
        exact ⟨ret_f64 (HG.out _ (by simp)), rfl⟩
  · rw [if_neg (by omega), if_pos h]
    have r2 : R = 31744 := by omega
    clear hR hr h
    subst r2
    cases s
    all_goals
      go_enter Try.func44, Try.ntmps44
      go_wp2_with (first | (go_at_call 28; ((with_reducible refine (from_any _ _).mono ?_)); rintro e w' ⟨rfl, rfl⟩))
      go_ret
      exact ⟨rfl, rfl⟩
  · rw [if_pos h]
    have r2 : 31744 < R := by omega
    clear hR hr h
    cases s
    all_goals
      go_enter Try.func44, Try.ntmps44
      go_wp2_with (first | (go_at_call 28; ((with_reducible refine (from_any _ _).mono ?_)); rintro e w' ⟨rfl, rfl⟩))
      go_ret
      exact ⟨rfl, rfl⟩
theorem rfrom16_any (n : Int) (h0 : 0 ≤ n) (h1 : n < 65536) (w : World) :
    Calls Try.prog 26 #[.int .u16 n] w fun e w' => e = .returned (.float .f64 (from16 n.toNat)) ∧ w = w' := by
  have hr : mg16 n.toNat < 32768 := mg16_lt _
  have hR : n % 32768 = (mg16 n.toNat : Int) := by unfold mg16; omega
  have hs : (n / 32768 == 1) = ng16 n.toNat := by
    unfold ng16
    have : n.toNat / 32768 % 2 = (n / 32768).toNat := by omega
    rw [this, Bool.eq_iff_iff]; simp only [beq_iff_eq]; omega
  obtain ⟨y, hy⟩ : ∃ y, y = from16 n.toNat := ⟨_, rfl⟩
  have KW := Lib.hid fun w => (by rw [hy, hs]; exact wide16_any (ng16 n.toNat) (mg16 n.toNat) (n % 32768) hR hr w : Calls Try.prog 44 #[.bool (n / 32768 == 1), .int .u64 (n % 32768), .int .i64 10, .int .i64 (-24), .int .u64 31744] w fun e w' => e = .returned (.float .f64 y) ∧ w = w')
  rw [← hy]
  clear hy hs hR hr
  go_enter Try.func26, Try.ntmps26
  go_wp2_with (first | (go_at_call 44; ((with_reducible refine (KW.out _).mono ?_)); rintro e w' ⟨rfl, rfl⟩))
  go_ret
  exact ⟨rfl, rfl⟩
end Go.Proofs.Ythncemlldkdkiaa
