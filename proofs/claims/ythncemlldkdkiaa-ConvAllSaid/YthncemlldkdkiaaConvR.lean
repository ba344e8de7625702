/- The reference's functions of layer 2: whole numbers, small floats. -/
import Derived.Test.YthncemlldkdkiaaRefQ
import Derived.Test.YthncemlldkdkiaaConD
namespace Go.Proofs.Ythncemlldkdkiaa
open Go.RowKit TF

attribute [local go_sem] cmp_eq cmp_ne cmp_lt cmp_gt cmp_le cmp_ge

theorem ret_ib3 {a b : Int} {c d : Bool} (h : (a, c) = (b, d)) : Ending.returned (.tuple #[.int .i64 a, .bool c]) = .returned (.tuple #[.int .i64 b, .bool d]) := by
  obtain ⟨rfl, rfl⟩ := Prod.mk.inj h; rfl
theorem whole_any (s : Bool) (r : Int) (h0 : 0 ≤ r) (h1 : r < 18446744073709551616) (w : World) :
    Calls Try.prog 34 #[.bool s, .int .u64 r] w fun e w' => e = .returned (.tuple #[.int .i64 (whI s r).1, .bool (whI s r).2]) ∧ w = w' := by
  unfold whI
  cases s
  · by_cases h : r < 9223372036854775808
    · rw [if_neg Bool.false_ne_true, if_pos h]
      go_enter Try.func34, Try.ntmps34
      go_wp2_with fail
      go_ret2
      exact ⟨rfl, rfl⟩
    · rw [if_neg Bool.false_ne_true, if_neg h]
      go_enter Try.func34, Try.ntmps34
      go_wp2_with fail
      go_ret2
      exact ⟨rfl, rfl⟩
  · by_cases h : r ≤ 9223372036854775808
    · rw [if_pos rfl, if_pos h]
      go_enter Try.func34, Try.ntmps34
      go_wp2_with fail
      go_ret2
      exact ⟨ret_ib3 (by congr 1; simp only [u64w, wrap64]; omega), rfl⟩
    · rw [if_pos rfl, if_neg h]
      go_enter Try.func34, Try.ntmps34
      go_wp2_with fail
      go_ret2
      exact ⟨rfl, rfl⟩

theorem rround_any (x : Nat) (h64 : W64 x) (w : World) :
    Calls Try.prog 11 #[.float .f64 x] w fun e w' => e = .returned (.tuple #[.int .i64 (roundI x).1, .bool (roundI x).2]) ∧ w = w' := by
  have hw := rround_ways x
  obtain ⟨C, hC⟩ : ∃ C, C = roundI x := ⟨_, rfl⟩
  obtain ⟨m, em⟩ : ∃ m, m = partsM x := ⟨_, rfl⟩
  obtain ⟨e, ee⟩ : ∃ m, m = partsE x := ⟨_, rfl⟩
  obtain ⟨v, ev⟩ : ∃ m, m = partsW x := ⟨_, rfl⟩
  obtain ⟨g, eg⟩ : ∃ m, m = ng x := ⟨_, rfl⟩
  have KP := Lib.hid fun w => (by rw [em, ee, ev, eg]; exact rparts_any x h64 w : Calls Try.prog 32 #[.float .f64 x] w fun y w' => y = .returned (.tuple #[.bool g, .int .u64 m, .int .i64 e, .int .i64 v]) ∧ w = w')
  rw [← hC, ← em, ← ee, ← ev, ← eg] at hw
  rw [← hC]
  clear hC em ee ev eg h64
  rcases hw with ⟨h, rfl, rfl, hc, -⟩ | ⟨rfl, e1, e2, m1, m2, ⟨r, r0, r1, hn, hc⟩, -⟩ | ⟨rfl, e1, e2, m1, m2, ⟨hg, hc, -⟩ | ⟨hg, e3, r, r0, r1, hr, hc, -⟩⟩
  · rw [hc]; clear hc
    rcases h with rfl | rfl
    all_goals
      go_enter Try.func11, Try.ntmps11
      go_wp2_with (first | (go_at_call 32; ((with_reducible refine (KP.out _).mono ?_)); rintro e w' ⟨rfl, rfl⟩))
      go_ret2
      exact ⟨rfl, rfl⟩
  · rw [hc]; clear hc
    have KN := Lib.hid fun w => (by rw [← hn]; exact rnear_any m (-e) (by omega) m1 (by omega) (by omega) w : Calls Try.prog 35 #[.int .u64 m, .int .i64 (-e)] w fun y w' => y = .returned (.int .u64 r) ∧ w = w')
    clear hn
    go_enter Try.func11, Try.ntmps11
    go_wp2_with (first | (go_at_call 32; ((with_reducible refine (KP.out _).mono ?_)); rintro e w' ⟨rfl, rfl⟩) | (go_at_call 35; ((with_reducible refine (KN.out _).mono ?_)); rintro e w' ⟨rfl, rfl⟩) | (go_at_call 34; ((with_reducible refine (whole_any _ _ (by omega) (by omega) _).mono ?_)); rintro e w' ⟨rfl, rfl⟩))
    go_ret2
    exact ⟨rfl, rfl⟩
  · rw [hc]; clear hc
    have KG := Lib.hid fun w => (by rw [← hg]; exact great_any m e m1 m2 e1 e2 w : Calls Try.prog 33 #[.int .u64 m, .int .i64 e] w fun y w' => y = .returned (.bool true) ∧ w = w')
    clear hg
    go_enter Try.func11, Try.ntmps11
    go_wp2_with (first | (go_at_call 32; ((with_reducible refine (KP.out _).mono ?_)); rintro e w' ⟨rfl, rfl⟩) | (go_at_call 33; ((with_reducible refine (KG.out _).mono ?_)); rintro e w' ⟨rfl, rfl⟩))
    go_ret2
    exact ⟨rfl, rfl⟩
  · rw [hc]; clear hc
    have KG := Lib.hid fun w => (by rw [← hg]; exact great_any m e m1 m2 e1 e2 w : Calls Try.prog 33 #[.int .u64 m, .int .i64 e] w fun y w' => y = .returned (.bool false) ∧ w = w')
    have hr2 : IntKind.u64.wrap (m * 2 ^ e.toNat) = r := by rw [hr, u64w]; omega
    clear hg hr
    go_enter Try.func11, Try.ntmps11
    go_wp2_with (first | (go_at_call 32; ((with_reducible refine (KP.out _).mono ?_)); rintro e w' ⟨rfl, rfl⟩) | (go_at_call 33; ((with_reducible refine (KG.out _).mono ?_)); rintro e w' ⟨rfl, rfl⟩) | (go_at_call 34; ((with_reducible refine (whole_any _ _ (by omega) (by omega) _).mono ?_)); rintro e w' ⟨rfl, rfl⟩))
    go_ret2
    exact ⟨rfl, rfl⟩

theorem rfloor_any (x : Nat) (h64 : W64 x) (w : World) :
    Calls Try.prog 13 #[.float .f64 x] w fun e w' => e = .returned (.tuple #[.int .i64 (floorI x).1, .bool (floorI x).2]) ∧ w = w' := by
  have hw := rround_ways x
  obtain ⟨C, hC⟩ : ∃ C, C = floorI x := ⟨_, rfl⟩
  obtain ⟨m, em⟩ : ∃ m, m = partsM x := ⟨_, rfl⟩
  obtain ⟨e, ee⟩ : ∃ m, m = partsE x := ⟨_, rfl⟩
  obtain ⟨v, ev⟩ : ∃ m, m = partsW x := ⟨_, rfl⟩
  obtain ⟨g, eg⟩ : ∃ m, m = ng x := ⟨_, rfl⟩
  have KP := Lib.hid fun w => (by rw [em, ee, ev, eg]; exact rparts_any x h64 w : Calls Try.prog 32 #[.float .f64 x] w fun y w' => y = .returned (.tuple #[.bool g, .int .u64 m, .int .i64 e, .int .i64 v]) ∧ w = w')
  rw [← hC, ← em, ← ee, ← ev, ← eg] at hw
  rw [← hC]
  clear hC em ee ev eg h64
  rcases hw with ⟨h, rfl, rfl, -, hc⟩ | ⟨rfl, e1, e2, m1, m2, -, q, c, q0, q1, hq, hcc, c0, hc⟩ | ⟨rfl, e1, e2, m1, m2, ⟨hg, -, hc⟩ | ⟨hg, e3, r, r0, r1, hr, -, hc⟩⟩
  · rw [hc]; clear hc
    rcases h with rfl | rfl
    all_goals
      go_enter Try.func13, Try.ntmps13
      go_wp2_with (first | (go_at_call 32; ((with_reducible refine (KP.out _).mono ?_)); rintro e w' ⟨rfl, rfl⟩))
      go_ret2
      exact ⟨rfl, rfl⟩
  · rw [hc]; clear hc
    have KD := Lib.hid fun w => (by rw [← hq, ← hcc]; exact down_any m (-e) (by omega) m1 (by omega) (by omega) w : Calls Try.prog 37 #[.int .u64 m, .int .i64 (-e)] w fun y w' => y = .returned (.tuple #[.int .u64 q, .int .i64 c]) ∧ w = w')
    clear hq hcc
    cases g
    · rw [if_neg (by simp)]
      go_enter Try.func13, Try.ntmps13
      go_wp2_with (first | (go_at_call 32; ((with_reducible refine (KP.out _).mono ?_)); rintro e w' ⟨rfl, rfl⟩) | (go_at_call 37; ((with_reducible refine (KD.out _).mono ?_)); rintro e w' ⟨rfl, rfl⟩) | (go_at_call 34; ((with_reducible refine (whole_any _ _ (by omega) (by omega) _).mono ?_)); rintro e w' ⟨rfl, rfl⟩))
      go_ret2
      exact ⟨rfl, rfl⟩
    · by_cases hc0 : 0 < c
      · rw [if_pos ⟨rfl, hc0⟩]
        go_enter Try.func13, Try.ntmps13
        go_wp2_with (first | (go_at_call 32; ((with_reducible refine (KP.out _).mono ?_)); rintro e w' ⟨rfl, rfl⟩) | (go_at_call 37; ((with_reducible refine (KD.out _).mono ?_)); rintro e w' ⟨rfl, rfl⟩) | (go_at_call 34; ((with_reducible refine (whole_any _ _ (by omega) (by omega) _).mono ?_)); rintro e w' ⟨rfl, rfl⟩))
        go_ret2
        exact ⟨rfl, rfl⟩
      · rw [if_neg (by omega)]
        go_enter Try.func13, Try.ntmps13
        go_wp2_with (first | (go_at_call 32; ((with_reducible refine (KP.out _).mono ?_)); rintro e w' ⟨rfl, rfl⟩) | (go_at_call 37; ((with_reducible refine (KD.out _).mono ?_)); rintro e w' ⟨rfl, rfl⟩) | (go_at_call 34; ((with_reducible refine (whole_any _ _ (by omega) (by omega) _).mono ?_)); rintro e w' ⟨rfl, rfl⟩))
        go_ret2
        exact ⟨rfl, rfl⟩
  · rw [hc]; clear hc
    have KG := Lib.hid fun w => (by rw [← hg]; exact great_any m e m1 m2 e1 e2 w : Calls Try.prog 33 #[.int .u64 m, .int .i64 e] w fun y w' => y = .returned (.bool true) ∧ w = w')
    clear hg
    go_enter Try.func13, Try.ntmps13
    go_wp2_with (first | (go_at_call 32; ((with_reducible refine (KP.out _).mono ?_)); rintro e w' ⟨rfl, rfl⟩) | (go_at_call 33; ((with_reducible refine (KG.out _).mono ?_)); rintro e w' ⟨rfl, rfl⟩))
    go_ret2
    exact ⟨rfl, rfl⟩
  · rw [hc]; clear hc
    have KG := Lib.hid fun w => (by rw [← hg]; exact great_any m e m1 m2 e1 e2 w : Calls Try.prog 33 #[.int .u64 m, .int .i64 e] w fun y w' => y = .returned (.bool false) ∧ w = w')
    have hr2 : IntKind.u64.wrap (m * 2 ^ e.toNat) = r := by rw [hr, u64w]; omega
    clear hg hr
    go_enter Try.func13, Try.ntmps13
    go_wp2_with (first | (go_at_call 32; ((with_reducible refine (KP.out _).mono ?_)); rintro e w' ⟨rfl, rfl⟩) | (go_at_call 33; ((with_reducible refine (KG.out _).mono ?_)); rintro e w' ⟨rfl, rfl⟩) | (go_at_call 34; ((with_reducible refine (whole_any _ _ (by omega) (by omega) _).mono ?_)); rintro e w' ⟨rfl, rfl⟩))
    go_ret2
    exact ⟨rfl, rfl⟩
end Go.Proofs.Ythncemlldkdkiaa
