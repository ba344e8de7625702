/- The reference's Clamp. -/
import Derived.Test.YthncemlldkdkiaaRefP
namespace Go.Proofs.Ythncemlldkdkiaa
open Go.RowKit TF

attribute [local go_sem] cmp_eq cmp_ne cmp_lt cmp_gt cmp_le cmp_ge

theorem great_any (m e : Int) (h1 : 0 ≤ m) (h2 : m < 9007199254740992) (h3 : 0 ≤ e) (h4 : e ≤ 971) (w : World) :
    Calls Try.prog 33 #[.int .u64 m, .int .i64 e] w fun x w' => x = .returned (.bool (greatB m e)) ∧ w = w' := by
  unfold greatB
  by_cases h0 : m = 0
  · subst h0
    go_enter Try.func33, Try.ntmps33
    go_wp2_with fail
    go_ret
    exact ⟨rfl, rfl⟩
  have g0 : (m == 0) = false := by simpa using h0
  have g1 : (m != 0) = true := by simpa using h0
  rw [decide_eq_false h0]
  clear h0
  by_cases h5 : 11 < e
  · rw [decide_eq_true h5]
    go_enter Try.func33, Try.ntmps33
    go_wp2_with fail
    go_ret
    exact ⟨by first | rfl | exact ret_bool' (by simp [*]), rfl⟩
  · rw [decide_eq_false h5]
    go_enter Try.func33, Try.ntmps33
    go_wp2_with fail
    go_ret
    exact ⟨by first | rfl | exact ret_bool' (by simp [*]), rfl⟩

theorem rclamp_any (x : Nat) (most : Int) (h64 : W64 x) (hm : most ≤ 9223372036854775807) (w : World) :
    Calls Try.prog 15 #[.float .f64 x, .int .i64 most] w fun e w' => e = .returned (.int .i64 (clampI x most)) ∧ w = w' := by
  have hw := rclamp_ways x most hm
  obtain ⟨C, hC⟩ : ∃ C, C = clampI x most := ⟨_, rfl⟩
  obtain ⟨m, em⟩ : ∃ m, m = partsM x := ⟨_, rfl⟩
  obtain ⟨e, ee⟩ : ∃ m, m = partsE x := ⟨_, rfl⟩
  obtain ⟨v, ev⟩ : ∃ m, m = partsW x := ⟨_, rfl⟩
  obtain ⟨g, eg⟩ : ∃ m, m = ng x := ⟨_, rfl⟩
  have KP := Lib.hid fun w => (by rw [em, ee, ev, eg]; exact rparts_any x h64 w : Calls Try.prog 32 #[.float .f64 x] w fun y w' => y = .returned (.tuple #[.bool g, .int .u64 m, .int .i64 e, .int .i64 v]) ∧ w = w')
  rw [← hC, ← em, ← ee, ← ev, ← eg] at hw
  rw [← hC]
  clear hC em ee ev eg h64
  rcases hw with ⟨rfl, rfl⟩ | ⟨r, r0, r1, hc, hw⟩
  · by_cases hneg : most < 0
    all_goals
      go_enter Try.func15, Try.ntmps15
      go_wp2_with (first | (go_at_call 32; ((with_reducible refine (KP.out _).mono ?_)); rintro e w' ⟨rfl, rfl⟩))
      go_ret
      exact ⟨rfl, rfl⟩
  · have HC := Lib.hid hc
    clear hc
    rcases hw with ⟨rfl, rfl, rfl, rfl⟩ | ⟨rfl, e1, e2, m1, m2, hn⟩ | ⟨rfl, e1, e2, m1, m2, ⟨hg, rfl⟩ | ⟨hg, e3, hr⟩⟩
    · by_cases hneg : most < 0 <;> cases g
      all_goals
        go_enter Try.func15, Try.ntmps15
        go_wp2_with (first | (go_at_call 32; ((with_reducible refine (KP.out _).mono ?_)); rintro e w' ⟨rfl, rfl⟩))
        all_goals
          go_ret
          exact ⟨ret_int' (by have := HC.out; simp only [if_true, Bool.false_eq_true, if_false] at this; omega), rfl⟩
    · have KN := Lib.hid fun w => (by rw [← hn]; exact rnear_any m (-e) (by omega) m1 (by omega) (by omega) w : Calls Try.prog 35 #[.int .u64 m, .int .i64 (-e)] w fun y w' => y = .returned (.int .u64 r) ∧ w = w')
      clear hn
      by_cases hneg : most < 0 <;> cases g
      all_goals
        go_enter Try.func15, Try.ntmps15
        go_wp2_with (first | (go_at_call 32; ((with_reducible refine (KP.out _).mono ?_)); rintro e w' ⟨rfl, rfl⟩) | (go_at_call 35; ((with_reducible refine (KN.out _).mono ?_)); rintro e w' ⟨rfl, rfl⟩))
        all_goals
          go_ret
          exact ⟨ret_int' (by have := HC.out; simp only [if_true, Bool.false_eq_true, if_false] at this; omega), rfl⟩
    · have KG := Lib.hid fun w => (by rw [← hg]; exact great_any m e m1 m2 e1 e2 w : Calls Try.prog 33 #[.int .u64 m, .int .i64 e] w fun y w' => y = .returned (.bool true) ∧ w = w')
      clear hg
      by_cases hneg : most < 0 <;> cases g
      all_goals
        go_enter Try.func15, Try.ntmps15
        go_wp2_with (first | (go_at_call 32; ((with_reducible refine (KP.out _).mono ?_)); rintro e w' ⟨rfl, rfl⟩) | (go_at_call 33; ((with_reducible refine (KG.out _).mono ?_)); rintro e w' ⟨rfl, rfl⟩))
        all_goals
          go_ret
          exact ⟨ret_int' (by have := HC.out; simp only [if_true, Bool.false_eq_true, if_false] at this; omega), rfl⟩
    · have KG := Lib.hid fun w => (by rw [← hg]; exact great_any m e m1 m2 e1 e2 w : Calls Try.prog 33 #[.int .u64 m, .int .i64 e] w fun y w' => y = .returned (.bool false) ∧ w = w')
      have HR := Lib.hid (⟨hr, by rw [u64w]; omega⟩ : m * 2 ^ e.toNat = r ∧ IntKind.u64.wrap r = r)
      clear hg hr
      by_cases hneg : most < 0 <;> cases g
      all_goals
        go_enter Try.func15, Try.ntmps15
        go_wp2_with (first | (go_at_call 32; ((with_reducible refine (KP.out _).mono ?_)); rintro e w' ⟨rfl, rfl⟩) | (go_at_call 33; ((with_reducible refine (KG.out _).mono ?_)); rintro e w' ⟨rfl, rfl⟩))
        all_goals
          go_ret
          refine ⟨ret_int' ?_, rfl⟩
          have := HC.out
          obtain ⟨hr, hx⟩ := HR.out
          simp only [hx, hr, wrap64, if_true, Bool.false_eq_true, if_false] at *
          omega
end Go.Proofs.Ythncemlldkdkiaa
