/- The reference's functions of layer 2. -/
import Derived.Test.YthncemlldkdkiaaRefA
import Derived.Test.YthncemlldkdkiaaLevE
import Derived.WalkLawsBesides
namespace Go.Proofs.Ythncemlldkdkiaa
open Go.RowKit TF

attribute [local go_sem] cmp_eq cmp_ne cmp_lt cmp_gt cmp_le cmp_ge

theorem down_any (m s : Int) (h1 : 1 ≤ s) (h3 : 0 ≤ m) (h4 : m < 18446744073709551616) (h5 : 63 < s → m < 9223372036854775808) (w : World) :
    Calls Try.prog 37 #[.int .u64 m, .int .i64 s] w fun e w' => e = .returned (.tuple #[.int .u64 (downQ m s), .int .i64 (downC m s)]) ∧ w = w' := by
  by_cases h2 : s ≤ 63
  · obtain ⟨e1, e2, e3⟩ := down_rest h1 h2 h3 h4
    have E1 := Lib.hid e1
    have E2 := Lib.hid e2
    clear e1 e2 h5
    go_enter Try.func37, Try.ntmps37
    go_wp2_with fail
    all_goals
      go_ret2
      refine ⟨ret_ui rfl ?_, rfl⟩
      unfold downC
      simp only [E1.out, E2.out, beq_iff_eq, beq_eq_false_iff_ne, ne_eq] at *
      repeat' split
      all_goals omega
  · obtain ⟨e1, e2⟩ := down_far (by omega : 63 < s) h3 (h5 (by omega))
    rw [e1, e2]
    clear e1 e2 h5
    by_cases h0 : m = 0
    · rw [if_pos h0]
      go_enter Try.func37, Try.ntmps37
      go_wp2_with fail
      go_ret2
      exact ⟨rfl, rfl⟩
    · rw [if_neg h0]
      go_enter Try.func37, Try.ntmps37
      go_wp2_with fail
      go_ret2
      exact ⟨rfl, rfl⟩

theorem rnear_any (m s : Int) (h1 : 1 ≤ s) (h3 : 0 ≤ m) (h4 : m < 18446744073709551616) (h5 : 63 < s → m < 9223372036854775808) (w : World) :
    Calls Try.prog 35 #[.int .u64 m, .int .i64 s] w fun e w' => e = .returned (.int .u64 (nearI m s)) ∧ w = w' := by
  have hq : 0 ≤ downQ m s ∧ downQ m s < 9223372036854775808 := down_bound h1 h3 h4
  have hn : nearI m s = if downC m s = 3 ∨ (downC m s = 2 ∧ downQ m s % 2 = 1) then downQ m s + 1 else downQ m s := rfl
  obtain ⟨q, eq⟩ : ∃ q, q = downQ m s := ⟨_, rfl⟩
  obtain ⟨c, ec⟩ : ∃ c, c = downC m s := ⟨_, rfl⟩
  have K := Lib.hid fun w => (by rw [eq, ec]; exact down_any m s h1 h3 h4 h5 w : Calls Try.prog 37 #[.int .u64 m, .int .i64 s] w fun e w' => e = .returned (.tuple #[.int .u64 q, .int .i64 c]) ∧ w = w')
  rw [← eq, ← ec] at hn
  rw [← eq] at hq
  obtain ⟨q1, q2⟩ := hq
  rw [hn]
  clear hn eq ec h1 h3 h4 h5
  by_cases c3 : c = 3
  · subst c3
    rw [if_pos (.inl rfl)]
    go_enter Try.func35, Try.ntmps35
    go_wp2_with (first | (go_at_call 37; ((with_reducible refine (K.out _).mono ?_)); rintro e w' ⟨rfl, rfl⟩))
    go_ret
    exact ⟨rfl, rfl⟩
  by_cases c2 : c = 2
  · subst c2
    by_cases hq : q % 2 = 1
    · rw [if_pos (.inr ⟨rfl, hq⟩)]
      go_enter Try.func35, Try.ntmps35
      go_wp2_with (first | (go_at_call 37; ((with_reducible refine (K.out _).mono ?_)); rintro e w' ⟨rfl, rfl⟩))
      go_ret
      exact ⟨rfl, rfl⟩
    · rw [if_neg (by omega)]
      have hq2 : q % 2 = 0 := by omega
      clear hq c3
      go_enter Try.func35, Try.ntmps35
      go_wp2_with (first | (go_at_call 37; ((with_reducible refine (K.out _).mono ?_)); rintro e w' ⟨rfl, rfl⟩))
      go_ret
      exact ⟨rfl, rfl⟩
  rw [if_neg (by omega)]
  have g3 : (c == 3) = false := by simpa using c3
  have g2 : (c == 2) = false := by simpa using c2
  clear c3 c2
  go_enter Try.func35, Try.ntmps35
  go_wp2_with (first | (go_at_call 37; ((with_reducible refine (K.out _).mono ?_)); rintro e w' ⟨rfl, rfl⟩))
  go_ret
  exact ⟨rfl, rfl⟩

/-- the bits of a magnitude. -/
theorem length_any (m : Nat) (h : m < 18446744073709551616) (w : World) :
    Calls Try.prog 51 #[.int .u64 m] w fun e w' => e = .returned (.int .i64 (lenN m)) ∧ w = w' := by
  have hl := lenN_le h
  go_enter Try.func51, Try.ntmps51
  go_wp2_with fail
  go_loopw [0, 3] (fun x y wr => ∃ (a k : Nat) (b c : Int), b = a ∧ c = k ∧ x = .int .u64 b ∧ y = .int .i64 c ∧ k + lenN a = lenN m ∧ a < 18446744073709551616 ∧ wr = w) (fun x _ _ => (intOf x).toNat)
  case atStart => exact ⟨m, 0, m, 0, rfl, rfl, rfl, rfl, by omega, h, rfl⟩
  case round =>
    obtain ⟨a, k, b, c, hb, hc, rfl, rfl, hk, ha, hw⟩ := hrel
    subst hw
    by_cases h0 : a = 0
    · have hb0 : b = 0 := by omega
      have hc0 : c = lenN m := by
        subst h0
        have : lenN 0 = 0 := rfl
        omega
      subst hb0 hc0
      clear hk ha hb hc h0 h
      go_wp2_with fail
      go_ret
      exact ⟨rfl, rfl⟩
    · have hs := lenN_step h0
      have b1 : c < 64 := by omega
      have b2 : 0 ≤ c := by omega
      have b3 : 0 < b := by omega
      have b4 : b < 18446744073709551616 := by omega
      have KK := Lib.hid (⟨hk, ha, hb, hc, hs⟩ : _ ∧ _ ∧ _ ∧ _ ∧ _)
      clear ha hk h0 hb hc hs h
      go_wp2_with fail
      go_roundw
      case rel =>
        obtain ⟨hk, ha, hb, hc, hs⟩ := KK.out
        exact ⟨a / 2, k + 1, _, _, by subst hb; simp, by omega, rfl, rfl, by omega, by omega, by first | rfl | trivial⟩
      case measure => simp [intOf]; omega

/-- what is asked of a magnitude, its place and the float's kind. -/
structure SmallOk (m : Nat) (e p least inf : Int) : Prop where
  m64 : m < 18446744073709551616
  e1 : -1074 ≤ e
  e2 : e ≤ 971
  p1 : 1 ≤ p
  p2 : p ≤ 52
  l1 : -1074 ≤ least
  l2 : least ≤ 0
  i1 : 0 ≤ inf
  i2 : inf < 9223372036854775808
  far : 63 < unitI m e p least - e → m < 9223372036854775808
theorem small_any (m : Nat) (n e p least inf : Int) (hn : n = m) (h : SmallOk m e p least inf) (w : World) :
    Calls Try.prog 40 #[.int .u64 n, .int .i64 e, .int .i64 p, .int .i64 least, .int .u64 inf] w fun x w' => x = .returned (.int .u64 (smallI m e p least inf)) ∧ w = w' := by
  obtain ⟨m64, e1, e2, p1, p2, l1, l2, i1, i2, far⟩ := h
  by_cases h0 : m = 0
  · have hn0 : n = 0 := by omega
    have hs : smallI m e p least inf = 0 := if_pos h0
    rw [hs]
    subst hn0
    clear hn hs far m64 h0
    go_enter Try.func40, Try.ntmps40
    go_wp2_with fail
    go_ret
    exact ⟨rfl, rfl⟩
  have hL := lenN_le m64
  obtain ⟨L, eL⟩ : ∃ L : Int, L = lenN m := ⟨_, rfl⟩
  have KL := Lib.hid fun w => (by rw [hn, eL]; exact length_any m m64 w : Calls Try.prog 51 #[.int .u64 n] w fun e w' => e = .returned (.int .i64 L) ∧ w = w')
  have hL1 : 1 ≤ L := by rw [eL]; unfold lenN; rw [if_neg h0]; omega
  have hL2 : L ≤ 64 := by omega
  have hU : unitI m e p least = max (L + e - (p + 1)) least := by unfold unitI; rw [eL]
  have hs : smallI m e p least inf = min inf ((unitI m e p least - least) * 2 ^ p.toNat + nrs (m * 2 ^ (e - unitI m e p least).toNat) (unitI m e p least - e).toNat) := if_neg h0
  rw [hs]
  clear hs
  obtain ⟨U, eU⟩ : ∃ U, U = unitI m e p least := ⟨_, rfl⟩
  rw [← eU] at hU far ⊢
  obtain ⟨k, hk⟩ : ∃ k, k = nrs (m * 2 ^ (e - U).toNat) (U - e).toNat := ⟨_, rfl⟩
  rw [← hk]
  have hb := small_k (m := m) (L := L) (U := U) hL2 eL e1 e2 p1 p2 l1 l2 hU hk
  obtain ⟨kn, hkn⟩ : ∃ kn : Int, kn = k := ⟨_, rfl⟩
  rw [← hkn] at hb ⊢
  obtain ⟨z1, z2, z3, z4, z5⟩ := hb
  have n1 : 0 < n := by omega
  have n2 : n < 18446744073709551616 := by omega
  by_cases c2 : e < U
  · have KN := Lib.hid fun w => (by rw [z5 c2, hn]; exact rnear_any m (U - e) (by omega) (by omega) (by omega) (fun h => by have := far h; omega) w : Calls Try.prog 35 #[.int .u64 n, .int .i64 (U - e)] w fun e w' => e = .returned (.int .u64 kn) ∧ w = w')
    have B := Lib.hid z2
    by_cases c1 : L + e - (p + 1) < least
    · have hU1 : U = least := by omega
      subst hU1
      clear hU eU far eL hn h0 m64 hk hkn z2 z3 z4 z5
      go_enter Try.func40, Try.ntmps40
      go_wp2_with (first | (go_at_call 51; ((with_reducible refine (KL.out _).mono ?_)); rintro e w' ⟨rfl, rfl⟩) | (go_at_call 35; ((with_reducible refine (KN.out _).mono ?_)); rintro e w' ⟨rfl, rfl⟩))
      all_goals
        go_ret
        refine ⟨ret_int' ?_, rfl⟩
        have z2 := B.out
        simp only [Int.sub_self, Int.zero_mul, Int.zero_add, u64w] at *
        omega
    · have hU1 : U = L + e - (p + 1) := by omega
      subst hU1
      clear hU eU far eL hn h0 m64 hk hkn z2 z3 z4 z5
      go_enter Try.func40, Try.ntmps40
      go_wp2_with (first | (go_at_call 51; ((with_reducible refine (KL.out _).mono ?_)); rintro e w' ⟨rfl, rfl⟩) | (go_at_call 35; ((with_reducible refine (KN.out _).mono ?_)); rintro e w' ⟨rfl, rfl⟩))
      all_goals
        go_ret
        refine ⟨ret_int' ?_, rfl⟩
        have z2 := B.out
        simp only [z2] at *
        omega
  by_cases c3 : U < e
  · have B := Lib.hid (⟨z2, z3 c3⟩ : _ ∧ _)
    rw [← hn] at B
    by_cases c1 : L + e - (p + 1) < least
    · have hU1 : U = least := by omega
      subst hU1
      clear hU eU far eL hn h0 m64 hk hkn z2 z3 z4 z5
      go_enter Try.func40, Try.ntmps40
      go_wp2_with (first | (go_at_call 51; ((with_reducible refine (KL.out _).mono ?_)); rintro e w' ⟨rfl, rfl⟩))
      all_goals
        go_ret
        refine ⟨ret_int' ?_, rfl⟩
        obtain ⟨z2, z3⟩ := B.out
        simp only [z3, Int.sub_self, Int.zero_mul, Int.zero_add] at *
        simp only [u64w] at *
        omega
    · have hU1 : U = L + e - (p + 1) := by omega
      subst hU1
      clear hU eU far eL hn h0 m64 hk hkn z2 z3 z4 z5
      go_enter Try.func40, Try.ntmps40
      go_wp2_with (first | (go_at_call 51; ((with_reducible refine (KL.out _).mono ?_)); rintro e w' ⟨rfl, rfl⟩))
      all_goals
        go_ret
        refine ⟨ret_int' ?_, rfl⟩
        obtain ⟨z2, z3⟩ := B.out
        simp only [z3, z2] at *
        omega
  · have hUe : U = e := by omega
    have hkn2 : kn = n := by rw [hn, ← z4 hUe, hkn]
    subst hkn2
    have B := Lib.hid z2
    by_cases c1 : L + e - (p + 1) < least
    · have hU1 : least = e := by omega
      subst hU1
      subst hUe
      clear hU eU far eL hn h0 m64 hk hkn z2 z3 z4 z5
      go_enter Try.func40, Try.ntmps40
      go_wp2_with (first | (go_at_call 51; ((with_reducible refine (KL.out _).mono ?_)); rintro e w' ⟨rfl, rfl⟩))
      all_goals
        go_ret
        refine ⟨ret_int' ?_, rfl⟩
        have z2 := B.out
        simp only [Int.sub_self, Int.zero_mul, Int.zero_add, u64w] at *
        omega
    · have hL3 : L = p + 1 := by omega
      subst hUe
      clear hU eU far eL hn h0 m64 hk hkn z2 z3 z4 z5
      subst hL3
      go_enter Try.func40, Try.ntmps40
      go_wp2_with (first | (go_at_call 51; ((with_reducible refine (KL.out _).mono ?_)); rintro e w' ⟨rfl, rfl⟩))
      all_goals
        go_ret
        refine ⟨ret_int' ?_, rfl⟩
        have z2 := B.out
        simp only [show p + 1 + U - (p + 1) = U from by omega, z2] at *
        omega
end Go.Proofs.Ythncemlldkdkiaa
