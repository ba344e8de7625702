/- The reference's Sum: the exact rest, in whole numbers. -/
import Derived.Test.YtkkikcfolinkfaaTwA
namespace Go.Proofs.Ytkkikcfolinkfaa
open Go.RowKit TF

attribute [local go_sem] cmp_eq cmp_ne cmp_lt cmp_gt cmp_le cmp_ge

/-- A magnitude, named. -/
structure MagIs (b : Nat) (n : Int) : Prop where
  is : n = mg b
/-- Mantissa and exponent, named. -/
structure PartsAre (b : Nat) (m e : Int) : Prop where
  mant : m = M (mg b)
  expo : e = E (mg b)
  fin : mg b < INF
theorem mag_of {b : Nat} {n : Int} (h : MagIs b n) (w : World) :
    Calls Try.prog 35 #[.float .f64 b] w fun e' w' => e' = .returned (.int .u64 n) ∧ w = w' := mag_any b n h.is w
theorem parts_of {b : Nat} {m e : Int} (h : PartsAre b m e) (w : World) :
    Calls Try.prog 37 #[.float .f64 b] w fun e' w' => e' = .returned (.tuple #[.int .u64 m, .int .i64 (e - 1074)]) ∧ w = w' := parts_any b m e h.mant h.expo h.fin w

theorem ret_f2 {a b c : Nat} (h : b = c) : Ending.returned (.tuple #[.float .f64 a, .float .f64 b]) = .returned (.tuple #[.float .f64 a, .float .f64 c]) := by rw [h]
theorem low_cases {es ey ex k : Int} (h : (¬ es < ey ∧ k = ey) ∨ (es < ey ∧ k = es)) : (¬ es < ey ∧ k = ey ∧ ex - 1074 - (k - 1074) = ex - k ∧ es - 1074 - (k - 1074) = es - k) ∨ (es < ey ∧ k = es ∧ ex - 1074 - (k - 1074) = ex - k ∧ ey - 1074 - (k - 1074) = ey - k) := by omega

set_option maxRecDepth 100000 in
set_option maxHeartbeats 1000000 in
/-- Behind the exchange. -/
theorem rsum_tail (a b x y s : Nat) (sw : (x = a ∧ y = b ∧ mg b ≤ mg a) ∨ (x = b ∧ y = a ∧ mg a < mg b)) (ha : W64 a) (hb : W64 b) (h : floatBits .add .f64 a b = some s) (hs : mg s < INF) (w : World) :
    Calls Try.prog 13 #[.float .f64 a, .float .f64 b] w fun e w' => e = .returned (.tuple #[.float .f64 (sumW a b).1, .float .f64 (sumW a b).2]) ∧ ∃ n, w' = w.drewN n := by
  obtain ⟨hfa, hfb, e1, e2, e3⟩ := add_fin_of h hs
  have hs64 : W64 s := floatBits_lt h
  have hsum : sumW a b = (canonW s, rw' false (iv a + iv b - iv s)) := by
    unfold sumW
    rw [show Ieee.double.add a b = some s from h]; simp only; rw [if_pos hs]
  have hms : mg s = rnd (iv a + iv b).natAbs := by rw [e1, mg_rw]; omega
  have k := run_valid (P := Try.prog) 24 h
  obtain ⟨na, hna⟩ : ∃ n : Int, n = mg a := ⟨_, rfl⟩
  obtain ⟨nb, hnb⟩ : ∃ n : Int, n = mg b := ⟨_, rfl⟩
  obtain ⟨ns, hns⟩ : ∃ n : Int, n = mg s := ⟨_, rfl⟩
  obtain ⟨mx, hmx⟩ : ∃ n : Int, n = M (mg x) := ⟨_, rfl⟩
  obtain ⟨ex, hex⟩ : ∃ n : Int, n = E (mg x) := ⟨_, rfl⟩
  obtain ⟨my, hmy⟩ : ∃ n : Int, n = M (mg y) := ⟨_, rfl⟩
  obtain ⟨ey, hey⟩ : ∃ n : Int, n = E (mg y) := ⟨_, rfl⟩
  obtain ⟨ms, hms'⟩ : ∃ n : Int, n = M (mg s) := ⟨_, rfl⟩
  obtain ⟨es, hes⟩ : ∃ n : Int, n = E (mg s) := ⟨_, rfl⟩
  have HMA : MagIs a na := ⟨hna⟩
  have HMB : MagIs b nb := ⟨hnb⟩
  have HMS : MagIs s ns := ⟨hns⟩
  have HPX : PartsAre x mx ex := ⟨hmx, hex, (by rcases sw with ⟨rfl, rfl, _⟩ | ⟨rfl, rfl, _⟩ <;> assumption)⟩
  have HPY : PartsAre y my ey := ⟨hmy, hey, (by rcases sw with ⟨rfl, rfl, _⟩ | ⟨rfl, rfl, _⟩ <;> assumption)⟩
  have HPS : PartsAre s ms es := ⟨hms', hes, hs⟩
  have ways := rsum_ways (x := x) (y := y) (s := s) (by rcases sw with ⟨rfl, rfl, _⟩ | ⟨rfl, rfl, _⟩ <;> assumption) (by rcases sw with ⟨rfl, rfl, _⟩ | ⟨rfl, rfl, _⟩ <;> assumption) (by rcases sw with ⟨rfl, rfl, _⟩ | ⟨rfl, rfl, h⟩ <;> omega) hs
    (by rcases sw with ⟨rfl, rfl, _⟩ | ⟨rfl, rfl, _⟩; exact e3; rw [e3, Int.add_comm]) (by rcases sw with ⟨rfl, rfl, _⟩ | ⟨rfl, rfl, _⟩; exact hms; rw [hms, Int.add_comm]) mx ex my ey ms es hmx hex hmy hey hms' hes
  have hxy : iv x + iv y = iv a + iv b := by rcases sw with ⟨rfl, rfl, _⟩ | ⟨rfl, rfl, _⟩; rfl; rw [Int.add_comm]
  rw [hxy] at ways
  clear hmx hex hmy hey hms' hes
  have hns1 : 0 ≤ ns ∧ ns < 9218868437227405312 := by have := INF_eq; omega
  have hsw : (x = a ∧ y = b ∧ nb ≤ na) ∨ (x = b ∧ y = a ∧ na < nb) := by rcases sw with ⟨rfl, rfl, h⟩ | ⟨rfl, rfl, h⟩; exact .inl ⟨rfl, rfl, by omega⟩; exact .inr ⟨rfl, rfl, by omega⟩
  rw [hsum]
  clear sw hna hnb hns hsum e1 e2 e3 h hms hxy hfa hfb hs
  rcases ways with ⟨hm0, hr⟩ | ⟨hm0, w1, w2, w3, w4, w5, ⟨hfar, hr⟩ | ⟨hnear, X, k', hk, hkk, hX, hxx⟩⟩
  · have hm1 : (my == 0) = true := by simp [hm0]
    clear hm0
    rcases hsw with ⟨rfl, rfl, hlt⟩ | ⟨rfl, rfl, hlt⟩
    all_goals
      go_enter Try.func13, Try.ntmps13
      go_wp2_with (first | (go_at_call 35; refine (mag_of (by assumption) _).mono ?_; rintro e w' ⟨rfl, rfl⟩) | (go_at_call 37; refine (parts_of (by assumption) _).mono ?_; rintro e w' ⟨rfl, rfl⟩) | (go_at_call 36; refine (rcanon_any _ _).mono ?_; rintro e w' ⟨rfl, rfl⟩))
      go_ret2
      exact ⟨ret_f2 hr.symm, 0, rfl⟩
  · rcases hsw with ⟨rfl, rfl, hlt⟩ | ⟨rfl, rfl, hlt⟩
    all_goals
      go_enter Try.func13, Try.ntmps13
      go_wp2_with (first | (go_at_call 35; refine (mag_of (by assumption) _).mono ?_; rintro e w' ⟨rfl, rfl⟩) | (go_at_call 37; refine (parts_of (by assumption) _).mono ?_; rintro e w' ⟨rfl, rfl⟩) | (go_at_call 36; refine (rcanon_any _ _).mono ?_; rintro e w' ⟨rfl, rfl⟩))
      go_ret2
      exact ⟨ret_f2 hr.symm, 0, rfl⟩
  · have hk2 : (¬ es < ey ∧ (k' : Int) = ey ∧ ex - 1074 - ((k' : Int) - 1074) = ex - k' ∧ es - 1074 - ((k' : Int) - 1074) = es - k') ∨ (es < ey ∧ (k' : Int) = es ∧ ex - 1074 - ((k' : Int) - 1074) = ex - k' ∧ ey - 1074 - ((k' : Int) - 1074) = ey - k') := low_cases hkk
    clear hkk
    rcases hk2 with ⟨hlow, rfl, f2, f3⟩ | ⟨hlow, rfl, f2, f3⟩
    all_goals
      rcases hxx with ⟨hx0, r, hmul, hr⟩ | ⟨hx0, hx1, f, r, hf, hf64, hmul, hr⟩
      all_goals
        first | have k2 := run_neg Try.prog hf64 | skip
        have k1 := run_valid (P := Try.prog) 24 hmul
        simp only [Int.sub_self] at hX
        rcases hsw with ⟨rfl, rfl, hlt⟩ | ⟨rfl, rfl, hlt⟩
        all_goals
          go_enter Try.func13, Try.ntmps13
          go_wp2_with (first | (go_at_call 35; refine (mag_of (by assumption) _).mono ?_; rintro e w' ⟨rfl, rfl⟩) | (go_at_call 37; refine (parts_of (by assumption) _).mono ?_; rintro e w' ⟨rfl, rfl⟩) | (go_at_call 36; refine (rcanon_any _ _).mono ?_; rintro e w' ⟨rfl, rfl⟩) | (go_at_call 39; refine (below_any _ (by first | assumption | exact HB) _).mono ?_; rintro e w' ⟨rfl, rfl⟩) | (go_at_call 38; refine (shifted_any _ _ _ (by omega) (by omega) _).mono ?_; rintro e w' ⟨rfl, rfl⟩) | (go_at_call 40; refine (power_any _ hk _).mono ?_; rintro e w' ⟨rfl, rfl⟩))
          go_ret2
          exact ⟨rfl, 0, rfl⟩
end Go.Proofs.Ytkkikcfolinkfaa
