/- AddProduct. -/
import Derived.Test.YtneedadoafcfcaaAccR
namespace Go.Proofs.Ytneedadoafcfcaa
open Go Go.RowKit TF

attribute [local go_sem] cmp_eq cmp_ne cmp_lt cmp_gt cmp_le cmp_ge

theorem finite_any (x : Nat) (hx : W64 x) (f : Bool) (hf : f = decide (mg x < INF)) (w : World) :
    Calls Try.prog 28 #[.float .f64 x] w fun e w' => e = .returned (.bool f) ∧ w = w' := by
  rcases odd_cases hx with ⟨o1, o2⟩ | ⟨o1, o2, o3, o4, o5, o6⟩ | ⟨o1, o2, o3, o4, o5, o6, o7⟩ | ⟨o1, o2, o3, o4, o5, o6⟩
  · have := isN_true.1 o1
    rw [decide_eq_false (by omega)] at hf
    subst hf
    go_enter Try.func28, Try.ntmps28
    go_wp2_with (first | (go_at_call 46; ((with_reducible refine (isnan_any _ _).mono ?_)); rintro e w' ⟨rfl, rfl⟩) | (go_at_call 47; ((with_reducible refine (isinf_any _ (by assumption) _).mono ?_)); rintro e w' ⟨rfl, rfl⟩))
    go_ret
    exact ⟨rfl, rfl⟩
  · rw [decide_eq_false (by omega)] at hf
    subst hf
    clear o3
    go_enter Try.func28, Try.ntmps28
    go_wp2_with (first | (go_at_call 46; ((with_reducible refine (isnan_any _ _).mono ?_)); rintro e w' ⟨rfl, rfl⟩) | (go_at_call 47; ((with_reducible refine (isinf_any _ (by assumption) _).mono ?_)); rintro e w' ⟨rfl, rfl⟩))
    go_ret
    exact ⟨rfl, rfl⟩
  · rw [decide_eq_false (by omega)] at hf
    subst hf
    clear o3
    go_enter Try.func28, Try.ntmps28
    go_wp2_with (first | (go_at_call 46; ((with_reducible refine (isnan_any _ _).mono ?_)); rintro e w' ⟨rfl, rfl⟩) | (go_at_call 47; ((with_reducible refine (isinf_any _ (by assumption) _).mono ?_)); rintro e w' ⟨rfl, rfl⟩))
    go_ret
    exact ⟨rfl, rfl⟩
  · rw [decide_eq_true o3] at hf
    subst hf
    go_enter Try.func28, Try.ntmps28
    go_wp2_with (first | (go_at_call 46; ((with_reducible refine (isnan_any _ _).mono ?_)); rintro e w' ⟨rfl, rfl⟩) | (go_at_call 47; ((with_reducible refine (isinf_any _ (by assumption) _).mono ?_)); rintro e w' ⟨rfl, rfl⟩))
    go_ret
    exact ⟨rfl, rfl⟩
theorem mul_val {x y : Nat} : ((M (mg x) : Int) * (M (mg y) : Int) / 18446744073709551616 * 18446744073709551616 + (M (mg x) : Int) * (M (mg y) : Int) % 18446744073709551616) * 2 ^ ((E (mg x) : Int) - 1074 + ((E (mg y) : Int) - 1074) + 2176).toNat = (V (mg x) : Int) * (V (mg y) : Int) * 268435456 := by
  have e : ((E (mg x) : Int) - 1074 + ((E (mg y) : Int) - 1074) + 2176).toNat = E (mg x) + E (mg y) + 28 := by omega
  have h := Int.emod_add_mul_ediv ((M (mg x) : Int) * (M (mg y) : Int)) 18446744073709551616
  rw [Int.mul_comm, Int.mul_comm (18446744073709551616 : Int)] at h
  rw [e, Int.pow_add, Int.pow_add, show (2 : Int) ^ 28 = 268435456 from rfl]
  unfold V
  rw [Int.natCast_mul, Int.natCast_mul, Int.natCast_pow, Int.natCast_pow, show ((2 : Nat) : Int) = 2 from rfl]
  generalize (2 : Int) ^ E (mg x) = a
  generalize (2 : Int) ^ E (mg y) = b
  generalize (M (mg x) : Int) = m at *
  generalize (M (mg y) : Int) = n at *
  have h2 : m * n / 18446744073709551616 * 18446744073709551616 + m * n % 18446744073709551616 = m * n := by
    have := Int.emod_add_mul_ediv (m * n) 18446744073709551616; omega
  rw [h2]; grind
theorem prod_val {x y : Nat} (X : Int) :
    (if (ng x ^^ ng y) = true then X - ((M (mg x) : Int) * (M (mg y) : Int) / 18446744073709551616 * 18446744073709551616 + (M (mg x) : Int) * (M (mg y) : Int) % 18446744073709551616) * 2 ^ ((E (mg x) : Int) - 1074 + ((E (mg y) : Int) - 1074) + 2176).toNat
      else X + ((M (mg x) : Int) * (M (mg y) : Int) / 18446744073709551616 * 18446744073709551616 + (M (mg x) : Int) * (M (mg y) : Int) % 18446744073709551616) * 2 ^ ((E (mg x) : Int) - 1074 + ((E (mg y) : Int) - 1074) + 2176).toNat) = X + iv x * iv y * 268435456 := by
  rw [mul_val]
  unfold iv
  generalize (V (mg x) : Int) = a
  generalize (V (mg y) : Int) = b
  have e : a * b * 268435456 = b * a * 268435456 := by grind
  cases ng x <;> cases ng y <;> simp only [Bool.xor_false, Bool.xor_true, Bool.not_true, Bool.not_false, if_true, Bool.false_eq_true, if_false, Int.neg_mul, Int.mul_neg, Int.neg_neg] <;> omega

/-- the product of two floats, one of which isn't finite. -/
theorem mul_odd {x y : Nat} (h : ¬ (mg x < INF ∧ mg y < INF)) :
    ((isN x = true ∨ isN y = true ∨ mg x = 0 ∨ mg y = 0) ∧ floatBits .mul .f64 x y = none) ∨
    (¬ (isN x = true ∨ isN y = true ∨ mg x = 0 ∨ mg y = 0) ∧ floatBits .mul .f64 x y = some (wd (ng x ^^ ng y) INF)) := by
  have hI := INF_eq
  show (_ ∧ Ieee.double.mul x y = none) ∨ (_ ∧ Ieee.double.mul x y = _)
  by_cases hnx : isN x = true
  · exact .inl ⟨.inl hnx, mul_nan_left (isN_true.1 hnx)⟩
  by_cases hny : isN y = true
  · exact .inl ⟨.inr (.inl hny), mul_nan_right (isN_true.1 hny)⟩
  rw [Bool.not_eq_true] at hnx hny
  have ix := isN_false.1 hnx
  have iy := isN_false.1 hny
  by_cases hfx : mg x < INF
  · have e := mul_fin_inf (a := x) (b := y) hfx (by omega)
    by_cases h0 : mg x = 0
    · rw [if_pos h0] at e
      exact .inl ⟨.inr (.inr (.inl h0)), e⟩
    · rw [if_neg h0, Bool.xor_comm] at e
      refine .inr ⟨?_, e⟩
      rw [hnx, hny]
      rintro (h | h | h | h) <;> first | cases h | omega
  · by_cases hfy : mg y < INF
    · have e := mul_inf_fin (a := x) (b := y) (by omega) hfy
      by_cases h0 : mg y = 0
      · rw [if_pos h0] at e
        exact .inl ⟨.inr (.inr (.inr h0)), e⟩
      · rw [if_neg h0] at e
        refine .inr ⟨?_, e⟩
        rw [hnx, hny]
        rintro (h | h | h | h) <;> first | cases h | omega
    · have e := mul_inf_inf (a := x) (b := y) (by omega) (by omega)
      refine .inr ⟨?_, e⟩
      rw [hnx, hny]
      rintro (h | h | h | h) <;> first | cases h | omega
theorem wd_inf (s : Bool) : W64 (wd s INF) ∧ eqW (wd s INF) (wd s INF) = true ∧ (s = false → ltW 9218868437227405311 (wd s INF) = true) ∧ (s = true → ltW 9218868437227405311 (wd s INF) = false ∧ ltW 9218868437227405311 (op (wd s INF)) = true) := by
  refine ⟨wd_lt INF_lt, ?_, ?_, ?_⟩
  · cases s <;> kernel_rfl
  · rintro rfl; kernel_rfl
  · rintro rfl; exact ⟨by kernel_rfl, by kernel_rfl⟩
set_option maxHeartbeats 4000000 in
theorem mul_some (b : Nat) (g : AccG) (w : World) (h : AccIs w b g) (ok : GOk g) (x y : Nat) (hx : W64 x) (hy : W64 y) (hc : g.cnt < 1048576) :
    Calls Try.prog 12 #[.pointer (some ⟨b, 0, none⟩), .float .f64 x, .float .f64 y] w (AddP w b (mulG g x y) 0) := by
  obtain ⟨d, hX, h⟩ := h
  obtain ⟨c, f⟩ := h.cnt
  obtain ⟨cz, fz⟩ := h.nz
  have c0 := ok.c0
  have z0 := ok.z0
  have z9 := ok.z9
  have KR := Lib.hid fun w' (hw : AccAt w' b ⟨d, g.cnt, g.nz, g.up, g.dn, g.nn⟩) => (room_any b _ w' hw 1 0 ok.c0 ok.c9 (by omega) (by omega) (by rw [if_neg (by dsimp only; omega)]))
  have HX := Lib.hid hX
  have C1 := (Chg.refl b w).set 70 (.int .i64 (g.cnt + 1))
  have H1 := h.setCnt (g.cnt + 1)
  have HH := Lib.hid (⟨C1, H1⟩ : _ ∧ _)
  clear hX ok C1 H1
  obtain ⟨f1, e1⟩ : ∃ f, f = decide (mg x < INF) := ⟨_, rfl⟩
  obtain ⟨f2, e2⟩ : ∃ f, f = decide (mg y < INF) := ⟨_, rfl⟩
  have KF1 := Lib.hid fun w => finite_any x hx f1 e1 w
  have KF2 := Lib.hid fun w => finite_any y hy f2 e2 w
  by_cases hfin : mg x < INF ∧ mg y < INF
  · obtain ⟨hfx, hfy⟩ := hfin
    rw [decide_eq_true hfx] at e1
    rw [decide_eq_true hfy] at e2
    subst e1 e2
    have eg : mulG g x y = { g with cnt := g.cnt + 1, X := g.X + iv x * iv y * 268435456, nz := g.nz + if (mg x = 0 ∨ mg y = 0) ∧ (ng x ^^ ng y) = true then 1 else 0 } := if_pos ⟨hfx, hfy⟩
    rw [eg]; clear eg
    obtain ⟨m, hm⟩ : ∃ m : Int, m = M (mg x) := ⟨_, rfl⟩
    obtain ⟨e, he⟩ : ∃ e : Int, e = (E (mg x) : Int) - 1074 := ⟨_, rfl⟩
    obtain ⟨n, hn⟩ : ∃ m : Int, m = M (mg y) := ⟨_, rfl⟩
    obtain ⟨k, hk⟩ : ∃ e : Int, e = (E (mg y) : Int) - 1074 := ⟨_, rfl⟩
    obtain ⟨s, hs⟩ : ∃ s, s = ng x := ⟨_, rfl⟩
    obtain ⟨t, ht⟩ : ∃ s, s = ng y := ⟨_, rfl⟩
    obtain ⟨S, hS⟩ : ∃ S, S = (ng x ^^ ng y) := ⟨_, rfl⟩
    have hM := M_lt (mg x)
    have hN := M_lt (mg y)
    have hI := INF_eq
    have hE : E (mg x) ≤ 2045 := by unfold E; omega
    have hF : E (mg y) ≤ 2045 := by unfold E; omega
    have KP1 := Lib.hid fun w => parts_any x hx hfx m e hm he w
    have KP2 := Lib.hid fun w => parts_any y hy hfy n k hn hk w
    have KS1 := Lib.hid fun w => (by rw [hs]; exact signbit_any x hx w : Calls Try.prog 30 #[.float .f64 x] w fun e w' => e = .returned (.bool s) ∧ w = w')
    have KS2 := Lib.hid fun w => (by rw [ht]; exact signbit_any y hy w : Calls Try.prog 30 #[.float .f64 y] w fun e w' => e = .returned (.bool t) ∧ w = w')
    have nx : isN x = false := isN_false.2 (by omega)
    have ny : isN y = false := isN_false.2 (by omega)
    have hx0 : eqW x 0 = decide (mg x = 0) := by rw [eqW_zero, nx]; rfl
    have hy0 : eqW y 0 = decide (mg y = 0) := by rw [eqW_zero, ny]; rfl
    have m0 : 0 ≤ m := by omega
    have m9 : m < 9007199254740992 := by omega
    have n0 : 0 ≤ n := by omega
    have n9 : n < 9007199254740992 := by omega
    have e0 : -1074 ≤ e := by omega
    have e9 : e ≤ 971 := by omega
    have k0 : -1074 ≤ k := by omega
    have k9 : k ≤ 971 := by omega
    have hval := prod_val (x := x) (y := y) g.X
    rw [← hm, ← he, ← hn, ← hk, ← hS] at hval
    have hst : (s != t) = S := by rw [hs, ht, hS]
    rw [← hS]
    obtain ⟨h1, hh1⟩ : ∃ h, h = m * n / 18446744073709551616 := ⟨_, rfl⟩
    obtain ⟨l1, hl1⟩ : ∃ h, h = m * n % 18446744073709551616 := ⟨_, rfl⟩
    have KM := Lib.hid fun w => (by rw [hh1, hl1]; exact mul64_any m n m0 (by omega) n0 (by omega) w : Calls Try.prog 32 #[.int .u64 m, .int .u64 n] w fun e w' => e = .returned (.tuple #[.int .u64 h1, .int .u64 l1]) ∧ w = w')
    have hmn : 0 ≤ m * n := Int.mul_nonneg m0 n0
    have hmn9 : m * n ≤ 9007199254740992 * 9007199254740992 := Int.mul_le_mul (Int.le_of_lt m9) (Int.le_of_lt n9) n0 (by decide)
    have b0 : 0 ≤ h1 := by omega
    have b9 : h1 < 18446744073709551616 := by omega
    have b2 : 0 ≤ l1 := by omega
    have b3 : l1 < 18446744073709551616 := by omega
    rw [← hh1, ← hl1] at hval
    have HV := Lib.hid hval
    have PUTZ := Lib.hid fun w' z (hw : AccAt w' b ⟨d, g.cnt + 1, z, g.up, g.dn, g.nn⟩) => put_is b d _ _ _ _ _ g.X w' hw HX.out S h1 l1 (e + k) (by omega) (by omega) b0 b9 b2 b3
    have HZ := Lib.hid (⟨HH.out.1.set 71 (.int .i64 (g.nz + 1)), HH.out.2.setNz (g.nz + 1)⟩ : _ ∧ _)
    clear hm he hn hk hs ht hS hM hN hE hF nx ny hval hh1 hl1 hmn hmn9 b0 b9 b2 b3 hI hfx hfy
    have hst2 := hst
    clear hst
    cases s <;> cases t
    · obtain rfl : false = S := hst2
      rw [show (if (mg x = 0 ∨ mg y = 0) ∧ false = true then (1 : Int) else 0) = 0 from if_neg (by simp), Int.add_zero]
      have PUT := Lib.hid fun w' hw => PUTZ.out w' g.nz hw
      clear PUTZ hx0 hy0
      go_enter Try.func12, Try.ntmps12
      go_wp2_with (first | (go_at_call 27; ((with_reducible refine (KR.out _ h).mono ?_)); rintro e w' ⟨rfl, rfl⟩) | (go_at_call 28; (first | ((with_reducible refine (KF1.out _).mono ?_)) | ((with_reducible refine (KF2.out _).mono ?_))); rintro e w' ⟨rfl, rfl⟩) | (go_at_call 30; (first | ((with_reducible refine (KS1.out _).mono ?_)) | ((with_reducible refine (KS2.out _).mono ?_))); rintro e w' ⟨rfl, rfl⟩) | (go_at_call 31; (first | ((with_reducible refine (KP1.out _).mono ?_)) | ((with_reducible refine (KP2.out _).mono ?_))); rintro e w' ⟨rfl, rfl⟩) | (go_at_call 32; ((with_reducible refine (KM.out _).mono ?_)); rintro e w' ⟨rfl, rfl⟩))
      refine (PUT.out _ HH.out.2).mono ?_
      rintro e' w' ⟨rfl, ha, hch⟩
      have K2 := Lib.hid (⟨ha, hch⟩ : _ ∧ _)
      clear ha hch
      go_wp2_with fail
      go_ret
      refine ⟨rfl, ?_, HH.out.1.trans K2.out.2⟩
      rw [← HV.out]; exact K2.out.1
    · obtain rfl : true = S := hst2
      by_cases hx1 : mg x = 0
      · rw [decide_eq_true hx1] at hx0
        rw [show (if (mg x = 0 ∨ mg y = 0) ∧ true = true then (1 : Int) else 0) = 1 from if_pos ⟨.inl hx1, rfl⟩]
        have PUT := Lib.hid fun w' hw => PUTZ.out w' (g.nz + 1) hw
        clear hx1 PUTZ hy0
        go_enter Try.func12, Try.ntmps12
        go_wp2_with (first | (go_at_call 27; ((with_reducible refine (KR.out _ h).mono ?_)); rintro e w' ⟨rfl, rfl⟩) | (go_at_call 28; (first | ((with_reducible refine (KF1.out _).mono ?_)) | ((with_reducible refine (KF2.out _).mono ?_))); rintro e w' ⟨rfl, rfl⟩) | (go_at_call 30; (first | ((with_reducible refine (KS1.out _).mono ?_)) | ((with_reducible refine (KS2.out _).mono ?_))); rintro e w' ⟨rfl, rfl⟩) | (go_at_call 31; (first | ((with_reducible refine (KP1.out _).mono ?_)) | ((with_reducible refine (KP2.out _).mono ?_))); rintro e w' ⟨rfl, rfl⟩) | (go_at_call 32; ((with_reducible refine (KM.out _).mono ?_)); rintro e w' ⟨rfl, rfl⟩))
        refine (PUT.out _ HZ.out.2).mono ?_
        rintro e' w' ⟨rfl, ha, hch⟩
        have K2 := Lib.hid (⟨ha, hch⟩ : _ ∧ _)
        clear ha hch
        go_wp2_with fail
        go_ret
        refine ⟨rfl, ?_, HZ.out.1.trans K2.out.2⟩
        rw [← HV.out]; exact K2.out.1
      · rw [decide_eq_false hx1] at hx0
        by_cases hy1 : mg y = 0
        · rw [decide_eq_true hy1] at hy0
          rw [show (if (mg x = 0 ∨ mg y = 0) ∧ true = true then (1 : Int) else 0) = 1 from if_pos ⟨.inr hy1, rfl⟩]
          have PUT := Lib.hid fun w' hw => PUTZ.out w' (g.nz + 1) hw
          clear hx1 hy1 PUTZ
          go_enter Try.func12, Try.ntmps12
          go_wp2_with (first | (go_at_call 27; ((with_reducible refine (KR.out _ h).mono ?_)); rintro e w' ⟨rfl, rfl⟩) | (go_at_call 28; (first | ((with_reducible refine (KF1.out _).mono ?_)) | ((with_reducible refine (KF2.out _).mono ?_))); rintro e w' ⟨rfl, rfl⟩) | (go_at_call 30; (first | ((with_reducible refine (KS1.out _).mono ?_)) | ((with_reducible refine (KS2.out _).mono ?_))); rintro e w' ⟨rfl, rfl⟩) | (go_at_call 31; (first | ((with_reducible refine (KP1.out _).mono ?_)) | ((with_reducible refine (KP2.out _).mono ?_))); rintro e w' ⟨rfl, rfl⟩) | (go_at_call 32; ((with_reducible refine (KM.out _).mono ?_)); rintro e w' ⟨rfl, rfl⟩))
          refine (PUT.out _ HZ.out.2).mono ?_
          rintro e' w' ⟨rfl, ha, hch⟩
          have K2 := Lib.hid (⟨ha, hch⟩ : _ ∧ _)
          clear ha hch
          go_wp2_with fail
          go_ret
          refine ⟨rfl, ?_, HZ.out.1.trans K2.out.2⟩
          rw [← HV.out]; exact K2.out.1
        · rw [decide_eq_false hy1] at hy0
          rw [show (if (mg x = 0 ∨ mg y = 0) ∧ true = true then (1 : Int) else 0) = 0 from if_neg (by omega), Int.add_zero]
          have PUT := Lib.hid fun w' hw => PUTZ.out w' g.nz hw
          clear hx1 hy1 PUTZ
          go_enter Try.func12, Try.ntmps12
          go_wp2_with (first | (go_at_call 27; ((with_reducible refine (KR.out _ h).mono ?_)); rintro e w' ⟨rfl, rfl⟩) | (go_at_call 28; (first | ((with_reducible refine (KF1.out _).mono ?_)) | ((with_reducible refine (KF2.out _).mono ?_))); rintro e w' ⟨rfl, rfl⟩) | (go_at_call 30; (first | ((with_reducible refine (KS1.out _).mono ?_)) | ((with_reducible refine (KS2.out _).mono ?_))); rintro e w' ⟨rfl, rfl⟩) | (go_at_call 31; (first | ((with_reducible refine (KP1.out _).mono ?_)) | ((with_reducible refine (KP2.out _).mono ?_))); rintro e w' ⟨rfl, rfl⟩) | (go_at_call 32; ((with_reducible refine (KM.out _).mono ?_)); rintro e w' ⟨rfl, rfl⟩))
          refine (PUT.out _ HH.out.2).mono ?_
          rintro e' w' ⟨rfl, ha, hch⟩
          have K2 := Lib.hid (⟨ha, hch⟩ : _ ∧ _)
          clear ha hch
          go_wp2_with fail
          go_ret
          refine ⟨rfl, ?_, HH.out.1.trans K2.out.2⟩
          rw [← HV.out]; exact K2.out.1
    · obtain rfl : true = S := hst2
      by_cases hx1 : mg x = 0
      · rw [decide_eq_true hx1] at hx0
        rw [show (if (mg x = 0 ∨ mg y = 0) ∧ true = true then (1 : Int) else 0) = 1 from if_pos ⟨.inl hx1, rfl⟩]
        have PUT := Lib.hid fun w' hw => PUTZ.out w' (g.nz + 1) hw
        clear hx1 PUTZ hy0
        go_enter Try.func12, Try.ntmps12
        go_wp2_with (first | (go_at_call 27; ((with_reducible refine (KR.out _ h).mono ?_)); rintro e w' ⟨rfl, rfl⟩) | (go_at_call 28; (first | ((with_reducible refine (KF1.out _).mono ?_)) | ((with_reducible refine (KF2.out _).mono ?_))); rintro e w' ⟨rfl, rfl⟩) | (go_at_call 30; (first | ((with_reducible refine (KS1.out _).mono ?_)) | ((with_reducible refine (KS2.out _).mono ?_))); rintro e w' ⟨rfl, rfl⟩) | (go_at_call 31; (first | ((with_reducible refine (KP1.out _).mono ?_)) | ((with_reducible refine (KP2.out _).mono ?_))); rintro e w' ⟨rfl, rfl⟩) | (go_at_call 32; ((with_reducible refine (KM.out _).mono ?_)); rintro e w' ⟨rfl, rfl⟩))
        refine (PUT.out _ HZ.out.2).mono ?_
        rintro e' w' ⟨rfl, ha, hch⟩
        have K2 := Lib.hid (⟨ha, hch⟩ : _ ∧ _)
        clear ha hch
        go_wp2_with fail
        go_ret
        refine ⟨rfl, ?_, HZ.out.1.trans K2.out.2⟩
        rw [← HV.out]; exact K2.out.1
      · rw [decide_eq_false hx1] at hx0
        by_cases hy1 : mg y = 0
        · rw [decide_eq_true hy1] at hy0
          rw [show (if (mg x = 0 ∨ mg y = 0) ∧ true = true then (1 : Int) else 0) = 1 from if_pos ⟨.inr hy1, rfl⟩]
          have PUT := Lib.hid fun w' hw => PUTZ.out w' (g.nz + 1) hw
          clear hx1 hy1 PUTZ
          go_enter Try.func12, Try.ntmps12
          go_wp2_with (first | (go_at_call 27; ((with_reducible refine (KR.out _ h).mono ?_)); rintro e w' ⟨rfl, rfl⟩) | (go_at_call 28; (first | ((with_reducible refine (KF1.out _).mono ?_)) | ((with_reducible refine (KF2.out _).mono ?_))); rintro e w' ⟨rfl, rfl⟩) | (go_at_call 30; (first | ((with_reducible refine (KS1.out _).mono ?_)) | ((with_reducible refine (KS2.out _).mono ?_))); rintro e w' ⟨rfl, rfl⟩) | (go_at_call 31; (first | ((with_reducible refine (KP1.out _).mono ?_)) | ((with_reducible refine (KP2.out _).mono ?_))); rintro e w' ⟨rfl, rfl⟩) | (go_at_call 32; ((with_reducible refine (KM.out _).mono ?_)); rintro e w' ⟨rfl, rfl⟩))
          refine (PUT.out _ HZ.out.2).mono ?_
          rintro e' w' ⟨rfl, ha, hch⟩
          have K2 := Lib.hid (⟨ha, hch⟩ : _ ∧ _)
          clear ha hch
          go_wp2_with fail
          go_ret
          refine ⟨rfl, ?_, HZ.out.1.trans K2.out.2⟩
          rw [← HV.out]; exact K2.out.1
        · rw [decide_eq_false hy1] at hy0
          rw [show (if (mg x = 0 ∨ mg y = 0) ∧ true = true then (1 : Int) else 0) = 0 from if_neg (by omega), Int.add_zero]
          have PUT := Lib.hid fun w' hw => PUTZ.out w' g.nz hw
          clear hx1 hy1 PUTZ
          go_enter Try.func12, Try.ntmps12
          go_wp2_with (first | (go_at_call 27; ((with_reducible refine (KR.out _ h).mono ?_)); rintro e w' ⟨rfl, rfl⟩) | (go_at_call 28; (first | ((with_reducible refine (KF1.out _).mono ?_)) | ((with_reducible refine (KF2.out _).mono ?_))); rintro e w' ⟨rfl, rfl⟩) | (go_at_call 30; (first | ((with_reducible refine (KS1.out _).mono ?_)) | ((with_reducible refine (KS2.out _).mono ?_))); rintro e w' ⟨rfl, rfl⟩) | (go_at_call 31; (first | ((with_reducible refine (KP1.out _).mono ?_)) | ((with_reducible refine (KP2.out _).mono ?_))); rintro e w' ⟨rfl, rfl⟩) | (go_at_call 32; ((with_reducible refine (KM.out _).mono ?_)); rintro e w' ⟨rfl, rfl⟩))
          refine (PUT.out _ HH.out.2).mono ?_
          rintro e' w' ⟨rfl, ha, hch⟩
          have K2 := Lib.hid (⟨ha, hch⟩ : _ ∧ _)
          clear ha hch
          go_wp2_with fail
          go_ret
          refine ⟨rfl, ?_, HH.out.1.trans K2.out.2⟩
          rw [← HV.out]; exact K2.out.1
    · obtain rfl : false = S := hst2
      rw [show (if (mg x = 0 ∨ mg y = 0) ∧ false = true then (1 : Int) else 0) = 0 from if_neg (by simp), Int.add_zero]
      have PUT := Lib.hid fun w' hw => PUTZ.out w' g.nz hw
      clear PUTZ hx0 hy0
      go_enter Try.func12, Try.ntmps12
      go_wp2_with (first | (go_at_call 27; ((with_reducible refine (KR.out _ h).mono ?_)); rintro e w' ⟨rfl, rfl⟩) | (go_at_call 28; (first | ((with_reducible refine (KF1.out _).mono ?_)) | ((with_reducible refine (KF2.out _).mono ?_))); rintro e w' ⟨rfl, rfl⟩) | (go_at_call 30; (first | ((with_reducible refine (KS1.out _).mono ?_)) | ((with_reducible refine (KS2.out _).mono ?_))); rintro e w' ⟨rfl, rfl⟩) | (go_at_call 31; (first | ((with_reducible refine (KP1.out _).mono ?_)) | ((with_reducible refine (KP2.out _).mono ?_))); rintro e w' ⟨rfl, rfl⟩) | (go_at_call 32; ((with_reducible refine (KM.out _).mono ?_)); rintro e w' ⟨rfl, rfl⟩))
      refine (PUT.out _ HH.out.2).mono ?_
      rintro e' w' ⟨rfl, ha, hch⟩
      have K2 := Lib.hid (⟨ha, hch⟩ : _ ∧ _)
      clear ha hch
      go_wp2_with fail
      go_ret
      refine ⟨rfl, ?_, HH.out.1.trans K2.out.2⟩
      rw [← HV.out]; exact K2.out.1
  · have hd : f1 = false ∨ (f1 = true ∧ f2 = false) := by
      rw [e1, e2]
      by_cases h : mg x < INF
      · right; exact ⟨decide_eq_true h, decide_eq_false (fun h2 => hfin ⟨h, h2⟩)⟩
      · left; exact decide_eq_false h
    clear e1 e2
    rcases mul_odd hfin with ⟨g1, g2⟩ | ⟨g1, g2⟩
    · have eg : mulG g x y = { g with cnt := g.cnt + 1, nn := true } := by unfold mulG; rw [if_neg hfin, if_pos g1]
      rw [eg]; clear eg
      obtain ⟨q, q1, q2, k1⟩ := run_invalid (P := Try.prog) 22 (.inr (.inr (.inl rfl))) g2 (w.setCell ⟨b, 70, none⟩ (.int .i64 (g.cnt + 1)))
      have hq : eqW q q = false := by rw [eqW_self, isN_true.2 q2]; rfl
      have HQ := Lib.hid hq
      clear q1 q2 g1 g2 hfin hq
      rcases hd with rfl | ⟨rfl, rfl⟩
      all_goals
        go_enter Try.func12, Try.ntmps12
        go_wp2_with (first | (go_at_call 27; ((with_reducible refine (KR.out _ h).mono ?_)); rintro e w' ⟨rfl, rfl⟩) | (go_at_call 28; (first | ((with_reducible refine (KF1.out _).mono ?_)) | ((with_reducible refine (KF2.out _).mono ?_))); rintro e w' ⟨rfl, rfl⟩))
        refine (odd_nan b _ _ HH.out.2.drew q HQ.out).mono ?_
        rintro e' w' ⟨rfl, ha, hch⟩
        have K2 := Lib.hid (⟨ha, hch⟩ : _ ∧ _)
        clear ha hch
        go_wp2_with fail
        go_ret
        exact ⟨rfl, ⟨d, HX.out, K2.out.1⟩, HH.out.1.drew.trans K2.out.2⟩
    · obtain ⟨S, hS⟩ : ∃ S, S = (ng x ^^ ng y) := ⟨_, rfl⟩
      rw [← hS] at g2
      obtain ⟨i1, i2, i3, i4⟩ := wd_inf S
      obtain ⟨q, hq⟩ : ∃ q, q = wd S INF := ⟨_, rfl⟩
      rw [← hq] at g2 i1 i2 i3 i4
      have k1 := run_valid (P := Try.prog) 22 g2
      cases S
      · have eg : mulG g x y = { g with cnt := g.cnt + 1, up := true } := by unfold mulG; rw [if_neg hfin, if_neg g1, if_neg (by rw [← hS]; simp)]
        rw [eg]; clear eg
        have i5 := i3 rfl
        clear i3 i4 g1 g2 hfin hS hq
        rcases hd with rfl | ⟨rfl, rfl⟩
        all_goals
          go_enter Try.func12, Try.ntmps12
          go_wp2_with (first | (go_at_call 27; ((with_reducible refine (KR.out _ h).mono ?_)); rintro e w' ⟨rfl, rfl⟩) | (go_at_call 28; (first | ((with_reducible refine (KF1.out _).mono ?_)) | ((with_reducible refine (KF2.out _).mono ?_))); rintro e w' ⟨rfl, rfl⟩))
          refine (odd_up b _ _ HH.out.2 q i2 i5).mono ?_
          rintro e' w' ⟨rfl, ha, hch⟩
          have K2 := Lib.hid (⟨ha, hch⟩ : _ ∧ _)
          clear ha hch
          go_wp2_with fail
          go_ret
          exact ⟨rfl, ⟨d, HX.out, K2.out.1⟩, HH.out.1.trans K2.out.2⟩
      · have eg : mulG g x y = { g with cnt := g.cnt + 1, dn := true } := by unfold mulG; rw [if_neg hfin, if_neg g1, if_pos (by rw [← hS])]
        rw [eg]; clear eg
        obtain ⟨i5, i6⟩ := i4 rfl
        clear i3 i4 g1 g2 hfin hS hq
        rcases hd with rfl | ⟨rfl, rfl⟩
        all_goals
          go_enter Try.func12, Try.ntmps12
          go_wp2_with (first | (go_at_call 27; ((with_reducible refine (KR.out _ h).mono ?_)); rintro e w' ⟨rfl, rfl⟩) | (go_at_call 28; (first | ((with_reducible refine (KF1.out _).mono ?_)) | ((with_reducible refine (KF2.out _).mono ?_))); rintro e w' ⟨rfl, rfl⟩))
          refine (odd_dn b _ _ HH.out.2 q i1 i2 i5 i6).mono ?_
          rintro e' w' ⟨rfl, ha, hch⟩
          have K2 := Lib.hid (⟨ha, hch⟩ : _ ∧ _)
          clear ha hch
          go_wp2_with fail
          go_ret
          exact ⟨rfl, ⟨d, HX.out, K2.out.1⟩, HH.out.1.trans K2.out.2⟩
theorem mul_full (b : Nat) (g : AccG) (w : World) (h : AccIs w b g) (ok : GOk g) (x y : Nat) (hc : g.cnt = 1048576) :
    Calls Try.prog 12 #[.pointer (some ⟨b, 0, none⟩), .float .f64 x, .float .f64 y] w fun e w' => e = .returned (.int .i64 3) ∧ w = w' := by
  obtain ⟨d, hX, h⟩ := h
  have KR := Lib.hid fun w' (hw : AccAt w' b ⟨d, g.cnt, g.nz, g.up, g.dn, g.nn⟩) => (room_any b _ w' hw 1 3 ok.c0 ok.c9 (by omega) (by omega) (by rw [if_pos (by dsimp only; omega)]))
  clear hX ok hc
  go_enter Try.func12, Try.ntmps12
  go_wp2_with (go_at_call 27; ((with_reducible refine (KR.out _ h).mono ?_)); rintro e w' ⟨rfl, rfl⟩)
  go_ret
  exact ⟨rfl, rfl⟩
theorem mul_nil (x y : Nat) (w : World) :
    Calls Try.prog 12 #[.pointer none, .float .f64 x, .float .f64 y] w fun e w' => e = .returned (.int .i64 2) ∧ w = w' := by
  go_enter Try.func12, Try.ntmps12
  go_wp2_with (go_at_call 27; ((with_reducible refine (room_nil _ _).mono ?_)); rintro e w' ⟨rfl, rfl⟩)
  go_ret
  exact ⟨rfl, rfl⟩
end Go.Proofs.Ytneedadoafcfcaa
