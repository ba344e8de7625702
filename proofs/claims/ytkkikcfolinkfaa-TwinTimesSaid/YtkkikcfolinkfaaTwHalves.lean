/- The statement TwinHalves: two halves of 26 bits. -/
import Derived.Test.YtkkikcfolinkfaaTwExact
import Derived.Test.YtkkikcfolinkfaaTwinE2
namespace Go.Proofs.Ytkkikcfolinkfaa
open Go Go.RowKit TF

attribute [local go_sem] cmp_eq cmp_ne cmp_lt cmp_gt cmp_le cmp_ge

theorem short_any (x : Nat) (w : World) (hx : W64 x) (hf : mg x < INF) (hs : Short (M (mg x) : Nat)) :
    Calls Try.prog 26 #[.float .f64 x] w fun e' w' => e' = .returned (.bool true) ∧ w = w' := by
  obtain ⟨m, hm⟩ : ∃ m : Int, m = M (mg x) := ⟨_, rfl⟩
  obtain ⟨e, he⟩ : ∃ e : Int, e = E (mg x) := ⟨_, rfl⟩
  have hM := M_lt (mg x)
  rw [← hm] at hs
  have m0 : 0 ≤ m := by omega
  have m9 : m ≤ 9007199254740992 := by omega
  have HM := Lib.hid hm
  have HE := Lib.hid he
  have HS := Lib.hid hs
  clear hm he hM hs
  go_enter Try.func26, Try.ntmps26
  go_wp2_with (first | (go_at_call 46; ((with_reducible refine (wparts_any x m e HM.out HE.out hx hf _).mono ?_)); rintro e w' ⟨rfl, rfl⟩))
  go_loopw [4] (fun v wr => ∃ m : Int, v = .int .u64 m ∧ 0 ≤ m ∧ m ≤ 9007199254740992 ∧ Hid (Short m) ∧ Below w.heap.size w wr ∧ w = wr) (fun v _ => (intOf v).toNat)
  case atStart => exact ⟨m, rfl, m0, m9, HS, Below.refl _ _, by first | rfl | trivial⟩
  case round =>
    obtain ⟨k, rfl, k0, k9, HK, -, rfl⟩ := hrel
    by_cases h0 : k = 0
    · subst h0
      go_wp2
      go_ret
      exact ⟨rfl, by first | rfl | trivial⟩
    · have c1 : (k != 0) = true := by simp [h0]
      by_cases h1 : k % 2 = 0
      · have c2 : (k % 2 == 0) = true := by simp [h1]
        have HH := Lib.hid (HK.out.half h1)
        clear h1
        go_wp2
        go_roundw
        case rel => exact ⟨k / 2, by go_num, by omega, by omega, HH, Below.refl _ _, by first | rfl | trivial⟩
        case measure => simp [intOf]; omega
      · have c2 : (k % 2 == 0) = false := by simp [h1]
        have c3 : k < 67108864 := HK.out.odd (by omega)
        go_wp2
        go_ret
        exact ⟨rfl, by first | rfl | trivial⟩

set_option maxRecDepth 100000 in
set_option maxHeartbeats 4000000 in
theorem twinHalves_walk (x : Nat) (w : World) (hx : W64 x) :
    Calls Try.prog 6 #[.float .f64 x] w fun e w' => e = .returned (.bool true) ∧ Below w.heap.size w w' := by
  have p1 : sameB (canonW (splitW x).1) (splitW x).1 = true := by rw [(plain_split x).1]; exact sameB_self _
  have p2 : sameB (canonW (splitW x).2) (splitW x).2 = true := by rw [(plain_split x).2]; exact sameB_self _
  have hd := fin_dec x
  have c1 := run_neg Try.prog hx
  by_cases hs : mg x ≤ 9092767647661031424
  · have SI := split_is hx hs
    have hf : decide (mg x < INF) = true := by simp [SI.fx]
    obtain ⟨b1, b2⟩ := beyond (p := 9092767647661031424) hx (by decide) SI.fx
    rw [decide_eq_false (by omega : ¬ 9092767647661031424 < mg x), Bool.and_false] at b1 b2
    have HEQ := Lib.hid (fun y => equal_any x 0 (splitW x).1 (splitW x).2 y hx (show (0 : Nat) < 2 ^ 64 by decide) (splitW_lt x hx).1 (splitW_lt x hx).2 SI.fx (by decide) SI.fh SI.fl SI.all)
    have HSH := Lib.hid (fun y => short_any (splitW x).1 y (splitW_lt x hx).1 SI.fh SI.sh)
    have HSL := Lib.hid (fun y => short_any (splitW x).2 y (splitW_lt x hx).2 SI.fl SI.sl)
    clear SI hs
    go_enter Try.func6, Try.ntmps6
    go_wp2_with (first | (go_at_call 11; refine (awake_any _).mono ?_; rintro e w' ⟨rfl, rfl⟩) | (go_at_call 17; ((with_reducible refine (split_any x hx _).mono ?_)); rintro e1 w1 ⟨rfl, rfl⟩) | (go_at_call 19; ((with_reducible refine (plain_any _ _).mono ?_)); rintro e1 w' ⟨rfl, rfl⟩) | (go_at_call 20; ((with_reducible refine (rsame_any _ _ _).mono ?_)); rintro e1 w' ⟨rfl, rfl⟩) | (go_at_call 22; ((with_reducible refine (wfin_any _ _).mono ?_)); rintro e1 w' ⟨rfl, rfl⟩) | (go_at_call 23; ((with_reducible refine (rbits_any _ _ rfl _).mono ?_)); rintro e1 w' ⟨rfl, rfl⟩) | (go_at_call 24; ((with_reducible refine (HEQ.out _).mono ?_)); rintro e1 w3 ⟨rfl, hB3⟩) | (go_at_call 25; ((with_reducible refine (from_any _ _).mono ?_)); rintro e1 w' ⟨rfl, rfl⟩) | (go_at_call 26; ((with_reducible refine (HSH.out _).mono ?_)); rintro e1 w' ⟨rfl, rfl⟩) | (go_at_call 26; ((with_reducible refine (HSL.out _).mono ?_)); rintro e1 w' ⟨rfl, rfl⟩) | (go_at_call 21; refine (canon_any _ _).mono ?_; rintro e w' ⟨rfl, rfl⟩))
    go_ret
    exact ⟨rfl, hB3⟩
  · have e := split_not hs
    have e2 : ((splitW x).2 : Int) = 0 := by rw [e]; rfl
    have e1 : sameB (splitW x).1 (canonW x) = true := by rw [e]; exact sameB_self _
    clear e
    by_cases hfx : mg x < INF
    · have hf : decide (mg x < INF) = true := by simp [hfx]
      obtain ⟨b1, b2⟩ := beyond (p := 9092767647661031424) hx (by decide) hfx
      rw [decide_eq_true (by omega : 9092767647661031424 < mg x), Bool.and_true] at b1 b2
      cases hn : ng x with
      | false =>
        rw [hn] at b1 b2
        simp only [Bool.not_false] at b1
        clear hs hfx hn
        go_enter Try.func6, Try.ntmps6
        go_wp2_with (first | (go_at_call 11; refine (awake_any _).mono ?_; rintro e w' ⟨rfl, rfl⟩) | (go_at_call 17; ((with_reducible refine (split_any x hx _).mono ?_)); rintro e1 w1 ⟨rfl, rfl⟩) | (go_at_call 19; ((with_reducible refine (plain_any _ _).mono ?_)); rintro e1 w' ⟨rfl, rfl⟩) | (go_at_call 20; ((with_reducible refine (rsame_any _ _ _).mono ?_)); rintro e1 w' ⟨rfl, rfl⟩) | (go_at_call 22; ((with_reducible refine (wfin_any _ _).mono ?_)); rintro e1 w' ⟨rfl, rfl⟩) | (go_at_call 23; ((with_reducible refine (rbits_any _ _ rfl _).mono ?_)); rintro e1 w' ⟨rfl, rfl⟩) | (go_at_call 25; ((with_reducible refine (from_any _ _).mono ?_)); rintro e1 w' ⟨rfl, rfl⟩) | (go_at_call 21; refine (canon_any _ _).mono ?_; rintro e w' ⟨rfl, rfl⟩))
        go_ret
        exact ⟨rfl, Below.refl _ _⟩
      | true =>
        rw [hn] at b1 b2
        simp only [Bool.not_true] at b1
        clear hs hfx hn
        go_enter Try.func6, Try.ntmps6
        go_wp2_with (first | (go_at_call 11; refine (awake_any _).mono ?_; rintro e w' ⟨rfl, rfl⟩) | (go_at_call 17; ((with_reducible refine (split_any x hx _).mono ?_)); rintro e1 w1 ⟨rfl, rfl⟩) | (go_at_call 19; ((with_reducible refine (plain_any _ _).mono ?_)); rintro e1 w' ⟨rfl, rfl⟩) | (go_at_call 20; ((with_reducible refine (rsame_any _ _ _).mono ?_)); rintro e1 w' ⟨rfl, rfl⟩) | (go_at_call 22; ((with_reducible refine (wfin_any _ _).mono ?_)); rintro e1 w' ⟨rfl, rfl⟩) | (go_at_call 23; ((with_reducible refine (rbits_any _ _ rfl _).mono ?_)); rintro e1 w' ⟨rfl, rfl⟩) | (go_at_call 25; ((with_reducible refine (from_any _ _).mono ?_)); rintro e1 w' ⟨rfl, rfl⟩) | (go_at_call 21; refine (canon_any _ _).mono ?_; rintro e w' ⟨rfl, rfl⟩))
        go_ret
        exact ⟨rfl, Below.refl _ _⟩
    · have hf : decide (mg x < INF) = false := by simp [hfx]
      clear hs hfx
      go_enter Try.func6, Try.ntmps6
      go_wp2_with (first | (go_at_call 11; refine (awake_any _).mono ?_; rintro e w' ⟨rfl, rfl⟩) | (go_at_call 17; ((with_reducible refine (split_any x hx _).mono ?_)); rintro e1 w1 ⟨rfl, rfl⟩) | (go_at_call 19; ((with_reducible refine (plain_any _ _).mono ?_)); rintro e1 w' ⟨rfl, rfl⟩) | (go_at_call 20; ((with_reducible refine (rsame_any _ _ _).mono ?_)); rintro e1 w' ⟨rfl, rfl⟩) | (go_at_call 22; ((with_reducible refine (wfin_any _ _).mono ?_)); rintro e1 w' ⟨rfl, rfl⟩) | (go_at_call 23; ((with_reducible refine (rbits_any _ _ rfl _).mono ?_)); rintro e1 w' ⟨rfl, rfl⟩) | (go_at_call 25; ((with_reducible refine (from_any _ _).mono ?_)); rintro e1 w' ⟨rfl, rfl⟩) | (go_at_call 21; refine (canon_any _ _).mono ?_; rintro e w' ⟨rfl, rfl⟩))
      go_ret
      exact ⟨rfl, Below.refl _ _⟩
end Go.Proofs.Ytkkikcfolinkfaa
