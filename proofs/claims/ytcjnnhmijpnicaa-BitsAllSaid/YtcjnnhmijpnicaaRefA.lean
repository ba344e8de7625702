/- The reference's functions of layer 1: each answers the plain function. -/
import Derived.Test.YtcjnnhmijpnicaaBase
import Derived.Test.YtcjnnhmijpnicaaRefF
namespace Go.Proofs.Ytcjnnhmijpnicaa
open Go.RowKit TF

attribute [local go_sem] cmp_eq cmp_ne cmp_lt cmp_gt cmp_le cmp_ge

theorem mag_any (b : Nat) (m : Int) (hm : m = mg b) (w : World) :
    Calls Try.prog 47 #[.float .f64 b] w fun e w' => e = .returned (.int .u64 m) ∧ w = w' := by
  obtain ⟨n, hn⟩ : ∃ n : Int, n = b := ⟨_, rfl⟩
  have k1 := mod_mg n m hn hm
  have h0 : 0 ≤ n := by omega
  have HN := Lib.hid hn
  clear hn hm
  go_enter Try.func47, Try.ntmps47
  go_wp2_with (first | (go_at_call 52; refine (rbits_any _ n HN.out _).mono ?_; rintro e w' ⟨rfl, rfl⟩))
  go_ret
  exact ⟨by first | rfl | exact ret_int' k1, rfl⟩

theorem below_any (b : Nat) (hb : W64 b) (w : World) :
    Calls Try.prog 50 #[.float .f64 b] w fun e w' => e = .returned (.bool (ng b)) ∧ w = w' := by
  obtain ⟨n, hn⟩ : ∃ n : Int, n = b := ⟨_, rfl⟩
  have HN := Lib.hid hn
  rcases below_cases hb n hn with ⟨e, h⟩ | ⟨e, h⟩
  · have q : decide (9223372036854775808 ≤ n) = true := decide_eq_true h
    rw [e]; clear e hn
    go_enter Try.func50, Try.ntmps50
    go_wp2_with (first | (go_at_call 52; refine (rbits_any _ n HN.out _).mono ?_; rintro e w' ⟨rfl, rfl⟩))
    go_ret
    exact ⟨by first | rfl | exact ret_bool' q, rfl⟩
  · have q : decide (9223372036854775808 ≤ n) = false := decide_eq_false (by omega)
    rw [e]; clear e hn
    go_enter Try.func50, Try.ntmps50
    go_wp2_with (first | (go_at_call 52; refine (rbits_any _ n HN.out _).mono ?_; rintro e w' ⟨rfl, rfl⟩))
    go_ret
    exact ⟨by first | rfl | exact ret_bool' q, rfl⟩

theorem none_any (b : Nat) (w : World) :
    Calls Try.prog 48 #[.float .f64 b] w fun e w' => e = .returned (.bool (isN b)) ∧ w = w' := by
  obtain ⟨m, hm⟩ : ∃ m : Int, m = mg b := ⟨_, rfl⟩
  have HM := Lib.hid hm
  rcases none_cases m hm with ⟨e, h⟩ | ⟨e, h⟩
  · have q : decide (9218868437227405312 < m) = true := decide_eq_true h
    rw [e]; clear e hm
    go_enter Try.func48, Try.ntmps48
    go_wp2_with (first | (go_at_call 47; refine (mag_any _ m HM.out _).mono ?_; rintro e w' ⟨rfl, rfl⟩))
    go_ret
    exact ⟨by first | rfl | exact ret_bool' q, rfl⟩
  · have q : decide (9218868437227405312 < m) = false := decide_eq_false (by omega)
    rw [e]; clear e hm
    go_enter Try.func48, Try.ntmps48
    go_wp2_with (first | (go_at_call 47; refine (mag_any _ m HM.out _).mono ?_; rintro e w' ⟨rfl, rfl⟩))
    go_ret
    exact ⟨by first | rfl | exact ret_bool' q, rfl⟩

theorem rquiet_any (w : World) :
    Calls Try.prog 49 #[] w fun e w' => e = .returned (.float .f64 9221120237041090561) ∧ w = w' := by
  go_enter Try.func49, Try.ntmps49
  go_wp2_with (first | (go_at_call 20; refine (from_any _ _).mono ?_; rintro e w' ⟨rfl, rfl⟩))
  go_ret
  exact ⟨rfl, rfl⟩

theorem rclass_any (b : Nat) (w : World) :
    Calls Try.prog 37 #[.float .f64 b] w fun e w' => e = .returned (.int .i64 (classW b)) ∧ w = w' := by
  obtain ⟨m, hm⟩ : ∃ m : Int, m = mg b := ⟨_, rfl⟩
  have HM := Lib.hid hm
  rcases class_cases b m hm with ⟨e, h⟩ | ⟨e, h, h2⟩ | ⟨e, h, h2⟩ | ⟨e, h⟩ | ⟨e, h⟩
  all_goals
    rw [e]; clear e hm
    go_enter Try.func37, Try.ntmps37
    go_wp2_with (first | (go_at_call 47; refine (mag_any _ m HM.out _).mono ?_; rintro e w' ⟨rfl, rfl⟩))
    go_ret
    exact ⟨rfl, rfl⟩

theorem rcanon_any (b : Nat) (w : World) :
    Calls Try.prog 38 #[.float .f64 b] w fun e w' => e = .returned (.float .f64 (canonW b)) ∧ w = w' := by
  obtain ⟨m, hm⟩ : ∃ m : Int, m = mg b := ⟨_, rfl⟩
  have HM := Lib.hid hm
  rcases canon_cases b m hm with ⟨e, h⟩ | ⟨h, ⟨e, h2⟩ | ⟨e, h2⟩⟩
  all_goals
    rw [e]; clear e hm
    go_enter Try.func38, Try.ntmps38
    go_wp2_with (first | (go_at_call 48; refine (none_any _ _).mono ?_; rintro e w' ⟨rfl, rfl⟩) | (go_at_call 49; refine (rquiet_any _).mono ?_; rintro e w' ⟨rfl, rfl⟩) | (go_at_call 47; refine (mag_any _ m HM.out _).mono ?_; rintro e w' ⟨rfl, rfl⟩) | (go_at_call 20; refine (from_any _ _).mono ?_; rintro e w' ⟨rfl, rfl⟩))
    go_ret
    exact ⟨rfl, rfl⟩

theorem rup_any (b : Nat) (hb : W64 b) (w : World) :
    Calls Try.prog 39 #[.float .f64 b] w fun e w' => e = .returned (.float .f64 (upW b)) ∧ w = w' := by
  obtain ⟨m, hm⟩ : ∃ m : Int, m = mg b := ⟨_, rfl⟩
  have HM := Lib.hid hm
  rcases rup_cases hb m hm with ⟨e, h⟩ | ⟨h, ⟨e, h2⟩ | ⟨h2, h3, h4, ⟨h5, e⟩ | ⟨h5, ⟨e, h6⟩ | ⟨h6, e⟩⟩⟩⟩
  all_goals
    rw [e]; clear e hm
    go_enter Try.func39, Try.ntmps39
    go_wp2_with (first | (go_at_call 48; refine (none_any _ _).mono ?_; rintro e w' ⟨rfl, rfl⟩) | (go_at_call 49; refine (rquiet_any _).mono ?_; rintro e w' ⟨rfl, rfl⟩) | (go_at_call 47; refine (mag_any _ m HM.out _).mono ?_; rintro e w' ⟨rfl, rfl⟩) | (go_at_call 20; refine (from_any _ _).mono ?_; rintro e w' ⟨rfl, rfl⟩) | (go_at_call 50; refine (below_any _ (by first | assumption | exact HB) _).mono ?_; rintro e w' ⟨rfl, rfl⟩))
    go_ret
    exact ⟨by first | rfl | exact ret_f64 (by omega), rfl⟩

theorem opposite_any (b : Nat) (hb : W64 b) (w : World) :
    Calls Try.prog 51 #[.float .f64 b] w fun e w' => e = .returned (.float .f64 (op b)) ∧ w = w' := by
  obtain ⟨m, hm⟩ : ∃ m : Int, m = mg b := ⟨_, rfl⟩
  have HM := Lib.hid hm
  obtain ⟨h1, h2, h⟩ := opp_cases hb m hm
  rcases h with ⟨h3, e⟩ | ⟨h3, e⟩
  all_goals
    rw [e]; clear e hm
    go_enter Try.func51, Try.ntmps51
    go_wp2_with (first | (go_at_call 47; refine (mag_any _ m HM.out _).mono ?_; rintro e w' ⟨rfl, rfl⟩) | (go_at_call 20; refine (from_any _ _).mono ?_; rintro e w' ⟨rfl, rfl⟩) | (go_at_call 50; refine (below_any _ (by first | assumption | exact HB) _).mono ?_; rintro e w' ⟨rfl, rfl⟩))
    go_ret
    exact ⟨by first | rfl | exact ret_f64 (by omega), rfl⟩

theorem rdown_any (b : Nat) (hb : W64 b) (w : World) :
    Calls Try.prog 40 #[.float .f64 b] w fun e w' => e = .returned (.float .f64 (downW b)) ∧ w = w' := by
  unfold downW
  cases h : isN b
  all_goals
    go_enter Try.func40, Try.ntmps40
    go_wp2_with (first | (go_at_call 48; refine (none_any _ _).mono ?_; rintro e w' ⟨rfl, rfl⟩) | (go_at_call 49; refine (rquiet_any _).mono ?_; rintro e w' ⟨rfl, rfl⟩) | (go_at_call 51; refine (opposite_any _ (by first | assumption | exact W64.up (W64.op ‹_›)) _).mono ?_; rintro e w' ⟨rfl, rfl⟩) | (go_at_call 39; refine (rup_any _ (by first | assumption | exact W64.op ‹_›) _).mono ?_; rintro e w' ⟨rfl, rfl⟩))
    go_ret
    exact ⟨rfl, rfl⟩

theorem rulp_any (b : Nat) (w : World) :
    Calls Try.prog 41 #[.float .f64 b] w fun e w' => e = .returned (.float .f64 (ulpW b)) ∧ w = w' := by
  obtain ⟨m, hm⟩ : ∃ m : Int, m = mg b := ⟨_, rfl⟩
  have HM := Lib.hid hm
  rcases rulp_cases b m hm with ⟨e, h⟩ | ⟨h, ⟨e, h2⟩ | ⟨h2, h3, x, y, r, hx, hy, h4, e⟩⟩
  · rw [e]; clear e hm
    go_enter Try.func41, Try.ntmps41
    go_wp2_with (first | (go_at_call 48; refine (none_any _ _).mono ?_; rintro e w' ⟨rfl, rfl⟩) | (go_at_call 49; refine (rquiet_any _).mono ?_; rintro e w' ⟨rfl, rfl⟩) | (go_at_call 47; refine (mag_any _ m HM.out _).mono ?_; rintro e w' ⟨rfl, rfl⟩) | (go_at_call 20; refine (from_any _ _).mono ?_; rintro e w' ⟨rfl, rfl⟩))
    go_ret
    exact ⟨rfl, rfl⟩
  · rw [e]; clear e hm
    go_enter Try.func41, Try.ntmps41
    go_wp2_with (first | (go_at_call 48; refine (none_any _ _).mono ?_; rintro e w' ⟨rfl, rfl⟩) | (go_at_call 49; refine (rquiet_any _).mono ?_; rintro e w' ⟨rfl, rfl⟩) | (go_at_call 47; refine (mag_any _ m HM.out _).mono ?_; rintro e w' ⟨rfl, rfl⟩) | (go_at_call 20; refine (from_any _ _).mono ?_; rintro e w' ⟨rfl, rfl⟩))
    go_ret
    exact ⟨rfl, rfl⟩
  · rw [e]
    have k := run_valid (P := Try.prog) 22 h4
    subst hx hy
    clear e hm h4
    go_enter Try.func41, Try.ntmps41
    go_wp2_with (first | (go_at_call 48; refine (none_any _ _).mono ?_; rintro e w' ⟨rfl, rfl⟩) | (go_at_call 49; refine (rquiet_any _).mono ?_; rintro e w' ⟨rfl, rfl⟩) | (go_at_call 47; refine (mag_any _ m HM.out _).mono ?_; rintro e w' ⟨rfl, rfl⟩) | (go_at_call 20; refine (from_any _ _).mono ?_; rintro e w' ⟨rfl, rfl⟩))
    go_ret
    exact ⟨rfl, rfl⟩

theorem rorder_any (a b : Nat) (ha : W64 a) (hb : W64 b) (w : World) :
    Calls Try.prog 43 #[.float .f64 a, .float .f64 b] w fun e w' => e = .returned (.int .i64 (orderW a b)) ∧ w = w' := by
  obtain ⟨x, hx⟩ : ∃ n : Int, n = a := ⟨_, rfl⟩
  obtain ⟨y, hy⟩ : ∃ n : Int, n = b := ⟨_, rfl⟩
  have HX := Lib.hid hx
  have HY := Lib.hid hy
  rcases rorder_cases ha hb x y hx hy with ⟨e, h⟩ | ⟨h, ⟨h2, h3, ⟨e, h4⟩ | ⟨e, h4⟩⟩ | ⟨h2, h3, e⟩ | ⟨h2, h3, e⟩ | ⟨h2, h3, ⟨e, h4⟩ | ⟨e, h4⟩⟩⟩
  · subst h
    rw [e]; clear e hx hy
    go_enter Try.func43, Try.ntmps43
    go_wp2_with (first | (go_at_call 52; refine (rbits_any _ x (by first | exact HX.out | exact HY.out) _).mono ?_; rintro e w' ⟨rfl, rfl⟩) | (go_at_call 50; refine (below_any _ (by assumption) _).mono ?_; rintro e w' ⟨rfl, rfl⟩))
    go_ret
    exact ⟨rfl, rfl⟩
  all_goals
    rw [e]; clear e hx hy
    go_enter Try.func43, Try.ntmps43
    go_wp2_with (first | (go_at_call 52; refine (rbits_any a x HX.out _).mono ?_; rintro e w' ⟨rfl, rfl⟩) | (go_at_call 52; refine (rbits_any b y HY.out _).mono ?_; rintro e w' ⟨rfl, rfl⟩) | (go_at_call 50; refine (below_any _ (by assumption) _).mono ?_; rintro e w' ⟨rfl, rfl⟩))
    go_ret
    exact ⟨rfl, rfl⟩

theorem rmax_any (a b : Nat) (ha : W64 a) (hb : W64 b) (w : World) :
    Calls Try.prog 44 #[.float .f64 a, .float .f64 b] w fun e w' => e = .returned (.float .f64 (maxW a b)) ∧ w = w' := by
  rcases rmax_cases a b with ⟨e, h1 | ⟨h1, h2⟩⟩ | ⟨h1, h2, ⟨e, h3⟩ | ⟨e, h3⟩⟩
  all_goals
    rw [e]; clear e
    go_enter Try.func44, Try.ntmps44
    go_wp2_with (first | (go_at_call 48; refine (none_any _ _).mono ?_; rintro e w' ⟨rfl, rfl⟩) | (go_at_call 49; refine (rquiet_any _).mono ?_; rintro e w' ⟨rfl, rfl⟩) | (go_at_call 43; refine (rorder_any _ _ (by assumption) (by assumption) _).mono ?_; rintro e w' ⟨rfl, rfl⟩))
    go_ret
    exact ⟨rfl, rfl⟩

theorem rmin_any (a b : Nat) (ha : W64 a) (hb : W64 b) (w : World) :
    Calls Try.prog 45 #[.float .f64 a, .float .f64 b] w fun e w' => e = .returned (.float .f64 (minW a b)) ∧ w = w' := by
  rcases rmin_cases a b with ⟨e, h1 | ⟨h1, h2⟩⟩ | ⟨h1, h2, ⟨e, h3⟩ | ⟨e, h3⟩⟩
  all_goals
    rw [e]; clear e
    go_enter Try.func45, Try.ntmps45
    go_wp2_with (first | (go_at_call 48; refine (none_any _ _).mono ?_; rintro e w' ⟨rfl, rfl⟩) | (go_at_call 49; refine (rquiet_any _).mono ?_; rintro e w' ⟨rfl, rfl⟩) | (go_at_call 43; refine (rorder_any _ _ (by assumption) (by assumption) _).mono ?_; rintro e w' ⟨rfl, rfl⟩))
    go_ret
    exact ⟨rfl, rfl⟩

theorem rbetween_any (a b : Nat) (ha : W64 a) (hb : W64 b) (w : World) :
    Calls Try.prog 42 #[.float .f64 a, .float .f64 b] w fun e w' => e = .returned (.tuple #[.int .i64 (betweenW a b).1, .bool (betweenW a b).2]) ∧ w = w' := by
  obtain ⟨x, hx⟩ : ∃ n : Int, n = mg a := ⟨_, rfl⟩
  obtain ⟨y, hy⟩ : ∃ n : Int, n = mg b := ⟨_, rfl⟩
  have HX := Lib.hid hx
  have HY := Lib.hid hy
  rcases rbetween_cases x y hx hy with ⟨e, h1 | ⟨h1, h2⟩⟩ | ⟨h1, h2, b1, b2, b3, b4, ⟨h3, h4, e⟩ | ⟨h3, h4, e⟩ | ⟨h3, h4, ⟨e, h5⟩ | ⟨e, h5⟩⟩ | ⟨h3, h4, ⟨e, h5⟩ | ⟨e, h5⟩⟩⟩
  all_goals
    rw [e]; clear e hx hy
    go_enter Try.func42, Try.ntmps42
    go_wp2_with (first | (go_at_call 47; refine (mag_any a x HX.out _).mono ?_; rintro e w' ⟨rfl, rfl⟩) | (go_at_call 47; refine (mag_any b y HY.out _).mono ?_; rintro e w' ⟨rfl, rfl⟩) | (go_at_call 50; refine (below_any _ (by assumption) _).mono ?_; rintro e w' ⟨rfl, rfl⟩) | (go_at_call 48; refine (none_any _ _).mono ?_; rintro e w' ⟨rfl, rfl⟩))
    go_ret2
    exact ⟨by first | rfl | exact ret_ib (wrap_neg_u64 _ (by omega) (by omega)), rfl⟩

end Go.Proofs.Ytcjnnhmijpnicaa
