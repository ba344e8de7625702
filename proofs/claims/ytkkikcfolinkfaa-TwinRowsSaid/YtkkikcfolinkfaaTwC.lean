/- The reference's Sum whole; both Adds; halves, Split and Product along given steps; awake. -/
import Derived.Test.YtkkikcfolinkfaaTwB
import Derived.Test.YtkkikcfolinkfaaTwinT
namespace Go.Proofs.Ytkkikcfolinkfaa
open Go.RowKit TF

attribute [local go_sem] cmp_eq cmp_ne cmp_lt cmp_gt cmp_le cmp_ge

theorem rsum_any (a b : Nat) (ha : W64 a) (hb : W64 b) (w : World) :
    Calls Try.prog 13 #[.float .f64 a, .float .f64 b] w fun e w' => e = .returned (.tuple #[.float .f64 (sumW a b).1, .float .f64 (sumW a b).2]) ∧ ∃ n, w' = w.drewN n := by
  rcases rsum_any_ways a b with ⟨h, e⟩ | ⟨s, h, h1, e⟩ | ⟨s, h, h1⟩
  · obtain ⟨n, n1, n2, k⟩ := run_invalid (P := Try.prog) 24 (.inl rfl) h w
    have hn : W64 n := n1
    obtain ⟨m, hm⟩ : ∃ m : Int, m = mg n := ⟨_, rfl⟩
    have HM := Lib.hid hm
    have hm2 : 9218868437227405312 ≤ m := by have := INF_eq; omega
    have HC := Lib.hid (canonW_nan n2)
    rw [e]
    clear h e n1 n2 hm
    go_enter Try.func13, Try.ntmps13
    go_wp2_with (first | (go_at_call 35; refine (mag_any _ m HM.out _).mono ?_; rintro e w' ⟨rfl, rfl⟩) | (go_at_call 36; refine (rcanon_any _ _).mono ?_; rintro e w' ⟨rfl, rfl⟩))
    go_ret2
    exact ⟨by rw [HC.out]; rfl, 1, rfl⟩
  · have k := run_valid (P := Try.prog) 24 h
    have hs : W64 s := floatBits_lt h
    obtain ⟨m, hm⟩ : ∃ m : Int, m = mg s := ⟨_, rfl⟩
    have HM := Lib.hid hm
    have hm2 : 9218868437227405312 ≤ m := by have := INF_eq; omega
    rw [e]
    clear h e h1 hm
    go_enter Try.func13, Try.ntmps13
    go_wp2_with (first | (go_at_call 35; refine (mag_any _ m HM.out _).mono ?_; rintro e w' ⟨rfl, rfl⟩) | (go_at_call 36; refine (rcanon_any _ _).mono ?_; rintro e w' ⟨rfl, rfl⟩))
    go_ret2
    exact ⟨rfl, 0, rfl⟩
  · by_cases hlt : mg a < mg b
    · exact rsum_tail a b b a s (.inr ⟨rfl, rfl, hlt⟩) ha hb h h1 w
    · exact rsum_tail a b a b s (.inl ⟨rfl, rfl, by omega⟩) ha hb h h1 w

theorem add_any (hi lo x : Nat) (hh : W64 hi) (hx : W64 x) (w : World) :
    Calls Try.prog 28 #[.float .f64 hi, .float .f64 lo, .float .f64 x] w fun e w' => e = .returned (.tuple #[.float .f64 (addW hi lo x).1, .float .f64 (addW hi lo x).2]) ∧ ∃ n, w' = w.drewN n := by
  obtain ⟨s1, s2⟩ := sumW_lt hi x
  rcases add_ways hi lo x with ⟨h, e⟩ | ⟨t, h, ht, e⟩
  · have H := Lib.hid (fun w => run_invalid (P := Try.prog) 24 (.inl rfl) h w)
    have E := Lib.hid e
    clear h e
    go_enter Try.func28, Try.ntmps28
    go_wp2_with (first | (go_at_call 12; refine (sum_any _ _ (by assumption) (by assumption) _).mono ?_; rintro e w' ⟨rfl, n, rfl⟩))
    obtain ⟨q, q1, q2, k⟩ := H.out (w.drewN n)
    have hq : W64 q := q1
    have e := E.out q q2
    clear q1 q2 H E
    rw [k]
    go_wp2_with (first | (go_at_call 12; refine (sum_any _ _ (by assumption) (by assumption) _).mono ?_; rintro e w' ⟨rfl, n, rfl⟩))
    go_ret2
    exact ⟨rfl, _, rfl⟩
  · have k := run_valid (P := Try.prog) 24 h
    clear h
    go_enter Try.func28, Try.ntmps28
    go_wp2_with (first | (go_at_call 12; refine (sum_any _ _ (by assumption) (by assumption) _).mono ?_; rintro e w' ⟨rfl, n, rfl⟩))
    go_ret2
    exact ⟨rfl, _, rfl⟩
theorem radd_any (hi lo x : Nat) (hh : W64 hi) (hx : W64 x) (w : World) :
    Calls Try.prog 29 #[.float .f64 hi, .float .f64 lo, .float .f64 x] w fun e w' => e = .returned (.tuple #[.float .f64 (addW hi lo x).1, .float .f64 (addW hi lo x).2]) ∧ ∃ n, w' = w.drewN n := by
  obtain ⟨s1, s2⟩ := sumW_lt hi x
  rcases add_ways hi lo x with ⟨h, e⟩ | ⟨t, h, ht, e⟩
  · have H := Lib.hid (fun w => run_invalid (P := Try.prog) 24 (.inl rfl) h w)
    have E := Lib.hid e
    clear h e
    go_enter Try.func29, Try.ntmps29
    go_wp2_with (first | (go_at_call 13; refine (rsum_any _ _ (by assumption) (by assumption) _).mono ?_; rintro e w' ⟨rfl, n, rfl⟩))
    obtain ⟨q, q1, q2, k⟩ := H.out (w.drewN n)
    have hq : W64 q := q1
    have e := E.out q q2
    clear q1 q2 H E
    rw [k]
    go_wp2_with (first | (go_at_call 13; refine (rsum_any _ _ (by assumption) (by assumption) _).mono ?_; rintro e w' ⟨rfl, n, rfl⟩))
    go_ret2
    exact ⟨rfl, _, rfl⟩
  · have k := run_valid (P := Try.prog) 24 h
    clear h
    go_enter Try.func29, Try.ntmps29
    go_wp2_with (first | (go_at_call 13; refine (rsum_any _ _ (by assumption) (by assumption) _).mono ?_; rintro e w' ⟨rfl, n, rfl⟩))
    go_ret2
    exact ⟨rfl, _, rfl⟩

/-- What halves answers: its steps. -/
structure Cut (x h l : Nat) : Prop where
  steps : ∃ c d, floatBits .mul .f64 4728779608772575232 x = some c ∧ floatBits .sub .f64 c x = some d ∧ floatBits .sub .f64 c d = some h ∧ floatBits .sub .f64 x h = some l
theorem halves_of {x h l : Nat} (k : Cut x h l) (w : World) :
    Calls Try.prog 41 #[.float .f64 x] w fun e w' => e = .returned (.tuple #[.float .f64 h, .float .f64 l]) ∧ w = w' := by
  obtain ⟨c, d, k1, k2, k3, k4⟩ := k.steps
  clear k
  have k1 := run_valid (P := Try.prog) 24 k1
  have k2 := run_valid (P := Try.prog) 24 k2
  have k3 := run_valid (P := Try.prog) 24 k3
  have k4 := run_valid (P := Try.prog) 24 k4
  go_enter Try.func41, Try.ntmps41
  go_wp2_with fail
  go_ret2
  exact ⟨rfl, rfl⟩

theorem sum_c (w : World) : Calls Try.prog 12 #[.float .f64 4591870180066957722, .float .f64 4596373779694328218] w fun e w' => e = .returned (.tuple #[.float .f64 4599075939470750516, .float .f64 13582856476149415936]) ∧ w = w' := by
  have k1 := run_valid (P := Try.prog) 24 (show floatBits .add .f64 4591870180066957722 4596373779694328218 = some 4599075939470750516 by decide)
  have k2 := run_valid (P := Try.prog) 24 (show floatBits .sub .f64 4599075939470750516 4596373779694328218 = some 4591870180066957724 by decide)
  have k3 := run_valid (P := Try.prog) 24 (show floatBits .sub .f64 4591870180066957722 4591870180066957724 = some 13582856476149415936 by decide)
  have c1 : W64 4591870180066957722 := show _ < 2 ^ 64 by decide
  have c2 : W64 4596373779694328218 := show _ < 2 ^ 64 by decide
  have c3 : W64 4599075939470750516 := show _ < 2 ^ 64 by decide
  have c4 : finB 4599075939470750516 = true := by decide
  have c5 : ltW (mg 4591870180066957722) (mg 4596373779694328218) = true := by decide
  go_enter Try.func12, Try.ntmps12
  go_wp2_with (first | (go_at_call 32; refine (tfin_any _ (by assumption) _).mono ?_; rintro e w' ⟨rfl, rfl⟩) | (go_at_call 33; refine (abs_any _ (by assumption) _).mono ?_; rintro e w' ⟨rfl, rfl⟩) | (go_at_call 34; refine (canons_any _ _ _).mono ?_; rintro e w' ⟨rfl, rfl⟩))
  go_ret2
  exact ⟨rfl, rfl⟩
theorem split_c (w : World) : Calls Try.prog 17 #[.float .f64 4728779608772575232] w fun e w' => e = .returned (.tuple #[.float .f64 4728779608739020800, .float .f64 4607182418800017408]) ∧ w = w' := by
  have H : Cut 4728779608772575232 4728779608739020800 4607182418800017408 := ⟨4850376798745133056, 4850376798711578624, by decide, by decide, by decide, by decide⟩
  have c1 : W64 4728779608772575232 := show _ < 2 ^ 64 by decide
  have c4 : finB 4728779608772575232 = true := by decide
  have c5 : ltW 9092767647661031424 (mg 4728779608772575232) = false := by decide
  go_enter Try.func17, Try.ntmps17
  go_wp2_with (first | (go_at_call 32; refine (tfin_any _ (by assumption) _).mono ?_; rintro e w' ⟨rfl, rfl⟩) | (go_at_call 33; refine (abs_any _ (by assumption) _).mono ?_; rintro e w' ⟨rfl, rfl⟩) | (go_at_call 34; refine (canons_any _ _ _).mono ?_; rintro e w' ⟨rfl, rfl⟩) | (go_at_call 41; refine (halves_of (by assumption) _).mono ?_; rintro e w' ⟨rfl, rfl⟩))
  go_ret2
  exact ⟨rfl, rfl⟩

/-- Product along given steps. -/
structure Way (a b p e : Nat) : Prop where
  steps : ∃ ah al bh bl q1 e1 q2 e2 q3 e3 q4, Cut a ah al ∧ Cut b bh bl ∧ floatBits .mul .f64 ah bh = some q1 ∧ floatBits .sub .f64 q1 p = some e1 ∧ floatBits .mul .f64 ah bl = some q2 ∧ floatBits .add .f64 e1 q2 = some e2 ∧
    floatBits .mul .f64 al bh = some q3 ∧ floatBits .add .f64 e2 q3 = some e3 ∧ floatBits .mul .f64 al bl = some q4 ∧ floatBits .add .f64 e3 q4 = some e
theorem product_of {a b p e : Nat} (ha : W64 a) (hb : W64 b) (hp : W64 p) (hf : finB p = true)
    (g1 : ltW 9092767647661031424 (mg a) = false) (g2 : ltW 9092767647661031424 (mg b) = false) (g3 : ltW (mg p) 243194379878006784 = false) (g4 : ltW 9200854038717923328 (mg p) = false)
    (k : floatBits .mul .f64 a b = some p) (way : Way a b p e) (w : World) :
    Calls Try.prog 15 #[.float .f64 a, .float .f64 b] w fun e' w' => e' = .returned (.tuple #[.float .f64 (canonW p), .float .f64 (canonW e)]) ∧ w = w' := by
  obtain ⟨ah, al, bh, bl, q1, e1, q2, e2, q3, e3, q4, ca, cb, m1, s1, m2, s2, m3, s3, m4, s4⟩ := way.steps
  have k0 := run_valid (P := Try.prog) 24 k
  have k1 := run_valid (P := Try.prog) 24 m1
  have k2 := run_valid (P := Try.prog) 24 s1
  have k3 := run_valid (P := Try.prog) 24 m2
  have k4 := run_valid (P := Try.prog) 24 s2
  have k5 := run_valid (P := Try.prog) 24 m3
  have k6 := run_valid (P := Try.prog) 24 s3
  have k7 := run_valid (P := Try.prog) 24 m4
  have k8 := run_valid (P := Try.prog) 24 s4
  clear k way m1 s1 m2 s2 m3 s3 m4 s4
  go_enter Try.func15, Try.ntmps15
  go_wp2_with (first | (go_at_call 32; refine (tfin_any _ (by assumption) _).mono ?_; rintro e w' ⟨rfl, rfl⟩) | (go_at_call 33; refine (abs_any _ (by assumption) _).mono ?_; rintro e w' ⟨rfl, rfl⟩) | (go_at_call 34; refine (canons_any _ _ _).mono ?_; rintro e w' ⟨rfl, rfl⟩) | (go_at_call 41; refine (halves_of (by assumption) _).mono ?_; rintro e w' ⟨rfl, rfl⟩))
  go_ret2
  exact ⟨rfl, rfl⟩

theorem same_any (a b c d : Nat) (w : World) :
    Calls Try.prog 14 #[.float .f64 a, .float .f64 b, .float .f64 c, .float .f64 d] w fun e w' => e = .returned (.bool (sameB a c && sameB b d)) ∧ w = w' := by
  have k1 := cast_beq a c
  have k2 := cast_beq b d
  cases h1 : sameB a c <;> cases h2 : sameB b d
  all_goals
    rw [h1] at k1
    rw [h2] at k2
    go_enter Try.func14, Try.ntmps14
    go_wp2_with (go_at_call 23; refine (rbits_any _ _ rfl _).mono ?_; rintro e w' ⟨rfl, rfl⟩)
    go_ret
    exact ⟨rfl, rfl⟩

set_option maxRecDepth 100000 in
theorem awake_any (w : World) : Calls Try.prog 11 #[] w fun e w' => e = .returned (.bool true) ∧ w = w' := by
  have A : Cut 4591870180066957722 4591870180040114176 4465769390607958016 := ⟨4713467370059648205, 4713467370005961114, by decide, by decide, by decide, by decide⟩
  have B : Cut 4613937818241073152 4613937818241073152 0 := ⟨4735535008230408192, 4735535008180076544, by decide, by decide, by decide, by decide⟩
  have HP := Lib.hid (fun w => product_of (a := 4591870180066957722) (b := 4613937818241073152) (p := 4599075939470750516) (e := 13582856476149415936) (show _ < 2 ^ 64 by decide) (show _ < 2 ^ 64 by decide) (show _ < 2 ^ 64 by decide) (by decide) (by decide) (by decide) (by decide) (by decide) (by decide)
    ⟨_, _, _, _, 4599075939450617856, 13696347186973900800, 0, 13696347186973900800, 4472975149984907264, 13582856476149415936, 0, A, B, by decide, by decide, by decide, by decide, by decide, by decide, by decide, by decide⟩ w)
  go_enter Try.func11, Try.ntmps11
  go_wp2_with (first | (go_at_call 12; refine (sum_c _).mono ?_; rintro e w' ⟨rfl, rfl⟩) | (go_at_call 17; refine (split_c _).mono ?_; rintro e w' ⟨rfl, rfl⟩) | (go_at_call 15; refine (HP.out _).mono ?_; rintro e w' ⟨rfl, rfl⟩) | (go_at_call 14; refine (same_any _ _ _ _ _).mono ?_; rintro e w' ⟨rfl, rfl⟩))
  go_ret
  exact ⟨rfl, rfl⟩
end Go.Proofs.Ytkkikcfolinkfaa
