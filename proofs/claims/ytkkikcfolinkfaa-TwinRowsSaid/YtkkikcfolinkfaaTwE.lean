/- Product on both sides. -/
import Derived.Test.YtkkikcfolinkfaaTwD
namespace Go.Proofs.Ytkkikcfolinkfaa
open Go.RowKit TF

attribute [local go_sem] cmp_eq cmp_ne cmp_lt cmp_gt cmp_le cmp_ge

set_option maxHeartbeats 1000000 in
theorem product_any (a b : Nat) (ha : W64 a) (hb : W64 b) (w : World) :
    Calls Try.prog 15 #[.float .f64 a, .float .f64 b] w fun e w' => e = .returned (.tuple #[.float .f64 (prodW a b).1, .float .f64 (prodW a b).2]) ∧ ∃ n, w' = w.drewN n := by
  rcases prod_ways ha hb with ⟨h, e⟩ | ⟨p, h, h1, e⟩ | ⟨p, h, h1, e, g1 | ⟨g1, g2⟩ | ⟨g1, g2, g3⟩ | ⟨g1, g2, g3, g4⟩⟩ | ⟨p, r, h, h1, e, g1, g2, g3, g4, ah, al, bh, bl, q1, e1, q2, e2, q3, e3, q4, ca, cb, st⟩
  · obtain ⟨n, n1, n2, k⟩ := run_invalid (P := Try.prog) 24 (.inr (.inr (.inl rfl))) h w
    have hn : W64 n := n1
    have f1 : finB n = false := finB_false.2 (by omega)
    have HC := Lib.hid (canonW_nan n2)
    rw [e]
    clear h e n1 n2
    go_enter Try.func15, Try.ntmps15
    go_wp2_with (first | (go_at_call 32; refine (tfin_any _ (by assumption) _).mono ?_; rintro e w' ⟨rfl, rfl⟩) | (go_at_call 21; refine (canon_any _ _).mono ?_; rintro e w' ⟨rfl, rfl⟩))
    go_ret2
    exact ⟨by rw [HC.out]; rfl, 1, rfl⟩
  all_goals try
    have k := run_valid (P := Try.prog) 24 h
    have hp : W64 p := floatBits_lt h
    rw [e]
    clear h e
    go_enter Try.func15, Try.ntmps15
    go_wp2_with (first | (go_at_call 32; refine (tfin_any _ (by assumption) _).mono ?_; rintro e w' ⟨rfl, rfl⟩) | (go_at_call 33; refine (abs_any _ (by assumption) _).mono ?_; rintro e w' ⟨rfl, rfl⟩) | (go_at_call 21; refine (canon_any _ _).mono ?_; rintro e w' ⟨rfl, rfl⟩))
    go_ret2
    exact ⟨rfl, 0, rfl⟩
  have k := product_of ha hb (floatBits_lt h) h1 g1 g2 g3 g4 h ⟨ah, al, bh, bl, q1, e1, q2, e2, q3, e3, q4, ⟨ca⟩, ⟨cb⟩, st⟩ w
  rw [e]
  exact k.mono fun e' w' ⟨h1, h2⟩ => ⟨h1, 0, h2.symm⟩

/-- The reference, out of the bounds. -/
theorem out_cases {a b p : Nat} (na nb np : Int) (hna : na = mg a) (hnb : nb = mg b) (hnp : np = mg p) (h : ¬ prodIn a b p) : 0 ≤ na ∧ 0 ≤ nb ∧ 0 ≤ np ∧ (9092767647661031424 < na ∨ (na ≤ 9092767647661031424 ∧ 9092767647661031424 < nb) ∨ (na ≤ 9092767647661031424 ∧ nb ≤ 9092767647661031424 ∧ np < 243194379878006784) ∨ (na ≤ 9092767647661031424 ∧ nb ≤ 9092767647661031424 ∧ 243194379878006784 ≤ np ∧ 9200854038717923328 < np)) := by
  have hI := INF_eq
  unfold prodIn at h
  omega
theorem ret_nan {c a b : Nat} (h : canonW c = a) (hb : b = 0) : Ending.returned (.tuple #[.float .f64 (canonW c), .float .f64 0]) = .returned (.tuple #[.float .f64 a, .float .f64 b]) := by rw [h, hb]

set_option maxHeartbeats 4000000 in
theorem rproduct_out (a b p : Nat) (h : ¬ prodIn a b p) (w w1 : World) (k : (binOp .mul 24 (.float .f64 a) (.float .f64 b)).run Try.prog w = .ok (.float .f64 p) w1) (hw1 : ∃ n, w1 = w.drewN n) :
    Calls Try.prog 16 #[.float .f64 a, .float .f64 b] w fun e w' => e = .returned (.tuple #[.float .f64 (canonW p), .float .f64 0]) ∧ ∃ n, w' = w.drewN n := by
  obtain ⟨na, hna⟩ : ∃ n : Int, n = mg a := ⟨_, rfl⟩
  obtain ⟨nb, hnb⟩ : ∃ n : Int, n = mg b := ⟨_, rfl⟩
  obtain ⟨np, hnp⟩ : ∃ n : Int, n = mg p := ⟨_, rfl⟩
  have HMA : MagIs a na := ⟨hna⟩
  have HMB : MagIs b nb := ⟨hnb⟩
  have HMP : MagIs p np := ⟨hnp⟩
  have HW := Lib.hid hw1
  obtain ⟨p1, p2, p3, g | ⟨g1, g2⟩ | ⟨g1, g2, g3⟩ | ⟨g1, g2, g3, g4⟩⟩ := out_cases na nb np hna hnb hnp h
  all_goals
    clear hna hnb hnp h hw1
    go_enter Try.func16, Try.ntmps16
    go_wp2_with (first | (go_at_call 35; refine (mag_of (by assumption) _).mono ?_; rintro e w' ⟨rfl, rfl⟩) | (go_at_call 36; refine (rcanon_any _ _).mono ?_; rintro e w' ⟨rfl, rfl⟩))
    go_ret2
    exact ⟨rfl, HW.out⟩

set_option maxRecDepth 100000 in
set_option maxHeartbeats 4000000 in
theorem rproduct_in (a b p : Nat) (ha : W64 a) (hb : W64 b) (h : floatBits .mul .f64 a b = some p) (hin : prodIn a b p) (w : World) :
    Calls Try.prog 16 #[.float .f64 a, .float .f64 b] w fun e w' => e = .returned (.tuple #[.float .f64 (prodW a b).1, .float .f64 (prodW a b).2]) ∧ w = w' := by
  have k := run_valid (P := Try.prog) 24 h
  have hI := INF_eq
  have hp64 : W64 p := floatBits_lt h
  obtain ⟨i0, i1, i2, i3, i4⟩ := id hin
  obtain ⟨na, hna⟩ : ∃ n : Int, n = mg a := ⟨_, rfl⟩
  obtain ⟨nb, hnb⟩ : ∃ n : Int, n = mg b := ⟨_, rfl⟩
  obtain ⟨np, hnp⟩ : ∃ n : Int, n = mg p := ⟨_, rfl⟩
  have HMA : MagIs a na := ⟨hna⟩
  have HMB : MagIs b nb := ⟨hnb⟩
  have HMP : MagIs p np := ⟨hnp⟩
  have j1 : na ≤ 9092767647661031424 := by omega
  have j2 : nb ≤ 9092767647661031424 := by omega
  have j3 : 243194379878006784 ≤ np := by omega
  have j4 : np ≤ 9200854038717923328 := by omega
  have j5 : 0 ≤ na := by omega
  have j6 : 0 ≤ nb := by omega
  obtain ⟨ma, hma⟩ : ∃ n : Int, n = M (mg a) := ⟨_, rfl⟩
  obtain ⟨ea, hea⟩ : ∃ n : Int, n = E (mg a) := ⟨_, rfl⟩
  obtain ⟨mb, hmb⟩ : ∃ n : Int, n = M (mg b) := ⟨_, rfl⟩
  obtain ⟨eb, heb⟩ : ∃ n : Int, n = E (mg b) := ⟨_, rfl⟩
  obtain ⟨mp, hmp⟩ : ∃ n : Int, n = M (mg p) := ⟨_, rfl⟩
  obtain ⟨ep, hep⟩ : ∃ n : Int, n = E (mg p) := ⟨_, rfl⟩
  have HPA : PartsAre a ma ea := ⟨hma, hea, by omega⟩
  have HPB : PartsAre b mb eb := ⟨hmb, heb, by omega⟩
  have HPP : PartsAre p mp ep := ⟨hmp, hep, i0⟩
  obtain ⟨X, K, hK, hlow, x1, x2, p1, p2, hX, e⟩ := rprod_in ha hb h hin ma ea mb eb mp ep hma hea hmb heb hmp hep
  have a1 : 0 ≤ ea ∧ ea ≤ 2045 := by unfold E at hea; omega
  have a2 : 0 ≤ eb ∧ eb ≤ 2045 := by unfold E at heb; omega
  have f1 : ep - 1074 - ((K : Int) - 1074) = ep - K := by omega
  rw [e]
  clear hma hea hmb heb hmp hep hna hnb hnp i0 i1 i2 i3 i4 h hin hI e
  cases hs : ng p
  · by_cases hx : X < 0
    · rcases hX with ⟨hge, hX⟩ | ⟨hge, hX⟩
      · go_enter Try.func16, Try.ntmps16
        go_wp2_with (first | (go_at_call 35; refine (mag_of (by assumption) _).mono ?_; rintro e w' ⟨rfl, rfl⟩) | (go_at_call 37; refine (parts_of (by assumption) _).mono ?_; rintro e w' ⟨rfl, rfl⟩) | (go_at_call 36; refine (rcanon_any _ _).mono ?_; rintro e w' ⟨rfl, rfl⟩) | (go_at_call 39; refine (below_any _ (by first | assumption | exact HB) _).mono ?_; rintro e w' ⟨rfl, rfl⟩) | (go_at_call 38; refine (shifted_any _ _ _ (by omega) (by omega) _).mono ?_; rintro e w' ⟨rfl, rfl⟩) | (go_at_call 42; refine (scaled_any _ _ _ (by omega) (by omega) hK (by first | (intro _; omega) | (intro hc; exact absurd hc (by decide))) _).mono ?_; rintro e w' ⟨rfl, rfl⟩))
        go_ret2
        exact ⟨by simp, rfl⟩
      · omega
    · rcases hX with ⟨hge, hX⟩ | ⟨hge, rfl⟩
      · go_enter Try.func16, Try.ntmps16
        go_wp2_with (first | (go_at_call 35; refine (mag_of (by assumption) _).mono ?_; rintro e w' ⟨rfl, rfl⟩) | (go_at_call 37; refine (parts_of (by assumption) _).mono ?_; rintro e w' ⟨rfl, rfl⟩) | (go_at_call 36; refine (rcanon_any _ _).mono ?_; rintro e w' ⟨rfl, rfl⟩) | (go_at_call 39; refine (below_any _ (by first | assumption | exact HB) _).mono ?_; rintro e w' ⟨rfl, rfl⟩) | (go_at_call 38; refine (shifted_any _ _ _ (by omega) (by omega) _).mono ?_; rintro e w' ⟨rfl, rfl⟩) | (go_at_call 42; refine (scaled_any _ _ _ (by omega) (by omega) hK (by first | (intro _; omega) | (intro hc; exact absurd hc (by decide))) _).mono ?_; rintro e w' ⟨rfl, rfl⟩))
        go_ret2
        exact ⟨by simp, rfl⟩
      · go_enter Try.func16, Try.ntmps16
        go_wp2_with (first | (go_at_call 35; refine (mag_of (by assumption) _).mono ?_; rintro e w' ⟨rfl, rfl⟩) | (go_at_call 37; refine (parts_of (by assumption) _).mono ?_; rintro e w' ⟨rfl, rfl⟩) | (go_at_call 36; refine (rcanon_any _ _).mono ?_; rintro e w' ⟨rfl, rfl⟩) | (go_at_call 39; refine (below_any _ (by first | assumption | exact HB) _).mono ?_; rintro e w' ⟨rfl, rfl⟩) | (go_at_call 38; refine (shifted_any _ _ _ (by omega) (by omega) _).mono ?_; rintro e w' ⟨rfl, rfl⟩) | (go_at_call 42; refine (scaled_any _ _ _ (by omega) (by omega) hK (by first | (intro _; omega) | (intro hc; exact absurd hc (by decide))) _).mono ?_; rintro e w' ⟨rfl, rfl⟩))
        go_ret2
        exact ⟨by simp, rfl⟩
  · by_cases hx : 0 < X
    · rcases hX with ⟨hge, hX⟩ | ⟨hge, hX⟩
      · go_enter Try.func16, Try.ntmps16
        go_wp2_with (first | (go_at_call 35; refine (mag_of (by assumption) _).mono ?_; rintro e w' ⟨rfl, rfl⟩) | (go_at_call 37; refine (parts_of (by assumption) _).mono ?_; rintro e w' ⟨rfl, rfl⟩) | (go_at_call 36; refine (rcanon_any _ _).mono ?_; rintro e w' ⟨rfl, rfl⟩) | (go_at_call 39; refine (below_any _ (by first | assumption | exact HB) _).mono ?_; rintro e w' ⟨rfl, rfl⟩) | (go_at_call 38; refine (shifted_any _ _ _ (by omega) (by omega) _).mono ?_; rintro e w' ⟨rfl, rfl⟩) | (go_at_call 42; refine (scaled_any _ _ _ (by omega) (by omega) hK (by first | (intro _; omega) | (intro hc; exact absurd hc (by decide))) _).mono ?_; rintro e w' ⟨rfl, rfl⟩))
        go_ret2
        exact ⟨by simp, rfl⟩
      · omega
    · rcases hX with ⟨hge, hX⟩ | ⟨hge, rfl⟩
      · go_enter Try.func16, Try.ntmps16
        go_wp2_with (first | (go_at_call 35; refine (mag_of (by assumption) _).mono ?_; rintro e w' ⟨rfl, rfl⟩) | (go_at_call 37; refine (parts_of (by assumption) _).mono ?_; rintro e w' ⟨rfl, rfl⟩) | (go_at_call 36; refine (rcanon_any _ _).mono ?_; rintro e w' ⟨rfl, rfl⟩) | (go_at_call 39; refine (below_any _ (by first | assumption | exact HB) _).mono ?_; rintro e w' ⟨rfl, rfl⟩) | (go_at_call 38; refine (shifted_any _ _ _ (by omega) (by omega) _).mono ?_; rintro e w' ⟨rfl, rfl⟩) | (go_at_call 42; refine (scaled_any _ _ _ (by omega) (by omega) hK (by first | (intro _; omega) | (intro hc; exact absurd hc (by decide))) _).mono ?_; rintro e w' ⟨rfl, rfl⟩))
        go_ret2
        exact ⟨by simp, rfl⟩
      · go_enter Try.func16, Try.ntmps16
        go_wp2_with (first | (go_at_call 35; refine (mag_of (by assumption) _).mono ?_; rintro e w' ⟨rfl, rfl⟩) | (go_at_call 37; refine (parts_of (by assumption) _).mono ?_; rintro e w' ⟨rfl, rfl⟩) | (go_at_call 36; refine (rcanon_any _ _).mono ?_; rintro e w' ⟨rfl, rfl⟩) | (go_at_call 39; refine (below_any _ (by first | assumption | exact HB) _).mono ?_; rintro e w' ⟨rfl, rfl⟩) | (go_at_call 38; refine (shifted_any _ _ _ (by omega) (by omega) _).mono ?_; rintro e w' ⟨rfl, rfl⟩) | (go_at_call 42; refine (scaled_any _ _ _ (by omega) (by omega) hK (by first | (intro _; omega) | (intro hc; exact absurd hc (by decide))) _).mono ?_; rintro e w' ⟨rfl, rfl⟩))
        go_ret2
        exact ⟨by simp, rfl⟩

theorem rproduct_any (a b : Nat) (ha : W64 a) (hb : W64 b) (w : World) :
    Calls Try.prog 16 #[.float .f64 a, .float .f64 b] w fun e w' => e = .returned (.tuple #[.float .f64 (prodW a b).1, .float .f64 (prodW a b).2]) ∧ ∃ n, w' = w.drewN n := by
  rcases rprod_out (a := a) (b := b) with ⟨p, h, h', e⟩ | ⟨h, e⟩ | ⟨p, h, hin⟩
  · rw [e]
    exact rproduct_out a b p h' w w (run_valid (P := Try.prog) 24 h w) ⟨0, rfl⟩
  · obtain ⟨n, n1, n2, k⟩ := run_invalid (P := Try.prog) 24 (.inr (.inr (.inl rfl))) h w
    have := rproduct_out a b n (fun hin => by have := hin.1; omega) w _ k ⟨1, rfl⟩
    rw [e]
    rwa [canonW_nan n2] at this
  · exact (rproduct_in a b p ha hb h hin w).mono fun e' w' ⟨h1, h2⟩ => ⟨h1, 0, h2.symm⟩
end Go.Proofs.Ytkkikcfolinkfaa
