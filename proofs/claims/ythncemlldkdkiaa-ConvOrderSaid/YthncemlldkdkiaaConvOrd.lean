/- The statement ConvOrder: order is kept. -/
import Derived.Test.YthncemlldkdkiaaConvK
import Derived.Test.YthncemlldkdkiaaConF
import Derived.Test.YthncemlldkdkiaaOpenF
namespace Go.Proofs.Ythncemlldkdkiaa
open Go Go.RowKit TF

attribute [local go_sem] cmp_eq cmp_ne cmp_lt cmp_gt cmp_le cmp_ge

theorem below_drawn (w : World) (n : Nat) : Below w.heap.size w (w.drewN n) :=
  have h := Below.refl w.heap.size w
  ⟨h.os, h.tape, h.output, h.size, h.block⟩

set_option maxHeartbeats 4000000 in
theorem convOrder_walk (x y : Nat) (most : Int) (w : World) (hx : W64 x) (hy : W64 y) (hm : (Lit.int .i64 most).wf = true) :
    Calls Try.prog 7 #[.float .f64 x, .float .f64 y, .int .i64 most] w fun e w' => e = .returned (.bool true) ∧ Below w.heap.size w w' := by
  have hm2 := int_hi hm
  clear hm
  cases hle : (ltW x y || eqW x y)
  · clear hm2
    go_enter Try.func7, Try.ntmps7
    go_wp2_with (first | (go_at_call 9; ((with_reducible refine (awake_any _).mono ?_)); rintro e w' ⟨rfl, n, rfl⟩))
    go_ret
    exact ⟨rfl, below_drawn _ _⟩
  have hle2 : leW x y = true := by rw [le_or]; exact hle
  obtain ⟨nx, ny, hr⟩ := rk_of_le hle2
  obtain ⟨N, B, hN⟩ : ∃ N B, roundI x = (N, B) := ⟨_, _, rfl⟩
  obtain ⟨N', B', hN'⟩ : ∃ N B, roundI y = (N, B) := ⟨_, _, rfl⟩
  obtain ⟨F, D, hF⟩ : ∃ N B, floorI x = (N, B) := ⟨_, _, rfl⟩
  obtain ⟨F', D', hF'⟩ : ∃ N B, floorI y = (N, B) := ⟨_, _, rfl⟩
  have R1 := Lib.hid fun w => (by have := round_any x hx w; rw [hN] at this; exact this : Calls Try.prog 10 #[.float .f64 x] w fun e w' => e = .returned (.tuple #[.int .i64 N, .bool B]) ∧ w = w')
  have R2 := Lib.hid fun w => (by have := round_any y hy w; rw [hN'] at this; exact this : Calls Try.prog 10 #[.float .f64 y] w fun e w' => e = .returned (.tuple #[.int .i64 N', .bool B']) ∧ w = w')
  have L1 := Lib.hid fun w => (by have := floor_conv x w; rw [hF] at this; exact this : Calls Try.prog 12 #[.float .f64 x] w fun e w' => e = .returned (.tuple #[.int .i64 F, .bool D]) ∧ ∃ n, w' = w.drewN n)
  have L2 := Lib.hid fun w => (by have := floor_conv y w; rw [hF'] at this; exact this : Calls Try.prog 12 #[.float .f64 y] w fun e w' => e = .returned (.tuple #[.int .i64 F', .bool D']) ∧ ∃ n, w' = w.drewN n)
  obtain ⟨c1, hc1⟩ : ∃ c, c = clampI x most := ⟨_, rfl⟩
  obtain ⟨c2, hc2⟩ : ∃ c, c = clampI y most := ⟨_, rfl⟩
  have C1 := Lib.hid fun w => (by rw [hc1]; exact clamp_any x most hx hm2 w : Calls Try.prog 14 #[.float .f64 x, .int .i64 most] w fun e w' => e = .returned (.int .i64 c1) ∧ w = w')
  have C2 := Lib.hid fun w => (by rw [hc2]; exact clamp_any y most hy hm2 w : Calls Try.prog 14 #[.float .f64 y, .int .i64 most] w fun e w' => e = .returned (.int .i64 c2) ∧ w = w')
  obtain ⟨t1, ht1⟩ : ∃ c : Int, c = to32 x := ⟨_, rfl⟩
  obtain ⟨t2, ht2⟩ : ∃ c : Int, c = to32 y := ⟨_, rfl⟩
  have T1 := Lib.hid fun w => (by rw [ht1]; exact to32_any x hx w : Calls Try.prog 19 #[.float .f64 x] w fun e w' => e = .returned (.int .u32 t1) ∧ w = w')
  have T2 := Lib.hid fun w => (by rw [ht2]; exact to32_any y hy w : Calls Try.prog 19 #[.float .f64 y] w fun e w' => e = .returned (.int .u32 t2) ∧ w = w')
  obtain ⟨p1, hp1⟩ : ∃ c, c = from32 (to32 x) := ⟨_, rfl⟩
  obtain ⟨p2, hp2⟩ : ∃ c, c = from32 (to32 y) := ⟨_, rfl⟩
  have F1 := Lib.hid fun w => (by have := from32_any t1 (by omega) (by have := to32_lt x; omega) w; rw [show t1.toNat = to32 x by omega, ← hp1] at this; exact this : Calls Try.prog 21 #[.int .u32 t1] w fun e w' => e = .returned (.float .f64 p1) ∧ w = w')
  have F2 := Lib.hid fun w => (by have := from32_any t2 (by omega) (by have := to32_lt y; omega) w; rw [show t2.toNat = to32 y by omega, ← hp2] at this; exact this : Calls Try.prog 21 #[.int .u32 t2] w fun e w' => e = .returned (.float .f64 p2) ∧ w = w')
  obtain ⟨s1, hs1⟩ : ∃ c : Int, c = to16 x := ⟨_, rfl⟩
  obtain ⟨s2, hs2⟩ : ∃ c : Int, c = to16 y := ⟨_, rfl⟩
  have S1 := Lib.hid fun w => (by rw [hs1]; exact to16_any x hx w : Calls Try.prog 23 #[.float .f64 x] w fun e w' => e = .returned (.int .u16 s1) ∧ w = w')
  have S2 := Lib.hid fun w => (by rw [hs2]; exact to16_any y hy w : Calls Try.prog 23 #[.float .f64 y] w fun e w' => e = .returned (.int .u16 s2) ∧ w = w')
  obtain ⟨q1, hq1⟩ : ∃ c, c = from16 (to16 x) := ⟨_, rfl⟩
  obtain ⟨q2, hq2⟩ : ∃ c, c = from16 (to16 y) := ⟨_, rfl⟩
  have H1 := Lib.hid fun w => (by have := from16_any s1 (by omega) (by have := to16_lt x; omega) w; rw [show s1.toNat = to16 x by omega, ← hq1] at this; exact this : Calls Try.prog 25 #[.int .u16 s1] w fun e w' => e = .returned (.float .f64 q1) ∧ w = w')
  have H2 := Lib.hid fun w => (by have := from16_any s2 (by omega) (by have := to16_lt y; omega) w; rw [show s2.toNat = to16 y by omega, ← hq2] at this; exact this : Calls Try.prog 25 #[.int .u16 s2] w fun e w' => e = .returned (.float .f64 q2) ∧ w = w')
  have g1 : c1 ≤ c2 := by rw [hc1, hc2]; exact clamp_mono most hle2
  have g2 : (ltW p1 p2 || eqW p1 p2) = true := by rw [hp1, hp2, ← le_or]; exact order32 hle2
  have g3 : (ltW q1 q2 || eqW q1 q2) = true := by rw [hq1, hq2, ← le_or]; exact order16 hle2
  have g4 : B = true → B' = true → N ≤ N' ∧ F ≤ F' := by
    intro h1 h2
    rw [round_is] at hN hN'
    rw [floor_is] at hF hF'
    cases hf : fits x <;> rw [hf] at hN hF
    · cases hN; cases h1
    cases hf' : fits y <;> rw [hf'] at hN' hF'
    · cases hN'; cases h2
    cases hN; cases hN'; cases hF; cases hF'
    exact ⟨rd_mono hr, dn_mono hr⟩
  clear hN hN' hF hF' hc1 hc2 ht1 ht2 hp1 hp2 hs1 hs2 hq1 hq2 hle2 nx ny hr hm2
  cases B <;> cases B'
  case true.true =>
    obtain ⟨g5, g6⟩ := g4 rfl rfl
    clear g4
    go_enter Try.func7, Try.ntmps7
    go_wp2_with (first | (go_at_call 9; ((with_reducible refine (awake_any _).mono ?_)); rintro e w' ⟨rfl, n, rfl⟩) | (go_at_call 10; (first | ((with_reducible refine (R1.out _).mono ?_)) | ((with_reducible refine (R2.out _).mono ?_))); rintro e w' ⟨rfl, rfl⟩) | (go_at_call 12; (first | ((with_reducible refine (L1.out _).mono ?_)) | ((with_reducible refine (L2.out _).mono ?_))); rintro e w' ⟨rfl, n, rfl⟩) | (go_at_call 14; (first | ((with_reducible refine (C1.out _).mono ?_)) | ((with_reducible refine (C2.out _).mono ?_))); rintro e w' ⟨rfl, rfl⟩) | (go_at_call 19; (first | ((with_reducible refine (T1.out _).mono ?_)) | ((with_reducible refine (T2.out _).mono ?_))); rintro e w' ⟨rfl, rfl⟩) | (go_at_call 21; (first | ((with_reducible refine (F1.out _).mono ?_)) | ((with_reducible refine (F2.out _).mono ?_))); rintro e w' ⟨rfl, rfl⟩) | (go_at_call 23; (first | ((with_reducible refine (S1.out _).mono ?_)) | ((with_reducible refine (S2.out _).mono ?_))); rintro e w' ⟨rfl, rfl⟩) | (go_at_call 25; (first | ((with_reducible refine (H1.out _).mono ?_)) | ((with_reducible refine (H2.out _).mono ?_))); rintro e w' ⟨rfl, rfl⟩))
    go_ret
    exact ⟨rfl, below_drawn _ _⟩
  all_goals
    clear g4
    go_enter Try.func7, Try.ntmps7
    go_wp2_with (first | (go_at_call 9; ((with_reducible refine (awake_any _).mono ?_)); rintro e w' ⟨rfl, n, rfl⟩) | (go_at_call 10; (first | ((with_reducible refine (R1.out _).mono ?_)) | ((with_reducible refine (R2.out _).mono ?_))); rintro e w' ⟨rfl, rfl⟩) | (go_at_call 12; (first | ((with_reducible refine (L1.out _).mono ?_)) | ((with_reducible refine (L2.out _).mono ?_))); rintro e w' ⟨rfl, n, rfl⟩) | (go_at_call 14; (first | ((with_reducible refine (C1.out _).mono ?_)) | ((with_reducible refine (C2.out _).mono ?_))); rintro e w' ⟨rfl, rfl⟩) | (go_at_call 19; (first | ((with_reducible refine (T1.out _).mono ?_)) | ((with_reducible refine (T2.out _).mono ?_))); rintro e w' ⟨rfl, rfl⟩) | (go_at_call 21; (first | ((with_reducible refine (F1.out _).mono ?_)) | ((with_reducible refine (F2.out _).mono ?_))); rintro e w' ⟨rfl, rfl⟩) | (go_at_call 23; (first | ((with_reducible refine (S1.out _).mono ?_)) | ((with_reducible refine (S2.out _).mono ?_))); rintro e w' ⟨rfl, rfl⟩) | (go_at_call 25; (first | ((with_reducible refine (H1.out _).mono ?_)) | ((with_reducible refine (H2.out _).mono ?_))); rintro e w' ⟨rfl, rfl⟩))
    go_ret
    exact ⟨rfl, below_drawn _ _⟩
end Go.Proofs.Ythncemlldkdkiaa
