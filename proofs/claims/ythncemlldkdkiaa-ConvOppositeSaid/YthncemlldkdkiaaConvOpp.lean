/- The statement ConvOpposite: opposites; two roundings. -/
import Derived.Test.YthncemlldkdkiaaConvK
import Derived.Test.YthncemlldkdkiaaConF
import Derived.Test.YthncemlldkdkiaaOpenF
namespace Go.Proofs.Ythncemlldkdkiaa
open Go Go.RowKit TF

attribute [local go_sem] cmp_eq cmp_ne cmp_lt cmp_gt cmp_le cmp_ge

theorem below_drawn2 (w : World) (n : Nat) : Below w.heap.size w (w.drewN n) :=
  have h := Below.refl w.heap.size w
  ⟨h.os, h.tape, h.output, h.size, h.block⟩
theorem sg_op (φ : Nat → Nat) {x : Nat} (h : W64 x) : sg φ (op x) = -sg φ x := by
  unfold sg
  rw [ng_op h, mg_op h]
  cases ng x <;> simp
theorem rd_bound {x : Nat} (h : fits x = true) : -9223372036854775808 ≤ rdI x ∧ rdI x < 9223372036854775808 := by
  have hr := round_is x
  rw [h, if_pos rfl] at hr
  rcases round_ways x with ⟨g1, hl, hn, ⟨g2, e⟩ | ⟨g2, e⟩⟩ | ⟨g1, g2, e⟩ | ⟨g1, g2, e⟩ <;> (rw [e] at hr; have := (Prod.mk.inj hr).1; omega)
theorem one_off (s : Bool) (a b : Nat) (h1 : a ≤ b + 1) (h2 : b ≤ a + 1) : (wd16 s a : Int) = wd16 s b ∨ ((wd16 s a : Int) + 1 = wd16 s b) ∨ (wd16 s b : Int) + 1 = wd16 s a := by
  unfold wd16; split <;> omega

set_option maxHeartbeats 4000000 in
theorem convOpposite_walk (x : Nat) (most : Int) (w : World) (hx : W64 x) (hm : (Lit.int .i64 most).wf = true) :
    Calls Try.prog 8 #[.float .f64 x, .int .i64 most] w fun e w' => e = .returned (.bool true) ∧ Below w.heap.size w w' := by
  have hm2 := int_hi hm
  clear hm
  cases hself : eqW x x
  · clear hm2
    go_enter Try.func8, Try.ntmps8
    go_wp2_with (first | (go_at_call 9; ((with_reducible refine (awake_any _).mono ?_)); rintro e w' ⟨rfl, n, rfl⟩))
    go_ret
    exact ⟨rfl, below_drawn2 _ _⟩
  have nx : isN x = false := by rw [eqW_self] at hself; simpa using hself
  have k0 := fun w => run_neg Try.prog (b := x) hx w
  obtain ⟨y, ey⟩ : ∃ y, y = op x := ⟨_, rfl⟩
  have hy : W64 y := by rw [ey]; exact hx.op
  have ny : isN y = false := by rw [ey, isN_false, mg_op hx]; exact isN_false.1 nx
  rw [← ey] at k0
  obtain ⟨N, B, hN⟩ : ∃ N B, roundI x = (N, B) := ⟨_, _, rfl⟩
  obtain ⟨N', B', hN'⟩ : ∃ N B, roundI y = (N, B) := ⟨_, _, rfl⟩
  have R1 := Lib.hid fun w => (by have := round_any x hx w; rw [hN] at this; exact this : Calls Try.prog 10 #[.float .f64 x] w fun e w' => e = .returned (.tuple #[.int .i64 N, .bool B]) ∧ w = w')
  have R2 := Lib.hid fun w => (by have := round_any y hy w; rw [hN'] at this; exact this : Calls Try.prog 10 #[.float .f64 y] w fun e w' => e = .returned (.tuple #[.int .i64 N', .bool B']) ∧ w = w')
  obtain ⟨c1, hc1⟩ : ∃ c, c = clampI x most := ⟨_, rfl⟩
  obtain ⟨c2, hc2⟩ : ∃ c, c = clampI y most := ⟨_, rfl⟩
  have C1 := Lib.hid fun w => (by rw [hc1]; exact clamp_any x most hx hm2 w : Calls Try.prog 14 #[.float .f64 x, .int .i64 most] w fun e w' => e = .returned (.int .i64 c1) ∧ w = w')
  have C2 := Lib.hid fun w => (by rw [hc2]; exact clamp_any y most hy hm2 w : Calls Try.prog 14 #[.float .f64 y, .int .i64 most] w fun e w' => e = .returned (.int .i64 c2) ∧ w = w')
  obtain ⟨t1, ht1⟩ : ∃ c : Int, c = to32 x := ⟨_, rfl⟩
  obtain ⟨t2, ht2⟩ : ∃ c : Int, c = to32 y := ⟨_, rfl⟩
  have T1 := Lib.hid fun w => (by rw [ht1]; exact to32_any x hx w : Calls Try.prog 19 #[.float .f64 x] w fun e w' => e = .returned (.int .u32 t1) ∧ w = w')
  have T2 := Lib.hid fun w => (by rw [ht2]; exact to32_any y hy w : Calls Try.prog 19 #[.float .f64 y] w fun e w' => e = .returned (.int .u32 t2) ∧ w = w')
  obtain ⟨p, hp⟩ : ∃ c, c = from32 (to32 x) := ⟨_, rfl⟩
  have F1 := Lib.hid fun w => (by have := from32_any t1 (by omega) (by have := to32_lt x; omega) w; rw [show t1.toNat = to32 x by omega, ← hp] at this; exact this : Calls Try.prog 21 #[.int .u32 t1] w fun e w' => e = .returned (.float .f64 p) ∧ w = w')
  have hI := INF_lt
  have fI := f32_inf (q32_le (mg x))
  have hp2 : p = wd (ng x) (f32 (q32 (mg x))) := by rw [hp, tofro32 nx]
  have np : isN p = false := by rw [hp2, isN_false, mg_wd (by omega)]; exact fI
  have h64p : W64 p := by rw [hp2]; exact wd_lt (by omega)
  obtain ⟨s1, hs1⟩ : ∃ c : Int, c = to16 x := ⟨_, rfl⟩
  obtain ⟨s2, hs2⟩ : ∃ c : Int, c = to16 y := ⟨_, rfl⟩
  obtain ⟨s3, hs3⟩ : ∃ c : Int, c = to16 p := ⟨_, rfl⟩
  have S1 := Lib.hid fun w => (by rw [hs1]; exact to16_any x hx w : Calls Try.prog 23 #[.float .f64 x] w fun e w' => e = .returned (.int .u16 s1) ∧ w = w')
  have S2 := Lib.hid fun w => (by rw [hs2]; exact to16_any y hy w : Calls Try.prog 23 #[.float .f64 y] w fun e w' => e = .returned (.int .u16 s2) ∧ w = w')
  have S3 := Lib.hid fun w => (by rw [hs3]; exact to16_any p h64p w : Calls Try.prog 23 #[.float .f64 p] w fun e w' => e = .returned (.int .u16 s3) ∧ w = w')
  have g1 : c1 = -c2 := by rw [hc1, hc2, clamp_is most nx, clamp_is most ny, ey, sg_op _ hx]; omega
  have g1b : -9223372036854775807 ≤ c2 ∧ c2 ≤ 9223372036854775807 := by
    rw [hc2]; unfold clampI; repeat' split
    all_goals omega
  have g2 : bits .xor .u32 t1 t2 = 2147483648 := by rw [ht1, ht2, ey, opp32 hx nx, to32_is nx]; exact xor32 _ (by have := q32_le (mg x); omega)
  have g3 : bits .xor .u16 s1 s2 = 32768 := by rw [hs1, hs2, ey, opp16 hx nx, to16_is nx]; exact xor16 _ (by have := q16_le (mg x); omega)
  have g4 : s1 = s3 ∨ s1 + 1 = s3 ∨ s3 + 1 = s1 := by
    rw [hs1, hs3, to16_is nx, to16_is np, hp2, ng_wd (by omega), mg_wd (by omega)]
    obtain ⟨a, b⟩ := twice nx
    exact one_off _ _ _ b a
  have g5 : 0 ≤ s1 ∧ s1 ≤ 64512 ∧ 0 ≤ s3 ∧ s3 ≤ 64512 := by
    have e1 := q16_le (mg x)
    have e2 := q16_le (mg p)
    have e3 : to16 x ≤ 64512 := by rw [to16_is nx]; unfold wd16; split <;> omega
    have e4 : to16 p ≤ 64512 := by rw [to16_is np]; unfold wd16; split <;> omega
    omega
  have g6 : B = true → B' = true → N = -N' ∧ -9223372036854775808 < N' ∧ N' < 9223372036854775808 := by
    intro h1 h2
    rw [round_is] at hN hN'
    cases hf : fits x <;> rw [hf] at hN
    · cases hN; cases h1
    cases hf' : fits y <;> rw [hf'] at hN'
    · cases hN'; cases h2
    cases hN; cases hN'
    have b1 := rd_bound hf
    have b2 := rd_bound hf'
    have e : rdI y = -rdI x := by rw [ey]; exact sg_op _ hx
    omega
  clear hN hN' hc1 hc2 ht1 ht2 hp hp2 hs1 hs2 hs3 nx ny np hI fI ey hm2
  obtain ⟨g5a, g5b, g5c, g5d⟩ := g5
  obtain ⟨g1c, g1d⟩ := g1b
  subst g1
  rcases g4 with rfl | rfl | rfl
  all_goals
    cases B <;> cases B'
    case true.true =>
      obtain ⟨rfl, g7, g8⟩ := g6 rfl rfl
      clear g6
      go_enter Try.func8, Try.ntmps8
      go_wp2_with (first | (go_at_call 9; ((with_reducible refine (awake_any _).mono ?_)); rintro e w' ⟨rfl, n, rfl⟩) | (go_at_call 10; (first | ((with_reducible refine (R1.out _).mono ?_)) | ((with_reducible refine (R2.out _).mono ?_))); rintro e w' ⟨rfl, rfl⟩) | (go_at_call 14; (first | ((with_reducible refine (C1.out _).mono ?_)) | ((with_reducible refine (C2.out _).mono ?_))); rintro e w' ⟨rfl, rfl⟩) | (go_at_call 19; (first | ((with_reducible refine (T1.out _).mono ?_)) | ((with_reducible refine (T2.out _).mono ?_))); rintro e w' ⟨rfl, rfl⟩) | (go_at_call 21; ((with_reducible refine (F1.out _).mono ?_)); rintro e w' ⟨rfl, rfl⟩) | (go_at_call 23; (first | ((with_reducible refine (S1.out _).mono ?_)) | ((with_reducible refine (S2.out _).mono ?_)) | ((with_reducible refine (S3.out _).mono ?_))); rintro e w' ⟨rfl, rfl⟩))
      go_ret
      exact ⟨rfl, below_drawn2 _ _⟩
    all_goals
      clear g6
      go_enter Try.func8, Try.ntmps8
      go_wp2_with (first | (go_at_call 9; ((with_reducible refine (awake_any _).mono ?_)); rintro e w' ⟨rfl, n, rfl⟩) | (go_at_call 10; (first | ((with_reducible refine (R1.out _).mono ?_)) | ((with_reducible refine (R2.out _).mono ?_))); rintro e w' ⟨rfl, rfl⟩) | (go_at_call 14; (first | ((with_reducible refine (C1.out _).mono ?_)) | ((with_reducible refine (C2.out _).mono ?_))); rintro e w' ⟨rfl, rfl⟩) | (go_at_call 19; (first | ((with_reducible refine (T1.out _).mono ?_)) | ((with_reducible refine (T2.out _).mono ?_))); rintro e w' ⟨rfl, rfl⟩) | (go_at_call 21; ((with_reducible refine (F1.out _).mono ?_)); rintro e w' ⟨rfl, rfl⟩) | (go_at_call 23; (first | ((with_reducible refine (S1.out _).mono ?_)) | ((with_reducible refine (S2.out _).mono ?_)) | ((with_reducible refine (S3.out _).mono ?_))); rintro e w' ⟨rfl, rfl⟩))
      go_ret
      exact ⟨rfl, below_drawn2 _ _⟩
end Go.Proofs.Ythncemlldkdkiaa
