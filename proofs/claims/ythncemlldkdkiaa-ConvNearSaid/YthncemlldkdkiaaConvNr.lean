/- The statement ConvNear: nearest, by the middles. -/
import Derived.Test.YthncemlldkdkiaaConvK
import Derived.Test.YthncemlldkdkiaaConM
import Derived.Test.YthncemlldkdkiaaOpenF
namespace Go.Proofs.Ythncemlldkdkiaa
open Go Go.RowKit TF

attribute [local go_sem] cmp_eq cmp_ne cmp_lt cmp_gt cmp_le cmp_ge

theorem below_drawn5 (w : World) (n : Nat) : Below w.heap.size w (w.drewN n) :=
  have h := Below.refl w.heap.size w
  ⟨h.os, h.tape, h.output, h.size, h.block⟩
theorem middle_any {x b a c : Nat} {even : Bool} (h : Mid x b a c even) (w : World) :
    Calls Try.prog 29 #[.float .f64 x, .float .f64 b, .float .f64 a, .float .f64 c, .bool even] w fun e w' => e = .returned (.bool true) ∧ w = w' := by
  obtain ⟨p1, p2, p3, low, high, h1, h2, h3, h4, h5, g1, g2⟩ := h.out
  have k1 := run_valid (P := Try.prog) 24 h1
  have k2 := run_valid (P := Try.prog) 24 h2
  have k3 := run_valid (P := Try.prog) 24 h3
  have k4 := run_valid (P := Try.prog) 24 h4
  have k5 := run_valid (P := Try.prog) 24 h5
  clear h h1 h2 h3 h4 h5
  rcases g1 with g1 | ⟨g1, g1b, g1c⟩ <;> rcases g2 with g2 | ⟨g2, g2b, g2c⟩
  all_goals
    try subst g1c
    try subst g2c
    go_enter Try.func29, Try.ntmps29
    go_wp2_with fail
    go_ret
    exact ⟨rfl, rfl⟩
theorem op_pos {w : Nat} (h : w < 9223372036854775808) : op w = wd true w := by
  unfold op wd; rw [(ng_false_iff (by omega)).2 (by omega), if_pos rfl, if_neg Bool.false_ne_true, Nat.add_comm]

theorem from32_k (k : Nat) (h : k < 2139095040) (K : Int) (hK : K = k) (w : World) : Calls Try.prog 21 #[.int .u32 K] w fun e w' => e = .returned (.float .f64 (w32 k)) ∧ w = w' := by
  have := from32_any K (by omega) (by omega) w
  rw [show K.toNat = k by omega, from32_low h] at this
  exact this
theorem neg32 (w : World) : (Op.unary .neg (.float .f64 (w32 1))).run Try.prog w = .ok (.float .f64 (wd true (w32 1))) w := by
  have h := w32_fin (r := 1) (by omega)
  have hI := INF_lt
  rw [run_neg _ (by omega), op_pos (by omega)]
theorem near32_ways {a : Nat} (ha : a ≤ INF) (R : Int) (hR : R = q32 a) :
    (R = 2139095040 ∧ (ltW 5183643170835005440 a || eqW a 5183643170835005440) = true) ∨
    (R = 0 ∧ (ltW 5183643170835005440 a || eqW a 5183643170835005440) = false ∧ ∃ A O N : Nat, Hid (∀ w, Calls Try.prog 21 #[.int .u32 0] w fun e w' => e = .returned (.float .f64 A) ∧ w = w') ∧
      Hid (∀ w, Calls Try.prog 21 #[.int .u32 1] w fun e w' => e = .returned (.float .f64 O) ∧ w = w') ∧ (∀ w, (Op.unary .neg (.float .f64 O)).run Try.prog w = .ok (.float .f64 N) w) ∧
      Hid (∀ w, Calls Try.prog 29 #[.float .f64 a, .float .f64 N, .float .f64 A, .float .f64 O, .bool true] w fun e w' => e = .returned (.bool true) ∧ w = w')) ∨
    (1 ≤ R ∧ R < 2139095039 ∧ (R == 2139095040) = false ∧ (ltW 5183643170835005440 a || eqW a 5183643170835005440) = false ∧ ∃ (A B C O N : Nat) (ev : Bool), Hid (∀ w, Calls Try.prog 21 #[.int .u32 R] w fun e w' => e = .returned (.float .f64 A) ∧ w = w') ∧
      Hid (∀ w, Calls Try.prog 21 #[.int .u32 (R - 1)] w fun e w' => e = .returned (.float .f64 B) ∧ w = w') ∧ Hid (∀ w, Calls Try.prog 21 #[.int .u32 (R + 1)] w fun e w' => e = .returned (.float .f64 C) ∧ w = w') ∧
      Hid (∀ w, Calls Try.prog 21 #[.int .u32 1] w fun e w' => e = .returned (.float .f64 O) ∧ w = w') ∧ (∀ w, (Op.unary .neg (.float .f64 O)).run Try.prog w = .ok (.float .f64 N) w) ∧ (R % 2 == 0) = ev ∧
      Hid (∀ w, Calls Try.prog 29 #[.float .f64 a, .float .f64 B, .float .f64 A, .float .f64 C, .bool ev] w fun e w' => e = .returned (.bool true) ∧ w = w')) ∨
    (R = 2139095039 ∧ (ltW 5183643170835005440 a || eqW a 5183643170835005440) = false ∧ ∃ A B O N : Nat, Hid (∀ w, Calls Try.prog 21 #[.int .u32 2139095039] w fun e w' => e = .returned (.float .f64 A) ∧ w = w') ∧
      Hid (∀ w, Calls Try.prog 21 #[.int .u32 2139095038] w fun e w' => e = .returned (.float .f64 B) ∧ w = w') ∧
      Hid (∀ w, Calls Try.prog 21 #[.int .u32 1] w fun e w' => e = .returned (.float .f64 O) ∧ w = w') ∧ (∀ w, (Op.unary .neg (.float .f64 O)).run Try.prog w = .ok (.float .f64 N) w) ∧
      Hid (∀ w, Calls Try.prog 29 #[.float .f64 a, .float .f64 B, .float .f64 A, .float .f64 5183643171103440896, .bool false] w fun e w' => e = .returned (.bool true) ∧ w = w')) := by
  have hI := INF_eq
  have hI2 := INF_lt
  have hq := q32_le a
  have hma : mg a = a := mg_small (by omega)
  rw [ge_words ha (by omega)]
  have hge : 5183643170835005440 ≤ a ↔ q32 a = 2139095040 := by
    have hf := n32_far (x := a)
    rw [hma] at hf
    rw [← hf]
    unfold q32
    split
    · rename_i h
      have : 5183643170835005440 ≤ mg a := by rw [hma]; omega
      have := n32_far.2 this
      omega
    · omega
  rcases Nat.lt_or_ge (q32 a) 2139095040 with h | h
  · have hm := mid32 ha rfl h
    have hfar : decide (5183643170835005440 ≤ a) = false := decide_eq_false (by rw [hge]; omega)
    rw [hfar]
    obtain ⟨r, hr⟩ : ∃ r, r = q32 a := ⟨_, rfl⟩
    rw [← hr] at hm hR h
    rcases Nat.eq_zero_or_pos r with h0 | h0
    · subst h0
      rw [if_neg (by omega)] at hm
      exact .inr (.inl ⟨by omega, rfl, _, _, _, Lib.hid fun w => from32_k 0 (by omega) 0 rfl w, Lib.hid fun w => from32_k 1 (by omega) 1 rfl w, neg32, Lib.hid fun w => middle_any hm w⟩)
    · rw [if_pos h0] at hm
      rcases Nat.lt_or_ge r 2139095039 with h1 | h1
      · have he : (R % 2 == 0) = (r % 2 == 0) := by
          rw [Bool.eq_iff_iff]; simp only [beq_iff_eq]; omega
        exact .inr (.inr (.inl ⟨by omega, by omega, by rw [beq_eq_false_iff_ne]; omega, rfl, _, _, _, _, _, _, Lib.hid fun w => from32_k r h R hR w, Lib.hid fun w => from32_k (r - 1) (by omega) (R - 1) (by omega) w,
          Lib.hid fun w => from32_k (r + 1) (by omega) (R + 1) (by omega) w, Lib.hid fun w => from32_k 1 (by omega) 1 rfl w, neg32, he, Lib.hid fun w => middle_any hm w⟩))
      · have hr2 : r = 2139095039 := by omega
        subst hr2
        rw [show 2139095039 + 1 = 2139095040 from rfl, w32_top] at hm
        exact .inr (.inr (.inr ⟨by omega, rfl, _, _, _, _, Lib.hid fun w => from32_k 2139095039 (by omega) 2139095039 rfl w, Lib.hid fun w => from32_k (2139095039 - 1) (by omega) 2139095038 rfl w, Lib.hid fun w => from32_k 1 (by omega) 1 rfl w, neg32, Lib.hid fun w => middle_any hm w⟩))
  · have h2 : q32 a = 2139095040 := by omega
    exact .inl ⟨by omega, decide_eq_true (hge.2 h2)⟩

theorem from16_k (k : Nat) (h : k < 31744) (K : Int) (hK : K = k) (w : World) : Calls Try.prog 25 #[.int .u16 K] w fun e w' => e = .returned (.float .f64 (w16 k)) ∧ w = w' := by
  have := from16_any K (by omega) (by omega) w
  rw [show K.toNat = k by omega, from16_low h] at this
  exact this
theorem neg16 (w : World) : (Op.unary .neg (.float .f64 (w16 1))).run Try.prog w = .ok (.float .f64 (wd true (w16 1))) w := by
  have h := w16_fin (r := 1) (by omega)
  have hI := INF_lt
  rw [run_neg _ (by omega), op_pos (by omega)]
theorem near16_ways {a : Nat} (ha : a ≤ INF) (R : Int) (hR : R = q16 a) :
    (R = 31744 ∧ (ltW 4679237813814689792 a || eqW a 4679237813814689792) = true) ∨
    (R = 0 ∧ (ltW 4679237813814689792 a || eqW a 4679237813814689792) = false ∧ ∃ A O N : Nat, Hid (∀ w, Calls Try.prog 25 #[.int .u16 0] w fun e w' => e = .returned (.float .f64 A) ∧ w = w') ∧
      Hid (∀ w, Calls Try.prog 25 #[.int .u16 1] w fun e w' => e = .returned (.float .f64 O) ∧ w = w') ∧ (∀ w, (Op.unary .neg (.float .f64 O)).run Try.prog w = .ok (.float .f64 N) w) ∧
      Hid (∀ w, Calls Try.prog 29 #[.float .f64 a, .float .f64 N, .float .f64 A, .float .f64 O, .bool true] w fun e w' => e = .returned (.bool true) ∧ w = w')) ∨
    (1 ≤ R ∧ R < 31743 ∧ (R == 31744) = false ∧ (ltW 4679237813814689792 a || eqW a 4679237813814689792) = false ∧ ∃ (A B C O N : Nat) (ev : Bool), Hid (∀ w, Calls Try.prog 25 #[.int .u16 R] w fun e w' => e = .returned (.float .f64 A) ∧ w = w') ∧
      Hid (∀ w, Calls Try.prog 25 #[.int .u16 (R - 1)] w fun e w' => e = .returned (.float .f64 B) ∧ w = w') ∧ Hid (∀ w, Calls Try.prog 25 #[.int .u16 (R + 1)] w fun e w' => e = .returned (.float .f64 C) ∧ w = w') ∧
      Hid (∀ w, Calls Try.prog 25 #[.int .u16 1] w fun e w' => e = .returned (.float .f64 O) ∧ w = w') ∧ (∀ w, (Op.unary .neg (.float .f64 O)).run Try.prog w = .ok (.float .f64 N) w) ∧ (R % 2 == 0) = ev ∧
      Hid (∀ w, Calls Try.prog 29 #[.float .f64 a, .float .f64 B, .float .f64 A, .float .f64 C, .bool ev] w fun e w' => e = .returned (.bool true) ∧ w = w')) ∨
    (R = 31743 ∧ (ltW 4679237813814689792 a || eqW a 4679237813814689792) = false ∧ ∃ A B O N : Nat, Hid (∀ w, Calls Try.prog 25 #[.int .u16 31743] w fun e w' => e = .returned (.float .f64 A) ∧ w = w') ∧
      Hid (∀ w, Calls Try.prog 25 #[.int .u16 31742] w fun e w' => e = .returned (.float .f64 B) ∧ w = w') ∧
      Hid (∀ w, Calls Try.prog 25 #[.int .u16 1] w fun e w' => e = .returned (.float .f64 O) ∧ w = w') ∧ (∀ w, (Op.unary .neg (.float .f64 O)).run Try.prog w = .ok (.float .f64 N) w) ∧
      Hid (∀ w, Calls Try.prog 29 #[.float .f64 a, .float .f64 B, .float .f64 A, .float .f64 4679240012837945344, .bool false] w fun e w' => e = .returned (.bool true) ∧ w = w')) := by
  have hI := INF_eq
  have hI2 := INF_lt
  have hq := q16_le a
  have hma : mg a = a := mg_small (by omega)
  rw [ge_words ha (by omega)]
  have hge : 4679237813814689792 ≤ a ↔ q16 a = 31744 := by
    have hf := n16_far (x := a)
    rw [hma] at hf
    rw [← hf]
    unfold q16
    split
    · rename_i h
      have : 4679237813814689792 ≤ mg a := by rw [hma]; omega
      have := n16_far.2 this
      omega
    · omega
  rcases Nat.lt_or_ge (q16 a) 31744 with h | h
  · have hm := mid16 ha rfl h
    have hfar : decide (4679237813814689792 ≤ a) = false := decide_eq_false (by rw [hge]; omega)
    rw [hfar]
    obtain ⟨r, hr⟩ : ∃ r, r = q16 a := ⟨_, rfl⟩
    rw [← hr] at hm hR h
    rcases Nat.eq_zero_or_pos r with h0 | h0
    · subst h0
      rw [if_neg (by omega)] at hm
      exact .inr (.inl ⟨by omega, rfl, _, _, _, Lib.hid fun w => from16_k 0 (by omega) 0 rfl w, Lib.hid fun w => from16_k 1 (by omega) 1 rfl w, neg16, Lib.hid fun w => middle_any hm w⟩)
    · rw [if_pos h0] at hm
      rcases Nat.lt_or_ge r 31743 with h1 | h1
      · have he : (R % 2 == 0) = (r % 2 == 0) := by
          rw [Bool.eq_iff_iff]; simp only [beq_iff_eq]; omega
        exact .inr (.inr (.inl ⟨by omega, by omega, by rw [beq_eq_false_iff_ne]; omega, rfl, _, _, _, _, _, _, Lib.hid fun w => from16_k r h R hR w, Lib.hid fun w => from16_k (r - 1) (by omega) (R - 1) (by omega) w,
          Lib.hid fun w => from16_k (r + 1) (by omega) (R + 1) (by omega) w, Lib.hid fun w => from16_k 1 (by omega) 1 rfl w, neg16, he, Lib.hid fun w => middle_any hm w⟩))
      · have hr2 : r = 31743 := by omega
        subst hr2
        rw [show 31743 + 1 = 31744 from rfl, w16_top] at hm
        exact .inr (.inr (.inr ⟨by omega, rfl, _, _, _, _, Lib.hid fun w => from16_k 31743 (by omega) 31743 rfl w, Lib.hid fun w => from16_k (31743 - 1) (by omega) 31742 rfl w, Lib.hid fun w => from16_k 1 (by omega) 1 rfl w, neg16, Lib.hid fun w => middle_any hm w⟩))
  · have h2 : q16 a = 31744 := by omega
    exact .inl ⟨by omega, decide_eq_true (hge.2 h2)⟩

set_option maxRecDepth 100000 in
set_option maxHeartbeats 8000000 in
theorem convNear_walk (x : Nat) (w : World) (hx : W64 x) :
    Calls Try.prog 5 #[.float .f64 x] w fun e w' => e = .returned (.bool true) ∧ Below w.heap.size w w' := by
  cases hself : eqW x x
  · go_enter Try.func5, Try.ntmps5
    go_wp2_with (first | (go_at_call 9; ((with_reducible refine (awake_any _).mono ?_)); rintro e w' ⟨rfl, n, rfl⟩))
    go_ret
    exact ⟨rfl, below_drawn5 _ _⟩
  have nx : isN x = false := by rw [eqW_self] at hself; simpa using hself
  have ha : mg x ≤ INF := isN_false.1 nx
  obtain ⟨a, ea⟩ : ∃ a, a = mg x := ⟨_, rfl⟩
  rw [← ea] at ha
  have ha64 : W64 a := by rw [ea]; exact W64.mg x
  have k0 := fun w => run_neg Try.prog (b := x) hx w
  obtain ⟨y, ey⟩ : ∃ y, y = op x := ⟨_, rfl⟩
  rw [← ey] at k0
  obtain ⟨z, ez⟩ : ∃ z, z = if ltW x 0 = true then y else x := ⟨_, rfl⟩
  have hz : mg z = a := by
    rw [ez]; split
    · rw [ey, mg_op hx, ea]
    · rw [ea]
  obtain ⟨n, hn⟩ : ∃ n : Int, n = z := ⟨_, rfl⟩
  have BN := Lib.hid fun w => rbits_any z n hn w
  have FN := Lib.hid fun w => (by
    have := from_any (n % 9223372036854775808) w
    have e : (n % 9223372036854775808).toNat = a := by rw [← hz]; unfold mg; omega
    rw [e] at this; exact this : Calls Try.prog 28 #[.int .u64 (n % 9223372036854775808)] w fun e w' => e = .returned (.float .f64 a) ∧ w = w')
  have n0 : 0 ≤ n := by omega
  obtain ⟨R, hR⟩ : ∃ R : Int, R = q32 a := ⟨_, rfl⟩
  obtain ⟨S, hS⟩ : ∃ R : Int, R = q16 a := ⟨_, rfl⟩
  have hma : mg a = a := by rw [ea, mg_mg]
  have na : isN a = false := by rw [ea, isN_mg]; exact nx
  have nga : ng a = false := by rw [ea, ng_mg]
  have T32 := Lib.hid fun w => (by have := to32_any a ha64 w; rw [to32_is na, hma, nga] at this; rw [hR]; exact this : Calls Try.prog 19 #[.float .f64 a] w fun e w' => e = .returned (.int .u32 R) ∧ w = w')
  have T16 := Lib.hid fun w => (by have := to16_any a ha64 w; rw [to16_is na, hma, nga] at this; rw [hS]; exact this : Calls Try.prog 23 #[.float .f64 a] w fun e w' => e = .returned (.int .u16 S) ∧ w = w')
  have w32 := near32_ways ha R hR
  have w16 := near16_ways ha S hS
  clear hz hn hR hS hma na nga ea ha ha64 nx
  have hsg : (ltW x 0 = true ∧ z = y) ∨ (ltW x 0 = false ∧ z = x) := by
    cases h : ltW x 0 <;> rw [h] at ez
    · exact .inr ⟨rfl, ez⟩
    · exact .inl ⟨rfl, ez⟩
  clear ez ey hx
  rcases hsg with ⟨g0, rfl⟩ | ⟨g0, rfl⟩
  all_goals
    rcases w32 with ⟨rfl, g1⟩ | ⟨rfl, g1, A, O, N, A32, O32, N32, K32⟩ | ⟨r1, r2, r3, g1, A, B, C, O, N, ev, A32, B32, C32, O32, N32, e32, K32⟩ | ⟨rfl, g1, A, B, O, N, A32, B32, O32, N32, K32⟩
    all_goals
      rcases w16 with ⟨rfl, g2⟩ | ⟨rfl, g2, A', O', N', A16, O16, N16, K16⟩ | ⟨r1', r2', r3', g2, A', B', C', O', N', ev', A16, B16, C16, O16, N16, e16, K16⟩ | ⟨rfl, g2, A', B', O', N', A16, B16, O16, N16, K16⟩
      all_goals
        go_enter Try.func5, Try.ntmps5
        go_wp2_with (first | (go_at_call 9; ((with_reducible refine (awake_any _).mono ?_)); rintro e w' ⟨rfl, n, rfl⟩) | (go_at_call 27; ((with_reducible refine (BN.out _).mono ?_)); rintro e w' ⟨rfl, rfl⟩) | (go_at_call 28; ((with_reducible refine (FN.out _).mono ?_)); rintro e w' ⟨rfl, rfl⟩) | (go_at_call 19; ((with_reducible refine (T32.out _).mono ?_)); rintro e w' ⟨rfl, rfl⟩) | (go_at_call 23; ((with_reducible refine (T16.out _).mono ?_)); rintro e w' ⟨rfl, rfl⟩) | (go_at_call 21; (first | ((with_reducible refine (A32.out _).mono ?_)) | ((with_reducible refine (B32.out _).mono ?_)) | ((with_reducible refine (C32.out _).mono ?_)) | ((with_reducible refine (O32.out _).mono ?_))); rintro e w' ⟨rfl, rfl⟩) | (go_at_call 25; (first | ((with_reducible refine (A16.out _).mono ?_)) | ((with_reducible refine (B16.out _).mono ?_)) | ((with_reducible refine (C16.out _).mono ?_)) | ((with_reducible refine (O16.out _).mono ?_))); rintro e w' ⟨rfl, rfl⟩) | (go_at_call 29; (first | ((with_reducible refine (K32.out _).mono ?_)) | ((with_reducible refine (K16.out _).mono ?_))); rintro e w' ⟨rfl, rfl⟩))
        go_ret
        exact ⟨rfl, below_drawn5 _ _⟩
end Go.Proofs.Ythncemlldkdkiaa
