/- The statement BitsBetween: distances add up, turn round with their ends, and are counted by Up. -/
import Derived.Test.YtcjnnhmijpnicaaBitsC
import Derived.Test.YtcjnnhmijpnicaaBitsW
import Derived.Deep.DeepCutAuto
namespace Go.Proofs.Ytcjnnhmijpnicaa
open Go.RowKit TF

attribute [local go_sem] cmp_eq cmp_ne cmp_lt cmp_gt cmp_le cmp_ge

theorem fits_any (a b : Int) (ha : -9223372036854775808 ≤ a ∧ a ≤ 9223372036854775807) (hb : -9223372036854775808 ≤ b ∧ b ≤ 9223372036854775807) (w : World) :
    Calls Try.prog 14 #[.int .i64 a, .int .i64 b] w fun e w' => e = .returned (.tuple #[.int .i64 (fitW a b).1, .bool (fitW a b).2]) ∧ w = w' := by
  rcases fit_cases a b ha hb with ⟨e, h1, h2, h⟩ | ⟨s, hs, e, h⟩
  · rw [e]; clear e
    obtain ⟨a1, a2⟩ := ha
    obtain ⟨b1, b2⟩ := hb
    rcases h with ⟨h3, h4⟩ | ⟨h3, h4⟩ | ⟨h3, h4, h5⟩ | ⟨h3, h4, h5⟩
    all_goals
      go_enter Try.func14, Try.ntmps14
      go_wp2_with fail
      go_ret2
      exact ⟨rfl, rfl⟩
  · rw [e]; clear e
    rcases h with ⟨h3, h4, h5⟩ | ⟨h3, h4, h5⟩
    all_goals
      go_enter Try.func14, Try.ntmps14
      go_wp2_with fail
      go_ret2
      exact ⟨rfl, rfl⟩

theorem run_negi (P : Program) (x y : Int) (h : IntKind.i64.wrap (0 - x) = y) (W : World) : (Op.unary .neg (.int .i64 x)).run P W = .ok (.int .i64 y) W := by
  rw [← h]; rfl

set_option maxRecDepth 100000 in
set_option maxHeartbeats 8000000 in
theorem bitsBetween_walk (a b c : Nat) (cnt : Int) (ha : W64 a) (hb : W64 b) (hc : W64 c) (hn : (Lit.int .u8 cnt).wf = true) (w : World) :
    Calls Try.prog 4 #[.float .f64 a, .float .f64 b, .float .f64 c, .int .u8 cnt] w fun e w' => e = .returned (.bool true) ∧ Grown w w' := by
  have hn' : 0 ≤ cnt ∧ cnt ≤ 255 := by simpa [Lit.wf, IntKind.min, IntKind.max, IntKind.signed, IntKind.bits] using hn
  obtain ⟨n0, n1⟩ := hn'
  clear hn
  obtain ⟨x, ok, y, also, z, too, s, fit, w', back, e1, e2, e3, e4, e5, bx, by_, h⟩ := between_ways a b c
  have BX := Lib.hid bx
  have BY := Lib.hid by_
  clear bx by_
  go_enter Try.func4, Try.ntmps4
  go_upto_region 6 with (first | (go_at_call 10; refine (lives_any _).mono ?_; rintro e w' ⟨rfl, rfl⟩) | (go_at_call 13; refine (between_any _ _ (by first | assumption | (show _ < 2 ^ 64; decide) | ((repeat (first | assumption | apply W64.op | apply W64.up | apply W64.down | apply W64.canon | apply W64.mg | apply W64.ulp | apply W64.max | apply W64.min)); done)) (by first | assumption | (show _ < 2 ^ 64; decide) | ((repeat (first | assumption | apply W64.op | apply W64.up | apply W64.down | apply W64.canon | apply W64.mg | apply W64.ulp | apply W64.max | apply W64.min)); done)) _).mono ?_; rintro e w' ⟨rfl, rfl⟩))
  go_cut [64] (fun t wc => t = .bool false ∧ w = wc)
  case first =>
    rcases h with ⟨rfl, rfl, h⟩ | ⟨rfl, f1, f2, h1, h2⟩
    · rcases h with f1 | ⟨f1, f2⟩ | ⟨f1, f2⟩
      all_goals (go_wp2_with fail; go_meet; exact ⟨rfl, rfl⟩)
    · go_wp2_with fail; go_meet; exact ⟨rfl, rfl⟩
  case rest =>
    obtain ⟨rfl, rfl⟩ := hcut
    go_upto_region 9 with (first | (go_at_call 14; refine (fits_any _ _ (by first | exact BX.out | (constructor <;> omega)) BY.out _).mono ?_; rintro e w' ⟨rfl, rfl⟩))
    go_cut [85] (fun t wc => t = .bool false ∧ w = wc)
    case first =>
      rcases h with ⟨rfl, rfl, h⟩ | ⟨rfl, f1, f2, rfl | ⟨rfl, rfl | ⟨rfl, rfl | ⟨rfl, rfl⟩⟩⟩, h2⟩
      all_goals (go_wp2_with fail; go_meet; exact ⟨rfl, rfl⟩)
    case rest =>
      obtain ⟨rfl, rfl⟩ := hcut
      go_upto_region 12 with (first | (go_at_call 13; refine (between_any _ _ (by first | assumption | (show _ < 2 ^ 64; decide) | ((repeat (first | assumption | apply W64.op | apply W64.up | apply W64.down | apply W64.canon | apply W64.mg | apply W64.ulp | apply W64.max | apply W64.min)); done)) (by first | assumption | (show _ < 2 ^ 64; decide) | ((repeat (first | assumption | apply W64.op | apply W64.up | apply W64.down | apply W64.canon | apply W64.mg | apply W64.ulp | apply W64.max | apply W64.min)); done)) _).mono ?_; rintro e w' ⟨rfl, rfl⟩))
      go_cut [112] (fun t wc => t = .bool false ∧ w = wc)
      case first =>
        rcases h with ⟨rfl, rfl, h⟩ | ⟨rfl, f1, f2, h1, ⟨rfl, b1, hw⟩ | ⟨rfl, b1⟩⟩
        · go_wp2_with fail; go_meet; exact ⟨rfl, rfl⟩
        · have q : wrap64 (-x) = w' := by have := BX.out; rw [hw]; unfold wrap64; omega
          clear b1 hw
          go_wp2_with fail
          all_goals (go_meet; exact ⟨rfl, rfl⟩)
        · go_wp2_with fail; go_meet; exact ⟨rfl, rfl⟩
      case rest =>
        obtain ⟨rfl, rfl⟩ := hcut
        clear h e1 e2 e3 e4 e5 BX BY
        cases hf : finB a
        · go_wp2_with (first | (go_at_call 15; refine (finite_any _ (by first | assumption | (show _ < 2 ^ 64; decide) | ((repeat (first | assumption | apply W64.op | apply W64.up | apply W64.down | apply W64.canon | apply W64.mg | apply W64.ulp | apply W64.max | apply W64.min)); done)) _).mono ?_; rintro e w' ⟨rfl, n, rfl⟩))
          go_ret
          exact ⟨rfl, grown_drewN _ _⟩
        · go_wp2_with (first | (go_at_call 15; refine (finite_any _ (by first | assumption | (show _ < 2 ^ 64; decide) | ((repeat (first | assumption | apply W64.op | apply W64.up | apply W64.down | apply W64.canon | apply W64.mg | apply W64.ulp | apply W64.max | apply W64.min)); done)) _).mono ?_; rintro e w' ⟨rfl, n, rfl⟩))
          go_loopw [0, 19, 20] (fun va vk vi wr => ∃ (y : Nat) (j : Nat), W64 y ∧ va = .float .f64 y ∧ j ≤ 64 ∧ vk = .int .i64 j ∧ vi = .int .u8 j ∧ ∃ m, wr = w.drewN m) (fun _ _ i _ => 64 - (intOf i).toNat)
          case atStart => exact ⟨a, 0, ha, rfl, by omega, rfl, rfl, _, rfl⟩
          case round =>
            obtain ⟨y, j, hy, rfl, hj, rfl, rfl, m, rfl⟩ := hrel
            by_cases hlt : (j : Int) < cnt % 64
            · cases hfy : finB y
              · go_wp2_with (first | (go_at_call 15; refine (finite_any _ (by first | assumption | (show _ < 2 ^ 64; decide) | ((repeat (first | assumption | apply W64.op | apply W64.up | apply W64.down | apply W64.canon | apply W64.mg | apply W64.ulp | apply W64.max | apply W64.min)); done)) _).mono ?_; rintro e w' ⟨rfl, n, rfl⟩))
                go_ret
                exact ⟨ret_bool' (decide_eq_true (by omega)), grown_drewN _ _⟩
              · obtain ⟨g1, d, is_, e, was, g2, g3, g4⟩ := up_ways c hy hfy
                rcases g4 with rfl | ⟨rfl, rfl | ⟨rfl, g5, g6, rfl⟩⟩
                all_goals
                  go_wp2_with (first | (go_at_call 15; refine (finite_any _ (by first | assumption | (show _ < 2 ^ 64; decide) | ((repeat (first | assumption | apply W64.op | apply W64.up | apply W64.down | apply W64.canon | apply W64.mg | apply W64.ulp | apply W64.max | apply W64.min)); done)) _).mono ?_; rintro e w' ⟨rfl, n, rfl⟩) | (go_at_call 16; refine (up_any _ (by first | assumption | (show _ < 2 ^ 64; decide) | ((repeat (first | assumption | apply W64.op | apply W64.up | apply W64.down | apply W64.canon | apply W64.mg | apply W64.ulp | apply W64.max | apply W64.min)); done)) _).mono ?_; rintro e w' ⟨rfl, rfl⟩) | (go_at_call 13; refine (between_any _ _ (by first | assumption | (show _ < 2 ^ 64; decide) | ((repeat (first | assumption | apply W64.op | apply W64.up | apply W64.down | apply W64.canon | apply W64.mg | apply W64.ulp | apply W64.max | apply W64.min)); done)) (by first | assumption | (show _ < 2 ^ 64; decide) | ((repeat (first | assumption | apply W64.op | apply W64.up | apply W64.down | apply W64.canon | apply W64.mg | apply W64.ulp | apply W64.max | apply W64.min)); done)) _).mono ?_; rintro e w' ⟨rfl, rfl⟩))
                  go_roundw
                  case rel => exact ⟨upW y, j + 1, hy.up, rfl, by omega, by go_num, by go_num, _, rfl⟩
                  case measure => simp [intOf]; omega
            · go_wp2_with (first | (go_at_call 15; refine (finite_any _ (by first | assumption | (show _ < 2 ^ 64; decide) | ((repeat (first | assumption | apply W64.op | apply W64.up | apply W64.down | apply W64.canon | apply W64.mg | apply W64.ulp | apply W64.max | apply W64.min)); done)) _).mono ?_; rintro e w' ⟨rfl, n, rfl⟩))
              go_ret
              exact ⟨ret_bool' (decide_eq_true (by omega)), grown_drewN _ _⟩
end Go.Proofs.Ytcjnnhmijpnicaa
