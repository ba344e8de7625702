/- The statement LimitBounds: signs and bounds. -/
import Derived.Test.YtjbiklkjcalmkaaLimTurn
import Derived.Test.YtjbiklkjcalmkaaLimU
namespace Go.Proofs.Ytjbiklkjcalmkaa
open Go.RowKit TF

attribute [local go_sem] cmp_eq cmp_ne cmp_lt cmp_gt cmp_le cmp_ge

theorem magf_any (x : Nat) (hx : W64 x) (w : World) :
    Calls Try.prog 15 #[.float .f64 x] w fun e w' => e = .returned (.float .f64 (magW x)) ∧ w = w' := by
  have c := run_neg Try.prog hx
  unfold magW
  cases h : ltW x 0
  all_goals
    go_enter Try.func15, Try.ntmps15
    go_wp2
    go_ret
    exact ⟨rfl, rfl⟩

theorem down_up {a : Nat} (ha : W64 a) (h : ltW a 0 = true) : ltW 0 a = false := by
  cases hc : ltW 0 a
  · rfl
  · rw [both_ways ha hc] at h; cases h
theorem not_both {x y : Bool} (h : ¬ (x = true ∧ y = true)) : x = false ∨ (x = true ∧ y = false) := by cases x <;> cases y <;> simp_all
theorem slope_none (k : Int) {a b : Nat} (h1 : ¬ (ltW 0 a = true ∧ ltW 0 b = true)) (h2 : ¬ (ltW a 0 = true ∧ ltW b 0 = true)) : slopeW k a b = 0 := by
  have e1 : (ltW 0 a && ltW 0 b) = false := by rcases not_both h1 with h | ⟨h, h'⟩ <;> simp_all
  have e2 : (ltW a 0 && ltW b 0) = false := by rcases not_both h2 with h | ⟨h, h'⟩ <;> simp_all
  unfold slopeW
  rw [e1, e2]
  simp

set_option maxRecDepth 100000 in
set_option maxHeartbeats 4000000 in
theorem limitBounds_walk (a b : Nat) (w : World) (ha : W64 a) (hb : W64 b) :
    Calls Try.prog 5 #[.float .f64 a, .float .f64 b] w fun e w' => e = .returned (.bool true) ∧ Below w.heap.size w w' := by
  have hw0 : Below w.heap.size w w := Below.refl _ _
  by_cases hup : ltW 0 a = true ∧ ltW 0 b = true
  · obtain ⟨u1, u2⟩ := hup
    have pa := pos_of ha u1
    have pb := pos_of hb u2
    have v1 := ltW_self_zero pa
    have v2 := ltW_self_zero pb
    have t3 : mg a ≤ INF := by rw [pa.mg]; exact pa.le
    have t4 : mg b ≤ INF := by rw [pb.mg]; exact pb.le
    obtain ⟨m, s, l, e1, e2, e3, n1, n2, n3, B⟩ := bound_up pa pb
    have m64 := B.m64
    have s64 := B.s64
    have l64 := B.l64
    have mm := B.mm
    have ss := B.ss
    have ll := B.ll
    go_enter Try.func5, Try.ntmps5
    go_wp2_with (first | (go_at_call 7; refine (lives_any _ _ (by assumption)).mono ?_; rintro e w' ⟨rfl, hB⟩) | (go_at_call 9; refine (slope_in _ (by assumption) (by assumption) _ _ (by assumption)).mono ?_; rintro e w' ⟨rfl, hB⟩))
    go_loop [30] (fun i => ∃ k : Nat, k ≤ 3 ∧ i = .int .i64 k) (fun i => 3 - (intOf i).toNat)
    case atStart => exact ⟨0, by omega, rfl⟩
    case round =>
      obtain ⟨k, hk, rfl⟩ := hrel
      have hk4 : k = 0 ∨ k = 1 ∨ k = 2 ∨ k = 3 := by omega
      rcases hk4 with rfl | rfl | rfl | rfl
      · rcases B.m0 with z | ⟨z, z'⟩
        all_goals
          go_wp2_with (first | (go_at_call 8; refine (same_any _ _ _).mono ?_; rintro e w' ⟨rfl, rfl⟩))
          go_round
          case rel => exact ⟨1, by omega, rfl⟩
          case measure => simp [intOf]
      · rcases B.s0 with z | ⟨z, z'⟩
        all_goals
          go_wp2_with (first | (go_at_call 8; refine (same_any _ _ _).mono ?_; rintro e w' ⟨rfl, rfl⟩))
          go_round
          case rel => exact ⟨2, by omega, rfl⟩
          case measure => simp [intOf]
      · rcases B.l0 with z | ⟨z, z'⟩
        all_goals
          go_wp2_with (first | (go_at_call 8; refine (same_any _ _ _).mono ?_; rintro e w' ⟨rfl, rfl⟩))
          go_round
          case rel => exact ⟨3, by omega, rfl⟩
          case measure => simp [intOf]
      · have q1 := B.ma
        have q2 := B.mb
        have q3 := B.mm'
        have q4 := B.ms
        have q5 := B.lx
        have q6 := B.ly
        have q7 := B.fl
        have q8 := run_valid (P := Try.prog) 25 B.dm
        have q9 := B.mx
        have p1 := B.b1
        have p2 := B.b2
        have p3 := B.b3
        have x64 := B.x64
        have y64 := B.y64
        rcases two_ways ha with ⟨_, t0⟩ | ⟨d, t1, hd, _, _⟩
        · omega
        rcases two_ways hb with ⟨_, t0⟩ | ⟨g, t2, hg, _, _⟩
        · omega
        have k1 := run_valid (P := Try.prog) 25 t1
        have k2 := run_valid (P := Try.prog) 25 t2
        clear t1 t2
        cases f1 : finB d <;> cases f2 : finB g
        all_goals
          rcases B.one with o1 | ⟨o1, o2⟩
          all_goals
            go_wp2_with (first | (go_at_call 15; refine (magf_any _ (by assumption) _).mono ?_; rintro e w' ⟨rfl, rfl⟩) | (go_at_call 14; refine (finite_in _ (by first | assumption | exact hf _) _ _ (by first | assumption | exact Below.drew (by assumption) | exact Below.alloc (by assumption) (by exact Below.size (by assumption)) _)).mono ?_; rintro e w' ⟨rfl, hB⟩) | (go_at_call 16; refine (max_any _ _ (by assumption) (by assumption) _).mono ?_; rintro e w' ⟨rfl, rfl⟩))
            go_ret
            exact ⟨rfl, by assumption⟩
  by_cases hdn : ltW a 0 = true ∧ ltW b 0 = true
  · obtain ⟨u1, u2⟩ := hdn
    have pa := (neg_of ha u1).1
    have pb := (neg_of hb u2).1
    have v1 := down_up ha u1
    have v2 := down_up hb u2
    have t3 : mg a ≤ INF := by have h := pa.mg; rw [mg_op ha] at h; rw [h]; exact pa.le
    have t4 : mg b ≤ INF := by have h := pb.mg; rw [mg_op hb] at h; rw [h]; exact pb.le
    obtain ⟨m, s, l, e1, e2, e3, n1, n2, n3, B⟩ := bound_down ha hb u1 u2
    have m64 := B.m64
    have s64 := B.s64
    have l64 := B.l64
    have mm := B.mm
    have ss := B.ss
    have ll := B.ll
    go_enter Try.func5, Try.ntmps5
    go_wp2_with (first | (go_at_call 7; refine (lives_any _ _ (by assumption)).mono ?_; rintro e w' ⟨rfl, hB⟩) | (go_at_call 9; refine (slope_in _ (by assumption) (by assumption) _ _ (by assumption)).mono ?_; rintro e w' ⟨rfl, hB⟩))
    go_loop [30] (fun i => ∃ k : Nat, k ≤ 3 ∧ i = .int .i64 k) (fun i => 3 - (intOf i).toNat)
    case atStart => exact ⟨0, by omega, rfl⟩
    case round =>
      obtain ⟨k, hk, rfl⟩ := hrel
      have hk4 : k = 0 ∨ k = 1 ∨ k = 2 ∨ k = 3 := by omega
      rcases hk4 with rfl | rfl | rfl | rfl
      · rcases B.m0 with z | ⟨z, z'⟩
        all_goals
          go_wp2_with (first | (go_at_call 8; refine (same_any _ _ _).mono ?_; rintro e w' ⟨rfl, rfl⟩))
          go_round
          case rel => exact ⟨1, by omega, rfl⟩
          case measure => simp [intOf]
      · rcases B.s0 with z | ⟨z, z'⟩
        all_goals
          go_wp2_with (first | (go_at_call 8; refine (same_any _ _ _).mono ?_; rintro e w' ⟨rfl, rfl⟩))
          go_round
          case rel => exact ⟨2, by omega, rfl⟩
          case measure => simp [intOf]
      · rcases B.l0 with z | ⟨z, z'⟩
        all_goals
          go_wp2_with (first | (go_at_call 8; refine (same_any _ _ _).mono ?_; rintro e w' ⟨rfl, rfl⟩))
          go_round
          case rel => exact ⟨3, by omega, rfl⟩
          case measure => simp [intOf]
      · have q1 := B.ma
        have q2 := B.mb
        have q3 := B.mm'
        have q4 := B.ms
        have q5 := B.lx
        have q6 := B.ly
        have q7 := B.fl
        have q8 := run_valid (P := Try.prog) 25 B.dm
        have q9 := B.mx
        have p1 := B.b1
        have p2 := B.b2
        have p3 := B.b3
        have x64 := B.x64
        have y64 := B.y64
        rcases two_ways ha with ⟨_, t0⟩ | ⟨d, t1, hd, _, _⟩
        · omega
        rcases two_ways hb with ⟨_, t0⟩ | ⟨g, t2, hg, _, _⟩
        · omega
        have k1 := run_valid (P := Try.prog) 25 t1
        have k2 := run_valid (P := Try.prog) 25 t2
        clear t1 t2
        cases f1 : finB d <;> cases f2 : finB g
        all_goals
          rcases B.one with o1 | ⟨o1, o2⟩
          all_goals
            go_wp2_with (first | (go_at_call 15; refine (magf_any _ (by assumption) _).mono ?_; rintro e w' ⟨rfl, rfl⟩) | (go_at_call 14; refine (finite_in _ (by first | assumption | exact hf _) _ _ (by first | assumption | exact Below.drew (by assumption) | exact Below.alloc (by assumption) (by exact Below.size (by assumption)) _)).mono ?_; rintro e w' ⟨rfl, hB⟩) | (go_at_call 16; refine (max_any _ _ (by assumption) (by assumption) _).mono ?_; rintro e w' ⟨rfl, rfl⟩))
            go_ret
            exact ⟨rfl, by assumption⟩
  · have e1 : slopeW 1 a b = 0 := slope_none 1 hup hdn
    have e2 : slopeW 2 a b = 0 := slope_none 2 hup hdn
    have e3 : slopeW 3 a b = 0 := slope_none 3 hup hdn
    have z1 : eqW 0 0 = true := by decide
    have z2 : sameB 0 0 = true := by decide
    have hU : ltW 0 a = false ∨ (ltW 0 a = true ∧ ltW 0 b = false) := not_both hup
    have hD : ltW a 0 = false ∨ (ltW a 0 = true ∧ ltW b 0 = false) := not_both hdn
    go_enter Try.func5, Try.ntmps5
    go_wp2_with (first | (go_at_call 7; refine (lives_any _ _ (by assumption)).mono ?_; rintro e w' ⟨rfl, hB⟩) | (go_at_call 9; refine (slope_in _ (by assumption) (by assumption) _ _ (by assumption)).mono ?_; rintro e w' ⟨rfl, hB⟩))
    go_loop [30] (fun i => ∃ k : Nat, k ≤ 3 ∧ i = .int .i64 k) (fun i => 3 - (intOf i).toNat)
    case atStart => exact ⟨0, by omega, rfl⟩
    case round =>
      obtain ⟨k, hk, rfl⟩ := hrel
      have hk4 : k = 0 ∨ k = 1 ∨ k = 2 ∨ k = 3 := by omega
      rcases hk4 with rfl | rfl | rfl | rfl
      · go_wp2_with (first | (go_at_call 8; refine (same_any _ _ _).mono ?_; rintro e w' ⟨rfl, rfl⟩))
        go_round
        case rel => exact ⟨1, by omega, rfl⟩
        case measure => simp [intOf]
      · go_wp2_with (first | (go_at_call 8; refine (same_any _ _ _).mono ?_; rintro e w' ⟨rfl, rfl⟩))
        go_round
        case rel => exact ⟨2, by omega, rfl⟩
        case measure => simp [intOf]
      · go_wp2_with (first | (go_at_call 8; refine (same_any _ _ _).mono ?_; rintro e w' ⟨rfl, rfl⟩))
        go_round
        case rel => exact ⟨3, by omega, rfl⟩
        case measure => simp [intOf]
      · have hB4 := hB
        rcases hU with hU | ⟨hU, hU'⟩ <;> rcases hD with hD | ⟨hD, hD'⟩
        all_goals
          go_wp2_with (first | (go_at_call 8; refine (same_any _ _ _).mono ?_; rintro e w' ⟨rfl, rfl⟩))
          go_ret
          exact ⟨rfl, by first | assumption | exact Below.alloc (by assumption) (by exact Below.size (by assumption)) _⟩
end Go.Proofs.Ytjbiklkjcalmkaa
