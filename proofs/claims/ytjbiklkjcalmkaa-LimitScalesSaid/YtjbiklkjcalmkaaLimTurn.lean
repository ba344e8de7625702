/- The statement LimitTurned: exchanged and opposite differences. -/
import Derived.Test.YtjbiklkjcalmkaaLimC
namespace Go.Proofs.Ytjbiklkjcalmkaa
open Go.RowKit TF

attribute [local go_sem] cmp_eq cmp_ne cmp_lt cmp_gt cmp_le cmp_ge

theorem finite_in (b : Nat) (hb : W64 b) (w0 w : World) (hw : Below w0.heap.size w0 w) :
    Calls Try.prog 14 #[.float .f64 b] w fun e w' => e = .returned (.bool (finB b)) ∧ Below w0.heap.size w0 w' :=
  (finite_any b hb w).mono fun _ _ ⟨h1, n, h2⟩ => ⟨h1, by rw [h2]; exact below_drewN hw n⟩

set_option maxHeartbeats 4000000 in
theorem limitTurned_walk (a b : Nat) (w : World) (ha : W64 a) (hb : W64 b) :
    Calls Try.prog 4 #[.float .f64 a, .float .f64 b] w fun e w' => e = .returned (.bool true) ∧ Below w.heap.size w w' := by
  have hw0 : Below w.heap.size w w := Below.refl _ _
  have c1 := run_neg Try.prog ha
  have c2 := run_neg Try.prog hb
  have ha' : W64 (op a) := ha.op
  have hb' : W64 (op b) := hb.op
  have s1 := sameB_self
  go_enter Try.func4, Try.ntmps4
  go_wp2_with (first | (go_at_call 7; refine (lives_any _ _ (by assumption)).mono ?_; rintro e w' ⟨rfl, hB⟩))
  go_loopw [5] (fun i wr => ∃ k : Nat, k ≤ 4 ∧ i = .int .i64 k ∧ Below w.heap.size w wr) (fun i _ => 4 - (intOf i).toNat)
  case atStart => exact ⟨0, by omega, rfl, by assumption⟩
  case round =>
    obtain ⟨k, hk, rfl, hw⟩ := hrel
    by_cases hlt : k ≤ 3
    · have c3 := run_neg Try.prog (slopeW_lt k ha hb)
      have e1 := slope_op k ha hb
      by_cases h3 : k = 3
      · have hk3 : (k : Int) = 3 := by omega
        have e2 := slope_comm3 ha hb
        have e3 : slopeW 3 (op a) (op b) = canonW (op (slopeW 3 a b)) := slope_op 3 ha hb
        have c4 := run_neg Try.prog (slopeW_lt 3 ha hb)
        rw [hk3]
        rcases two_ways ha with ⟨t1, _⟩ | ⟨d, t1, hd, _, t2⟩
        · obtain ⟨f, hf, hf2, k1⟩ := run_nan 25 (.inr (.inr (.inl rfl))) t1
          clear t1 e2
          go_wp2_with (first | (go_at_call 9; refine (slope_in _ (by assumption) (by assumption) _ _ (by assumption)).mono ?_; rintro e w' ⟨rfl, hB⟩) | (go_at_call 8; refine (same_any _ _ _).mono ?_; rintro e w' ⟨rfl, rfl⟩) | (go_at_call 13; refine (canon_any _ _).mono ?_; rintro e w' ⟨rfl, rfl⟩) | (go_at_call 14; refine (finite_in _ (by first | assumption | exact hf _) _ _ (by first | assumption | exact Below.drew (by assumption))).mono ?_; rintro e w' ⟨rfl, hB⟩))
          go_roundw
          case rel => exact ⟨4, by omega, by go_num, by assumption⟩
          case measure => simp [intOf]
        · have k1 := run_valid (P := Try.prog) 25 t1
          cases f1 : finB d
          · clear t1 e2 t2
            go_wp2_with (first | (go_at_call 9; refine (slope_in _ (by assumption) (by assumption) _ _ (by assumption)).mono ?_; rintro e w' ⟨rfl, hB⟩) | (go_at_call 8; refine (same_any _ _ _).mono ?_; rintro e w' ⟨rfl, rfl⟩) | (go_at_call 13; refine (canon_any _ _).mono ?_; rintro e w' ⟨rfl, rfl⟩) | (go_at_call 14; refine (finite_in _ (by first | assumption | exact hf _) _ _ (by first | assumption | exact Below.drew (by assumption))).mono ?_; rintro e w' ⟨rfl, hB⟩))
            go_roundw
            case rel => exact ⟨4, by omega, by go_num, by assumption⟩
            case measure => simp [intOf]
          · rcases two_ways hb with ⟨u1, _⟩ | ⟨g, u1, hg, _, u2⟩
            · obtain ⟨f, hf, hf2, k2⟩ := run_nan 25 (.inr (.inr (.inl rfl))) u1
              clear t1 e2 t2 u1
              go_wp2_with (first | (go_at_call 9; refine (slope_in _ (by assumption) (by assumption) _ _ (by assumption)).mono ?_; rintro e w' ⟨rfl, hB⟩) | (go_at_call 8; refine (same_any _ _ _).mono ?_; rintro e w' ⟨rfl, rfl⟩) | (go_at_call 13; refine (canon_any _ _).mono ?_; rintro e w' ⟨rfl, rfl⟩) | (go_at_call 14; refine (finite_in _ (by first | assumption | exact hf _) _ _ (by first | assumption | exact Below.drew (by assumption))).mono ?_; rintro e w' ⟨rfl, hB⟩))
              go_roundw
              case rel => exact ⟨4, by omega, by go_num, by assumption⟩
              case measure => simp [intOf]
            · have k2 := run_valid (P := Try.prog) 25 u1
              cases f2 : finB g
              · clear t1 e2 t2 u1 u2
                go_wp2_with (first | (go_at_call 9; refine (slope_in _ (by assumption) (by assumption) _ _ (by assumption)).mono ?_; rintro e w' ⟨rfl, hB⟩) | (go_at_call 8; refine (same_any _ _ _).mono ?_; rintro e w' ⟨rfl, rfl⟩) | (go_at_call 13; refine (canon_any _ _).mono ?_; rintro e w' ⟨rfl, rfl⟩) | (go_at_call 14; refine (finite_in _ (by first | assumption | exact hf _) _ _ (by first | assumption | exact Below.drew (by assumption))).mono ?_; rintro e w' ⟨rfl, hB⟩))
                go_roundw
                case rel => exact ⟨4, by omega, by go_num, by assumption⟩
                case measure => simp [intOf]
              · have e2 := e2 (t2 f1) (u2 f2)
                clear t1 t2 u1 u2
                go_wp2_with (first | (go_at_call 9; refine (slope_in _ (by assumption) (by assumption) _ _ (by assumption)).mono ?_; rintro e w' ⟨rfl, hB⟩) | (go_at_call 8; refine (same_any _ _ _).mono ?_; rintro e w' ⟨rfl, rfl⟩) | (go_at_call 13; refine (canon_any _ _).mono ?_; rintro e w' ⟨rfl, rfl⟩) | (go_at_call 14; refine (finite_in _ (by first | assumption | exact hf _) _ _ (by first | assumption | exact Below.drew (by assumption))).mono ?_; rintro e w' ⟨rfl, hB⟩))
                go_roundw
                case rel => exact ⟨4, by omega, by go_num, by assumption⟩
                case measure => simp [intOf]
      · have e2 : slopeW k b a = slopeW k a b := slope_comm (by omega)
        have h4 : ((k : Int) == 3) = false := by simp; omega
        go_wp2_with (first | (go_at_call 9; refine (slope_in _ (by assumption) (by assumption) _ _ (by assumption)).mono ?_; rintro e w' ⟨rfl, hB⟩) | (go_at_call 8; refine (same_any _ _ _).mono ?_; rintro e w' ⟨rfl, rfl⟩) | (go_at_call 13; refine (canon_any _ _).mono ?_; rintro e w' ⟨rfl, rfl⟩))
        go_roundw
        case rel => exact ⟨k + 1, by omega, by go_num, by assumption⟩
        case measure => simp [intOf]; omega
    · go_wp2
      go_ret
      exact ⟨rfl, hw⟩
end Go.Proofs.Ytjbiklkjcalmkaa
