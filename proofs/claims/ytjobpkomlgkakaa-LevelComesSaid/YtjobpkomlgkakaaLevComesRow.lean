/- The row of LevelComes, out of its walk. -/
import Derived.Test.YtjobpkomlgkakaaLevComes
import Derived.Test.YtjobpkomlgkakaaOpenF
import Derived.OpenShut
import Derived.SizedLaws
namespace Go.Proofs.Ytjobpkomlgkakaa
open Go.ChangeShapes Go.WideShapes Go.ChangeAt Go.RowKit TF

theorem ownLevelComes : ownKnob Try.prog.godebug = none := by kernel_rfl
theorem laidLevelComes : laidOutB Try.prog = true := by kernel_rfl

set_option maxRecDepth 100000 in
theorem liftedLevelComes (os : Os) (started : os.Started) (H : Type) (enc : TypeId × Value → H) :
    ReturnsInHanded {} Try.checked os 6 .any (Rows.levelComesSpec.pre6 enc Try.prog Try.f6 Rows.levelComesRow.domain false) (Rows.levelComesSpec.post enc Try.prog Try.f6 false true false false) := by
  refine returnsInHanded_of_change (C := Try.checked) ownLevelComes started (by kernel_rfl) Try.func6
    (ChangeSpec.witness6 (enc := enc) (C := Try.checked) false ⟨#[], #[.agg #[.float .f64 0, .int .i64 0, .int .i64 0, .float .f64 0]], []⟩ 8 (by kernel_rfl) (by kernel_rfl) (by kernel_rfl) (by kernel_rfl)) ?_
  intro W base args ds gs before hval0 hW hcnd _
  have hval : ∀ (j : Nat) t v, Try.f6.params[j]? = some t → args[j]? = some v → Value.okWide Try.prog W .any base t v := hval0
  have hW' := hW
  obtain ⟨p, q, hA0, hV, rfl, hfz, hnd⟩ := hW
  have hA : DataW.TrodAll enc Try.prog W 0 (fun _ => true) true Try.f6.params.toList args.toList ds p := hA0
  rw [Try.params6] at hA hval
  obtain ⟨v0, vs0, d0, ds0, p0, q0, hargs, rfl, rfl, h0, r0⟩ := trodAll_cons hA
  obtain ⟨rfl, rfl, rfl⟩ := trodAll_nil r0
  obtain rfl : args = #[v0] := by cases args; simp_all
  obtain ⟨rfl, rfl⟩ := trodVars_none hV
  have hlt : ∀ x ∈ (p0), x.block < W.heap.size := fun x hx => hW'.lt x (by simpa using hx)
  have k0 := h0
  obtain ⟨cs0, rfl, hc0, hf0⟩ := open_struct Try.underlying26 (by kernel_rfl) (by kernel_rfl) (hval 0 26 v0 rfl rfl) h0
  obtain ⟨_, n0_0, y0_0, e0_0, g0_0⟩ := hf0 0 _ rfl
  obtain ⟨x0_0, rfl, u0_0⟩ := float_cell Try.underlying24 g0_0
  obtain ⟨_, n0_1, y0_1, e0_1, g0_1⟩ := hf0 1 _ rfl
  obtain ⟨x0_1, rfl, u0_1⟩ := int_cell Try.underlying2 g0_1
  obtain ⟨_, n0_2, y0_2, e0_2, g0_2⟩ := hf0 2 _ rfl
  obtain ⟨x0_2, rfl, u0_2⟩ := int_cell Try.underlying2 g0_2
  obtain ⟨_, n0_3, y0_3, e0_3, g0_3⟩ := hf0 3 _ rfl
  obtain ⟨x0_3, rfl, u0_3⟩ := float_cell Try.underlying24 g0_3
  obtain rfl := arr_of (l := [.float .f64 x0_0, .int .i64 x0_1, .int .i64 x0_2, .float .f64 x0_3]) hc0 (by intro j hj; match j, hj with | 0, _ => exact e0_0 | 1, _ => exact e0_1 | 2, _ => exact e0_2 | 3, _ => exact e0_3)
  clear hA0 hval0
  simp only [List.append_nil] at hW'
  refine (levelComes_walk x0_0 x0_1 x0_2 x0_3 W (W64.of_wf u0_0) u0_1 u0_2 (W64.of_wf u0_3)).mono fun e W' ⟨he, hb⟩ => ?_
  subst he
  have hT : ∀ sp : Nat → Bool, (∀ x ∈ (p0), sp x.block = true) → DataW.TrodAll enc Try.prog W' 0 sp true [26] [_] [_] (p0 ++ ([])) := fun sp hsp => (trodAll_cons_mk (trod_after laidLevelComes (by kernel_rfl) (of_decide_eq_true (by kernel_rfl)) k0 hb hlt hsp (by intro x hx; simp [hx])) trodAll_mk0)
  exact ⟨_, rfl, post_below (f := Try.f6) hW' (fun _ _ _ => (trodAll_cons_mk (shut_bool Try.underlying4 _) trodAll_mk0)) (fun sp hsp => by have := hT sp (by simpa using hsp); simp only [List.append_nil] at this; exact this) (fun _ _ => rfl) hb
    (ok_one (by kernel_rfl) rfl (okWide_bool_mk Try.underlying4 _))⟩

theorem levelComes_holds : Rows.LevelComesSaid :=
  OpenClaim.holds_of_wide 6 Try.f6 rfl rfl rfl rfl rfl rfl rfl ⟨rfl, rfl, rfl, rfl, rfl⟩ rfl rfl rfl rfl rfl (by kernel_rfl) Try.func6 (by kernel_rfl)
    (of_decide_eq_true (by kernel_rfl)) (by unfold Func.isWrapper; rw [if_neg (of_decide_eq_false (by kernel_rfl))]; exact ⟨rfl, rfl⟩)
    (fun os started H enc _ => liftedLevelComes os started H enc)

#print axioms levelComes_holds
end Go.Proofs.Ytjobpkomlgkakaa
