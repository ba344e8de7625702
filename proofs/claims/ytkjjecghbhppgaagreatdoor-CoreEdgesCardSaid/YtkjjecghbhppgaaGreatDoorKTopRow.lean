/- For every side, whatever it is: tarntop.CoreEdges answers true, and the input reads as it did. Conditions: the two package variables tarn/cube.frames and tarn/geom.frames read as the program's text lays them. -/
import Derived.Test.YtkjjecghbhppgaaGreatDoorKTopXg
import Derived.Test.YtkjjecghbhppgaaGreatDoorKTopXc
import Derived.Test.YtkjjecghbhppgaaGreatDoorKTopXr2
namespace Go.Proofs.YtkjjecghbhppgaaGreatDoor
open Go.ChangeShapes Go.WideShapes Go.ChangeAt Go.RowKit TF

theorem ownCoreEdges : ownKnob Tryz.prog.godebug = none := by kernel_rfl
theorem laidCoreEdges : laidOutB Tryz.prog = true := by kernel_rfl

set_option maxRecDepth 100000 in
theorem liftedCoreEdges (os : Os) (started : os.Started) (H : Type) (enc : TypeId × Value → H) :
    ReturnsInHanded {} Tryz.checked os 3 .any (fun w args => (Rows.coreEdgesSpec.pre enc Tryz.prog Tryz.f3 Rows.coreEdgesRow.domain false w args ∧ laidMetH Tryz.prog framesList w) ∧ sizedMet enc Tryz.prog Tryz.f3 (OpenSpec.ofChange Rows.coreEdgesSpec) false w args)
      (Rows.coreEdgesSpec.post enc Tryz.prog Tryz.f3 false true false false) := by
  refine returnsInHanded_of_change_and (C := Tryz.checked) (X := fun w _ => laidMetH Tryz.prog framesList w) (fun _ _ _ hh h => h.of_heap hh) ownCoreEdges started (by kernel_rfl) Tryz.func3
    (ChangeSpec.witness_shaped (enc := enc) (C := Tryz.checked) (os := os) (X := fun w _ => laidMetH Tryz.prog framesList w) false (World.laidAll Tryz.prog os framesList) #[.int .i64 0] 8 (World.laidAll_os _ _ _)
      (World.shaped_of_ZipB (by kernel_rfl) (by kernel_rfl)) (by kernel_rfl) (by kernel_rfl) (by kernel_rfl)
      (by rw [MakeChecks.laidMetH_plain _ _ _ (by kernel_rfl)]; exact laidMet_laidAll _ (by kernel_rfl) (by kernel_rfl))) ?_
  intro W base args ds gs before hval0 hW _ _ hL _
  have hval : ∀ (j : Nat) t v, Tryz.f3.params[j]? = some t → args[j]? = some v → Value.okWide Tryz.prog W .any base t v := hval0
  have hW' := hW
  obtain ⟨p, q, hA0, hV, rfl, _, _⟩ := hW
  have hA : DataW.TrodAll enc Tryz.prog W 0 (fun _ => true) true Tryz.f3.params.toList args.toList ds p := hA0
  rw [Tryz.params3] at hA hval
  obtain ⟨v0, d0, rfl, rfl, h0⟩ := trodAll_one hA
  obtain ⟨rfl, rfl⟩ := trodVars_none hV
  have k0 := h0
  obtain ⟨a0, rfl⟩ := okWide_int Tryz.underlying3 (hval 0 3 v0 rfl rfl)
  simp only [List.append_nil] at hW'
  have hlt : ∀ x ∈ p, x.block < W.heap.size := fun x hx => hW'.lt x (by simpa using hx)
  obtain ⟨hF, hG⟩ := frs_of_laid hL
  refine (edges_walk moves_ok a0 W hF hG).mono fun e W' ⟨he, hb⟩ => ?_
  subst he
  exact ⟨_, rfl, post_below (f := Tryz.f3) hW' (fun _ _ _ => (trodAll_cons_mk (shut_bool Tryz.underlying4 _) trodAll_mk0)) (fun sp hsp => by
      have := trodAll_cons_mk (trod_after laidCoreEdges (by kernel_rfl) (of_decide_eq_true (by kernel_rfl)) k0 hb hlt (fun x hx => hsp x (by simpa using hx)) (fun x hx => hx)) trodAll_mk0
      simp only [List.append_nil] at this
      exact this) (fun _ _ => rfl) hb
    (ok_one (by kernel_rfl) rfl (okWide_bool_mk Tryz.underlying4 _))⟩

theorem coreEdges_row : Rows.CoreEdgesSaid :=
  OpenClaim.holds_of_wide 3 Tryz.f3 rfl rfl rfl rfl rfl rfl rfl ⟨rfl, rfl, rfl, rfl, rfl⟩ rfl rfl rfl rfl rfl (by kernel_rfl) Tryz.func3 (by kernel_rfl)
    (of_decide_eq_true (by kernel_rfl)) (by unfold Func.isWrapper; rw [if_neg (of_decide_eq_false (by kernel_rfl))]; exact ⟨rfl, rfl⟩)
    (fun os started H enc _ => liftedCoreEdges os started H enc)
theorem coreEdges_holds : Rows.CoreEdgesCardSaid :=
  Claim7.holds_tied_plain_at .later [] [.wider, .data] true (true, "ebd769c50269bd64cdaed13bfa42f6baefbe21d61484fb47f49e715e0fcb3c64") false coreEdges_row (fun _ h => by cases h) (by kernel_rfl) (fun _ h => by cases h) coreEdges_row_tie rfl ⟨rfl, rfl⟩ (by kernel_rfl) rfl
    (fun f fn hf hfn => by
      obtain rfl : f = 3 := Option.some.inj ((show Tryz.prog.funcNamed "tarn/tarntop.CoreEdges" = some 3 by kernel_rfl).symm.trans hf) |>.symm
      obtain rfl : fn = Tryz.f3 := (Option.some.inj (Tryz.func3.symm.trans hfn)).symm
      exact ⟨by kernel_rfl, fun j t ht => by
        rw [Tryz.params3] at ht
        have hm : t ∈ [3] := by simpa using Array.mem_of_getElem? ht
        have hall : ([3].all fun u => !Tryz.prog.wantsStandIn u) = true := by kernel_rfl
        exact (show Tryz.prog.wantsStandIn t = false by simpa using List.all_eq_true.1 hall t hm)⟩)
    (by kernel_rfl)

#print axioms coreEdges_holds
end Go.Proofs.YtkjjecghbhppgaaGreatDoor
