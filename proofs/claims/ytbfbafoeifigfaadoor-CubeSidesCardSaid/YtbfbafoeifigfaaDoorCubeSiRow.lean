/- The row and the card of CubeSides, out of its walk. -/
import Derived.Test.YtbfbafoeifigfaaDoorCubeSi
import Derived.Test.YtbfbafoeifigfaaDoorCubeR
namespace Go.Proofs.YtbfbafoeifigfaaDoor
open Go.ChangeShapes Go.WideShapes Go.ChangeAt Go.RowKit TF

theorem ownCubeSides : ownKnob Tryd.prog.godebug = none := by kernel_rfl
theorem laidCubeSides : laidOutB Tryd.prog = true := by kernel_rfl

set_option maxRecDepth 100000 in
theorem liftedCubeSides (os : Os) (started : os.Started) (H : Type) (enc : TypeId × Value → H) :
    ReturnsInHanded {} Tryd.checked os 4 .any (fun w args => (Rows.cubeSidesSpec.pre enc Tryd.prog Tryd.f4 Rows.cubeSidesRow.domain false w args ∧ laidMetH Tryd.prog framesList w) ∧ sizedMet enc Tryd.prog Tryd.f4 (OpenSpec.ofChange Rows.cubeSidesSpec) false w args)
      (Rows.cubeSidesSpec.post enc Tryd.prog Tryd.f4 false true false false) := by
  refine returnsInHanded_of_change_and (C := Tryd.checked) (X := fun w _ => laidMetH Tryd.prog framesList w) (fun _ _ _ hh h => h.of_heap hh) ownCubeSides started (by kernel_rfl) Tryd.func4
    (ChangeSpec.witness_shaped (enc := enc) (C := Tryd.checked) (os := os) (X := fun w _ => laidMetH Tryd.prog framesList w) false (World.laidAll Tryd.prog os framesList) #[.slice none 0 0] 8 (World.laidAll_os _ _ _)
      (World.shaped_of_ZipB (by kernel_rfl) (by kernel_rfl)) (by kernel_rfl) (by kernel_rfl) (by kernel_rfl)
      (by rw [MakeChecks.laidMetH_plain _ _ _ (by kernel_rfl)]; exact laidMet_laidAll _ (by kernel_rfl) (by kernel_rfl))) ?_
  intro W base args ds gs before hval0 hW _ _ hL _
  have hval : ∀ (j : Nat) t v, Tryd.f4.params[j]? = some t → args[j]? = some v → Value.okWide Tryd.prog W .any base t v := hval0
  have hW' := hW
  obtain ⟨p, q, hA0, hV, rfl, _, _⟩ := hW
  have hA : DataW.TrodAll enc Tryd.prog W 0 (fun _ => true) true Tryd.f4.params.toList args.toList ds p := hA0
  rw [Tryd.params4] at hA hval
  obtain ⟨v0, d0, rfl, rfl, h0⟩ := trodAll_one hA
  obtain ⟨rfl, rfl⟩ := trodVars_none hV
  have k0 := h0
  obtain ⟨A, l, c, xs, rfl, hl, hr⟩ := open_rows (hval 0 22 v0 rfl rfl) h0
  simp only [List.append_nil] at hW'
  have hlt : ∀ x ∈ p, x.block < W.heap.size := fun x hx => hW'.lt x (by simpa using hx)
  refine (cubeSides_walk A l c xs W (fr_of_laid hL) hl hr).mono fun e W' ⟨he, hb⟩ => ?_
  subst he
  exact ⟨_, rfl, post_below (f := Tryd.f4) hW' (fun _ _ _ => (trodAll_cons_mk (shut_bool Tryd.underlying4 _) trodAll_mk0)) (fun sp hsp => by
      have := trodAll_cons_mk (trod_after laidCubeSides (by kernel_rfl) (of_decide_eq_true (by kernel_rfl)) k0 hb hlt (fun x hx => hsp x (by simpa using hx)) (fun x hx => hx)) trodAll_mk0
      simp only [List.append_nil] at this
      exact this) (fun _ _ => rfl) hb
    (ok_one (by kernel_rfl) rfl (okWide_bool_mk Tryd.underlying4 _))⟩

theorem cubeSides_row : Rows.CubeSidesSaid :=
  OpenClaim.holds_of_wide 4 Tryd.f4 rfl rfl rfl rfl rfl rfl rfl ⟨rfl, rfl, rfl, rfl, rfl⟩ rfl rfl rfl rfl rfl (by kernel_rfl) Tryd.func4 (by kernel_rfl)
    (of_decide_eq_true (by kernel_rfl)) (by unfold Func.isWrapper; rw [if_neg (of_decide_eq_false (by kernel_rfl))]; exact ⟨rfl, rfl⟩)
    (fun os started H enc _ => liftedCubeSides os started H enc)
theorem cubeSides_holds : Rows.CubeSidesCardSaid :=
  Claim7.holds_tied_plain_at .later [] [.wider] true (true, "0db289438f030618f1644cfc06991a4179338ffe742057372a030a1f98f821f5") false cubeSides_row (fun _ h => by cases h) (by kernel_rfl) (fun _ h => by cases h) cubeSides_row_tie rfl ⟨rfl, rfl⟩ (by kernel_rfl) rfl
    (fun f fn hf hfn => by
      obtain rfl : f = 4 := Option.some.inj ((show Tryd.prog.funcNamed "tarn/tarnlaw06.CubeSides" = some 4 by kernel_rfl).symm.trans hf) |>.symm
      obtain rfl : fn = Tryd.f4 := (Option.some.inj (Tryd.func4.symm.trans hfn)).symm
      exact ⟨by kernel_rfl, fun j t ht => by
        rw [Tryd.params4] at ht
        have hm : t ∈ [22] := by simpa using Array.mem_of_getElem? ht
        have hall : ([22].all fun u => !Tryd.prog.wantsStandIn u) = true := by kernel_rfl
        exact (show Tryd.prog.wantsStandIn t = false by simpa using List.all_eq_true.1 hall t hm)⟩)
    (by kernel_rfl)

#print axioms cubeSides_holds
end Go.Proofs.YtbfbafoeifigfaaDoor
