/- The row and the card of CubeRound, out of its walk. -/
import Derived.Test.YtbfbafoeifigfaaDoorCubeRo
import Derived.Test.YtbfbafoeifigfaaDoorCubeR
namespace Go.Proofs.YtbfbafoeifigfaaDoor
open Go.ChangeShapes Go.WideShapes Go.ChangeAt Go.RowKit TF

theorem ownCubeRound : ownKnob Tryd.prog.godebug = none := by kernel_rfl
theorem laidCubeRound : laidOutB Tryd.prog = true := by kernel_rfl

set_option maxRecDepth 100000 in
theorem liftedCubeRound (os : Os) (started : os.Started) (H : Type) (enc : TypeId × Value → H) :
    ReturnsInHanded {} Tryd.checked os 7 .any (fun w args => (Rows.cubeRoundSpec.pre enc Tryd.prog Tryd.f7 Rows.cubeRoundRow.domain false w args ∧ laidMetH Tryd.prog framesList w) ∧ sizedMet enc Tryd.prog Tryd.f7 (OpenSpec.ofChange Rows.cubeRoundSpec) false w args)
      (Rows.cubeRoundSpec.post enc Tryd.prog Tryd.f7 false true false false) := by
  refine returnsInHanded_of_change_and (C := Tryd.checked) (X := fun w _ => laidMetH Tryd.prog framesList w) (fun _ _ _ hh h => h.of_heap hh) ownCubeRound started (by kernel_rfl) Tryd.func7
    (ChangeSpec.witness_shaped (enc := enc) (C := Tryd.checked) (os := os) (X := fun w _ => laidMetH Tryd.prog framesList w) false (World.laidAll Tryd.prog os framesList) #[.agg #[.int .i64 0, .int .i64 0, .int .i64 0, .int .i64 0, .int .i64 0, .int .i64 0, .int .i64 0, .int .i64 0]] 8 (World.laidAll_os _ _ _)
      (World.shaped_of_ZipB (by kernel_rfl) (by kernel_rfl)) (by kernel_rfl) (by kernel_rfl) (by kernel_rfl)
      (by rw [MakeChecks.laidMetH_plain _ _ _ (by kernel_rfl)]; exact laidMet_laidAll _ (by kernel_rfl) (by kernel_rfl))) ?_
  intro W base args ds gs before hval0 hW _ _ hL _
  have hval : ∀ (j : Nat) t v, Tryd.f7.params[j]? = some t → args[j]? = some v → Value.okWide Tryd.prog W .any base t v := hval0
  have hW' := hW
  obtain ⟨p, q, hA0, hV, rfl, _, _⟩ := hW
  have hA : DataW.TrodAll enc Tryd.prog W 0 (fun _ => true) true Tryd.f7.params.toList args.toList ds p := hA0
  rw [Tryd.params7] at hA hval
  obtain ⟨v0, d0, rfl, rfl, h0⟩ := trodAll_one hA
  obtain ⟨rfl, rfl⟩ := trodVars_none hV
  have k0 := h0
  obtain ⟨cs, rfl, hsz, hcs⟩ := open_struct Tryd.underlying25 (by kernel_rfl) (by kernel_rfl) (hval 0 25 v0 rfl rfl) h0
  obtain ⟨u0, n0, y0, e0, hy0⟩ := hcs 0 _ rfl
  obtain ⟨a0, rfl, _⟩ := int_cell Tryd.underlying3 hy0
  obtain ⟨u1, n1, y1, e1, hy1⟩ := hcs 1 _ rfl
  obtain ⟨a1, rfl, _⟩ := int_cell Tryd.underlying3 hy1
  obtain ⟨u2, n2, y2, e2, hy2⟩ := hcs 2 _ rfl
  obtain ⟨a2, rfl, _⟩ := int_cell Tryd.underlying3 hy2
  obtain ⟨u3, n3, y3, e3, hy3⟩ := hcs 3 _ rfl
  obtain ⟨a3, rfl, _⟩ := int_cell Tryd.underlying3 hy3
  obtain ⟨u4, n4, y4, e4, hy4⟩ := hcs 4 _ rfl
  obtain ⟨a4, rfl, _⟩ := int_cell Tryd.underlying3 hy4
  obtain ⟨u5, n5, y5, e5, hy5⟩ := hcs 5 _ rfl
  obtain ⟨a5, rfl, _⟩ := int_cell Tryd.underlying3 hy5
  obtain ⟨u6, n6, y6, e6, hy6⟩ := hcs 6 _ rfl
  obtain ⟨a6, rfl, _⟩ := int_cell Tryd.underlying3 hy6
  obtain ⟨u7, n7, y7, e7, hy7⟩ := hcs 7 _ rfl
  obtain ⟨a7, rfl, _⟩ := int_cell Tryd.underlying3 hy7
  obtain rfl : cs = #[.int .i64 a0, .int .i64 a1, .int .i64 a2, .int .i64 a3, .int .i64 a4, .int .i64 a5, .int .i64 a6, .int .i64 a7] := ask_cells hsz e0 e1 e2 e3 e4 e5 e6 e7
  simp only [List.append_nil] at hW'
  have hlt : ∀ x ∈ p, x.block < W.heap.size := fun x hx => hW'.lt x (by simpa using hx)
  refine (cubeRound_walk a0 a1 a2 a3 a4 a5 a6 a7 W (fr_of_laid hL)).mono fun e W' ⟨he, hb⟩ => ?_
  subst he
  exact ⟨_, rfl, post_below (f := Tryd.f7) hW' (fun _ _ _ => (trodAll_cons_mk (shut_bool Tryd.underlying4 _) trodAll_mk0)) (fun sp hsp => by
      have := trodAll_cons_mk (trod_after laidCubeRound (by kernel_rfl) (of_decide_eq_true (by kernel_rfl)) k0 hb hlt (fun x hx => hsp x (by simpa using hx)) (fun x hx => hx)) trodAll_mk0
      simp only [List.append_nil] at this
      exact this) (fun _ _ => rfl) hb
    (ok_one (by kernel_rfl) rfl (okWide_bool_mk Tryd.underlying4 _))⟩

theorem cubeRound_row : Rows.CubeRoundSaid :=
  OpenClaim.holds_of_wide 7 Tryd.f7 rfl rfl rfl rfl rfl rfl rfl ⟨rfl, rfl, rfl, rfl, rfl⟩ rfl rfl rfl rfl rfl (by kernel_rfl) Tryd.func7 (by kernel_rfl)
    (of_decide_eq_true (by kernel_rfl)) (by unfold Func.isWrapper; rw [if_neg (of_decide_eq_false (by kernel_rfl))]; exact ⟨rfl, rfl⟩)
    (fun os started H enc _ => liftedCubeRound os started H enc)
theorem cubeRound_holds : Rows.CubeRoundCardSaid :=
  Claim7.holds_tied_plain_at .later [] [.wider] true (true, "0db289438f030618f1644cfc06991a4179338ffe742057372a030a1f98f821f5") false cubeRound_row (fun _ h => by cases h) (by kernel_rfl) (fun _ h => by cases h) cubeRound_row_tie rfl ⟨rfl, rfl⟩ (by kernel_rfl) rfl
    (fun f fn hf hfn => by
      obtain rfl : f = 7 := Option.some.inj ((show Tryd.prog.funcNamed "tarn/tarnlaw06.CubeRound" = some 7 by kernel_rfl).symm.trans hf) |>.symm
      obtain rfl : fn = Tryd.f7 := (Option.some.inj (Tryd.func7.symm.trans hfn)).symm
      exact ⟨by kernel_rfl, fun j t ht => by
        rw [Tryd.params7] at ht
        have hm : t ∈ [25] := by simpa using Array.mem_of_getElem? ht
        have hall : ([25].all fun u => !Tryd.prog.wantsStandIn u) = true := by kernel_rfl
        exact (show Tryd.prog.wantsStandIn t = false by simpa using List.all_eq_true.1 hall t hm)⟩)
    (by kernel_rfl)

#print axioms cubeRound_holds
end Go.Proofs.YtbfbafoeifigfaaDoor
