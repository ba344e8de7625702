/- The row of AccScripts, out of its walk. -/
import Derived.Test.YtneedadoafcfcaaAccScr
import Derived.Test.YtneedadoafcfcaaOpenF
import Derived.OpenShut
import Derived.SizedLaws
namespace Go.Proofs.Ytneedadoafcfcaa
open Go.ChangeShapes Go.WideShapes Go.ChangeAt Go.RowKit TF

theorem ownAccScripts : ownKnob Try.prog.godebug = none := by kernel_rfl
theorem laidAccScripts : laidOutB Try.prog = true := by kernel_rfl

set_option maxRecDepth 100000 in
theorem liftedAccScripts (os : Os) (started : os.Started) (H : Type) (enc : TypeId × Value → H) :
    ReturnsInHanded {} Try.checked os 6 .any (Rows.accScriptsSpec.pre6 enc Try.prog Try.f6 Rows.accScriptsRow.domain false) (Rows.accScriptsSpec.post enc Try.prog Try.f6 false true false false) := by
  refine returnsInHanded_of_change (C := Try.checked) ownAccScripts started (by kernel_rfl) Try.func6
    (ChangeSpec.witness6 (enc := enc) (C := Try.checked) false ⟨#[], #[.slice none 0 0], []⟩ 8 (by kernel_rfl) (by kernel_rfl) (by kernel_rfl) (by kernel_rfl)) ?_
  intro W base args ds gs before hval0 hW hcnd _
  have hval : ∀ (j : Nat) t v, Try.f6.params[j]? = some t → args[j]? = some v → Value.okWide Try.prog W .any base t v := hval0
  have hW' := hW
  obtain ⟨p, q, hA0, hV, rfl, hfz, hnd⟩ := hW
  have hA : DataW.TrodAll enc Try.prog W 0 (fun _ => true) true Try.f6.params.toList args.toList ds p := hA0
  rw [Try.params6] at hA hval
  obtain ⟨v0, vs0, d0, ds0, p0, q0, hargs, rfl, rfl, h0, r0⟩ := trodAll_cons hA
  obtain ⟨rfl, rfl, rfl⟩ := trodAll_nil r0
  obtain rfl : args = #[v0] := by cases args; simp_all
  obtain ⟨rfl, rfl⟩ := trodVars_none hV
  have hlt : ∀ x ∈ (p0), x.block < W.heap.size := fun x hx => hW'.lt x (by simpa using hx)
  have k0 := h0
  obtain ⟨A0, l0, c0, xs0, rfl, hl0, hr0⟩ := open_rows (hval 0 42 v0 rfl rfl) h0
  clear hA0 hval0
  simp only [List.append_nil] at hW'
  refine (accScripts_any A0 l0 c0 xs0 W hl0 hr0).mono fun e W' ⟨he, hb⟩ => ?_
  subst he
  have hT : ∀ sp : Nat → Bool, (∀ x ∈ (p0), sp x.block = true) → DataW.TrodAll enc Try.prog W' 0 sp true [42] [_] [_] (p0 ++ ([])) := fun sp hsp => (trodAll_cons_mk (trod_after laidAccScripts (by kernel_rfl) (of_decide_eq_true (by kernel_rfl)) k0 hb hlt hsp (by intro x hx; simp [hx])) trodAll_mk0)
  exact ⟨_, rfl, post_below (f := Try.f6) hW' (fun _ _ _ => (trodAll_cons_mk (shut_bool Try.underlying4 _) trodAll_mk0)) (fun sp hsp => by have := hT sp (by simpa using hsp); simp only [List.append_nil] at this; exact this) (fun _ _ => rfl) hb
    (ok_one (by kernel_rfl) rfl (okWide_bool_mk Try.underlying4 _))⟩

theorem accScripts_holds : Rows.AccScriptsSaid :=
  OpenClaim.holds_of_wide 6 Try.f6 rfl rfl rfl rfl rfl rfl rfl ⟨rfl, rfl, rfl, rfl, rfl⟩ rfl rfl rfl rfl rfl (by kernel_rfl) Try.func6 (by kernel_rfl)
    (of_decide_eq_true (by kernel_rfl)) (by unfold Func.isWrapper; rw [if_neg (of_decide_eq_false (by kernel_rfl))]; exact ⟨rfl, rfl⟩)
    (fun os started H enc _ => liftedAccScripts os started H enc)

#print axioms accScripts_holds
end Go.Proofs.Ytneedadoafcfcaa
