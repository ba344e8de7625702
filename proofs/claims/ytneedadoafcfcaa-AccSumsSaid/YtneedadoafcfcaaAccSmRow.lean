/- The row of AccSums, out of its walk. -/
import Derived.Test.YtneedadoafcfcaaAccSm
import Derived.Test.YtneedadoafcfcaaOpenS
import Derived.OpenShut
namespace Go.Proofs.Ytneedadoafcfcaa
open Go.ChangeShapes Go.WideShapes Go.ChangeAt Go.RowKit TF

theorem ownAccSums : ownKnob Try.prog.godebug = none := by kernel_rfl
theorem laidAccSums : laidOutB Try.prog = true := by kernel_rfl

set_option maxRecDepth 100000 in
theorem liftedAccSums (os : Os) (started : os.Started) (H : Type) (enc : TypeId × Value → H) :
    ReturnsInHanded {} Try.checked os 7 .any (Rows.accSumsSpec.pre6 enc Try.prog Try.f7 Rows.accSumsRow.domain false) (Rows.accSumsSpec.post enc Try.prog Try.f7 false true false false) := by
  refine returnsInHanded_of_change (C := Try.checked) ownAccSums started (by kernel_rfl) Try.func7
    (ChangeSpec.witness6 (enc := enc) (C := Try.checked) false ⟨#[], #[.slice none 0 0, .int .i64 0], []⟩ 8 (by kernel_rfl) (by kernel_rfl) (by kernel_rfl) (by kernel_rfl)) ?_
  intro W base args ds gs before hval0 hW hcnd _
  have hval : ∀ (j : Nat) t v, Try.f7.params[j]? = some t → args[j]? = some v → Value.okWide Try.prog W .any base t v := hval0
  have hW' := hW
  obtain ⟨p, q, hA0, hV, rfl, hfz, hnd⟩ := hW
  have hA : DataW.TrodAll enc Try.prog W 0 (fun _ => true) true Try.f7.params.toList args.toList ds p := hA0
  rw [Try.params7] at hA hval
  obtain ⟨v0, vs0, d0, ds0, p0, q0, hargs, rfl, rfl, h0, r0⟩ := trodAll_cons hA
  obtain ⟨v1, vs1, d1, ds1, p1, q1, rfl, rfl, rfl, h1, r1⟩ := trodAll_cons r0
  obtain ⟨rfl, rfl, rfl⟩ := trodAll_nil r1
  obtain rfl : args = #[v0, v1] := by cases args; simp_all
  obtain ⟨rfl, rfl⟩ := trodVars_none hV
  have hlt : ∀ x ∈ (p0 ++ p1), x.block < W.heap.size := fun x hx => hW'.lt x (by simpa using hx)
  have k0 := h0
  obtain ⟨A0, l0, c0, rfl⟩ := okWide_slice Try.underlying27 (hval 0 27 v0 rfl rfl)
  obtain ⟨A0', l0', c0', xs0, e0, hl0, hm0, hp0⟩ := open_floats Try.underlying27 Try.underlying22 (by kernel_rfl) rfl h0
  obtain ⟨rfl, rfl, rfl⟩ : A0 = A0' ∧ l0 = l0' ∧ c0 = c0' := by simpa using e0
  have hm0' : c0 ≤ 9223372036854775807 := by unfold maxLen at hm0; omega
  have k1 := h1
  obtain ⟨a1, rfl, -, -, w1⟩ := open_int Try.underlying3 (hval 1 3 v1 rfl rfl) h1
  clear hA0 hval0
  simp only [List.append_nil] at hW'
  refine (accSums_any A0 l0 c0 xs0 a1 W (by omega) hp0 w1).mono fun e W' ⟨he, hb⟩ => ?_
  subst he
  have hT : ∀ sp : Nat → Bool, (∀ x ∈ (p0 ++ p1), sp x.block = true) → DataW.TrodAll enc Try.prog W' 0 sp true [27, 3] [_, _] [_, _] (p0 ++ (p1 ++ ([]))) := fun sp hsp => (trodAll_cons_mk (trod_after laidAccSums (by kernel_rfl) (of_decide_eq_true (by kernel_rfl)) k0 hb hlt hsp (by intro x hx; simp [hx])) (trodAll_cons_mk (trod_after laidAccSums (by kernel_rfl) (of_decide_eq_true (by kernel_rfl)) k1 hb hlt hsp (by intro x hx; simp [hx])) trodAll_mk0))
  exact ⟨_, rfl, post_below (f := Try.f7) hW' (fun _ _ _ => (trodAll_cons_mk (shut_bool Try.underlying4 _) trodAll_mk0)) (fun sp hsp => by have := hT sp (by simpa using hsp); simp only [List.append_nil] at this; exact this) (fun _ _ => rfl) hb
    (ok_one (by kernel_rfl) rfl (okWide_bool_mk Try.underlying4 _))⟩

theorem accSums_holds : Rows.AccSumsSaid :=
  OpenClaim.holds_of_wide 7 Try.f7 rfl rfl rfl rfl rfl rfl rfl ⟨rfl, rfl, rfl, rfl, rfl⟩ rfl rfl rfl rfl rfl (by kernel_rfl) Try.func7 (by kernel_rfl)
    (of_decide_eq_true (by kernel_rfl)) (by unfold Func.isWrapper; rw [if_neg (of_decide_eq_false (by kernel_rfl))]; exact ⟨rfl, rfl⟩)
    (fun os started H enc _ => liftedAccSums os started H enc)

#print axioms accSums_holds
end Go.Proofs.Ytneedadoafcfcaa
