/- The row of AccScaled, out of its walk. -/
import Derived.Test.YtneedadoafcfcaaAccScal
import Derived.Test.YtneedadoafcfcaaOpenS
import Derived.OpenShut
namespace Go.Proofs.Ytneedadoafcfcaa
open Go.ChangeShapes Go.WideShapes Go.ChangeAt Go.RowKit TF

theorem ownAccScaled : ownKnob Try.prog.godebug = none := by kernel_rfl
theorem laidAccScaled : laidOutB Try.prog = true := by kernel_rfl

set_option maxRecDepth 100000 in
theorem liftedAccScaled (os : Os) (started : os.Started) (H : Type) (enc : TypeId × Value → H) :
    ReturnsInHanded {} Try.checked os 5 .any (Rows.accScaledSpec.pre6 enc Try.prog Try.f5 Rows.accScaledRow.domain false) (Rows.accScaledSpec.post enc Try.prog Try.f5 false true false false) := by
  refine returnsInHanded_of_change (C := Try.checked) ownAccScaled started (by kernel_rfl) Try.func5
    (ChangeSpec.witness6 (enc := enc) (C := Try.checked) false ⟨#[], #[.slice none 0 0, .slice none 0 0, .int .i64 0], []⟩ 8 (by kernel_rfl) (by kernel_rfl) (by kernel_rfl) (by kernel_rfl)) ?_
  intro W base args ds gs before hval0 hW hcnd _
  have hval : ∀ (j : Nat) t v, Try.f5.params[j]? = some t → args[j]? = some v → Value.okWide Try.prog W .any base t v := hval0
  have hW' := hW
  obtain ⟨p, q, hA0, hV, rfl, hfz, hnd⟩ := hW
  have hA : DataW.TrodAll enc Try.prog W 0 (fun _ => true) true Try.f5.params.toList args.toList ds p := hA0
  rw [Try.params5] at hA hval
  obtain ⟨v0, vs0, d0, ds0, p0, q0, hargs, rfl, rfl, h0, r0⟩ := trodAll_cons hA
  obtain ⟨v1, vs1, d1, ds1, p1, q1, rfl, rfl, rfl, h1, r1⟩ := trodAll_cons r0
  obtain ⟨v2, vs2, d2, ds2, p2, q2, rfl, rfl, rfl, h2, r2⟩ := trodAll_cons r1
  obtain ⟨rfl, rfl, rfl⟩ := trodAll_nil r2
  obtain rfl : args = #[v0, v1, v2] := by cases args; simp_all
  obtain ⟨rfl, rfl⟩ := trodVars_none hV
  have hlt : ∀ x ∈ (p0 ++ p1 ++ p2), x.block < W.heap.size := fun x hx => hW'.lt x (by simpa using hx)
  have k0 := h0
  obtain ⟨A0, l0, c0, rfl⟩ := okWide_slice Try.underlying27 (hval 0 27 v0 rfl rfl)
  obtain ⟨A0', l0', c0', xs0, e0, hl0, hm0, hp0⟩ := open_floats Try.underlying27 Try.underlying22 (by kernel_rfl) rfl h0
  obtain ⟨rfl, rfl, rfl⟩ : A0 = A0' ∧ l0 = l0' ∧ c0 = c0' := by simpa using e0
  have hm0' : c0 ≤ 9223372036854775807 := by unfold maxLen at hm0; omega
  have k1 := h1
  obtain ⟨A1, l1, c1, rfl⟩ := okWide_slice Try.underlying39 (hval 1 39 v1 rfl rfl)
  obtain ⟨A1', l1', c1', xs1, e1, hl1, hm1, hp1⟩ := open_intlist Try.underlying39 Try.underlying2 (by kernel_rfl) rfl h1
  obtain ⟨rfl, rfl, rfl⟩ : A1 = A1' ∧ l1 = l1' ∧ c1 = c1' := by simpa using e1
  have hm1' : c1 ≤ 9223372036854775807 := by unfold maxLen at hm1; omega
  have k2 := h2
  obtain ⟨a2, rfl, -, -, w2⟩ := open_int Try.underlying3 (hval 2 3 v2 rfl rfl) h2
  clear hA0 hval0
  simp only [List.append_nil] at hW'
  refine (accScaled_any A0 l0 c0 xs0 A1 l1 c1 xs1 a2 W (by omega) hp0 (by omega) hp1 w2).mono fun e W' ⟨he, hb⟩ => ?_
  subst he
  have hT : ∀ sp : Nat → Bool, (∀ x ∈ (p0 ++ p1 ++ p2), sp x.block = true) → DataW.TrodAll enc Try.prog W' 0 sp true [27, 39, 3] [_, _, _] [_, _, _] (p0 ++ (p1 ++ (p2 ++ ([])))) := fun sp hsp => (trodAll_cons_mk (trod_after laidAccScaled (by kernel_rfl) (of_decide_eq_true (by kernel_rfl)) k0 hb hlt hsp (by intro x hx; simp [hx])) (trodAll_cons_mk (trod_after laidAccScaled (by kernel_rfl) (of_decide_eq_true (by kernel_rfl)) k1 hb hlt hsp (by intro x hx; simp [hx])) (trodAll_cons_mk (trod_after laidAccScaled (by kernel_rfl) (of_decide_eq_true (by kernel_rfl)) k2 hb hlt hsp (by intro x hx; simp [hx])) trodAll_mk0)))
  exact ⟨_, rfl, post_below (f := Try.f5) hW' (fun _ _ _ => (trodAll_cons_mk (shut_bool Try.underlying4 _) trodAll_mk0)) (fun sp hsp => by have := hT sp (by simpa using hsp); simp only [List.append_nil] at this; exact this) (fun _ _ => rfl) hb
    (ok_one (by kernel_rfl) rfl (okWide_bool_mk Try.underlying4 _))⟩

theorem accScaled_holds : Rows.AccScaledSaid :=
  OpenClaim.holds_of_wide 5 Try.f5 rfl rfl rfl rfl rfl rfl rfl ⟨rfl, rfl, rfl, rfl, rfl⟩ rfl rfl rfl rfl rfl (by kernel_rfl) Try.func5 (by kernel_rfl)
    (of_decide_eq_true (by kernel_rfl)) (by unfold Func.isWrapper; rw [if_neg (of_decide_eq_false (by kernel_rfl))]; exact ⟨rfl, rfl⟩)
    (fun os started H enc _ => liftedAccScaled os started H enc)

#print axioms accScaled_holds
end Go.Proofs.Ytneedadoafcfcaa
