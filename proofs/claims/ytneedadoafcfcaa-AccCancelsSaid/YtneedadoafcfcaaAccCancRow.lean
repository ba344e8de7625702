/- The row of AccCancels, out of its walk. -/
import Derived.Test.YtneedadoafcfcaaAccCanc
import Derived.Test.YtneedadoafcfcaaOpenS
import Derived.OpenShut
namespace Go.Proofs.Ytneedadoafcfcaa
open Go.ChangeShapes Go.WideShapes Go.ChangeAt Go.RowKit TF

theorem ownAccCancels : ownKnob Try.prog.godebug = none := by kernel_rfl
theorem laidAccCancels : laidOutB Try.prog = true := by kernel_rfl

set_option maxRecDepth 100000 in
theorem liftedAccCancels (os : Os) (started : os.Started) (H : Type) (enc : TypeId × Value → H) :
    ReturnsInHanded {} Try.checked os 4 .any (Rows.accCancelsSpec.pre6 enc Try.prog Try.f4 Rows.accCancelsRow.domain false) (Rows.accCancelsSpec.post enc Try.prog Try.f4 false true false false) := by
  refine returnsInHanded_of_change (C := Try.checked) ownAccCancels started (by kernel_rfl) Try.func4
    (ChangeSpec.witness6 (enc := enc) (C := Try.checked) false ⟨#[], #[.float .f64 0, .slice none 0 0, .slice none 0 0], []⟩ 8 (by kernel_rfl) (by kernel_rfl) (by kernel_rfl) (by kernel_rfl)) ?_
  intro W base args ds gs before hval0 hW hcnd _
  have hval : ∀ (j : Nat) t v, Try.f4.params[j]? = some t → args[j]? = some v → Value.okWide Try.prog W .any base t v := hval0
  have hW' := hW
  obtain ⟨p, q, hA0, hV, rfl, hfz, hnd⟩ := hW
  have hA : DataW.TrodAll enc Try.prog W 0 (fun _ => true) true Try.f4.params.toList args.toList ds p := hA0
  rw [Try.params4] at hA hval
  obtain ⟨v0, vs0, d0, ds0, p0, q0, hargs, rfl, rfl, h0, r0⟩ := trodAll_cons hA
  obtain ⟨v1, vs1, d1, ds1, p1, q1, rfl, rfl, rfl, h1, r1⟩ := trodAll_cons r0
  obtain ⟨v2, vs2, d2, ds2, p2, q2, rfl, rfl, rfl, h2, r2⟩ := trodAll_cons r1
  obtain ⟨rfl, rfl, rfl⟩ := trodAll_nil r2
  obtain rfl : args = #[v0, v1, v2] := by cases args; simp_all
  obtain ⟨rfl, rfl⟩ := trodVars_none hV
  have hlt : ∀ x ∈ (p0 ++ p1 ++ p2), x.block < W.heap.size := fun x hx => hW'.lt x (by simpa using hx)
  have k0 := h0
  obtain ⟨a0, rfl, -, -, w0⟩ := open_float Try.underlying22 (hval 0 22 v0 rfl rfl) h0
  have k1 := h1
  obtain ⟨A1, l1, c1, rfl⟩ := okWide_slice Try.underlying27 (hval 1 27 v1 rfl rfl)
  obtain ⟨A1', l1', c1', xs1, e1, hl1, hm1, hp1⟩ := open_floats Try.underlying27 Try.underlying22 (by kernel_rfl) rfl h1
  obtain ⟨rfl, rfl, rfl⟩ : A1 = A1' ∧ l1 = l1' ∧ c1 = c1' := by simpa using e1
  have hm1' : c1 ≤ 9223372036854775807 := by unfold maxLen at hm1; omega
  have k2 := h2
  obtain ⟨A2, l2, c2, rfl⟩ := okWide_slice Try.underlying27 (hval 2 27 v2 rfl rfl)
  obtain ⟨A2', l2', c2', xs2, e2, hl2, hm2, hp2⟩ := open_floats Try.underlying27 Try.underlying22 (by kernel_rfl) rfl h2
  obtain ⟨rfl, rfl, rfl⟩ : A2 = A2' ∧ l2 = l2' ∧ c2 = c2' := by simpa using e2
  have hm2' : c2 ≤ 9223372036854775807 := by unfold maxLen at hm2; omega
  clear hA0 hval0
  simp only [List.append_nil] at hW'
  refine (accCancels_any a0 A1 l1 c1 xs1 A2 l2 c2 xs2 W (W64.of_wf w0) (by omega) hp1 (by omega) hp2).mono fun e W' ⟨he, hb⟩ => ?_
  subst he
  have hT : ∀ sp : Nat → Bool, (∀ x ∈ (p0 ++ p1 ++ p2), sp x.block = true) → DataW.TrodAll enc Try.prog W' 0 sp true [22, 27, 27] [_, _, _] [_, _, _] (p0 ++ (p1 ++ (p2 ++ ([])))) := fun sp hsp => (trodAll_cons_mk (trod_after laidAccCancels (by kernel_rfl) (of_decide_eq_true (by kernel_rfl)) k0 hb hlt hsp (by intro x hx; simp [hx])) (trodAll_cons_mk (trod_after laidAccCancels (by kernel_rfl) (of_decide_eq_true (by kernel_rfl)) k1 hb hlt hsp (by intro x hx; simp [hx])) (trodAll_cons_mk (trod_after laidAccCancels (by kernel_rfl) (of_decide_eq_true (by kernel_rfl)) k2 hb hlt hsp (by intro x hx; simp [hx])) trodAll_mk0)))
  exact ⟨_, rfl, post_below (f := Try.f4) hW' (fun _ _ _ => (trodAll_cons_mk (shut_bool Try.underlying4 _) trodAll_mk0)) (fun sp hsp => by have := hT sp (by simpa using hsp); simp only [List.append_nil] at this; exact this) (fun _ _ => rfl) hb
    (ok_one (by kernel_rfl) rfl (okWide_bool_mk Try.underlying4 _))⟩

theorem accCancels_holds : Rows.AccCancelsSaid :=
  OpenClaim.holds_of_wide 4 Try.f4 rfl rfl rfl rfl rfl rfl rfl ⟨rfl, rfl, rfl, rfl, rfl⟩ rfl rfl rfl rfl rfl (by kernel_rfl) Try.func4 (by kernel_rfl)
    (of_decide_eq_true (by kernel_rfl)) (by unfold Func.isWrapper; rw [if_neg (of_decide_eq_false (by kernel_rfl))]; exact ⟨rfl, rfl⟩)
    (fun os started H enc _ => liftedAccCancels os started H enc)

#print axioms accCancels_holds
end Go.Proofs.Ytneedadoafcfcaa
