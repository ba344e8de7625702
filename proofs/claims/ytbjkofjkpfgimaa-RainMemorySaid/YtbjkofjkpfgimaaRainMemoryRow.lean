/- The row of RainMemory, out of its walk. -/
import Derived.Test.YtbjkofjkpfgimaaRainMemory
import Derived.OpenShut
import Derived.SizedLaws
namespace Go.Proofs.Ytbjkofjkpfgimaa
open Go.ChangeShapes Go.WideShapes Go.ChangeAt Go.RowKit TF

theorem ownRainMemory : ownKnob Try.prog.godebug = none := by kernel_rfl
theorem laidRainMemory : laidOutB Try.prog = true := by kernel_rfl

set_option maxRecDepth 100000 in
theorem liftedRainMemory (os : Os) (started : os.Started) (H : Type) (enc : TypeId × Value → H) :
    ReturnsInHanded {} Try.checked os 8 .any (Rows.rainMemorySpec.pre6 enc Try.prog Try.f8 Rows.rainMemoryRow.domain false) (Rows.rainMemorySpec.post enc Try.prog Try.f8 false true false false) := by
  refine returnsInHanded_of_change_sized (C := Try.checked) ownRainMemory started (by kernel_rfl) Try.func8
    (ChangeSpec.witness6 (enc := enc) (C := Try.checked) false ⟨#[], #[.agg #[.slice none 0 0, .int .i64 0, .slice none 0 0, .int .i64 0]], []⟩ 8 (by kernel_rfl) (by kernel_rfl) (by kernel_rfl) (by kernel_rfl)) ?_
  intro W base args ds gs before hval0 hW hcnd0 hsz0 _
  have hval : ∀ (j : Nat) t v, Try.f8.params[j]? = some t → args[j]? = some v → Value.okWide Try.prog W .any base t v := hval0
  have hsz : (DataW.weightsEach Try.prog (Try.f8.params.toList ++ Rows.rainMemorySpec.plain.varTypes Try.prog) (ds ++ gs)).all (· ≤ reachBytes) = true := hsz0
  have hW' := hW
  obtain ⟨p, q, hA0, hV, rfl, hfz, hnd⟩ := hW
  have hA : DataW.TrodAll enc Try.prog W 0 (fun _ => true) true Try.f8.params.toList args.toList ds p := hA0
  rw [Try.params8] at hA hval hsz
  obtain ⟨v0, vs0, d0, ds0, p0, q0, hargs, rfl, rfl, h0, r0⟩ := trodAll_cons hA
  obtain ⟨rfl, rfl, rfl⟩ := trodAll_nil r0
  obtain rfl : args = #[v0] := by cases args; simp_all
  obtain ⟨rfl, rfl⟩ := trodVars_none hV
  have hlt : ∀ x ∈ (p0), x.block < W.heap.size := fun x hx => hW'.lt x (by simpa using hx)
  have k0 := h0
  obtain ⟨A, n, cap, Z, s, R, m, cap2, C, Am, F, T, st, rfl, hwe⟩ := open_weather Try.underlying25 (by kernel_rfl) (by kernel_rfl) rfl Try.underlying2 rfl Try.underlying3 Try.underlying22 Try.underlying2 (by kernel_rfl) (by kernel_rfl) Try.underlying23 Try.underlying29 (by kernel_rfl) (by kernel_rfl) Try.underlying3 Try.underlying2 Try.underlying3 Try.underlying3 (hval 0 25 v0 rfl rfl) h0 hsz rfl rfl
  clear hA0 hval0 hsz0 hcnd0
  simp only [List.append_nil] at hW'
  refine (rainMemory_walk A n cap Z s R m cap2 C Am F T st W hwe).mono fun e W' ⟨he, hb⟩ => ?_
  subst he
  have hT : ∀ sp : Nat → Bool, (∀ x ∈ (p0), sp x.block = true) → DataW.TrodAll enc Try.prog W' 0 sp true [25] [_] [_] (p0 ++ ([])) := fun sp hsp => (trodAll_cons_mk (trod_after laidRainMemory (by kernel_rfl) (of_decide_eq_true (by kernel_rfl)) k0 hb hlt hsp (by intro x hx; simp [hx])) trodAll_mk0)
  exact ⟨_, rfl, post_below (f := Try.f8) hW' (fun _ _ _ => (trodAll_cons_mk (shut_bool Try.underlying4 _) trodAll_mk0)) (fun sp hsp => by have := hT sp (by simpa using hsp); simp only [List.append_nil] at this; exact this) (fun _ _ => rfl) hb
    (ok_one (by kernel_rfl) rfl (okWide_bool_mk Try.underlying4 _))⟩

theorem rainMemory_holds : Rows.RainMemorySaid :=
  OpenClaim.holds_of_wide 8 Try.f8 rfl rfl rfl rfl rfl rfl rfl ⟨rfl, rfl, rfl, rfl, rfl⟩ rfl rfl rfl rfl rfl (by kernel_rfl) Try.func8 (by kernel_rfl)
    (of_decide_eq_true (by kernel_rfl)) (by unfold Func.isWrapper; rw [if_neg (of_decide_eq_false (by kernel_rfl))]; exact ⟨rfl, rfl⟩)
    (fun os started H enc _ => liftedRainMemory os started H enc)

#print axioms rainMemory_holds
end Go.Proofs.Ytbjkofjkpfgimaa
