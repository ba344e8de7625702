/- AccTwo. -/
import Derived.Test.YtneedadoafcfcaaAccAw
import Derived.Test.YtneedadoafcfcaaAccTp
namespace Go.Proofs.Ytneedadoafcfcaa
open Go Go.RowKit TF

attribute [local go_sem] cmp_eq cmp_ne cmp_lt cmp_gt cmp_le cmp_ge

theorem run_nan {o : BinOp} (t : TypeId) {x y : Nat} (ho : o = .add ∨ o = .sub ∨ o = .mul ∨ o = .quo) (h : floatBits o .f64 x y = none) :
    ∃ f : World → Nat, (∀ w, f w < 2 ^ 64 ∧ INF < mg (f w)) ∧ ∀ w, (binOp o t (.float .f64 x) (.float .f64 y)).run Try.prog w = .ok (.float .f64 (f w)) w.drew := by
  have k := fun w => run_invalid (P := Try.prog) t ho h w
  exact ⟨fun w => Classical.choose (k w), fun w => ⟨(Classical.choose_spec (k w)).1, (Classical.choose_spec (k w)).2.1⟩, fun w => (Classical.choose_spec (k w)).2.2⟩
def two (x y i : Nat) : Nat := if i = 0 then x else y
theorem same_self (a : Nat) (w : World) : Calls Try.prog 16 #[.float .f64 a, .float .f64 a] w fun e w' => e = .returned (.bool true) ∧ w = w' := by
  have h := rsame_any a a w
  rwa [sameB_self] at h
theorem two_lt {x y : Nat} (hx : W64 x) (hy : W64 y) (i : Nat) : W64 (two x y i) := by
  unfold two; split
  · exact hx
  · exact hy
theorem accTwo_any (x y : Nat) (w : World) (hx : W64 x) (hy : W64 y) :
    Calls Try.prog 3 #[.float .f64 x, .float .f64 y] w fun e w' => e = .returned (.bool true) ∧ Below w.heap.size w w' := by
  have KN := Lib.hid new_any
  have KAw := Lib.hid (awake_any w)
  have HX := Lib.hid (⟨hx, hy⟩ : _ ∧ _)
  clear hx hy
  go_enter Try.func3, Try.ntmps3
  go_wp2_with fail
  refine (KAw.out).mono ?_
  rintro e w1 ⟨rfl, hb1⟩
  obtain ⟨W1, hW1⟩ : ∃ W1, w1.alloc (.cells #[.float .f64 x, .float .f64 y] 22) = W1 := ⟨_, rfl⟩
  have hB : Below w.heap.size w W1 := by rw [← hW1]; exact hb1.alloc hb1.size _
  have hF : Floats W1 (some ⟨w1.heap.size, 0, none⟩) 2 (two x y) := by
    rw [← hW1]
    intro i hi
    refine ⟨_, _, rfl, by simp, ?_, two_lt HX.out.1 HX.out.2 i⟩
    rw [World.cell?_alloc_new]
    match i, hi with
    | 0, _ => rfl
    | 1, _ => rfl
  have KS := Lib.hid (sum_any (some ⟨w1.heap.size, 0, none⟩) 2 2 (two x y) W1 hF (by omega))
  obtain ⟨S, hS⟩ : ∃ S, S = valG (sumG (two x y) 2) := ⟨_, rfl⟩
  rw [← hS] at KS
  obtain ⟨Pv, hP⟩ : ∃ S, S = valG (mulG newG x y) := ⟨_, rfl⟩
  have HB := Lib.hid (⟨hB, hS, hP⟩ : _ ∧ _ ∧ _)
  clear hB hF hb1 hS
  go_wp2_with fail
  refine (KS.out).mono ?_
  rintro e w2 ⟨rfl, hb2⟩
  have HB2 := Lib.hid (HB.out.1.trans (hb2.mono HB.out.1.size))
  clear hb2
  go_wp2_with (go_at_call 11; ((with_reducible refine (KN.out _).mono ?_)); rintro e w' ⟨rfl, rfl⟩)
  refine (mul_some w2.heap.size newG _ (new_is w2) new_ok _ _ HX.out.1 HX.out.2 (by decide)).mono ?_
  rintro e w3 ⟨rfl, a3, c3⟩
  have ok3 := mul_ok (x := x) (y := y) new_ok (by decide)
  have hb3 := c3.below (w0 := w) (lim := w.heap.size) ((HB2.out).alloc HB2.out.size _) HB2.out.size (by have := HB2.out.size; simp; omega)
  have KV := value_any w2.heap.size _ w3 a3 ok3
  rw [← hP] at KV
  have K3 := Lib.hid (⟨hb3, KV⟩ : _ ∧ _)
  clear hb3 a3 ok3 c3 hP KV
  go_wp2_with fail
  refine (K3.out.2).mono ?_
  rintro e w4 ⟨rfl, hb4⟩
  have K4 := Lib.hid (K3.out.1.trans (hb4.mono K3.out.1.size))
  clear hb4
  have z0 : ∀ z : Nat, INF < mg z → eqW z z = false ∧ eqW z 0 = false := fun z h => by
    have hn := isN_true.2 h
    exact ⟨by unfold eqW; rw [hn]; rfl, by rw [eqW_zero, hn]; rfl⟩
  have z1 : ∀ z : Nat, isN z = false → eqW z z = true ∧ eqW z 0 = decide (mg z = 0) := fun z h =>
    ⟨by unfold eqW; rw [h]; simp, by rw [eqW_zero, h]; rfl⟩
  have z2 : ∀ z : Nat, mg z ≠ 0 → eqW z 0 = false := fun z h => by rw [eqW_zero, decide_eq_false h, Bool.and_false]
  have z3 : ∀ z : Nat, mg z = 0 → eqW z 0 = true := fun z h => by rw [eqW_zero, decide_eq_true h, isN_false.2 (by omega)]; rfl
  have hA : (∃ f : World → Nat, (∀ w, eqW (f w) (f w) = false) ∧ (∀ w, (binOp .add 22 (.float .f64 x) (.float .f64 y)).run Try.prog w = .ok (.float .f64 (f w)) w.drew) ∧ S = 9221120237041090561) ∨
      (eqW S S = true ∧ ∀ w, (binOp .add 22 (.float .f64 x) (.float .f64 y)).run Try.prog w = .ok (.float .f64 S) w) := by
    rcases sum_two (x := x) (y := y) with ⟨h1, h2⟩ | ⟨r, h1, h2, h3, h4⟩
    · obtain ⟨f, f1, f2⟩ := run_nan 22 (.inl rfl) (show floatBits .add .f64 x y = none from h1)
      exact .inl ⟨f, fun w => (z0 _ (f1 w).2).1, f2, HB.out.2.1.trans h2⟩
    · have e : S = r := HB.out.2.1.trans h4
      subst e
      exact .inr ⟨(z1 _ h3).1, fun w => run_valid 22 (show floatBits .add .f64 x y = some _ from h1) w⟩
  have hB : (∃ f : World → Nat, (∀ w, eqW (f w) (f w) = false) ∧ (∀ w, eqW (f w) 0 = false) ∧ (∀ w, (binOp .mul 22 (.float .f64 x) (.float .f64 y)).run Try.prog w = .ok (.float .f64 (f w)) w.drew) ∧ Pv = 9221120237041090561) ∨
      (∃ r, (∀ w, (binOp .mul 22 (.float .f64 x) (.float .f64 y)).run Try.prog w = .ok (.float .f64 r) w) ∧ eqW r 0 = true ∧ eqW x 0 = false ∧ eqW y 0 = false ∧ Pv = 0) ∨
      ((∀ w, (binOp .mul 22 (.float .f64 x) (.float .f64 y)).run Try.prog w = .ok (.float .f64 Pv) w) ∧ eqW Pv Pv = true ∧ (eqW Pv 0 = false ∨ eqW Pv 0 = true ∧ eqW x 0 = true ∨ eqW Pv 0 = true ∧ eqW x 0 = false ∧ eqW y 0 = true)) := by
    rcases prod_two (x := x) (y := y) with ⟨h1, h2⟩ | ⟨r, h1, h2, h3, h4, h5⟩
    · obtain ⟨f, f1, f2⟩ := run_nan 22 (.inr (.inr (.inl rfl))) (show floatBits .mul .f64 x y = none from h1)
      exact .inl ⟨f, fun w => (z0 _ (f1 w).2).1, fun w => (z0 _ (f1 w).2).2, f2, HB.out.2.2.trans h2⟩
    · have hr := fun w => run_valid (P := Try.prog) 22 (show floatBits .mul .f64 x y = some _ from h1) w
      by_cases hm : mg r = 0 ∧ mg x ≠ 0 ∧ mg y ≠ 0
      · exact .inr (.inl ⟨r, hr, z3 _ hm.1, z2 _ hm.2.1, z2 _ hm.2.2, HB.out.2.2.trans (h4 hm)⟩)
      · have e : Pv = r := HB.out.2.2.trans (h5 hm)
        subst e
        refine .inr (.inr ⟨hr, (z1 _ h3).1, ?_⟩)
        by_cases a : mg Pv = 0
        · by_cases b : mg x = 0
          · exact .inr (.inl ⟨z3 _ a, z3 _ b⟩)
          · by_cases c : mg y = 0
            · exact .inr (.inr ⟨z3 _ a, z2 _ b, z3 _ c⟩)
            · exact absurd ⟨a, b, c⟩ hm
        · exact .inl (z2 _ a)
  have e00 : eqW 0 0 = true := by kernel_rfl
  have KSm := Lib.hid same_self
  clear z0 z1 z2 z3
  rcases hA with ⟨f, a1, a2, rfl⟩ | ⟨a1, a2⟩ <;> rcases hB with ⟨g, b1, b2, b3, rfl⟩ | ⟨r, b1, b2, b3, b4, rfl⟩ | ⟨b1, b2, b3 | ⟨b3, b4⟩ | ⟨b3, b4, b5⟩⟩
  all_goals
    go_wp2_with (first | (go_at_call 15; ((with_reducible refine (from_any _ _).mono ?_)); rintro e w' ⟨rfl, rfl⟩) | (go_at_call 16; ((with_reducible refine (KSm.out _ _).mono ?_)); rintro e w' ⟨rfl, rfl⟩) | (go_at_call 14; ((with_reducible refine (rbits_any 0 0 rfl _).mono ?_)); rintro e w' ⟨rfl, rfl⟩))
    go_ret
    first
    | exact ⟨rfl, K4.out⟩
    | exact ⟨rfl, K4.out.drew⟩
    | exact ⟨rfl, below_drewN K4.out _⟩
    | exact ⟨rfl, K4.out.drew.drew⟩
end Go.Proofs.Ytneedadoafcfcaa
