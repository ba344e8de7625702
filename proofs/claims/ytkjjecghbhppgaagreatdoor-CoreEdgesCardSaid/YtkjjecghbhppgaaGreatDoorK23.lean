/- Laid together: TopXp, TopXq, TopXr. -/
import Derived.Test.YtkjjecghbhppgaaGreatDoorK19
import Derived.Deep.CutRange
import Derived.Deep.DeepCutAuto
/- A drawn region that makes rows in any order: an invariant over what has been listed. -/
namespace Go.Proofs.YtkjjecghbhppgaaGreatDoor
open Go Go.RowKit Go.Maps TF

attribute [local go_sem] cmp_eq cmp_ne cmp_lt cmp_gt cmp_le cmp_ge run_store_float
set_option maxRecDepth 100000
set_option maxHeartbeats 8000000
theorem count_set : ∀ (L : List Bool) (i : Nat), L[i]? = some false → (L.set i true).countP (fun b => !b) + 1 = L.countP (fun b => !b)
  | [], i, h => by simp at h
  | b :: L, 0, h => by simp at h; subst h; simp
  | b :: L, i + 1, h => by
    have h2 : L[i]? = some false := by simpa using h
    have := count_set L i h2
    cases b <;> simp <;> omega
section
variable {P : Program} {md : Region.Mode} {ops : Array Oper} {Q : Exit → Act → World → Prop}
theorem ready_false {l : Array Bool} {i : Nat} (h : i ∈ Region.ready md ops l) : l.toList[i]? = some false := by
  have h1 := (mem_ready.1 h).1
  rcases Nat.lt_or_ge i l.size with h2 | h2
  · simp [h2] at h1
    rw [Array.getElem?_toList, Array.getElem?_eq_getElem h2, h1]
  · simp [Array.getElem?_eq_none h2] at h1
theorem any_inv (I : Array Bool → Act → World → Prop) (hd : ∀ l a w, I l a w → Region.ready md ops l = [] → Q .normal a w)
    (hs : ∀ l a w, I l a w → ∀ i ∈ Region.ready md ops l, wpOp P ops Q i (I (l.setIfInBounds i true)) a w) :
    ∀ (fuel : Nat) (l : Array Bool) (a : Act) (w : World), l.toList.countP (fun b => !b) ≤ fuel → I l a w → wpAny P md ops Q fuel l a w
  | 0, l, a, w, hc, hI => by
    have h0 : Region.ready md ops l = [] := by
      rcases hr : Region.ready md ops l with _ | ⟨i, r⟩
      · rfl
      · have h := count_set _ _ (ready_false (md := md) (ops := ops) (l := l) (i := i) (by rw [hr]; simp))
        omega
    exact ⟨h0, hd l a w hI h0⟩
  | fuel + 1, l, a, w, hc, hI => by
    refine ⟨hd l a w hI, fun i hi => wpOp_mono (fun a' w' h => any_inv I hd hs fuel _ a' w' ?_ h) (hs l a w hI i hi)⟩
    have h := count_set _ _ (ready_false hi)
    rw [Array.toList_setIfInBounds]
    omega
theorem wpOp_run {i : Nat} {o : Oper} {K : Act → World → Prop} {a : Act} {w : World} (ho : ops[i]? = some o) (hw : Region.wanted o (yielded ops a.tmps) = true) (h : o.wp P a w K Q) : wpOp P ops Q i K a w := by
  unfold wpOp
  rw [ho]
  simp only [hw, if_true]
  exact .inl h
end
/-- a new row, a new box, in a slot -/
def slV (n : Nat) : Option Nat → Value | none => undef | some b => .slice (some ⟨b, 0, none⟩) n n
def ptV : Option Nat → Value | none => undef | some b => .pointer (some ⟨b, 0, none⟩)
structure PonF (W0 : World) (x0 x1 x2 x3 x5 : Option Nat) (e : Bool) (w : World) : Prop where
  bel : Below W0.heap.size W0 w
  r0 : ∀ b, x0 = some b → W0.heap.size ≤ b ∧ b < w.heap.size ∧ FW w b 6 (fun _ => 0)
  r1 : ∀ b, x1 = some b → W0.heap.size ≤ b ∧ b < w.heap.size ∧ IW w b 6 (fun _ => 0) ∧ ∀ o, w.frozen? ⟨b, o, none⟩ = false
  r2 : ∀ b, x2 = some b → W0.heap.size ≤ b ∧ b < w.heap.size ∧ IW w b 6 (fun _ => 0)
  r3 : ∀ b, x3 = some b → W0.heap.size ≤ b ∧ b < w.heap.size ∧ FW w b 12 (fun _ => 0)
  r5 : ∀ b, x5 = some b → W0.heap.size ≤ b ∧ b < w.heap.size ∧ (e = false → ∀ j < 6, w.cell? ⟨b, j, none⟩ = some (heldV w ⟨b, j, none⟩)) ∧ (∀ o, w.frozen? ⟨b, o, none⟩ = false) ∧
    (e = true → ∀ j u, #[slV 6 x0, slV 6 x1, slV 6 x2, slV 12 x3, Value.int .i64 0, Value.int .i64 0][j]? = some u → w.cell? ⟨b, j, none⟩ = some u)
  n10 : ∀ b c, x1 = some b → x0 = some c → b ≠ c
  n12 : ∀ b c, x1 = some b → x2 = some c → b ≠ c
  n13 : ∀ b c, x1 = some b → x3 = some c → b ≠ c
  n50 : ∀ b c, x5 = some b → x0 = some c → b ≠ c
  n51 : ∀ b c, x5 = some b → x1 = some c → b ≠ c
  n52 : ∀ b c, x5 = some b → x2 = some c → b ≠ c
  n53 : ∀ b c, x5 = some b → x3 = some c → b ≠ c
theorem PonF.start (W0 : World) : PonF W0 none none none none none false W0 :=
  ⟨Below.refl _ _, nofun, nofun, nofun, nofun, nofun, nofun, nofun, nofun, nofun, nofun, nofun, nofun⟩
theorem PonF.call {W0 w w' : World} {x0 x1 x2 x3 x5 : Option Nat} {e : Bool} (h : PonF W0 x0 x1 x2 x3 x5 e w) (hB : Below w.heap.size w w') : PonF W0 x0 x1 x2 x3 x5 e w' := by
  have hs := hB.size
  refine ⟨h.bel.trans (hB.mono h.bel.size), fun b q => ?_, fun b q => ?_, fun b q => ?_, fun b q => ?_, fun b q => ?_, h.n10, h.n12, h.n13, h.n50, h.n51, h.n52, h.n53⟩
  · obtain ⟨a1, a2, a3⟩ := h.r0 b q; exact ⟨a1, by omega, a3.below a2 hB⟩
  · obtain ⟨a1, a2, a3, a4⟩ := h.r1 b q; exact ⟨a1, by omega, a3.below a2 hB, fun o => (hB.frozen (p := ⟨b, o, none⟩) a2).trans (a4 o)⟩
  · obtain ⟨a1, a2, a3⟩ := h.r2 b q; exact ⟨a1, by omega, a3.below a2 hB⟩
  · obtain ⟨a1, a2, a3⟩ := h.r3 b q; exact ⟨a1, by omega, a3.below a2 hB⟩
  · obtain ⟨a1, a2, a3, a4, a5⟩ := h.r5 b q
    exact ⟨a1, by omega, fun e0 j hj => heldV_of ((hB.cell (p := ⟨b, j, none⟩) a2).trans (a3 e0 j hj)), fun o => (hB.frozen (p := ⟨b, o, none⟩) a2).trans (a4 o), fun e0 j u hu => (hB.cell (p := ⟨b, j, none⟩) a2).trans (a5 e0 j u hu)⟩
theorem PonF.s0 {W0 w : World} {x1 x2 x3 x5 : Option Nat} (h : PonF W0 none x1 x2 x3 x5 false w) : PonF W0 (some w.heap.size) x1 x2 x3 x5 false (w.alloc (.cells #[Value.float FloatKind.f64 0, Value.float FloatKind.f64 0, Value.float FloatKind.f64 0, Value.float FloatKind.f64 0, Value.float FloatKind.f64 0, Value.float FloatKind.f64 0] 35)) := by
  have h' := h.call ((Below.refl w.heap.size w).alloc (Nat.le_refl _) (.cells #[Value.float FloatKind.f64 0, Value.float FloatKind.f64 0, Value.float FloatKind.f64 0, Value.float FloatKind.f64 0, Value.float FloatKind.f64 0, Value.float FloatKind.f64 0] 35))
  refine ⟨h'.bel, fun b q => ?_, fun b q => ?_, fun b q => ?_, fun b q => ?_, fun b q => ?_, fun b c q q' => by obtain rfl := Option.some.inj q'; have := (h.r1 b q).2.1; omega, h.n12, h.n13, fun b c q q' => by obtain rfl := Option.some.inj q'; have := (h.r5 b q).2.1; omega, h.n51, h.n52, h.n53⟩
  · obtain rfl := Option.some.inj q; refine ⟨h.bel.size, by simp, fun i hi => ?_⟩
    obtain rfl | rfl | rfl | rfl | rfl | rfl : i = 0 ∨ i = 1 ∨ i = 2 ∨ i = 3 ∨ i = 4 ∨ i = 5 := by omega
    all_goals simp [go_sem]
  · exact h'.r1 b q
  · exact h'.r2 b q
  · exact h'.r3 b q
  · obtain ⟨a1, a2, a3, a4, a5⟩ := h'.r5 b q; exact ⟨a1, a2, a3, a4, nofun⟩
theorem PonF.s1 {W0 w : World} {x0 x2 x3 x5 : Option Nat} (h : PonF W0 x0 none x2 x3 x5 false w) : PonF W0 x0 (some w.heap.size) x2 x3 x5 false (w.alloc (.cells #[Value.int IntKind.i64 0, Value.int IntKind.i64 0, Value.int IntKind.i64 0, Value.int IntKind.i64 0, Value.int IntKind.i64 0, Value.int IntKind.i64 0] 2)) := by
  have h' := h.call ((Below.refl w.heap.size w).alloc (Nat.le_refl _) (.cells #[Value.int IntKind.i64 0, Value.int IntKind.i64 0, Value.int IntKind.i64 0, Value.int IntKind.i64 0, Value.int IntKind.i64 0, Value.int IntKind.i64 0] 2))
  refine ⟨h'.bel, fun b q => ?_, fun b q => ?_, fun b q => ?_, fun b q => ?_, fun b q => ?_, fun b c q q' => by obtain rfl := Option.some.inj q; have := (h.r0 c q').2.1; omega, fun b c q q' => by obtain rfl := Option.some.inj q; have := (h.r2 c q').2.1; omega, fun b c q q' => by obtain rfl := Option.some.inj q; have := (h.r3 c q').2.1; omega, h.n50, fun b c q q' => by obtain rfl := Option.some.inj q'; have := (h.r5 b q).2.1; omega, h.n52, h.n53⟩
  · exact h'.r0 b q
  · obtain rfl := Option.some.inj q; refine ⟨h.bel.size, by simp, fun i hi => ?_, fun o => by simp [go_sem]⟩
    obtain rfl | rfl | rfl | rfl | rfl | rfl : i = 0 ∨ i = 1 ∨ i = 2 ∨ i = 3 ∨ i = 4 ∨ i = 5 := by omega
    all_goals simp [go_sem]
  · exact h'.r2 b q
  · exact h'.r3 b q
  · obtain ⟨a1, a2, a3, a4, a5⟩ := h'.r5 b q; exact ⟨a1, a2, a3, a4, nofun⟩
theorem PonF.s2 {W0 w : World} {x0 x1 x3 x5 : Option Nat} (h : PonF W0 x0 x1 none x3 x5 false w) : PonF W0 x0 x1 (some w.heap.size) x3 x5 false (w.alloc (.cells #[Value.int IntKind.i64 0, Value.int IntKind.i64 0, Value.int IntKind.i64 0, Value.int IntKind.i64 0, Value.int IntKind.i64 0, Value.int IntKind.i64 0] 2)) := by
  have h' := h.call ((Below.refl w.heap.size w).alloc (Nat.le_refl _) (.cells #[Value.int IntKind.i64 0, Value.int IntKind.i64 0, Value.int IntKind.i64 0, Value.int IntKind.i64 0, Value.int IntKind.i64 0, Value.int IntKind.i64 0] 2))
  refine ⟨h'.bel, fun b q => ?_, fun b q => ?_, fun b q => ?_, fun b q => ?_, fun b q => ?_, h.n10, fun b c q q' => by obtain rfl := Option.some.inj q'; have := (h.r1 b q).2.1; omega, h.n13, h.n50, h.n51, fun b c q q' => by obtain rfl := Option.some.inj q'; have := (h.r5 b q).2.1; omega, h.n53⟩
  · exact h'.r0 b q
  · exact h'.r1 b q
  · obtain rfl := Option.some.inj q; refine ⟨h.bel.size, by simp, fun i hi => ?_⟩
    obtain rfl | rfl | rfl | rfl | rfl | rfl : i = 0 ∨ i = 1 ∨ i = 2 ∨ i = 3 ∨ i = 4 ∨ i = 5 := by omega
    all_goals simp [go_sem]
  · exact h'.r3 b q
  · obtain ⟨a1, a2, a3, a4, a5⟩ := h'.r5 b q; exact ⟨a1, a2, a3, a4, nofun⟩
theorem PonF.s3 {W0 w : World} {x0 x1 x2 x5 : Option Nat} (h : PonF W0 x0 x1 x2 none x5 false w) : PonF W0 x0 x1 x2 (some w.heap.size) x5 false (w.alloc (.cells #[Value.float FloatKind.f64 0, Value.float FloatKind.f64 0, Value.float FloatKind.f64 0, Value.float FloatKind.f64 0, Value.float FloatKind.f64 0, Value.float FloatKind.f64 0, Value.float FloatKind.f64 0, Value.float FloatKind.f64 0, Value.float FloatKind.f64 0, Value.float FloatKind.f64 0, Value.float FloatKind.f64 0, Value.float FloatKind.f64 0] 35)) := by
  have h' := h.call ((Below.refl w.heap.size w).alloc (Nat.le_refl _) (.cells #[Value.float FloatKind.f64 0, Value.float FloatKind.f64 0, Value.float FloatKind.f64 0, Value.float FloatKind.f64 0, Value.float FloatKind.f64 0, Value.float FloatKind.f64 0, Value.float FloatKind.f64 0, Value.float FloatKind.f64 0, Value.float FloatKind.f64 0, Value.float FloatKind.f64 0, Value.float FloatKind.f64 0, Value.float FloatKind.f64 0] 35))
  refine ⟨h'.bel, fun b q => ?_, fun b q => ?_, fun b q => ?_, fun b q => ?_, fun b q => ?_, h.n10, h.n12, fun b c q q' => by obtain rfl := Option.some.inj q'; have := (h.r1 b q).2.1; omega, h.n50, h.n51, h.n52, fun b c q q' => by obtain rfl := Option.some.inj q'; have := (h.r5 b q).2.1; omega⟩
  · exact h'.r0 b q
  · exact h'.r1 b q
  · exact h'.r2 b q
  · obtain rfl := Option.some.inj q; refine ⟨h.bel.size, by simp, fun i hi => ?_⟩
    obtain rfl | rfl | rfl | rfl | rfl | rfl | rfl | rfl | rfl | rfl | rfl | rfl : i = 0 ∨ i = 1 ∨ i = 2 ∨ i = 3 ∨ i = 4 ∨ i = 5 ∨ i = 6 ∨ i = 7 ∨ i = 8 ∨ i = 9 ∨ i = 10 ∨ i = 11 := by omega
    all_goals simp [go_sem]
  · obtain ⟨a1, a2, a3, a4, a5⟩ := h'.r5 b q; exact ⟨a1, a2, a3, a4, nofun⟩
theorem PonF.s5 {W0 w : World} {x0 x1 x2 x3 : Option Nat} (h : PonF W0 x0 x1 x2 x3 none false w) : PonF W0 x0 x1 x2 x3 (some w.heap.size) false (w.alloc (.cells #[Value.slice none 0 0, Value.slice none 0 0, Value.slice none 0 0, Value.slice none 0 0, Value.int IntKind.i64 0, Value.int IntKind.i64 0] 48)) := by
  have h' := h.call ((Below.refl w.heap.size w).alloc (Nat.le_refl _) (.cells #[Value.slice none 0 0, Value.slice none 0 0, Value.slice none 0 0, Value.slice none 0 0, Value.int IntKind.i64 0, Value.int IntKind.i64 0] 48))
  refine ⟨h'.bel, h'.r0, h'.r1, h'.r2, h'.r3, fun b q => ?_, h.n10, h.n12, h.n13, fun b c q q' => by obtain rfl := Option.some.inj q; have := (h.r0 c q').2.1; omega, fun b c q q' => by obtain rfl := Option.some.inj q; have := (h.r1 c q').2.1; omega, fun b c q q' => by obtain rfl := Option.some.inj q; have := (h.r2 c q').2.1; omega, fun b c q q' => by obtain rfl := Option.some.inj q; have := (h.r3 c q').2.1; omega⟩
  obtain rfl := Option.some.inj q
  refine ⟨h.bel.size, by simp, fun _ i hi => ?_, fun o => by simp [go_sem], nofun⟩
  obtain rfl | rfl | rfl | rfl | rfl | rfl : i = 0 ∨ i = 1 ∨ i = 2 ∨ i = 3 ∨ i = 4 ∨ i = 5 := by omega
  all_goals exact heldV_of (by simp [go_sem]; rfl)
theorem PonF.s6 {W0 w : World} {b0 b1 b2 b3 b5 : Nat} (h : PonF W0 (some b0) (some b1) (some b2) (some b3) (some b5) false w) :
    PonF W0 (some b0) (some b1) (some b2) (some b3) (some b5) true ((((((w.setCell ⟨b5, 0, none⟩ (slV 6 (some b0))).setCell ⟨b5, 1, none⟩ (slV 6 (some b1))).setCell ⟨b5, 2, none⟩ (slV 6 (some b2))).setCell ⟨b5, 3, none⟩ (slV 12 (some b3))).setCell ⟨b5, 4, none⟩ (.int .i64 0)).setCell ⟨b5, 5, none⟩ (.int .i64 0)) := by
  have m0 := h.n50 b5 b0 rfl rfl
  have m1 := h.n51 b5 b1 rfl rfl
  have m2 := h.n52 b5 b2 rfl rfl
  have m3 := h.n53 b5 b3 rfl rfl
  obtain ⟨g1, g2, g3, g4, -⟩ := h.r5 b5 rfl
  have far : ∀ b, b5 ≠ b → ∀ o, ((((((w.setCell ⟨b5, 0, none⟩ (slV 6 (some b0))).setCell ⟨b5, 1, none⟩ (slV 6 (some b1))).setCell ⟨b5, 2, none⟩ (slV 6 (some b2))).setCell ⟨b5, 3, none⟩ (slV 12 (some b3))).setCell ⟨b5, 4, none⟩ (.int .i64 0)).setCell ⟨b5, 5, none⟩ (.int .i64 0)).cell? ⟨b, o, none⟩ = w.cell? ⟨b, o, none⟩ := fun b hb o => by
    rw [World.cell?_setCell_other _ _ _ _ (by intro e; injection e; omega), World.cell?_setCell_other _ _ _ _ (by intro e; injection e; omega), World.cell?_setCell_other _ _ _ _ (by intro e; injection e; omega), World.cell?_setCell_other _ _ _ _ (by intro e; injection e; omega), World.cell?_setCell_other _ _ _ _ (by intro e; injection e; omega), World.cell?_setCell_other _ _ _ _ (by intro e; injection e; omega)]
  refine ⟨(((((h.bel.setCell g1 _).setCell g1 _).setCell g1 _).setCell g1 _).setCell g1 _).setCell g1 _, fun b q => ?_, fun b q => ?_, fun b q => ?_, fun b q => ?_, fun b q => ?_, h.n10, h.n12, h.n13, h.n50, h.n51, h.n52, h.n53⟩
  · obtain rfl := Option.some.inj q; obtain ⟨a1, a2, a3⟩ := h.r0 _ rfl; exact ⟨a1, by simpa using a2, fun i hi => (far _ m0 i).trans (a3 i hi)⟩
  · obtain rfl := Option.some.inj q; obtain ⟨a1, a2, a3, a4⟩ := h.r1 _ rfl; exact ⟨a1, by simpa using a2, fun i hi => (far _ m1 i).trans (a3 i hi), fun o => by simp [a4 o]⟩
  · obtain rfl := Option.some.inj q; obtain ⟨a1, a2, a3⟩ := h.r2 _ rfl; exact ⟨a1, by simpa using a2, fun i hi => (far _ m2 i).trans (a3 i hi)⟩
  · obtain rfl := Option.some.inj q; obtain ⟨a1, a2, a3⟩ := h.r3 _ rfl; exact ⟨a1, by simpa using a2, fun i hi => (far _ m3 i).trans (a3 i hi)⟩
  · obtain rfl := Option.some.inj q
    have c0 := g3 rfl 0 (by omega)
    have c1 := g3 rfl 1 (by omega)
    have c2 := g3 rfl 2 (by omega)
    have c3 := g3 rfl 3 (by omega)
    have c4 := g3 rfl 4 (by omega)
    have c5 := g3 rfl 5 (by omega)
    refine ⟨g1, by simpa using g2, nofun, fun o => by simp [g4 o], fun _ j u hu => ?_⟩
    rcases j with _ | _ | _ | _ | _ | _ | j
    all_goals first | (obtain rfl := Option.some.inj hu; simp [go_sem, c0, c1, c2, c3, c4, c5]) | (simp at hu)
end Go.Proofs.YtkjjecghbhppgaaGreatDoor
/- The pond's rows are made, in any order. -/
namespace Go.Proofs.YtkjjecghbhppgaaGreatDoor
open Go Go.RowKit Go.Maps TF

attribute [local go_sem] cmp_eq cmp_ne cmp_lt cmp_gt cmp_le cmp_ge run_store_float
set_option maxRecDepth 100000
set_option maxHeartbeats 8000000
def PonI (W0 : World) (q0 q1 q2 : Nat) (l : Array Bool) (a : Act) (w : World) : Prop := ∃ (x0 x1 x2 x3 x5 : Option Nat) (d e : Bool), l = #[x0.isSome, x1.isSome, x2.isSome, x3.isSome, d, x5.isSome, e] ∧
  a = ⟨#[Value.pointer (some ⟨q0, 0, none⟩), Value.pointer (some ⟨q1, 0, none⟩), Value.pointer (some ⟨q2, 0, none⟩), ptV x5, undef, Value.agg #[Value.int IntKind.i64 1, Value.float FloatKind.f64 4602678819172646912, Value.float FloatKind.f64 4607182418800017408, Value.float FloatKind.f64 0, Value.int IntKind.i64 0, Value.bool false, Value.slice none 0 0], slV 6 x0, slV 6 x1, slV 6 x2, slV 12 x3, (if d then Value.agg #[slV 6 x0, slV 6 x1, slV 6 x2, slV 12 x3, Value.int IntKind.i64 0, Value.int IntKind.i64 0] else undef), undef, undef, undef, undef, undef, undef, undef, undef, undef, undef, undef, undef, undef, undef, undef, undef, undef, undef, undef, undef, undef, undef, undef, undef, undef, undef], []⟩ ∧ PonF W0 x0 x1 x2 x3 x5 e w ∧ (d = true → (x0.isSome && x1.isSome && x2.isSome && x3.isSome) = true) ∧ (e = true → (d && x5.isSome) = true)
/-- the region that makes the pond's rows, as the program has it -/
noncomputable def pondOps : Array Oper := match Tryz.f18.body with | some (.seq _ (.seq _ (.seq (.region _ ops _) _))) => ops | _ => #[]
theorem none_of {x : Option Nat} (h : x.isSome = false) : x = none := by cases x; rfl; cases h
theorem some_of {x : Option Nat} (h : x.isSome = true) : ∃ b, x = some b := by cases x; cases h; exact ⟨_, rfl⟩
theorem pond_steps (W0 : World) (q0 q1 q2 : Nat) {Q : Exit → Act → World → Prop} (l : Array Bool) (a : Act) (w : World) (hI : PonI W0 q0 q1 q2 l a w) (i : Nat) (hi : i ∈ Region.ready .any pondOps l) :
    wpOp Tryz.prog pondOps Q i (PonI W0 q0 q1 q2 (l.setIfInBounds i true)) a w := by
  dsimp only [pondOps, Tryz.f18] at hi ⊢
  have m1 := make_f6
  have m2 := make_i6
  have m3 := make_f12
  obtain ⟨x0, x1, x2, x3, x5, d, e, rfl, rfl, hF, hd, he⟩ := hI
  obtain ⟨h1, o, ho, h2⟩ := mem_ready.1 hi
  clear hi
  rcases i with _ | _ | _ | _ | _ | _ | _ | i
  · have hx : x0 = none := none_of (by simpa using h1)
    subst hx
    have hd0 : d = false := by cases d; rfl; exact absurd (hd rfl) (by simp)
    have he0 : e = false := by cases e; rfl; exact absurd (he rfl) (by simp [hd0])
    subst hd0
    subst he0
    refine wpOp_run rfl rfl ?_
    generalize hK : PonI W0 q0 q1 q2 _ = K
    clear hd he h1 h2 ho o
    go_simp
    rw [← hK]
    exact ⟨some w.heap.size, x1, x2, x3, x5, false, false, rfl, rfl, hF.s0, nofun, nofun⟩
  · have hx : x1 = none := none_of (by simpa using h1)
    subst hx
    have hd0 : d = false := by cases d; rfl; exact absurd (hd rfl) (by simp)
    have he0 : e = false := by cases e; rfl; exact absurd (he rfl) (by simp [hd0])
    subst hd0
    subst he0
    refine wpOp_run rfl rfl ?_
    generalize hK : PonI W0 q0 q1 q2 _ = K
    clear hd he h1 h2 ho o
    go_simp
    rw [← hK]
    exact ⟨x0, some w.heap.size, x2, x3, x5, false, false, rfl, rfl, hF.s1, nofun, nofun⟩
  · have hx : x2 = none := none_of (by simpa using h1)
    subst hx
    have hd0 : d = false := by cases d; rfl; exact absurd (hd rfl) (by simp)
    have he0 : e = false := by cases e; rfl; exact absurd (he rfl) (by simp [hd0])
    subst hd0
    subst he0
    refine wpOp_run rfl rfl ?_
    generalize hK : PonI W0 q0 q1 q2 _ = K
    clear hd he h1 h2 ho o
    go_simp
    rw [← hK]
    exact ⟨x0, x1, some w.heap.size, x3, x5, false, false, rfl, rfl, hF.s2, nofun, nofun⟩
  · have hx : x3 = none := none_of (by simpa using h1)
    subst hx
    have hd0 : d = false := by cases d; rfl; exact absurd (hd rfl) (by simp)
    have he0 : e = false := by cases e; rfl; exact absurd (he rfl) (by simp [hd0])
    subst hd0
    subst he0
    refine wpOp_run rfl rfl ?_
    generalize hK : PonI W0 q0 q1 q2 _ = K
    clear hd he h1 h2 ho o
    go_simp
    rw [← hK]
    exact ⟨x0, x1, x2, some w.heap.size, x5, false, false, rfl, rfl, hF.s3, nofun, nofun⟩
  · obtain rfl := Option.some.inj ho
    obtain ⟨b0, rfl⟩ := some_of (by simpa using h2 ⟨0, .data⟩ (by simp) rfl)
    obtain ⟨b1, rfl⟩ := some_of (by simpa using h2 ⟨1, .data⟩ (by simp) rfl)
    obtain ⟨b2, rfl⟩ := some_of (by simpa using h2 ⟨2, .data⟩ (by simp) rfl)
    obtain ⟨b3, rfl⟩ := some_of (by simpa using h2 ⟨3, .data⟩ (by simp) rfl)
    have hd0 : d = false := by simpa using h1
    have he0 : e = false := by cases e; rfl; exact absurd (he rfl) (by simp [hd0])
    subst hd0
    subst he0
    refine wpOp_run rfl rfl ?_
    generalize hK : PonI W0 q0 q1 q2 _ = K
    clear hd he h1 h2
    go_simp
    rw [← hK]
    exact ⟨some b0, some b1, some b2, some b3, x5, true, false, rfl, rfl, hF, fun _ => rfl, nofun⟩
  · have hx : x5 = none := none_of (by simpa using h1)
    subst hx
    have he0 : e = false := by cases e; rfl; exact absurd (he rfl) (by simp)
    subst he0
    refine wpOp_run rfl rfl ?_
    generalize hK : PonI W0 q0 q1 q2 _ = K
    clear he h1 h2 ho o
    go_simp
    rw [← hK]
    exact ⟨x0, x1, x2, x3, some w.heap.size, d, false, rfl, rfl, hF.s5, hd, nofun⟩
  · obtain rfl := Option.some.inj ho
    have hd0 : d = true := by simpa using h2 ⟨4, .data⟩ (by simp) rfl
    obtain ⟨b5, rfl⟩ := some_of (by simpa using h2 ⟨5, .data⟩ (by simp) rfl)
    have he0 : e = false := by simpa using h1
    subst he0
    have hq := hd hd0
    subst hd0
    simp only [Bool.and_eq_true] at hq
    obtain ⟨⟨⟨y0, y1⟩, y2⟩, y3⟩ := hq
    obtain ⟨b0, rfl⟩ := some_of y0
    obtain ⟨b1, rfl⟩ := some_of y1
    obtain ⟨b2, rfl⟩ := some_of y2
    obtain ⟨b3, rfl⟩ := some_of y3
    obtain ⟨-, -, g3, g4, -⟩ := hF.r5 b5 rfl
    have c0 := g3 rfl 0 (by omega)
    have c1 := g3 rfl 1 (by omega)
    have c2 := g3 rfl 2 (by omega)
    have c3 := g3 rfl 3 (by omega)
    have c4 := g3 rfl 4 (by omega)
    have c5 := g3 rfl 5 (by omega)
    refine wpOp_run rfl rfl ?_
    generalize hK : PonI W0 q0 q1 q2 _ = K
    have hs := hF.s6
    have HS := Lib.hid hs
    clear hd he h1 h2 g3 hF hs
    unfold slV ptV
    go_simp
    rw [← hK]
    exact ⟨some b0, some b1, some b2, some b3, some b5, true, true, rfl, rfl, HS.out, fun _ => rfl, fun _ => rfl⟩
  · simp at h1
end Go.Proofs.YtkjjecghbhppgaaGreatDoor
/- The pond's rows are made: the end. -/
namespace Go.Proofs.YtkjjecghbhppgaaGreatDoor
open Go Go.RowKit Go.Maps TF

set_option maxRecDepth 100000
set_option maxHeartbeats 8000000
theorem pond_end (W0 : World) (q0 q1 q2 : Nat) (l : Array Bool) (a : Act) (w : World) (hI : PonI W0 q0 q1 q2 l a w) (hr : Region.ready .any pondOps l = []) :
    ∃ b0 b1 b2 b3 b5, a = ⟨#[Value.pointer (some ⟨q0, 0, none⟩), Value.pointer (some ⟨q1, 0, none⟩), Value.pointer (some ⟨q2, 0, none⟩), Value.pointer (some ⟨b5, 0, none⟩), undef, Value.agg #[Value.int IntKind.i64 1, Value.float FloatKind.f64 4602678819172646912, Value.float FloatKind.f64 4607182418800017408, Value.float FloatKind.f64 0, Value.int IntKind.i64 0, Value.bool false, Value.slice none 0 0], Value.slice (some ⟨b0, 0, none⟩) 6 6, Value.slice (some ⟨b1, 0, none⟩) 6 6, Value.slice (some ⟨b2, 0, none⟩) 6 6, Value.slice (some ⟨b3, 0, none⟩) 12 12, Value.agg #[Value.slice (some ⟨b0, 0, none⟩) 6 6, Value.slice (some ⟨b1, 0, none⟩) 6 6, Value.slice (some ⟨b2, 0, none⟩) 6 6, Value.slice (some ⟨b3, 0, none⟩) 12 12, Value.int IntKind.i64 0, Value.int IntKind.i64 0], undef, undef, undef, undef, undef, undef, undef, undef, undef, undef, undef, undef, undef, undef, undef, undef, undef, undef, undef, undef, undef, undef, undef, undef, undef, undef], []⟩ ∧ PonF W0 (some b0) (some b1) (some b2) (some b3) (some b5) true w := by
  have no : ∀ i, ¬ i ∈ Region.ready .any pondOps l := fun i h => by rw [hr] at h; cases h
  dsimp only [pondOps, Tryz.f18] at no
  clear hr
  obtain ⟨x0, x1, x2, x3, x5, d, e, rfl, rfl, hF, -, -⟩ := hI
  rcases x0 with _ | b0
  · exact absurd (mem_ready.2 ⟨rfl, _, rfl, by simp⟩) (no 0)
  rcases x1 with _ | b1
  · exact absurd (mem_ready.2 ⟨rfl, _, rfl, by simp⟩) (no 1)
  rcases x2 with _ | b2
  · exact absurd (mem_ready.2 ⟨rfl, _, rfl, by simp⟩) (no 2)
  rcases x3 with _ | b3
  · exact absurd (mem_ready.2 ⟨rfl, _, rfl, by simp⟩) (no 3)
  rcases x5 with _ | b5
  · exact absurd (mem_ready.2 ⟨rfl, _, rfl, by simp⟩) (no 5)
  rcases d with _ | _
  · exact absurd (mem_ready.2 ⟨rfl, _, rfl, by simp⟩) (no 4)
  rcases e with _ | _
  · exact absurd (mem_ready.2 ⟨rfl, _, rfl, by simp⟩) (no 6)
  exact ⟨b0, b1, b2, b3, b5, rfl, hF⟩
end Go.Proofs.YtkjjecghbhppgaaGreatDoor
