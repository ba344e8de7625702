/- AccScripts. -/
import Derived.Test.YtneedadoafcfcaaAccScA
import Derived.Test.YtneedadoafcfcaaOpenF
import Derived.Deep.DeepCutAuto
import Derived.Deep.CutBlock
import Derived.Deep.RegionHeld3
import Derived.StillTailTactics
namespace Go.Proofs.Ytneedadoafcfcaa
open Go Go.RowKit Go.ChangeShapes Go.WideShapes Go.Deep TF

theorem run_store_floatR (P : Program) (w : World) (a : Addr) (m : Mode) (k : FloatKind) (n : Nat) : (store a (.float k n) m).run P w = stored P w a (.float k n) m := run_store P w a _ m rfl
attribute [local go_sem] run_store_floatR cmp_eq cmp_ne cmp_lt cmp_gt cmp_le cmp_ge

structure AOp where
  kind : Int
  w : Int
  v : Int
  x : Nat
  y : Nat
instance : Inhabited AOp := ⟨⟨0, 0, 0, 0, 0⟩⟩
/-- a script: numbers, and two floats. -/
def AccOps (w : World) (A : Option Addr) (len : Nat) (os : Nat → AOp) : Prop := ∀ i, i < len → ∃ b off, A = some ⟨b, off, none⟩ ∧ b < w.heap.size ∧ w.cell? ⟨b, off + i * 5, none⟩ = some (.int .i64 (os i).kind) ∧ w.cell? ⟨b, off + i * 5 + 1, none⟩ = some (.int .i64 (os i).w) ∧ w.cell? ⟨b, off + i * 5 + 2, none⟩ = some (.int .i64 (os i).v) ∧ w.cell? ⟨b, off + i * 5 + 3, none⟩ = some (.float .f64 (os i).x) ∧ w.cell? ⟨b, off + i * 5 + 4, none⟩ = some (.float .f64 (os i).y) ∧ W64 (os i).x ∧ W64 (os i).y
section
variable {H : Type} {enc : TypeId × Value → H} {P : Program} {w : World} {base : Nat} {spare : Nat → Bool} {held : Bool}
theorem open_accops {t e : TypeId} {f0 f1 f2 f3 f4 : Field} {v : Value} {d : DataW H} {ps : List MemPlace} (ht : P.underlying t = some (.slice e)) (he : P.underlying e = some (.struct #[f0, f1, f2, f3, f4])) (hone : oneCellFields P #[f0, f1, f2, f3, f4] = true) (hC : P.cellsOf e = 5)
    (h0 : P.underlying f0.type = some (.int .i64)) (h1 : P.underlying f1.type = some (.int .i64)) (h2 : P.underlying f2.type = some (.int .i64)) (h3 : P.underlying f3.type = some (.float .f64)) (h4 : P.underlying f4.type = some (.float .f64)) (hv : v.cells.toList = [v]) (h : DataW.Trod enc P w base spare held t v d ps) :
    ∃ A len cap os, v = .slice A len cap ∧ len ≤ cap ∧ cap ≤ maxLen ∧ AccOps w A len os := by
  obtain ⟨fuel, hf⟩ := h
  rw [hv] at hf
  obtain ⟨A, len, cap, rfl, hl, hm, hi⟩ := fields_of_slice ht he hone hC (by simp) hf
  obtain ⟨xs, hxs⟩ := choose_lt (α := AOp) (p := fun i q => ∃ b off, A = some ⟨b, off, none⟩ ∧ b < w.heap.size ∧ w.cell? ⟨b, off + i * 5, none⟩ = some (.int .i64 q.kind) ∧ w.cell? ⟨b, off + i * 5 + 1, none⟩ = some (.int .i64 q.w) ∧ w.cell? ⟨b, off + i * 5 + 2, none⟩ = some (.int .i64 q.v) ∧ w.cell? ⟨b, off + i * 5 + 3, none⟩ = some (.float .f64 q.x) ∧ w.cell? ⟨b, off + i * 5 + 4, none⟩ = some (.float .f64 q.y) ∧ W64 q.x ∧ W64 q.y) (n := len) (fun i hil => by
    obtain ⟨b, off, hA, hfs⟩ := hi i hil
    obtain ⟨u0, n0, y0, hc0, hy0⟩ := hfs 0 f0 rfl
    obtain ⟨u1, n1, y1, hc1, hy1⟩ := hfs 1 f1 rfl
    obtain ⟨u2, n2, y2, hc2, hy2⟩ := hfs 2 f2 rfl
    obtain ⟨u3, n3, y3, hc3, hy3⟩ := hfs 3 f3 rfl
    obtain ⟨u4, n4, y4, hc4, hy4⟩ := hfs 4 f4 rfl
    obtain ⟨x0, rfl, -⟩ := int_cell h0 hy0
    obtain ⟨x1, rfl, -⟩ := int_cell h1 hy1
    obtain ⟨x2, rfl, -⟩ := int_cell h2 hy2
    obtain ⟨x3, rfl, hw3⟩ := float_cell h3 hy3
    obtain ⟨x4, rfl, hw4⟩ := float_cell h4 hy4
    exact ⟨⟨x0, x1, x2, x3, x4⟩, b, off, hA, lt_of_cell hc0, hc0, hc1, hc2, hc3, hc4, W64.of_wf hw3, W64.of_wf hw4⟩)
  exact ⟨A, len, cap, xs, rfl, hl, hm, hxs⟩
end
theorem open_rows {H : Type} {enc : TypeId × Value → H} {w : World} {r : Reach} {b0 base : Nat} {spare : Nat → Bool} {held : Bool} {v : Value} {d : DataW H} {p : List MemPlace}
    (hv : Value.okWide Try.prog w r b0 42 v) (h : DataW.Trod enc Try.prog w base spare held 42 v d p) :
    ∃ A l c xs, v = .slice A l c ∧ l ≤ 9223372036854775807 ∧ AccOps w A l xs := by
  obtain ⟨A, l, c, rfl⟩ := Go.WideShapes.okWide_slice Try.underlying42 hv
  obtain ⟨A', l', c', os, e, hl, hm, hp⟩ := open_accops Try.underlying42 Try.underlying48 (by kernel_rfl) (by kernel_rfl) Try.underlying3 Try.underlying3 Try.underlying3 Try.underlying22 Try.underlying22 rfl h
  obtain ⟨rfl, rfl, rfl⟩ : A = A' ∧ l = l' ∧ c = c' := by simpa using e
  exact ⟨A, l, c, os, rfl, by unfold maxLen at hm; omega, hp⟩
theorem same_selfC (a : Nat) (w : World) : Calls Try.prog 16 #[.float .f64 a, .float .f64 a] w fun e w' => e = .returned (.bool true) ∧ w = w' := by
  have h := rsame_any a a w
  rwa [sameB_self] at h
theorem mod3 (z : Int) : ∃ q : Nat, q < 3 ∧ wrap64 ((IntKind.u64.wrap z).tmod 3) = (q : Int) := by
  have e : IntKind.u64.wrap z = z % 18446744073709551616 := rfl
  rw [e, Int.tmod_eq_emod_of_nonneg (by omega)]
  refine ⟨(z % 18446744073709551616 % 3).toNat, by omega, ?_⟩
  unfold wrap64; omega
theorem al_size {W W' : World} {o : Obj} (h : W' = W.alloc o) : W'.heap.size = W.heap.size + 1 := by rw [h]; exact World.size_alloc _ _
theorem al_old {W W' : World} {o : Obj} (h : W' = W.alloc o) {b : Nat} (hb : b < W.heap.size) : W'.heap[b]? = W.heap[b]? := by rw [h]; exact heap_alloc_old _ _ hb
theorem scr_start {w w1 W2 W3 W4 W5 W6 W7 : World} (hb : Below w.heap.size w w1) (h2 : W2 = w1.alloc (.cells ZAcc 55)) (h3 : W3 = W2.alloc (.cells ZAcc 55)) {A0 A1 SA B0 B1 SB : Nat} (e0 : A0 = w1.heap.size) (e1 : A1 = w1.heap.size + 1) (e2 : SA = w1.heap.size + 1 + 1)
    (h4 : W4 = W3.alloc (.cells #[.pointer (some ⟨A0, 0, none⟩), .pointer (some ⟨A1, 0, none⟩), .pointer none] 28)) (h5 : W5 = W4.alloc (.cells ZRef 70)) (h6 : W6 = W5.alloc (.cells ZRef 70)) (e3 : B0 = w1.heap.size + 1 + 1 + 1) (e4 : B1 = w1.heap.size + 1 + 1 + 1 + 1) (e5 : SB = w1.heap.size + 1 + 1 + 1 + 1 + 1)
    (h7 : W7 = W6.alloc (.cells #[.pointer (some ⟨B0, 0, none⟩), .pointer (some ⟨B1, 0, none⟩), .pointer none] 44)) :
    ScS w W7 ⟨A0, A1, B0, B1, SA, SB⟩ (fun _ => newG) (fun _ => newG) := by
  have z2 := al_size h2
  have z3 := al_size h3
  have z4 := al_size h4
  have z5 := al_size h5
  have z6 := al_size h6
  have z7 := al_size h7
  have o7 : ∀ c, c < W6.heap.size → W7.heap[c]? = W6.heap[c]? := fun c hc => al_old h7 hc
  have o6 : ∀ c, c < W5.heap.size → W7.heap[c]? = W5.heap[c]? := fun c hc => (o7 c (by omega)).trans (al_old h6 hc)
  have o5 : ∀ c, c < W4.heap.size → W7.heap[c]? = W4.heap[c]? := fun c hc => (o6 c (by omega)).trans (al_old h5 hc)
  have o4 : ∀ c, c < W3.heap.size → W7.heap[c]? = W3.heap[c]? := fun c hc => (o5 c (by omega)).trans (al_old h4 hc)
  have o3 : ∀ c, c < W2.heap.size → W7.heap[c]? = W2.heap[c]? := fun c hc => (o4 c (by omega)).trans (al_old h3 hc)
  refine ⟨fun i hi => ?_, fun i hi => ?_, fun _ _ => new_ok, fun _ _ => new_ok, fun i hi => ?_, fun i hi => ?_, ?_, by dsimp only; omega⟩
  · match i, hi with
    | 0, _ =>
      have h := new_is w1
      rw [← h2, ← e0] at h
      exact h.cong (o3 _ (by omega))
    | 1, _ =>
      have h := new_is W2
      rw [← h3, z2, ← e1] at h
      exact h.cong (o4 _ (by omega))
  · match i, hi with
    | 0, _ =>
      have h := rnew_is W4
      rw [← h5, show W4.heap.size = B0 by omega] at h
      exact h.cong (o6 _ (by omega))
    | 1, _ =>
      have h := rnew_is W5
      rw [← h6, show W5.heap.size = B1 by omega] at h
      exact h.cong (o7 _ (by omega))
  · dsimp only
    rw [World.cell?_of_block (w := W4) (a := ⟨SA, i, none⟩) (o5 SA (by omega)), h4, show SA = W3.heap.size by omega, World.cell?_alloc_new]
    match i, hi with
    | 0, _ => rfl
    | 1, _ => rfl
    | 2, _ => rfl
  · dsimp only
    rw [h7, show SB = W6.heap.size by omega, World.cell?_alloc_new]
    match i, hi with
    | 0, _ => rfl
    | 1, _ => rfl
    | 2, _ => rfl
  · have s := hb.size
    have b2 := hb.alloc s (.cells ZAcc 55)
    rw [← h2] at b2
    have b3 := b2.alloc b2.size (.cells ZAcc 55)
    rw [← h3] at b3
    have b4 := b3.alloc b3.size (.cells #[.pointer (some ⟨A0, 0, none⟩), .pointer (some ⟨A1, 0, none⟩), .pointer none] 28)
    rw [← h4] at b4
    have b5 := b4.alloc b4.size (.cells ZRef 70)
    rw [← h5] at b5
    have b6 := b5.alloc b5.size (.cells ZRef 70)
    rw [← h6] at b6
    have b7 := b6.alloc b6.size (.cells #[.pointer (some ⟨B0, 0, none⟩), .pointer (some ⟨B1, 0, none⟩), .pointer none] 44)
    rw [← h7] at b7
    exact b7
set_option maxHeartbeats 8000000 in
set_option maxRecDepth 100000 in
theorem accScripts_any (A : Option Addr) (len cap : Nat) (os : Nat → AOp) (w : World) (hl : len ≤ 9223372036854775807) (hp : AccOps w A len os) :
    Calls Try.prog 6 #[.slice A len cap] w fun e w' => e = .returned (.bool true) ∧ Below w.heap.size w w' := by
  have KN := Lib.hid new_any
  have KR := Lib.hid rnew_any
  have KAw := Lib.hid (awake_any w)
  have HP := Lib.hid hp
  clear hp
  by_cases hbig : 65536 < len
  · have hb2 : (65536 : Int) < len := by omega
    go_enter Try.func6, Try.ntmps6
    go_wp2_with fail
    refine (KAw.out).mono ?_
    rintro e w1 ⟨rfl, hb1⟩
    have HB1 := Lib.hid hb1
    clear hb1
    go_wp2_with fail
    go_ret
    exact ⟨rfl, HB1.out⟩
  have hb2 : ¬ (65536 : Int) < len := by omega
  go_enter Try.func6, Try.ntmps6
  go_wp2_with fail
  refine (KAw.out).mono ?_
  rintro e w1 ⟨rfl, hb1⟩
  have HB1 := Lib.hid hb1
  clear hb1
  go_wp2_with (first | (go_at_call 11; ((with_reducible refine (KN.out _).mono ?_)); rintro e w' ⟨rfl, rfl⟩) | (go_at_call 19; ((with_reducible refine (KR.out _).mono ?_)); rintro e w' ⟨rfl, rfl⟩))
  obtain ⟨A0, e0⟩ : ∃ z, z = w1.heap.size := ⟨_, rfl⟩
  obtain ⟨A1, e1⟩ : ∃ z, z = w1.heap.size + 1 := ⟨_, rfl⟩
  obtain ⟨SA, e2⟩ : ∃ z, z = w1.heap.size + 1 + 1 := ⟨_, rfl⟩
  obtain ⟨B0, e3⟩ : ∃ z, z = w1.heap.size + 1 + 1 + 1 := ⟨_, rfl⟩
  obtain ⟨B1, e4⟩ : ∃ z, z = w1.heap.size + 1 + 1 + 1 + 1 := ⟨_, rfl⟩
  obtain ⟨SB, e5⟩ : ∃ z, z = w1.heap.size + 1 + 1 + 1 + 1 + 1 := ⟨_, rfl⟩
  rw [← e5, ← e4, ← e3, ← e2, ← e1, ← e0]
  obtain ⟨W2, h2⟩ : ∃ W, W = w1.alloc (.cells ZAcc 55) := ⟨_, rfl⟩
  rw [← h2]
  obtain ⟨W3, h3⟩ : ∃ W, W = W2.alloc (.cells ZAcc 55) := ⟨_, rfl⟩
  rw [← h3]
  obtain ⟨W4, h4⟩ : ∃ W, W = W3.alloc (.cells #[.pointer (some ⟨A0, 0, none⟩), .pointer (some ⟨A1, 0, none⟩), .pointer none] 28) := ⟨_, rfl⟩
  rw [← h4]
  obtain ⟨W5, h5⟩ : ∃ W, W = W4.alloc (.cells ZRef 70) := ⟨_, rfl⟩
  rw [← h5]
  obtain ⟨W6, h6⟩ : ∃ W, W = W5.alloc (.cells ZRef 70) := ⟨_, rfl⟩
  rw [← h6]
  obtain ⟨W7, h7⟩ : ∃ W, W = W6.alloc (.cells #[.pointer (some ⟨B0, 0, none⟩), .pointer (some ⟨B1, 0, none⟩), .pointer none] 44) := ⟨_, rfl⟩
  rw [← h7]
  have ST := Lib.hid (scr_start HB1.out h2 h3 e0 e1 e2 h4 h5 h6 e3 e4 e5 h7)
  have O : Hid (ScrOk w ⟨A0, A1, B0, B1, SA, SB⟩) := Lib.hid (by
    have := HB1.out.size
    constructor <;> dsimp only <;> omega)
  clear h2 h3 h4 h5 h6 h7 e0 e1 e2 e3 e4 e5 HB1 KN KR KAw
  go_loopw [6] (fun i wr => ∃ k : Nat, k ≤ len ∧ i = .int .i64 k ∧ ∃ G, ScS w wr ⟨A0, A1, B0, B1, SA, SB⟩ G G) (fun i _ => len - (intOf i).toNat)
  case atStart => exact ⟨0, by omega, rfl, _, ST.out⟩
  case round =>
    obtain ⟨k, hk, rfl, G, hst⟩ := hrel
    by_cases hlt : k < len
    · have hl2 : (k : Int) < len := by omega
      obtain ⟨b, off, rfl, hbl, hc0, hc1, hc2, hc3, hc4, hx, hy⟩ := HP.out k hlt
      have hw := hst.below
      have d0 := hw.cell (p := ⟨b, off + k * 5, none⟩) hbl
      have d1 := hw.cell (p := ⟨b, off + k * 5 + 1, none⟩) hbl
      have d2 := hw.cell (p := ⟨b, off + k * 5 + 2, none⟩) hbl
      have d3 := hw.cell (p := ⟨b, off + k * 5 + 3, none⟩) hbl
      have d4 := hw.cell (p := ⟨b, off + k * 5 + 4, none⟩) hbl
      rw [hc0] at d0
      rw [hc1] at d1
      rw [hc2] at d2
      rw [hc3] at d3
      rw [hc4] at d4
      clear hc0 hc1 hc2 hc3 hc4 hw
      have HS := Lib.hid hst
      have hsb := hst.lt
      clear hst
      generalize hO : os k = o at *
      obtain ⟨kind, wI, vI, x, y⟩ := o
      clear hO
      dsimp only at d0 d1 d2 d3 d4 hx hy
      obtain ⟨wi, wi3, hwi⟩ := mod3 wI
      obtain ⟨vi, vi3, hvi⟩ := mod3 vI
      go_upto_region 12 with fail
      rw [hwi, hvi]
      obtain ⟨OB, hOB⟩ : ∃ z, z = wr.heap.size := ⟨_, rfl⟩
      obtain ⟨W8, hW8⟩ : ∃ W, W = wr.alloc (.cells #[.int .i64 kind, .int .i64 wI, .int .i64 vI, .float .f64 x, .float .f64 y] 48) := ⟨_, rfl⟩
      rw [← hW8, ← hOB]
      have HS8 : Hid (ScS w W8 ⟨A0, A1, B0, B1, SA, SB⟩ G G) := Lib.hid (by rw [hW8]; exact HS.out.of O.out ((Below.refl _ _).alloc (Nat.le_refl _) _))
      have hOB2 : OB < W8.heap.size := by rw [hW8, hOB]; simp
      have hOB1 : SB < OB := by rw [hOB]; exact hsb
      have cl : ∀ i, W8.cell? ⟨OB, i, none⟩ = (#[.int .i64 kind, .int .i64 wI, .int .i64 vI, .float .f64 x, .float .f64 y] : Array Value)[i]? := fun i => by rw [hW8, hOB]; exact World.cell?_alloc_new _ _ _ _
      have f0 : W8.cell? ⟨OB, 0, none⟩ = some (.int .i64 kind) := cl 0
      have f3 : W8.cell? ⟨OB, 3, none⟩ = some (.float .f64 x) := cl 3
      have f4 : W8.cell? ⟨OB, 4, none⟩ = some (.float .f64 y) := cl 4
      have HC := Lib.hid (⟨f0, f3, f4, hOB2, hOB1⟩ : _ ∧ _ ∧ _ ∧ _ ∧ _)
      have ca : W8.cell? ⟨SA, wi, none⟩ = some (.pointer (ptr3 A0 A1 wi)) := HS8.out.sa wi wi3
      have cav : W8.cell? ⟨SA, vi, none⟩ = some (.pointer (ptr3 A0 A1 vi)) := HS8.out.sa vi vi3
      have cb : W8.cell? ⟨SB, wi, none⟩ = some (.pointer (ptr3 B0 B1 wi)) := HS8.out.sb wi wi3
      have cbv : W8.cell? ⟨SB, vi, none⟩ = some (.pointer (ptr3 B0 B1 vi)) := HS8.out.sb vi vi3
      have hsb8 : SB < W8.heap.size := HS8.out.lt
      have hsa8 : SA < W8.heap.size := by
        have h1 := O.out.l3
        have h2 := O.out.l4
        have h3 := O.out.l5
        dsimp only at h1 h2 h3
        omega
      have i1 : (0 : Int) ≤ (wi : Int) := Int.natCast_nonneg _
      have i2 : (wi : Int) < 3 := by omega
      have i3 : (wi : Int).toNat = wi := Int.toNat_natCast _
      have j1 : (0 : Int) ≤ (vi : Int) := Int.natCast_nonneg _
      have j2 : (vi : Int) < 3 := by omega
      have j3 : (vi : Int).toNat = vi := Int.toNat_natCast _
      clear hW8 hOB cl d0 d1 d2 d3 d4 hwi hvi hsb hOB1
      go_upto_block 2 with fail
      go_cut [10, 11] (fun e f wc => ∃ r G', e = .int .i64 r ∧ f = .int .i64 r ∧ ScS w wc ⟨A0, A1, B0, B1, SA, SB⟩ G' G')
      case first =>
        rcases (show kind = 1 ∨ kind = 2 ∨ kind = 3 ∨ ((kind == 1) = false ∧ (kind == 2) = false ∧ (kind == 3) = false) by
          by_cases h1 : kind = 1
          · exact .inl h1
          · by_cases h2 : kind = 2
            · exact .inr (.inl h2)
            · by_cases h3 : kind = 3
              · exact .inr (.inr (.inl h3))
              · exact .inr (.inr (.inr ⟨beq_eq_false_iff_ne.2 h1, beq_eq_false_iff_ne.2 h2, beq_eq_false_iff_ne.2 h3⟩))) with rfl | rfl | rfl | ⟨h1, h2, h3⟩
        · skip
          go_upto_region 16 with fail
          go_still_tail 6, (by kernel_rfl)
          change wpList _ _ _ _ _ W8.drew
          generalize hw9 : W8.drew = W9
          have HW9 : Hid (Below W8.heap.size W8 W9) := Lib.hid (by rw [← hw9]; exact (Below.refl _ _).drew)
          clear hw9
          go_wp2_with fail
          refine (scr_add O.out (HS8.out.of O.out HW9.out) wi x hx).mono ?_
          rintro e x1 k2
          have KE := Lib.hid k2
          have k3 := k2.1
          subst k3
          clear f0 f3 f4 ca cav cb cbv
          have cb : x1.cell? ⟨SB, wi, none⟩ = some (.pointer (ptr3 B0 B1 wi)) := k2.2.1.sb wi wi3
          have cbv : x1.cell? ⟨SB, vi, none⟩ = some (.pointer (ptr3 B0 B1 vi)) := k2.2.1.sb vi vi3
          have hOB2 := HC.out.2.2.2.1
          have hOB1 := HC.out.2.2.2.2
          have hOB3 : x1.heap[OB]? = W8.heap[OB]? := (k2.2.2.2 OB hOB1 (Nat.lt_of_lt_of_le hOB2 HW9.out.size)).trans (HW9.out.block OB hOB2)
          have g3 : x1.cell? ⟨OB, 3, none⟩ = some (.float .f64 x) := by rw [World.cell?_of_block (w := W8) (a := ⟨OB, 3, none⟩) hOB3]; exact HC.out.2.1
          have hs9 : OB < x1.heap.size := Nat.lt_of_lt_of_le (Nat.lt_of_lt_of_le hOB2 HW9.out.size) k2.2.2.1
          have hsb9 : SB < x1.heap.size := k2.2.1.lt
          clear k2 hOB1 hOB2 hOB3
          go_upto_region 17 with fail
          go_still_tail 6, (by kernel_rfl)
          change wpList _ _ _ _ _ x1.drew
          generalize hw9 : x1.drew = x2
          have HX2 : Hid (Below x1.heap.size x1 x2) := Lib.hid (by rw [← hw9]; exact (Below.refl _ _).drew)
          clear hw9
          go_wp2_with fail
          refine (scr_radd O.out (KE.out.2.1.of O.out HX2.out) wi x hx).mono ?_
          rintro e x3 ⟨rfl, k4, -⟩
          have KF := Lib.hid k4
          clear k4
          go_wp2_with fail
          go_meet
          exact ⟨_, _, rfl, rfl, KF.out⟩
        · skip
          go_upto_region 19 with fail
          go_still_tail 8, (by kernel_rfl)
          change wpList _ _ _ _ _ W8.drew
          generalize hw9 : W8.drew = W9
          have HW9 : Hid (Below W8.heap.size W8 W9) := Lib.hid (by rw [← hw9]; exact (Below.refl _ _).drew)
          clear hw9
          go_wp2_with fail
          refine (scr_mul O.out (HS8.out.of O.out HW9.out) wi x y hx hy).mono ?_
          rintro e x1 k2
          have KE := Lib.hid k2
          have k3 := k2.1
          subst k3
          clear f0 f3 f4 ca cav cb cbv
          have cb : x1.cell? ⟨SB, wi, none⟩ = some (.pointer (ptr3 B0 B1 wi)) := k2.2.1.sb wi wi3
          have cbv : x1.cell? ⟨SB, vi, none⟩ = some (.pointer (ptr3 B0 B1 vi)) := k2.2.1.sb vi vi3
          have hOB2 := HC.out.2.2.2.1
          have hOB1 := HC.out.2.2.2.2
          have hOB3 : x1.heap[OB]? = W8.heap[OB]? := (k2.2.2.2 OB hOB1 (Nat.lt_of_lt_of_le hOB2 HW9.out.size)).trans (HW9.out.block OB hOB2)
          have g3 : x1.cell? ⟨OB, 3, none⟩ = some (.float .f64 x) := by rw [World.cell?_of_block (w := W8) (a := ⟨OB, 3, none⟩) hOB3]; exact HC.out.2.1
          have g4 : x1.cell? ⟨OB, 4, none⟩ = some (.float .f64 y) := by rw [World.cell?_of_block (w := W8) (a := ⟨OB, 4, none⟩) hOB3]; exact HC.out.2.2.1
          have hs9 : OB < x1.heap.size := Nat.lt_of_lt_of_le (Nat.lt_of_lt_of_le hOB2 HW9.out.size) k2.2.2.1
          have hsb9 : SB < x1.heap.size := k2.2.1.lt
          clear k2 hOB1 hOB2 hOB3
          go_upto_region 20 with fail
          go_still_tail 8, (by kernel_rfl)
          change wpList _ _ _ _ _ x1.drew
          generalize hw9 : x1.drew = x2
          have HX2 : Hid (Below x1.heap.size x1 x2) := Lib.hid (by rw [← hw9]; exact (Below.refl _ _).drew)
          clear hw9
          go_wp2_with fail
          refine (scr_rmul O.out (KE.out.2.1.of O.out HX2.out) wi x y hx hy).mono ?_
          rintro e x3 ⟨rfl, k4, -⟩
          have KF := Lib.hid k4
          clear k4
          go_wp2_with fail
          go_meet
          exact ⟨_, _, rfl, rfl, KF.out⟩
        · skip
          go_upto_region 22 with fail
          go_still_tail 8, (by kernel_rfl)
          change wpList _ _ _ _ _ W8.drew
          generalize hw9 : W8.drew = W9
          have HW9 : Hid (Below W8.heap.size W8 W9) := Lib.hid (by rw [← hw9]; exact (Below.refl _ _).drew)
          clear hw9
          go_wp2_with fail
          refine (scr_merge O.out (HS8.out.of O.out HW9.out) wi vi).mono ?_
          rintro e x1 k2
          have KE := Lib.hid k2
          have k3 := k2.1
          subst k3
          clear f0 f3 f4 ca cav cb cbv
          have cb : x1.cell? ⟨SB, wi, none⟩ = some (.pointer (ptr3 B0 B1 wi)) := k2.2.1.sb wi wi3
          have cbv : x1.cell? ⟨SB, vi, none⟩ = some (.pointer (ptr3 B0 B1 vi)) := k2.2.1.sb vi vi3
          have hOB2 := HC.out.2.2.2.1
          have hOB1 := HC.out.2.2.2.2
          have hOB3 : x1.heap[OB]? = W8.heap[OB]? := (k2.2.2.2 OB hOB1 (Nat.lt_of_lt_of_le hOB2 HW9.out.size)).trans (HW9.out.block OB hOB2)

          have hs9 : OB < x1.heap.size := Nat.lt_of_lt_of_le (Nat.lt_of_lt_of_le hOB2 HW9.out.size) k2.2.2.1
          have hsb9 : SB < x1.heap.size := k2.2.1.lt
          clear k2 hOB1 hOB2 hOB3
          go_upto_region 23 with fail
          go_still_tail 8, (by kernel_rfl)
          change wpList _ _ _ _ _ x1.drew
          generalize hw9 : x1.drew = x2
          have HX2 : Hid (Below x1.heap.size x1 x2) := Lib.hid (by rw [← hw9]; exact (Below.refl _ _).drew)
          clear hw9
          go_wp2_with fail
          refine (scr_rmerge O.out (KE.out.2.1.of O.out HX2.out) wi vi).mono ?_
          rintro e x3 ⟨rfl, k4, -⟩
          have KF := Lib.hid k4
          clear k4
          go_wp2_with fail
          go_meet
          exact ⟨_, _, rfl, rfl, KF.out⟩
        · go_wp2_with fail
          go_meet
          exact ⟨_, _, rfl, rfl, HS8.out⟩
      case rest =>
        obtain ⟨r, G', rfl, rfl, hst⟩ := hcut
        have KST := Lib.hid hst
        clear hst f0 f3 f4 ca cav cb cbv hsb8 hsa8 hOB2 i1 i2 i3 j1 j2 j3 HC HS HS8 hx hy
        have CW : ((k : Int) < 200) ∨ (¬ (k : Int) < 200 ∧ ((k : Int) == (len : Int) - 1) = true) ∨ (¬ (k : Int) < 200 ∧ ((k : Int) == (len : Int) - 1) = false) := by
          by_cases h1 : (k : Int) < 200
          · exact .inl h1
          · cases h2 : ((k : Int) == (len : Int) - 1)
            · exact .inr (.inr ⟨h1, rfl⟩)
            · exact .inr (.inl ⟨h1, rfl⟩)
        have HK := Lib.hid (⟨hk, hlt⟩ : _ ∧ _)
        go_wp2_with fail
        go_loopw [12] (fun v wq => ∃ j : Nat, j ≤ 3 ∧ v = .int .i64 j ∧ ScS w wq ⟨A0, A1, B0, B1, SA, SB⟩ G' G') (fun v _ => 3 - (intOf v).toNat)
        case atStart => exact ⟨0, by omega, rfl, KST.out⟩
        case round =>
          obtain ⟨j, hj, rfl, hst⟩ := hrel
          obtain ⟨wo, hwo⟩ : ∃ wo, wo = wr := ⟨_, rfl⟩
          rw [← hwo] at hst ⊢
          clear hwo
          have HSo := Lib.hid hst
          by_cases hj3 : j < 3
          · have hj4 : (j : Int) < 3 := by omega
            rcases CW with c1 | ⟨c1, c2⟩ | ⟨c1, c2⟩
            rotate_right
            · clear hst
              go_wp2_with fail
              go_roundw
              case rel => exact ⟨k + 1, by omega, by go_num, _, HSo.out⟩
              case measure => have := HK.out.2; simp [intOf]; omega
            all_goals
              have j1 : (0 : Int) ≤ (j : Int) := Int.natCast_nonneg _
              have j2 : (j : Int).toNat = j := Int.toNat_natCast _
              have ca : wo.cell? ⟨SA, j, none⟩ = some (.pointer (ptr3 A0 A1 j)) := hst.sa j hj3
              have cb : wo.cell? ⟨SB, j, none⟩ = some (.pointer (ptr3 B0 B1 j)) := hst.sb j hj3
              have hsb8 : SB < wo.heap.size := hst.lt
              have hsa8 : SA < wo.heap.size := by
                have h1 := O.out.l3
                have h2 := O.out.l4
                have h3 := O.out.l5
                dsimp only at h1 h2 h3
                omega
              have KEEP : Hid (∀ x : World, Below wo.heap.size wo x → x.cell? ⟨SA, j, none⟩ = some (.pointer (ptr3 A0 A1 j)) ∧ x.cell? ⟨SB, j, none⟩ = some (.pointer (ptr3 B0 B1 j)) ∧ Below wo.heap.size wo x) := Lib.hid (fun x hb => ⟨(hst.of O.out hb).sa j hj3, (hst.of O.out hb).sb j hj3, hb⟩)
              have K1 := fun (x : World) (hb : Below wo.heap.size wo x) => scr_count O.out hst j hb
              have K2 := fun (x : World) (hb : Below wo.heap.size wo x) => scr_rcount O.out hst j hb
              have K3 := fun (x : World) (hb : Below wo.heap.size wo x) => scr_value O.out hst j hb
              have K4 := fun (x : World) (hb : Below wo.heap.size wo x) => scr_rvalue O.out hst j hb
              obtain ⟨C, hC⟩ : ∃ C, C = cntF G' j := ⟨_, rfl⟩
              obtain ⟨V, hV⟩ : ∃ C, C = valF G' j := ⟨_, rfl⟩
              rw [← hC] at K1 K2
              rw [← hV] at K3 K4
              dsimp only at K1 K2 K3 K4
              have U1 := Lib.hid K1
              have U2 := Lib.hid K2
              have U3 := Lib.hid K3
              have U4 := Lib.hid K4
              have KSm := Lib.hid same_selfC
              have hb0 : Below wo.heap.size wo wo := Below.refl _ _
              clear K1 K2 K3 K4 hC hV hst
              go_upto_region 29 with fail
              go_region_held3 (fun x => x.cell? ⟨SA, j, none⟩ = some (.pointer (ptr3 A0 A1 j)) ∧ x.cell? ⟨SB, j, none⟩ = some (.pointer (ptr3 B0 B1 j)) ∧ Below wo.heap.size wo x)
                (first | exact KEEP.out _ (by assumption) | exact KEEP.out _ (Below.drew (by assumption)) | go_keep)
                (first
                  | (go_at_call 18; ((with_reducible refine (U1.out _ (by first | assumption | exact Below.drew (by assumption))).mono ?_)); rintro e w' ⟨rfl, hB⟩)
                  | (go_at_call 24; ((with_reducible refine (U2.out _ (by first | assumption | exact Below.drew (by assumption))).mono ?_)); rintro e w' ⟨rfl, hB⟩)
                  | (go_at_call 13; ((with_reducible refine (U3.out _ (by first | assumption | exact Below.drew (by assumption))).mono ?_)); rintro e w' ⟨rfl, hB⟩)
                  | (go_at_call 25; ((with_reducible refine (U4.out _ (by first | assumption | exact Below.drew (by assumption))).mono ?_)); rintro e w' ⟨rfl, hB⟩)
                  | (go_at_call 16; ((with_reducible refine (KSm.out _ _).mono ?_)); rintro e w' ⟨rfl, rfl⟩))
              go_wp2_with fail
              go_roundw
              case rel => exact ⟨j + 1, by omega, by go_num, HSo.out.of O.out (by first | assumption | (have h := ‹_ ∧ _ ∧ Below _ _ _›; exact h.2.2) | exact Below.drew (by assumption))⟩
              case measure => simp [intOf]; omega
          · clear hst CW
            have hj4 : ¬ (j : Int) < 3 := by omega
            go_wp2_with fail
            go_roundw
            case rel => exact ⟨k + 1, by have := HK.out.2; omega, by go_num, _, HSo.out⟩
            case measure => have := HK.out.2; simp [intOf]; omega
    · have hn : k = len := by omega
      subst hn
      have KB := Lib.hid hst.below
      clear hst
      go_wp2_with fail
      go_ret
      exact ⟨rfl, KB.out⟩
end Go.Proofs.Ytneedadoafcfcaa
