/- Laid together: TopI, TopT, CubeA. -/
import Derived.Test.YtkjjecghbhppgaaGreatDoorK08
import Derived.Test.YtkjjecghbhppgaaGreatDoorK04
import Derived.Deep.QuietTactic
import Derived.BigQuiet
import Derived.Deep.RegionHeld3
import Derived.Lib.Strings
import Derived.Lib.Slices
import Derived.Lib.Small
import Derived.Lib.Walk
import Derived.Lib.BitFns
import Derived.Test.YtkjjecghbhppgaaGreatDoorRows
import Derived.Test.YtkjjecghbhppgaaGreatDoorK05
import Derived.Laws.EntriesVeiled
import Derived.Outline
/- sum.Three: the sort. (Printed by gen_sort.py.) -/
namespace Go.Proofs.YtkjjecghbhppgaaGreatDoor
open Go.RowKit TF

attribute [local go_sem] cmp_eq cmp_ne cmp_lt cmp_gt cmp_le cmp_ge run_store_float

/-- Three floats in a block that may be written. -/
structure Row3 (w : World) (b : Nat) (x y z : Nat) : Prop where
  c0 : w.cell? ⟨b, 0, none⟩ = some (.float .f64 x)
  c1 : w.cell? ⟨b, 1, none⟩ = some (.float .f64 y)
  c2 : w.cell? ⟨b, 2, none⟩ = some (.float .f64 z)
  f0 : w.frozen? ⟨b, 0, none⟩ = false
  f1 : w.frozen? ⟨b, 1, none⟩ = false
  f2 : w.frozen? ⟨b, 2, none⟩ = false
theorem bel_in {args : Array Value} {W w1 : World} {r : Ending} (h : Calls Tryz.prog 84 args w1 fun e w' => e = r ∧ Below w1.heap.size w1 w') (hb : Below W.heap.size W w1) : Calls Tryz.prog 84 args w1 fun e w' => e = r ∧ Below W.heap.size W w' :=
  h.mono fun _ _ ⟨he, hB⟩ => ⟨he, hb.trans (hB.mono hb.size)⟩
theorem Row3.lt {w : World} {b x y z : Nat} (h : Row3 w b x y z) : b < w.heap.size := lt_of_cell h.c0
theorem Row3.below {w w1 : World} {b x y z : Nat} (h : Row3 w b x y z) (hB : Below w.heap.size w w1) : Row3 w1 b x y z :=
  ⟨(hB.cell (p := ⟨b, 0, none⟩) h.lt).trans h.c0, (hB.cell (p := ⟨b, 1, none⟩) h.lt).trans h.c1, (hB.cell (p := ⟨b, 2, none⟩) h.lt).trans h.c2, (hB.frozen (p := ⟨b, 0, none⟩) h.lt).trans h.f0, (hB.frozen (p := ⟨b, 1, none⟩) h.lt).trans h.f1, (hB.frozen (p := ⟨b, 2, none⟩) h.lt).trans h.f2⟩
theorem Row3.drew {w : World} {b x y z : Nat} (h : Row3 w b x y z) : Row3 w.drew b x y z := h.below (Below.drew (Below.refl _ _))
theorem Row3.sw1 {w : World} {b x y z : Nat} (h : Row3 w b x y z) : Row3 ((w.setCell ⟨b, 1, none⟩ (.float .f64 x)).setCell ⟨b, 0, none⟩ (.float .f64 y)) b y x z := by
  obtain ⟨p0, p1, p2, q0, q1, q2⟩ := h
  exact ⟨by simp [go_sem, p0], by simp [go_sem, p1], by simp [go_sem, p2], by simp [go_sem, q0], by simp [go_sem, q1], by simp [go_sem, q2]⟩
theorem Row3.sw2 {w : World} {b x y z : Nat} (h : Row3 w b x y z) : Row3 ((w.setCell ⟨b, 2, none⟩ (.float .f64 y)).setCell ⟨b, 1, none⟩ (.float .f64 z)) b x z y := by
  obtain ⟨p0, p1, p2, q0, q1, q2⟩ := h
  exact ⟨by simp [go_sem, p0], by simp [go_sem, p1], by simp [go_sem, p2], by simp [go_sem, q0], by simp [go_sem, q1], by simp [go_sem, q2]⟩
theorem Row3.sw1' {w : World} {b x y z : Nat} (h : Row3 w b x y z) : Row3 ((w.setCell ⟨b, 0, none⟩ (.float .f64 y)).setCell ⟨b, 1, none⟩ (.float .f64 x)) b y x z := by
  obtain ⟨p0, p1, p2, q0, q1, q2⟩ := h
  exact ⟨by simp [go_sem, p0], by simp [go_sem, p1], by simp [go_sem, p2], by simp [go_sem, q0], by simp [go_sem, q1], by simp [go_sem, q2]⟩
theorem Row3.sw2' {w : World} {b x y z : Nat} (h : Row3 w b x y z) : Row3 ((w.setCell ⟨b, 1, none⟩ (.float .f64 z)).setCell ⟨b, 2, none⟩ (.float .f64 y)) b x z y := by
  obtain ⟨p0, p1, p2, q0, q1, q2⟩ := h
  exact ⟨by simp [go_sem, p0], by simp [go_sem, p1], by simp [go_sem, p2], by simp [go_sem, q0], by simp [go_sem, q1], by simp [go_sem, q2]⟩
def RowP (w : World) (b : Nat) (t : Nat × Nat × Nat) : Prop := Row3 w b t.1 t.2.1 t.2.2 ∧ PW t.1 ∧ PW t.2.1 ∧ PW t.2.2

set_option maxHeartbeats 4000000 in
theorem insert_any (x y z b : Nat) (hx : PW x) (hy : PW y) (hz : PW z) (w0 w : World) (hB : Below w0.heap.size w0 w) (hb : w0.heap.size ≤ b) (hR : Row3 w b x y z) :
    Calls Tryz.prog 139 #[.slice (some ⟨b, 0, none⟩) 3 3, .int .i64 0, .int .i64 3, .func (.func 84) #[] #[]] w fun e w' =>
      e = .returned (.tuple #[]) ∧ Below w0.heap.size w0 w' ∧ ∃ t, i1 x y z = t ∧ RowP w' b (i2 t.1 t.2.1 t.2.2) := by
  go_enter Tryz.func139, Tryz.ntmps139
  go_wp2_with fail
  go_loopw [8, 9] (fun i _ wr => Below w0.heap.size w0 wr ∧ ((i = .int .i64 1 ∧ RowP wr b (x, y, z)) ∨ (i = .int .i64 2 ∧ RowP wr b (i1 x y z)) ∨ (i = .int .i64 3 ∧ ∃ t, i1 x y z = t ∧ RowP wr b (i2 t.1 t.2.1 t.2.2)))) (fun i _ _ => 3 - (intOf i).toNat)
  case atStart => exact ⟨hB, .inl ⟨rfl, hR, hx, hy, hz⟩⟩
  case round =>
    clear hR hB hx hy hz
    obtain ⟨hB, ⟨rfl, hP⟩ | ⟨rfl, hP⟩ | ⟨rfl, t, ht, hP⟩⟩ := hrel
    · obtain ⟨g, hg⟩ : ∃ g, g = i1 x y z := ⟨_, rfl⟩
      rw [← hg]
      have HG := Lib.hid hg
      clear hg
      go_wp2
      obtain ⟨wo, rfl⟩ : ∃ wo : World, wo = wr := ⟨_, rfl⟩
      go_loopw [9] (fun j wr => Below w0.heap.size w0 wr ∧ ((j = .int .i64 1 ∧ RowP wr b (x, y, z)) ∨ (j = .int .i64 0 ∧ RowP wr b g))) (fun j _ => (intOf j).toNat)
      case atStart => exact ⟨hB, .inl ⟨rfl, hP⟩⟩
      case round =>
        clear hB hP
        obtain ⟨hB, ⟨rfl, hP⟩ | ⟨rfl, hP⟩⟩ := hrel
        · by_cases hlt : y < x
          · have hg : g = (y, x, z) := by rw [HG.out]; exact if_pos hlt
            obtain ⟨hRow, px, py, pz⟩ := hP
            obtain ⟨c0, c1, c2, f0, f1, f2⟩ := id hRow
            obtain ⟨o, ho⟩ : ∃ o, cI y x = o := ⟨_, rfl⟩
            have hn : decide (o < 0) = true := decide_eq_true (by rw [← ho]; exact cI_neg.2 hlt)
            have hless := fun w => less_any y x (by assumption) (by assumption) w
            rw [ho] at hless
            have HL := Lib.hid hless
            have HR := Lib.hid hRow
            clear hless ho hRow
            have hw0 : Below wr.heap.size wr wr := Below.refl _ _
            have KEEP : Hid (∀ v : World, Below wr.heap.size wr v → v.cell? ⟨b, 1, none⟩ = some (.float .f64 y) ∧ v.cell? ⟨b, 0, none⟩ = some (.float .f64 x) ∧ Below wr.heap.size wr v) := Lib.hid (fun v h => ⟨(HR.out.below h).c1, (HR.out.below h).c0, h⟩)
            have k8 : IntKind.i64.wrap 0 = 0 := by decide
            have k9 : IntKind.i64.wrap (1 - 1) = 0 := by decide
            go_wp2
            go_region_held3 (fun v => v.cell? ⟨b, 1, none⟩ = some (.float .f64 y) ∧ v.cell? ⟨b, 0, none⟩ = some (.float .f64 x) ∧ Below wr.heap.size wr v)
              (first | exact KEEP.out _ (by with_reducible assumption) | exact KEEP.out _ (Below.drew (by with_reducible assumption)))
              (first | (go_at_call 84; ((with_reducible refine (bel_in (HL.out _) (by first | with_reducible assumption | with_reducible exact Below.drew (by with_reducible assumption))).mono ?_)); rintro e w2 ⟨rfl, hB2⟩))
            clear HL KEEP k8 k9 c0 c1 c2 f0 f1 f2
            have hB3 := hB.trans (hB2.mono hB.size)
            obtain ⟨c0, c1, c2, f0, f1, f2⟩ := HR.out.below hB2
            have hRow := Lib.hid (HR.out.below hB2)
            clear HR
            go_wp2
            go_region
            go_wp2
            go_roundw
            case rel => exact ⟨Below.drew ((hB3.setCell hb _).setCell hb _), .inr ⟨rfl, hg ▸ ⟨hRow.out.sw1.drew, py, px, pz⟩⟩⟩
            case measure => simp [intOf]
          · have hg : g = (x, y, z) := by rw [HG.out]; exact if_neg hlt
            obtain ⟨hRow, px, py, pz⟩ := hP
            obtain ⟨c0, c1, c2, f0, f1, f2⟩ := id hRow
            obtain ⟨o, ho⟩ : ∃ o, cI y x = o := ⟨_, rfl⟩
            have hn : decide (o < 0) = false := decide_eq_false (by rw [← ho]; exact fun h => hlt (cI_neg.1 h))
            have hless := fun w => less_any y x (by assumption) (by assumption) w
            rw [ho] at hless
            have HL := Lib.hid hless
            have HR := Lib.hid hRow
            clear hless ho hRow
            have hw0 : Below wr.heap.size wr wr := Below.refl _ _
            have KEEP : Hid (∀ v : World, Below wr.heap.size wr v → v.cell? ⟨b, 1, none⟩ = some (.float .f64 y) ∧ v.cell? ⟨b, 0, none⟩ = some (.float .f64 x) ∧ Below wr.heap.size wr v) := Lib.hid (fun v h => ⟨(HR.out.below h).c1, (HR.out.below h).c0, h⟩)
            have k8 : IntKind.i64.wrap 0 = 0 := by decide
            have k9 : IntKind.i64.wrap (1 - 1) = 0 := by decide
            go_wp2
            go_region_held3 (fun v => v.cell? ⟨b, 1, none⟩ = some (.float .f64 y) ∧ v.cell? ⟨b, 0, none⟩ = some (.float .f64 x) ∧ Below wr.heap.size wr v)
              (first | exact KEEP.out _ (by with_reducible assumption) | exact KEEP.out _ (Below.drew (by with_reducible assumption)))
              (first | (go_at_call 84; ((with_reducible refine (bel_in (HL.out _) (by first | with_reducible assumption | with_reducible exact Below.drew (by with_reducible assumption))).mono ?_)); rintro e w2 ⟨rfl, hB2⟩))
            clear HL KEEP k8 k9 c0 c1 c2 f0 f1 f2
            have hB3 := hB.trans (hB2.mono hB.size)
            have hE := HR.out.below hB2
            have hQ : RowP w2 b g := by rw [hg]; exact ⟨hE, px, py, pz⟩
            clear HR hw0 hB2 hE
            go_wp2
            go_roundw
            case rel => exact ⟨hB3, .inr (.inl ⟨rfl, (by first | exact HG.out ▸ hQ | (rw [← HG.out]; exact hQ))⟩)⟩
            case measure => simp [intOf]
        · go_wp2
          go_region
          have hB3 : Below w0.heap.size w0 wr.drew := Below.drew hB
          have hQ : RowP wr.drew b g := ⟨hP.1.drew, hP.2⟩
          go_wp2
          go_roundw
          case rel => exact ⟨hB3, .inr (.inl ⟨rfl, (by first | exact HG.out ▸ hQ | (rw [← HG.out]; exact hQ))⟩)⟩
          case measure => simp [intOf]
    · obtain ⟨t, ht⟩ : ∃ t, i1 x y z = t := ⟨_, rfl⟩
      rw [ht] at hP
      obtain ⟨t0, t1, t2⟩ := t
      have HT := Lib.hid ht
      clear ht
      obtain ⟨g, hg⟩ : ∃ g, g = i2 t0 t1 t2 := ⟨_, rfl⟩
      have HG := Lib.hid hg
      clear hg
      go_wp2
      obtain ⟨wo, rfl⟩ : ∃ wo : World, wo = wr := ⟨_, rfl⟩
      go_loopw [9] (fun j wr => Below w0.heap.size w0 wr ∧ ((j = .int .i64 2 ∧ RowP wr b (t0, t1, t2)) ∨ (j = .int .i64 1 ∧ t2 < t1 ∧ RowP wr b (t0, t2, t1)) ∨ (j = .int .i64 0 ∧ RowP wr b g))) (fun j _ => (intOf j).toNat)
      case atStart => exact ⟨hB, .inl ⟨rfl, hP⟩⟩
      case round =>
        clear hB hP
        obtain ⟨hB, ⟨rfl, hP⟩ | ⟨rfl, hlo, hP⟩ | ⟨rfl, hP⟩⟩ := hrel
        · by_cases hlt : t2 < t1
          · skip
            obtain ⟨hRow, px, py, pz⟩ := hP
            obtain ⟨c0, c1, c2, f0, f1, f2⟩ := id hRow
            obtain ⟨o, ho⟩ : ∃ o, cI t2 t1 = o := ⟨_, rfl⟩
            have hn : decide (o < 0) = true := decide_eq_true (by rw [← ho]; exact cI_neg.2 hlt)
            have hless := fun w => less_any t2 t1 (by assumption) (by assumption) w
            rw [ho] at hless
            have HL := Lib.hid hless
            have HR := Lib.hid hRow
            clear hless ho hRow
            have hw0 : Below wr.heap.size wr wr := Below.refl _ _
            have KEEP : Hid (∀ v : World, Below wr.heap.size wr v → v.cell? ⟨b, 2, none⟩ = some (.float .f64 t2) ∧ v.cell? ⟨b, 1, none⟩ = some (.float .f64 t1) ∧ Below wr.heap.size wr v) := Lib.hid (fun v h => ⟨(HR.out.below h).c2, (HR.out.below h).c1, h⟩)
            have k8 : IntKind.i64.wrap 1 = 1 := by decide
            have k9 : IntKind.i64.wrap (2 - 1) = 1 := by decide
            go_wp2
            go_region_held3 (fun v => v.cell? ⟨b, 2, none⟩ = some (.float .f64 t2) ∧ v.cell? ⟨b, 1, none⟩ = some (.float .f64 t1) ∧ Below wr.heap.size wr v)
              (first | exact KEEP.out _ (by with_reducible assumption) | exact KEEP.out _ (Below.drew (by with_reducible assumption)))
              (first | (go_at_call 84; ((with_reducible refine (bel_in (HL.out _) (by first | with_reducible assumption | with_reducible exact Below.drew (by with_reducible assumption))).mono ?_)); rintro e w2 ⟨rfl, hB2⟩))
            clear HL KEEP k8 k9 c0 c1 c2 f0 f1 f2
            have hB3 := hB.trans (hB2.mono hB.size)
            obtain ⟨c0, c1, c2, f0, f1, f2⟩ := HR.out.below hB2
            have hRow := Lib.hid (HR.out.below hB2)
            clear HR
            go_wp2
            go_region
            go_wp2
            go_roundw
            case rel => exact ⟨Below.drew ((hB3.setCell hb _).setCell hb _), .inr (.inl ⟨rfl, hlt, hRow.out.sw2.drew, px, pz, py⟩)⟩
            case measure => simp [intOf]
          · have hg : g = (t0, t1, t2) := by rw [HG.out]; exact if_neg hlt
            obtain ⟨hRow, px, py, pz⟩ := hP
            obtain ⟨c0, c1, c2, f0, f1, f2⟩ := id hRow
            obtain ⟨o, ho⟩ : ∃ o, cI t2 t1 = o := ⟨_, rfl⟩
            have hn : decide (o < 0) = false := decide_eq_false (by rw [← ho]; exact fun h => hlt (cI_neg.1 h))
            have hless := fun w => less_any t2 t1 (by assumption) (by assumption) w
            rw [ho] at hless
            have HL := Lib.hid hless
            have HR := Lib.hid hRow
            clear hless ho hRow
            have hw0 : Below wr.heap.size wr wr := Below.refl _ _
            have KEEP : Hid (∀ v : World, Below wr.heap.size wr v → v.cell? ⟨b, 2, none⟩ = some (.float .f64 t2) ∧ v.cell? ⟨b, 1, none⟩ = some (.float .f64 t1) ∧ Below wr.heap.size wr v) := Lib.hid (fun v h => ⟨(HR.out.below h).c2, (HR.out.below h).c1, h⟩)
            have k8 : IntKind.i64.wrap 1 = 1 := by decide
            have k9 : IntKind.i64.wrap (2 - 1) = 1 := by decide
            go_wp2
            go_region_held3 (fun v => v.cell? ⟨b, 2, none⟩ = some (.float .f64 t2) ∧ v.cell? ⟨b, 1, none⟩ = some (.float .f64 t1) ∧ Below wr.heap.size wr v)
              (first | exact KEEP.out _ (by with_reducible assumption) | exact KEEP.out _ (Below.drew (by with_reducible assumption)))
              (first | (go_at_call 84; ((with_reducible refine (bel_in (HL.out _) (by first | with_reducible assumption | with_reducible exact Below.drew (by with_reducible assumption))).mono ?_)); rintro e w2 ⟨rfl, hB2⟩))
            clear HL KEEP k8 k9 c0 c1 c2 f0 f1 f2
            have hB3 := hB.trans (hB2.mono hB.size)
            have hE := HR.out.below hB2
            have hQ : RowP w2 b g := by rw [hg]; exact ⟨hE, px, py, pz⟩
            clear HR hw0 hB2 hE
            go_wp2
            go_roundw
            case rel => exact ⟨hB3, .inr (.inr ⟨rfl, (t0, t1, t2), HT.out, (by first | exact HG.out ▸ hQ | (rw [← HG.out]; exact hQ))⟩)⟩
            case measure => simp [intOf]
        · by_cases hlt : t2 < t0
          · have hg : g = (t2, t0, t1) := by rw [HG.out]; unfold i2; rw [if_pos hlo, if_pos hlt]
            obtain ⟨hRow, px, py, pz⟩ := hP
            obtain ⟨c0, c1, c2, f0, f1, f2⟩ := id hRow
            obtain ⟨o, ho⟩ : ∃ o, cI t2 t0 = o := ⟨_, rfl⟩
            have hn : decide (o < 0) = true := decide_eq_true (by rw [← ho]; exact cI_neg.2 hlt)
            have hless := fun w => less_any t2 t0 (by assumption) (by assumption) w
            rw [ho] at hless
            have HL := Lib.hid hless
            have HR := Lib.hid hRow
            clear hless ho hRow
            have hw0 : Below wr.heap.size wr wr := Below.refl _ _
            have KEEP : Hid (∀ v : World, Below wr.heap.size wr v → v.cell? ⟨b, 1, none⟩ = some (.float .f64 t2) ∧ v.cell? ⟨b, 0, none⟩ = some (.float .f64 t0) ∧ Below wr.heap.size wr v) := Lib.hid (fun v h => ⟨(HR.out.below h).c1, (HR.out.below h).c0, h⟩)
            have k8 : IntKind.i64.wrap 0 = 0 := by decide
            have k9 : IntKind.i64.wrap (1 - 1) = 0 := by decide
            go_wp2
            go_region_held3 (fun v => v.cell? ⟨b, 1, none⟩ = some (.float .f64 t2) ∧ v.cell? ⟨b, 0, none⟩ = some (.float .f64 t0) ∧ Below wr.heap.size wr v)
              (first | exact KEEP.out _ (by with_reducible assumption) | exact KEEP.out _ (Below.drew (by with_reducible assumption)))
              (first | (go_at_call 84; ((with_reducible refine (bel_in (HL.out _) (by first | with_reducible assumption | with_reducible exact Below.drew (by with_reducible assumption))).mono ?_)); rintro e w2 ⟨rfl, hB2⟩))
            clear HL KEEP k8 k9 c0 c1 c2 f0 f1 f2
            have hB3 := hB.trans (hB2.mono hB.size)
            obtain ⟨c0, c1, c2, f0, f1, f2⟩ := HR.out.below hB2
            have hRow := Lib.hid (HR.out.below hB2)
            clear HR
            go_wp2
            go_region
            go_wp2
            go_roundw
            case rel => exact ⟨Below.drew ((hB3.setCell hb _).setCell hb _), .inr (.inr ⟨rfl, hg ▸ ⟨hRow.out.sw1.drew, py, px, pz⟩⟩)⟩
            case measure => simp [intOf]
          · have hg : g = (t0, t2, t1) := by rw [HG.out]; unfold i2; rw [if_pos hlo, if_neg hlt]
            obtain ⟨hRow, px, py, pz⟩ := hP
            obtain ⟨c0, c1, c2, f0, f1, f2⟩ := id hRow
            obtain ⟨o, ho⟩ : ∃ o, cI t2 t0 = o := ⟨_, rfl⟩
            have hn : decide (o < 0) = false := decide_eq_false (by rw [← ho]; exact fun h => hlt (cI_neg.1 h))
            have hless := fun w => less_any t2 t0 (by assumption) (by assumption) w
            rw [ho] at hless
            have HL := Lib.hid hless
            have HR := Lib.hid hRow
            clear hless ho hRow
            have hw0 : Below wr.heap.size wr wr := Below.refl _ _
            have KEEP : Hid (∀ v : World, Below wr.heap.size wr v → v.cell? ⟨b, 1, none⟩ = some (.float .f64 t2) ∧ v.cell? ⟨b, 0, none⟩ = some (.float .f64 t0) ∧ Below wr.heap.size wr v) := Lib.hid (fun v h => ⟨(HR.out.below h).c1, (HR.out.below h).c0, h⟩)
            have k8 : IntKind.i64.wrap 0 = 0 := by decide
            have k9 : IntKind.i64.wrap (1 - 1) = 0 := by decide
            go_wp2
            go_region_held3 (fun v => v.cell? ⟨b, 1, none⟩ = some (.float .f64 t2) ∧ v.cell? ⟨b, 0, none⟩ = some (.float .f64 t0) ∧ Below wr.heap.size wr v)
              (first | exact KEEP.out _ (by with_reducible assumption) | exact KEEP.out _ (Below.drew (by with_reducible assumption)))
              (first | (go_at_call 84; ((with_reducible refine (bel_in (HL.out _) (by first | with_reducible assumption | with_reducible exact Below.drew (by with_reducible assumption))).mono ?_)); rintro e w2 ⟨rfl, hB2⟩))
            clear HL KEEP k8 k9 c0 c1 c2 f0 f1 f2
            have hB3 := hB.trans (hB2.mono hB.size)
            have hE := HR.out.below hB2
            have hQ : RowP w2 b g := by rw [hg]; exact ⟨hE, px, py, pz⟩
            clear HR hw0 hB2 hE
            go_wp2
            go_roundw
            case rel => exact ⟨hB3, .inr (.inr ⟨rfl, (t0, t1, t2), HT.out, (by first | exact HG.out ▸ hQ | (rw [← HG.out]; exact hQ))⟩)⟩
            case measure => simp [intOf]
        · go_wp2
          go_region
          have hB3 : Below w0.heap.size w0 wr.drew := Below.drew hB
          have hQ : RowP wr.drew b g := ⟨hP.1.drew, hP.2⟩
          go_wp2
          go_roundw
          case rel => exact ⟨hB3, .inr (.inr ⟨rfl, (t0, t1, t2), HT.out, (by first | exact HG.out ▸ hQ | (rw [← HG.out]; exact hQ))⟩)⟩
          case measure => simp [intOf]
    · go_wp2
      go_end0
      exact ⟨rfl, hB, t, ht, hP⟩
end Go.Proofs.YtkjjecghbhppgaaGreatDoor
/- sum.Three: three numbers that are not below nought, the least first. -/
namespace Go.Proofs.YtkjjecghbhppgaaGreatDoor
open Go.RowKit TF

attribute [local go_sem] cmp_eq cmp_ne cmp_lt cmp_gt cmp_le cmp_ge run_store_float

theorem len3_any (w : World) : Calls Tryz.prog 148 #[.int .u64 3] w fun e w' => e = .returned (.int .i64 2) ∧ w = w' := by
  go_enter Tryz.func148, Tryz.ntmps148
  go_wp2_with fail
  go_ret
  exact ⟨ret_int' (by rw [Lib.len8_of 3 (by omega) (by omega)]; kernel_rfl), rfl⟩
theorem len_any (w : World) : Calls Tryz.prog 117 #[.int .u64 3] w fun e w' => e = .returned (.int .i64 2) ∧ w = w' := by
  go_enter Tryz.func117, Tryz.ntmps117
  go_wp2_with (first | (go_at_call 148; ((with_reducible refine (len3_any _).mono ?_)); rintro e w' ⟨rfl, rfl⟩))
  go_ret
  exact ⟨rfl, rfl⟩

/-- What the sort leaves: the numbers in their order. -/
def SortedP (w0 : World) (b x y z : Nat) (w' : World) : Prop := Below w0.heap.size w0 w' ∧ ∃ t, i1 x y z = t ∧ RowP w' b (i2 t.1 t.2.1 t.2.2)

set_option maxRecDepth 100000 in
set_option maxHeartbeats 4000000 in
theorem pdq_any (x y z b : Nat) (hx : PW x) (hy : PW y) (hz : PW z) (w0 w : World) (hB : Below w0.heap.size w0 w) (hb : w0.heap.size ≤ b) (hR : Row3 w b x y z) :
    Calls Tryz.prog 116 #[.slice (some ⟨b, 0, none⟩) 3 3, .int .i64 0, .int .i64 3, .int .i64 2, .func (.func 84) #[] #[]] w fun e w' =>
      e = .returned (.tuple #[]) ∧ SortedP w0 b x y z w' := by
  have KI := Lib.hid (insert_any x y z b hx hy hz w0 w hB hb hR)
  clear hx hy hz hB hb hR
  go_enter Tryz.func116, Tryz.ntmps116
  go_wp2_with fail
  go_loopw [1, 2] (fun a b wr => a = .int .i64 0 ∧ b = .int .i64 3 ∧ wr = w) (fun _ _ _ => 0)
  case atStart => exact ⟨rfl, rfl, rfl⟩
  case round =>
    obtain ⟨rfl, rfl, rfl⟩ := hrel
    go_wp2_with (first | (go_at_call 139; ((with_reducible refine KI.out.mono ?_)); rintro e w' ⟨rfl, hS⟩))
    refine bodyPost_ret (results_none rfl _ _ _) rfl ?_
    exact ⟨rfl, hS⟩

theorem sortfunc_any (x y z b : Nat) (hx : PW x) (hy : PW y) (hz : PW z) (w0 w : World) (hB : Below w0.heap.size w0 w) (hb : w0.heap.size ≤ b) (hR : Row3 w b x y z) :
    Calls Tryz.prog 83 #[.slice (some ⟨b, 0, none⟩) 3 3, .func (.func 84) #[] #[]] w fun e w' =>
      e = .returned (.tuple #[]) ∧ SortedP w0 b x y z w' := by
  have KI := Lib.hid (pdq_any x y z b hx hy hz w0 w hB hb hR)
  clear hx hy hz hB hb hR
  go_enter Tryz.func83, Tryz.ntmps83
  go_wp2_with (first | (go_at_call 117; ((with_reducible refine (len_any _).mono ?_)); rintro e w' ⟨rfl, rfl⟩) | (go_at_call 116; ((with_reducible refine KI.out.mono ?_)); rintro e w' ⟨rfl, hS⟩))
  go_end0
  exact ⟨rfl, hS⟩

theorem row_any (x y z b : Nat) (hx : PW x) (hy : PW y) (hz : PW z) (w : World) (hR : Row3 w b x y z) :
    Calls Tryz.prog 89 #[.slice (some ⟨b, 0, none⟩) 3 3] w fun e w' => e = .returned (.float .f64 (fadd (fadd x y) z)) ∧ w = w' := by
  obtain ⟨a1, p1⟩ := add_some hx hy
  obtain ⟨a2, p2⟩ := add_some p1 hz
  obtain ⟨c0, c1, c2, -, -, -⟩ := hR
  generalize fadd x y = s at a1 a2 p1 p2
  generalize fadd s z = t at a2 p2
  have k1 := run_valid (P := Tryz.prog) 35 a1
  have k2 := run_valid (P := Tryz.prog) 35 a2
  clear a1 a2
  go_enter Tryz.func89, Tryz.ntmps89
  go_wp2_with fail
  go_loopw [3, 15] (fun v i wr => wr = w ∧ ((i = .int .i64 0 ∧ v = .float .f64 x) ∨ (i = .int .i64 1 ∧ v = .float .f64 s) ∨ (i = .int .i64 2 ∧ v = .float .f64 t))) (fun _ i _ => 2 - (intOf i).toNat)
  case atStart => exact ⟨rfl, .inl ⟨rfl, rfl⟩⟩
  case round =>
    obtain ⟨rfl, ⟨rfl, rfl⟩ | ⟨rfl, rfl⟩ | ⟨rfl, rfl⟩⟩ := hrel
    · go_wp2
      go_roundw
      case rel => exact ⟨trivial, .inr (.inl ⟨rfl, rfl⟩)⟩
      case measure => simp [intOf]
    · go_wp2
      go_roundw
      case rel => exact ⟨trivial, .inr (.inr ⟨rfl, rfl⟩)⟩
      case measure => simp [intOf]
    · go_wp2_with (first | (go_at_call 120; ((with_reducible refine (squiet_any _ (by assumption) _).mono ?_)); rintro e w' ⟨rfl, rfl⟩))
      go_ret
      exact ⟨rfl, rfl⟩

set_option maxHeartbeats 1000000 in
theorem three_any (x y z : Nat) (hx : PW x) (hy : PW y) (hz : PW z) (w : World) :
    Calls Tryz.prog 53 #[.float .f64 x, .float .f64 y, .float .f64 z] w fun e w' => e = .returned (.float .f64 (s3 x y z)) ∧ Below w.heap.size w w' := by
  have hR : Row3 (w.alloc (.cells #[.float .f64 x, .float .f64 y, .float .f64 z] 139)) w.heap.size x y z := ⟨by simp [go_sem], by simp [go_sem], by simp [go_sem], by simp [go_sem], by simp [go_sem], by simp [go_sem]⟩
  unfold s3
  obtain ⟨g, hg⟩ : ∃ g, i2 (i1 x y z).1 (i1 x y z).2.1 (i1 x y z).2.2 = g := ⟨_, rfl⟩
  have KS := Lib.hid ((sortfunc_any x y z w.heap.size hx hy hz w _ ((Below.refl _ _).alloc (Nat.le_refl _) _) (Nat.le_refl _) hR).mono (fun e w' ⟨h1, h2, t, h3, h4⟩ => (by subst h3; rw [hg] at h4; exact ⟨h1, h2, h4⟩ : e = Ending.returned (.tuple #[]) ∧ Below w.heap.size w w' ∧ RowP w' w.heap.size g)))
  rw [hg]
  clear hR hx hy hz hg
  go_enter Tryz.func53, Tryz.ntmps53
  go_wp2_with (first | (go_at_call 83; ((with_reducible refine KS.out.mono ?_)); rintro e w' ⟨rfl, hBw, hRow, q0, q1, q2⟩) | (go_at_call 89; ((with_reducible refine (row_any _ _ _ _ q0 q1 q2 _ hRow).mono ?_)); rintro e w2 ⟨rfl, rfl⟩))
  go_ret
  exact ⟨rfl, hBw⟩
end Go.Proofs.YtkjjecghbhppgaaGreatDoor
/- The cube's leaves: ways in whole numbers. -/
namespace Go.Proofs.YtkjjecghbhppgaaGreatDoor
open Go.RowKit TF

theorem bel1 (w : World) (a : Obj) : Below w.heap.size w (w.alloc a) := (Below.refl _ _).alloc (Nat.le_refl _) _
theorem bel2 (w : World) (a b : Obj) : Below w.heap.size w ((w.alloc a).alloc b) := (bel1 w a).alloc (by simp) _
theorem bel3 (w : World) (a b c : Obj) : Below w.heap.size w (((w.alloc a).alloc b).alloc c) := (bel2 w a b).alloc (by simp; omega) _

/-- A way in a block of its own; a frame. -/
def wayBox (x y z : Int) : Obj := .cells #[.int .i64 x, .int .i64 y, .int .i64 z] 99
def frBox (a b c d e f g h i : Int) : Obj := .cells #[.int .i64 a, .int .i64 b, .int .i64 c, .int .i64 d, .int .i64 e, .int .i64 f, .int .i64 g, .int .i64 h, .int .i64 i] 101
theorem wayBox_eq (x y z : Int) : Obj.cells #[.int .i64 x, .int .i64 y, .int .i64 z] 99 = wayBox x y z := rfl

theorem times_ex (x y z k : Int) (hu : U3 x y z) (hk : In 4000 k) (w : World) :
    Calls Tryz.prog 79 #[.agg #[.int .i64 x, .int .i64 y, .int .i64 z], .int .i64 k] w fun e w' => e = .returned (.agg #[.int .i64 (k * x), .int .i64 (k * y), .int .i64 (k * z)]) ∧
      (w.alloc (.cells #[.int .i64 x, .int .i64 y, .int .i64 z] 99)).alloc (.cells #[.int .i64 (k * x), .int .i64 (k * y), .int .i64 (k * z)] 99) = w' := by
  obtain ⟨h1, h2⟩ := hk.mul hu.x (by omega)
  obtain ⟨h3, h4⟩ := hk.mul hu.y (by omega)
  obtain ⟨h5, h6⟩ := hk.mul hu.z (by omega)
  clear hu hk
  go_enter Tryz.func79, Tryz.ntmps79
  go_wp2_with fail
  exact bodyPost_ret (v := .agg #[.int .i64 (k * x), .int .i64 (k * y), .int .i64 (k * z)]) (by simp [results, Tryz.results79, go_sem]) rfl ⟨rfl, rfl⟩
theorem plus_ex (x y z a b c : Int) (hu : I3 4000 x y z) (hv : I3 4000 a b c) (w : World) :
    Calls Tryz.prog 45 #[.agg #[.int .i64 x, .int .i64 y, .int .i64 z], .agg #[.int .i64 a, .int .i64 b, .int .i64 c]] w fun e w' => e = .returned (.agg #[.int .i64 (x + a), .int .i64 (y + b), .int .i64 (z + c)]) ∧
      ((w.alloc (.cells #[.int .i64 x, .int .i64 y, .int .i64 z] 99)).alloc (.cells #[.int .i64 a, .int .i64 b, .int .i64 c] 99)).alloc (.cells #[.int .i64 (x + a), .int .i64 (y + b), .int .i64 (z + c)] 99) = w' := by
  obtain ⟨⟨h1, h2⟩, ⟨h3, h4⟩, ⟨h5, h6⟩⟩ := hu
  obtain ⟨⟨g1, g2⟩, ⟨g3, g4⟩, ⟨g5, g6⟩⟩ := hv
  go_enter Tryz.func45, Tryz.ntmps45
  go_wp2_with fail
  exact bodyPost_ret (v := .agg #[.int .i64 (x + a), .int .i64 (y + b), .int .i64 (z + c)]) (by simp [results, Tryz.results45, go_sem]) rfl ⟨rfl, rfl⟩
theorem dot_ex (x y z a b c : Int) (hu : I3 4000 x y z) (hv : U3 a b c) (w : World) :
    Calls Tryz.prog 47 #[.agg #[.int .i64 x, .int .i64 y, .int .i64 z], .agg #[.int .i64 a, .int .i64 b, .int .i64 c]] w fun e w' => e = .returned (.int .i64 (x * a + y * b + z * c)) ∧
      (w.alloc (.cells #[.int .i64 x, .int .i64 y, .int .i64 z] 99)).alloc (.cells #[.int .i64 a, .int .i64 b, .int .i64 c] 99) = w' := by
  obtain ⟨h1, h2⟩ := hu.x.mul hv.x (by omega)
  obtain ⟨h3, h4⟩ := hu.y.mul hv.y (by omega)
  obtain ⟨h5, h6⟩ := hu.z.mul hv.z (by omega)
  clear hu hv
  go_enter Tryz.func47, Tryz.ntmps47
  go_wp2_with fail
  go_ret
  exact ⟨rfl, rfl⟩
theorem times_any (x y z k : Int) (hu : U3 x y z) (hk : In 4000 k) (w : World) :
    Calls Tryz.prog 79 #[.agg #[.int .i64 x, .int .i64 y, .int .i64 z], .int .i64 k] w fun e w' => e = .returned (.agg #[.int .i64 (k * x), .int .i64 (k * y), .int .i64 (k * z)]) ∧ Below w.heap.size w w' :=
  (times_ex x y z k hu hk w).mono fun _ _ ⟨h1, h2⟩ => ⟨h1, h2 ▸ bel2 _ _ _⟩
theorem plus_any (x y z a b c : Int) (hu : I3 4000 x y z) (hv : I3 4000 a b c) (w : World) :
    Calls Tryz.prog 45 #[.agg #[.int .i64 x, .int .i64 y, .int .i64 z], .agg #[.int .i64 a, .int .i64 b, .int .i64 c]] w fun e w' => e = .returned (.agg #[.int .i64 (x + a), .int .i64 (y + b), .int .i64 (z + c)]) ∧ Below w.heap.size w w' :=
  (plus_ex x y z a b c hu hv w).mono fun _ _ ⟨h1, h2⟩ => ⟨h1, h2 ▸ bel3 _ _ _ _⟩
theorem dot_any (x y z a b c : Int) (hu : I3 4000 x y z) (hv : U3 a b c) (w : World) :
    Calls Tryz.prog 47 #[.agg #[.int .i64 x, .int .i64 y, .int .i64 z], .agg #[.int .i64 a, .int .i64 b, .int .i64 c]] w fun e w' => e = .returned (.int .i64 (x * a + y * b + z * c)) ∧ Below w.heap.size w w' :=
  (dot_ex x y z a b c hu hv w).mono fun _ _ ⟨h1, h2⟩ => ⟨h1, h2 ▸ bel2 _ _ _⟩
theorem good_any (n : Int) (w : World) :
    Calls Tryz.prog 39 #[.int .i64 n] w fun e w' => e = .returned (.bool (goodB n)) ∧ w = w' := by
  rcases good_cases n with ⟨e, h⟩ | ⟨e, h1, h2⟩ | ⟨e, h1, h2⟩
  · rw [e]; clear e
    go_enter Tryz.func39, Tryz.ntmps39
    go_wp2_with fail
    go_ret
    exact ⟨rfl, rfl⟩
  · have hd : decide (n ≤ 32) = false := by simpa using h2
    rw [e]; clear e
    go_enter Tryz.func39, Tryz.ntmps39
    go_wp2_with fail
    go_ret
    exact ⟨rfl, rfl⟩
  · have hd : decide (n ≤ 32) = true := by simpa using h2
    rw [e]; clear e
    go_enter Tryz.func39, Tryz.ntmps39
    go_wp2_with fail
    go_ret
    exact ⟨rfl, rfl⟩
theorem cells_any (n : Int) (w : World) :
    Calls Tryz.prog 21 #[.int .i64 n] w fun e w' => e = .returned (.int .i64 (cellsI n)) ∧ w = w' := by
  rcases cells_cases n with ⟨g, e⟩ | ⟨g, e, h1, h2, h3, h4⟩
  all_goals
    rw [e]; clear e
    go_enter Tryz.func21, Tryz.ntmps21
    go_wp2_with (go_at_call 39; refine (good_any _ _).mono ?_; rintro e w' ⟨rfl, rfl⟩)
    go_ret
    exact ⟨rfl, rfl⟩
theorem ret_int {k : IntKind} {a b : Int} (h : a = b) : Ending.returned (.int k a) = .returned (.int k b) := by rw [h]
theorem index_any (n a : Int) (h : In 20000 a) (h1 : 1 ≤ n) (h2 : n ≤ 32) (w : World) :
    Calls Tryz.prog 46 #[.int .i64 n, .int .i64 a] w fun e w' => e = .returned (.int .i64 (indexI n a)) ∧ w = w' := by
  obtain ⟨g1, g2⟩ := h
  unfold indexI
  go_enter Tryz.func46, Tryz.ntmps46
  go_wp2_with fail
  all_goals
    go_ret
    exact ⟨ret_int (by omega), rfl⟩
theorem cell_any (n f i j : Int) (w : World) :
    Calls Tryz.prog 41 #[.int .i64 n, .int .i64 f, .int .i64 i, .int .i64 j] w fun e w' => e = .returned (.int .i64 (cellI n f i j)) ∧ w = w' := by
  rcases cell_cases n f i j with ⟨e, C⟩ | ⟨e, g, h1, h2, h3, h4, h5, h6, C⟩
  · rw [e]; clear e
    rcases C with g | ⟨g, h⟩ | ⟨g, h1, h⟩ | ⟨g, h1, h2, h⟩ | ⟨g, h1, h2, h3, h⟩ | ⟨g, h1, h2, h3, h4, h⟩ | ⟨g, h1, h2, h3, h4, h5, h⟩
    all_goals
      go_enter Tryz.func41, Tryz.ntmps41
      go_wp2_with (go_at_call 39; refine (good_any _ _).mono ?_; rintro e w' ⟨rfl, rfl⟩)
      go_ret
      exact ⟨rfl, rfl⟩
  · rw [e]; clear e
    obtain ⟨c1, c2, c3, c4, c5, c6⟩ := C
    go_enter Tryz.func41, Tryz.ntmps41
    go_wp2_with (go_at_call 39; refine (good_any _ _).mono ?_; rintro e w' ⟨rfl, rfl⟩)
    go_ret
    exact ⟨rfl, rfl⟩
theorem cplace_any (n c : Int) (w : World) :
    Calls Tryz.prog 40 #[.int .i64 n, .int .i64 c] w fun e w' => e = .returned (.tuple #[.int .i64 (placeI n c).1, .int .i64 (placeI n c).2.1, .int .i64 (placeI n c).2.2.1, .bool (placeI n c).2.2.2]) ∧ ∃ k, w' = w.drewN k := by
  rcases cplace_cases n c with ⟨e, C⟩ | ⟨e, h1, h2, h3, h4, h5, h6, h7⟩
  · rw [e]; clear e
    rcases C with h | ⟨h1, h2⟩
    all_goals
      go_enter Tryz.func40, Tryz.ntmps40
      go_wp2_with (go_at_call 21; refine (cells_any _ _).mono ?_; rintro e w' ⟨rfl, rfl⟩)
      exact bodyPost_ret (v := .tuple #[.int .i64 0, .int .i64 0, .int .i64 0, .bool false]) (by simp [results, Tryz.results40, go_sem]) rfl ⟨rfl, 0, rfl⟩
  · rw [e]; clear e
    go_enter Tryz.func40, Tryz.ntmps40
    go_wp2_with (go_at_call 21; refine (cells_any _ _).mono ?_; rintro e w' ⟨rfl, rfl⟩)
    go_quiet (fail)
    go_wp2
    exact bodyPost_ret (v := .tuple #[.int .i64 (c / (n * n)), .int .i64 (c % n), .int .i64 (c / n % n), .bool true]) (by simp [results, Tryz.results40, go_sem, place_mod h1 h7 h3]) rfl ⟨rfl, _, rfl⟩
end Go.Proofs.YtkjjecghbhppgaaGreatDoor
