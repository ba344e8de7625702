/- rain.Fall. -/
import Derived.Test.YtbjkofjkpfgimaaRainC
namespace Go.Proofs.Ytbjkofjkpfgimaa
open Go Go.RowKit TF

set_option maxHeartbeats 4000000 in
theorem fall_bad (A : Option Addr) (n cap : Nat) (Z : Nat → Int) (s : Int) (R : Option Addr) (m cap2 : Nat) (C Am F T : Nat → Int) (st : Int) (w : World) (hn : n * 8 ≤ 140737488351232) (hm9 : m ≤ 9223372036854775807)
    (hz : IntsAt w A n Z) (hr : RainsAt w R m C Am F T) (hb : refuseB n Z s m C Am F T st = true) :
    Calls Try.prog 12 #[.slice A n cap, .int .i64 s, .slice R m cap2, .int .i64 st] w fun e w' => e = .returned (.tuple #[.slice none 0 0, .int .i64 0, .int .i64 1]) ∧ Below w.heap.size w w' := by
  have hn9 : n ≤ 9223372036854775807 := by omega
  have hm9 : m ≤ 9223372036854775807 := by omega
  have hb2 : Below w.heap.size w ((w.alloc (.cells #[.slice A n cap] 22)).alloc (.cells #[.int .i64 s] 2)) := ((Below.refl _ _).alloc (Nat.le_refl _) _).alloc (by simp) _
  have hP : w.heap.size < ((w.alloc (.cells #[.slice A n cap] 22)).alloc (.cells #[.int .i64 s] 2)).heap.size := by simp <;> omega
  have hbx : ∃ A' n' cap', (n : Int) = (n' : Nat) ∧ ((w.alloc (.cells #[.slice A n cap] 22)).alloc (.cells #[.int .i64 s] 2)).cell? ⟨w.heap.size, 0, none⟩ = some (.slice A' n' cap') := ⟨A, n, cap, rfl, by
    rw [World.cell?_alloc_lt _ _ _ (by simp), World.cell?_alloc_new]; rfl⟩
  have HW : ∀ wa : World, Below ((w.alloc (.cells #[.slice A n cap] 22)).alloc (.cells #[.int .i64 s] 2)).heap.size ((w.alloc (.cells #[.slice A n cap] 22)).alloc (.cells #[.int .i64 s] 2)) wa → True := fun _ _ => trivial
  rcases refuse_cases hb with h1 | ⟨h1, h2⟩ | ⟨h1, h2, h3⟩ | ⟨h1, h2, h3, h4⟩ | ⟨h1, h2, h3, h4, h5⟩
  all_goals
    clear hb
    go_enter Try.func12, Try.ntmps12
    go_wp2_with (first | (go_at_call 16; ((with_reducible refine (outside_any _ _).mono ?_)); rintro e w' ⟨rfl, rfl⟩) | (go_at_call 17; ((with_reducible refine (contains_w A n cap Z _ hn9 (hz.below hb2)).mono ?_)); rintro e w' ⟨rfl, rfl⟩) | (go_at_call 18; ((with_reducible refine (contains_r n R m cap2 C Am F T w.heap.size _ hm9 (hr.below hb2) hP hbx).mono ?_)); rintro e wa ⟨rfl, hba⟩; have hwa := HW wa hba))
    refine bodyPost_ret (results_tmp3 rfl _ _ _) rfl ?_
    first | exact ⟨rfl, hb2⟩ | exact ⟨rfl, hb2.trans (hba.mono hb2.size)⟩

set_option maxHeartbeats 4000000 in
theorem fall_ok (A : Option Addr) (n cap : Nat) (Z : Nat → Int) (s : Int) (R : Option Addr) (m cap2 : Nat) (C Am F T : Nat → Int) (st : Int) (w : World) (hn : n * 8 ≤ 140737488351232) (hnil : A = none → n = 0)
    (hz : IntsAt w A n Z) (hr : RainsAt w R m C Am F T) (hb : refuseB n Z s m C Am F T st = false) :
    Calls Try.prog 12 #[.slice A n cap, .int .i64 s, .slice R m cap2, .int .i64 st] w fun e w' => FallP w n (rsZ st C Am F T Z s m) (rsS st C Am F T Z s m) e w' := by
  obtain ⟨t1, ⟨t2, t3⟩, t4, t5, t6⟩ := taken hb
  have hbd := Lib.hid (rs_bnd (st := st) t6 t5 t2 t3)
  have q2 : outB s = false := by simp [outB]; omega
  have q4 : anyB n (fun i => outB (Z i)) = false := anyB_false.2 fun i hi => by have := t5 i hi; simp [outB]; omega
  have q5 : anyB m (fun i => !validB n (C i) (Am i) (F i) (T i)) = false := anyB_false.2 fun i hi => by have := t6 i hi; simp [validB]; omega
  have T6 := Lib.hid t6
  clear hb t5 t6
  have hn9 : n ≤ 9223372036854775807 := by omega
  have hm9 : m ≤ 9223372036854775807 := by omega
  have hb2 : Below w.heap.size w ((w.alloc (.cells #[.slice A n cap] 22)).alloc (.cells #[.int .i64 s] 2)) := ((Below.refl _ _).alloc (Nat.le_refl _) _).alloc (by simp) _
  have hP : w.heap.size < ((w.alloc (.cells #[.slice A n cap] 22)).alloc (.cells #[.int .i64 s] 2)).heap.size := by simp <;> omega
  have hbx : ∃ A' n' cap', (n : Int) = (n' : Nat) ∧ ((w.alloc (.cells #[.slice A n cap] 22)).alloc (.cells #[.int .i64 s] 2)).cell? ⟨w.heap.size, 0, none⟩ = some (.slice A' n' cap') := ⟨A, n, cap, rfl, by
    rw [World.cell?_alloc_lt _ _ _ (by simp), World.cell?_alloc_new]; rfl⟩
  have HW : ∀ wa : World, Below ((w.alloc (.cells #[.slice A n cap] 22)).alloc (.cells #[.int .i64 s] 2)).heap.size ((w.alloc (.cells #[.slice A n cap] 22)).alloc (.cells #[.int .i64 s] 2)) wa → wa.cell? ⟨w.heap.size, 0, none⟩ = some (.slice A n cap) := fun wa h => by
    rw [h.cell (p := ⟨w.heap.size, 0, none⟩) hP, World.cell?_alloc_lt _ _ _ (by simp), World.cell?_alloc_new]; rfl
  go_enter Try.func12, Try.ntmps12
  go_wp2_with (first | (go_at_call 16; ((with_reducible refine (outside_any _ _).mono ?_)); rintro e w' ⟨rfl, rfl⟩) | (go_at_call 17; ((with_reducible refine (contains_w A n cap Z _ hn9 (hz.below hb2)).mono ?_)); rintro e w' ⟨rfl, rfl⟩) | (go_at_call 18; ((with_reducible refine (contains_r n R m cap2 C Am F T w.heap.size _ hm9 (hr.below hb2) hP hbx).mono ?_)); rintro e wa ⟨rfl, hba⟩; have hwa := HW wa hba) | (go_at_call 19; ((with_reducible refine (clone_any A n cap Z _ hn (hz.below (hb2.trans (hba.mono hb2.size))) hnil).mono ?_)); rintro e wb ⟨A', cap', rfl, hc2, hown, hbb⟩))
  have hsz1 := hb2.size
  have hsz2 := hba.size
  have hsz3 := hbb.size
  have hsz0 : ((w.alloc (.cells #[.slice A n cap] 22)).alloc (.cells #[.int .i64 s] 2)).heap.size = w.heap.size + 2 := by simp
  have hP1 : w.heap.size + 1 < ((w.alloc (.cells #[.slice A n cap] 22)).alloc (.cells #[.int .i64 s] 2)).heap.size := by omega
  have hsky : wb.cell? ⟨w.heap.size + 1, 0, none⟩ = some (.int .i64 s) := by
    rw [hbb.cell (p := ⟨w.heap.size + 1, 0, none⟩) (by show _ + 1 < _; omega), hba.cell (p := ⟨w.heap.size + 1, 0, none⟩) hP1, World.cell?_alloc_at _ _ _ _ (by simp)]; rfl
  have hskf : wb.frozen? ⟨w.heap.size + 1, 0, none⟩ = false := by
    rw [hbb.frozen (p := ⟨w.heap.size + 1, 0, none⟩) (by show _ + 1 < _; omega), hba.frozen (p := ⟨w.heap.size + 1, 0, none⟩) hP1, World.frozen?_alloc_at _ _ _ _ (by simp)]
  have hbw : Below w.heap.size w wb := hb2.trans ((hba.mono hb2.size).trans (hbb.mono (by omega)))
  have hS0 : RainS w (wb.alloc (.cells #[.slice A' n cap'] 22)) (w.heap.size + 1) wb.heap.size wa.heap.size wb.heap.size A' n cap' (rsZ st C Am F T Z s 0) (rsS st C Am F T Z s 0) :=
    ⟨hbw.alloc hbw.size _, by rw [World.cell?_alloc_lt _ _ _ (by show _ + 1 < _; omega)]; exact hsky, by rw [World.frozen?_alloc_past _ _ _ (by omega)]; exact hskf, by rw [World.cell?_alloc_new]; rfl,
      hown.below ((Below.refl _ _).alloc (Nat.le_refl _) _), by omega, by omega, Nat.le_refl _, by simp, by omega⟩
  clear hsky hskf hP1 hsz0 hown hb2 hP hbx HW hwa hz hnil q2 q4 q5
  go_loopw [44] (fun i wr => ∃ k : Nat, k ≤ m ∧ i = .int .i64 k ∧ RainS w wr (w.heap.size + 1) wb.heap.size wa.heap.size wb.heap.size A' n cap' (rsZ st C Am F T Z s k) (rsS st C Am F T Z s k)) (fun i _ => m - (intOf i).toNat)
  case atStart => exact ⟨0, Nat.zero_le _, rfl, hS0⟩
  case round =>
    obtain ⟨k, hk, rfl, hS⟩ := hrel
    by_cases hlt : k < m
    · obtain ⟨b, off, rfl, hbl, g0, g1, g2, g3⟩ := hr.below hS.below k hlt
      obtain ⟨v1, v2, v3, v4, -, -⟩ := T6.out k hlt
      obtain ⟨c, hcc⟩ : ∃ c : Nat, C k = c := ⟨(C k).toNat, by omega⟩
      rw [hcc] at g0
      have hcn : c < n := by omega
      obtain ⟨hbz, hs0, hs1⟩ := hbd.out k (by omega)
      obtain ⟨hz0, hz1⟩ := hbz c hcn
      have hs1 : rsS st C Am F T Z s k ≤ 4616189618054758400 := by omega
      have hz1 : rsZ st C Am F T Z s k c ≤ 4616189618054758400 := by omega
      have HC := Lib.hid hcc
      clear hr hbz hcc v1 v2
      rcases (show st < F k ∨ (F k ≤ st ∧ T k ≤ st) ∨ (F k ≤ st ∧ st < T k ∧ 0 < Am k) ∨ (F k ≤ st ∧ st < T k ∧ Am k < 0) ∨ (F k ≤ st ∧ st < T k ∧ Am k = 0) by omega) with d1 | ⟨d1, d2⟩ | ⟨d1, d2, d3⟩ | ⟨d1, d2, d3⟩ | ⟨d1, d2, d3⟩
      · have E := Lib.hid (rs_dry (Z := Z) (s := s) (C := C) (A := Am) (F := F) (T := T) (k := k) (.inl d1))
        go_wp2
        go_roundw
        case rel => exact ⟨k + 1, by omega, by go_num, by rw [E.out.1, E.out.2]; exact hS.on ((Below.refl _ _).alloc (Nat.le_refl _) _)⟩
        case measure => simp [intOf]; omega
      · have E := Lib.hid (rs_dry (Z := Z) (s := s) (C := C) (A := Am) (F := F) (T := T) (k := k) (.inr d2))
        go_wp2
        go_roundw
        case rel => exact ⟨k + 1, by omega, by go_num, by rw [E.out.1, E.out.2]; exact hS.on ((Below.refl _ _).alloc (Nat.le_refl _) _)⟩
        case measure => simp [intOf]; omega
      · have E := rs_falls (Z := Z) (s := s) (C := C) (A := Am) (F := F) (T := T) (k := k) (by omega : ¬ (st < F k ∨ T k ≤ st)) (by omega)
        rw [HC.out, Int.toNat_natCast] at E
        have E := Lib.hid E
        have ha0 : 0 ≤ Am k := by omega
        have ha1 := v4
        go_wp2_with (first | (go_at_call 20; ((with_reducible refine (falls_any w (w.heap.size + 1) wb.heap.size wa.heap.size wb.heap.size A' n cap' _ _ c _ _ (hS.on ((Below.refl _ _).alloc (Nat.le_refl _) _)) hcn ha0 ha1 hs0 hs1 hz0 hz1).mono ?_)); rintro e w' ⟨rfl, hS'⟩))
        go_roundw
        case rel => exact ⟨k + 1, by omega, by go_num, by rw [E.out.1, E.out.2]; exact hS'⟩
        case measure => simp [intOf]; omega
      · have E := rs_rises (Z := Z) (s := s) (C := C) (A := Am) (F := F) (T := T) (k := k) (by omega : ¬ (st < F k ∨ T k ≤ st)) (by omega)
        rw [HC.out, Int.toNat_natCast] at E
        have E := Lib.hid E
        have ha0 : 0 ≤ -Am k := by omega
        have ha1 : -Am k ≤ 4503599627370496 := by omega
        go_wp2_with (first | (go_at_call 21; ((with_reducible refine (rises_any w (w.heap.size + 1) wb.heap.size wa.heap.size wb.heap.size A' n cap' _ _ c _ _ (hS.on ((Below.refl _ _).alloc (Nat.le_refl _) _)) hcn ha0 ha1 hs0 hs1 hz0 hz1).mono ?_)); rintro e w' ⟨rfl, hS'⟩))
        go_roundw
        case rel => exact ⟨k + 1, by omega, by go_num, by rw [E.out.1, E.out.2]; exact hS'⟩
        case measure => simp [intOf]; omega
      · have E := Lib.hid (rs_nil (Z := Z) (s := s) (C := C) (A := Am) (F := F) (T := T) (k := k) (by omega : ¬ (st < F k ∨ T k ≤ st)) d3 hs0)
        rw [d3] at g1
        go_wp2
        go_roundw
        case rel => exact ⟨k + 1, by omega, by go_num, by rw [E.out.1, E.out.2]; exact hS.on ((Below.refl _ _).alloc (Nat.le_refl _) _)⟩
        case measure => simp [intOf]; omega
    · have hkm : k = m := by omega
      subst hkm
      have e1 := hS.sky
      have e2 := hS.box
      have e3 := hS.below
      have e4 := hS.own.wide (lo' := w.heap.size) (by omega)
      have E4 := Lib.hid e4
      clear e4 hS
      go_wp2
      go_region
      all_goals (try go_wp2)
      all_goals
        refine bodyPost_ret (results_tmp3 rfl _ _ _) rfl ?_
        exact ⟨A', cap', rfl, hc2, E4.out, by first | exact e3 | exact e3.drew⟩
end Go.Proofs.Ytbjkofjkpfgimaa
