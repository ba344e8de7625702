/- The reference's Fall. -/
import Derived.Test.YtbjkofjkpfgimaaRainK
import Derived.Deep.RegionHeld3
namespace Go.Proofs.Ytbjkofjkpfgimaa
open Go Go.RowKit TF

theorem one_at (w : World) (t : TypeId) (a : Int) : ∀ (j : Nat) (u : Value), [Value.int .i64 a][j]? = some u → (w.alloc (.cells #[.int .i64 a] t)).cell? ((⟨w.heap.size, 0, none⟩ : Addr).add j) = some u := by
  intro j u hj
  rw [add_flat, Nat.zero_add, World.cell?_alloc_new]
  match j, hj with
  | 0, hj => exact hj
  | j + 1, hj => simp at hj
theorem one_one (a : Int) : ∀ u ∈ [Value.int .i64 a], u.oneCell' = true := by
  intro u hu
  simp at hu
  subst hu; rfl

set_option maxRecDepth 100000 in
set_option maxHeartbeats 4000000 in
theorem rfall_any (A : Option Addr) (n cap : Nat) (Z : Nat → Int) (s : Int) (R : Option Addr) (m cap2 : Nat) (C Am F T : Nat → Int) (st : Int) (w : World) (hn : n * 8 ≤ 140737488351232) (hm9 : m ≤ 9223372036854775807)
    (hz : IntsAt w A n Z) (hr : RainsAt w R m C Am F T) :
    Calls Try.prog 13 #[.slice A n cap, .int .i64 s, .slice R m cap2, .int .i64 st] w fun e w' => FallD w n (rsZ st C Am F T Z s m) (rsS st C Am F T Z s m) (refuseB n Z s m C Am F T st) e w' := by
  have hn9 : n ≤ 9223372036854775807 := by omega
  obtain ⟨i0, hi, hz0, hz1, hz2⟩ := info_parts info_i64
  rcases (show st < 0 ∨ (0 ≤ st ∧ s < 0) ∨ (0 ≤ st ∧ 0 ≤ s ∧ 4503599627370496 < s) ∨ (0 ≤ st ∧ 0 ≤ s ∧ s ≤ 4503599627370496 ∧ 1024 < m) ∨ (0 ≤ st ∧ 0 ≤ s ∧ s ≤ 4503599627370496 ∧ m ≤ 1024) by omega) with h1 | ⟨h1, h2⟩ | ⟨h1, h2, h3⟩ | ⟨h1, h2, h3, h4⟩ | ⟨h1, h2, h3, h4⟩
  · have hq : refuseB n Z s m C Am F T st = true := by simp [refuseB, h1]
    rw [hq]; clear hq
    go_enter Try.func13, Try.ntmps13
    go_wp2
    refine bodyPost_ret (results_tmp3 rfl _ _ _) rfl ?_
    exact .inl ⟨rfl, rfl, Below.refl _ _⟩
  · have hq : refuseB n Z s m C Am F T st = true := by simp [refuseB, outB, h2]
    rw [hq]; clear hq
    go_enter Try.func13, Try.ntmps13
    go_wp2
    refine bodyPost_ret (results_tmp3 rfl _ _ _) rfl ?_
    exact .inl ⟨rfl, rfl, Below.refl _ _⟩
  · have hq : refuseB n Z s m C Am F T st = true := by simp [refuseB, outB, h3]
    rw [hq]; clear hq
    go_enter Try.func13, Try.ntmps13
    go_wp2
    refine bodyPost_ret (results_tmp3 rfl _ _ _) rfl ?_
    exact .inl ⟨rfl, rfl, Below.refl _ _⟩
  · have hq : refuseB n Z s m C Am F T st = true := by simp [refuseB, h4]
    rw [hq]; clear hq
    go_enter Try.func13, Try.ntmps13
    go_wp2
    refine bodyPost_ret (results_tmp3 rfl _ _ _) rfl ?_
    exact .inl ⟨rfl, rfl, Below.refl _ _⟩
  · go_enter Try.func13, Try.ntmps13
    go_wp2
    go_loopw [11, 12] (fun v i wr => ∃ k : Nat, k ≤ n ∧ i = .int .i64 k ∧ wr.ownsRow w.heap.size 2 1 v k ((List.range k).map fun i => Value.int .i64 (Z i)) ∧ Below w.heap.size w wr ∧ Hid (∀ j, j < k → outB (Z j) = false)) (fun _ i _ => n - (intOf i).toNat)
    case atStart => exact ⟨0, Nat.zero_le _, rfl, World.ownsRow_lit w #[] 0 (Nat.le_refl _) (Nat.zero_le _) rfl, (Below.refl _ _).alloc (Nat.le_refl _) _, fun j hj => absurd hj (Nat.not_lt_zero _)⟩
    case round =>
      obtain ⟨k, hk, rfl, hown, hB, HJ⟩ := hrel
      by_cases hlt : k < n
      · have hl : (k : Int) < (n : Int) := by omega
        obtain ⟨b, off, rfl, hbl, g0⟩ := (hz.below hB) k hlt
        rcases (show Z k < 0 ∨ (0 ≤ Z k ∧ 4503599627370496 < Z k) ∨ (0 ≤ Z k ∧ Z k ≤ 4503599627370496) by omega) with q1 | ⟨q1, q2⟩ | ⟨q1, q2⟩
        · have hq : refuseB n Z s m C Am F T st = true := by
            have : anyB n (fun i => outB (Z i)) = true := anyB_true hlt (by simp [outB, q1])
            simp [refuseB, this]
          have HQ := Lib.hid hq
          clear hq
          go_wp2
          refine bodyPost_ret (results_tmp3 rfl _ _ _) rfl ?_
          exact .inl ⟨HQ.out, rfl, hB⟩
        · have hq : refuseB n Z s m C Am F T st = true := by
            have : anyB n (fun i => outB (Z i)) = true := anyB_true hlt (by simp [outB, q2])
            simp [refuseB, this]
          have HQ := Lib.hid hq
          clear hq
          go_wp2
          refine bodyPost_ret (results_tmp3 rfl _ _ _) rfl ?_
          exact .inl ⟨HQ.out, rfl, hB⟩
        · go_wp2_with (at_builtin; refine wpList_append_own _ rfl _ _ 22 rfl w.heap.size 2 i0 (.int .i64 0) 1 8 Try.underlying22 hi hz0 hz1 hz2 rfl (by decide) _ _ _ rfl (World.ownsRow.alloc hown _) ⟨wr.heap.size, 0, none⟩ 1 1 [.int .i64 (Z k)] rfl rfl (one_at _ _ _) (one_one _) (by unfold maxLen; omega) (by omega) (by have := hB.size; simp; omega) ?_; intro v' w1 hown' hgrow _)
          have hB1 : Below w.heap.size w w1 := ((hB.alloc hB.size _).grown hgrow (by have := hB.size; simp; omega) (by intro q hq; have := hown.lt q (by simpa [Act.eval] using hq); omega))
          rw [← range_app] at hown'
          have HO2 := Lib.hid hown'
          clear hown' hgrow hown
          go_wp2
          go_roundw
          case rel => exact ⟨k + 1, by omega, by go_num, HO2.out, hB1, fun j hj => by
            by_cases e : j = k
            · subst e; simp [outB]; omega
            · exact HJ.out j (by omega)⟩
          case measure => simp [intOf]; omega
      · have hkn : k = n := by omega
        subst hkn
        obtain ⟨L, capL, rfl, hcL, hO⟩ := own_of_row hown
        have hq4 : anyB k (fun i => outB (Z i)) = false := anyB_false.2 HJ.out
        have HQ4 := Lib.hid hq4
        have HZ : Hid (∀ i, i < k → 0 ≤ Z i ∧ Z i ≤ 4503599627370496) := Lib.hid (fun i hi => outB_false (HJ.out i hi))
        clear hown hq4
        obtain ⟨w1, hw1⟩ : ∃ w1, w1 = wr := ⟨_, rfl⟩
        have hB1 : Below w.heap.size w w1 := by rw [hw1]; exact hB
        have hO1 : OwnAt w1 w.heap.size w1.heap.size L k Z := by rw [hw1]; exact hO
        rw [← hw1]
        clear hw1 hO hB
        go_wp2
        go_loopw [13] (fun i wr => ∃ j : Nat, j ≤ m ∧ i = .int .i64 j ∧ Below w1.heap.size w1 wr ∧ Hid (∀ i, i < j → validB k (C i) (Am i) (F i) (T i) = true)) (fun i _ => m - (intOf i).toNat)
        case atStart => exact ⟨0, Nat.zero_le _, rfl, Below.refl _ _, fun j hj => absurd hj (Nat.not_lt_zero _)⟩
        case round =>
          obtain ⟨j, hj, rfl, hB, HV⟩ := hrel
          by_cases hlt : j < m
          · have hl : (j : Int) < (m : Int) := by omega
            obtain ⟨b, off, rfl, hbl, g0, g1, g2, g3⟩ := (hr.below (join hB1 hB)) j hlt
            cases hv : validB k (C j) (Am j) (F j) (T j) with
            | false =>
              have hq : refuseB k Z s m C Am F T st = true := by
                have : anyB m (fun i => !validB k (C i) (Am i) (F i) (T i)) = true := anyB_true hlt (by rw [hv]; rfl)
                simp [refuseB, this]
              have HQ := Lib.hid hq
              clear hq
              go_wp2_with (first | (go_at_call 11; ((with_reducible refine (rvalid_any _ _ _ _ _ _).mono ?_)); rintro e w2 ⟨rfl, hBv⟩))
              refine bodyPost_ret (results_tmp3 rfl _ _ _) rfl ?_
              exact .inl ⟨HQ.out, rfl, join hB1 (join hB hBv)⟩
            | true =>
              go_wp2_with (first | (go_at_call 11; ((with_reducible refine (rvalid_any _ _ _ _ _ _).mono ?_)); rintro e w2 ⟨rfl, hBv⟩))
              go_roundw
              case rel => exact ⟨j + 1, by omega, by go_num, join hB hBv, fun i hi => by
                by_cases e : i = j
                · subst e; exact hv
                · exact HV.out i (by omega)⟩
              case measure => simp [intOf]; omega
          · have hjm : j = m := by omega
            subst hjm
            have hq5 : anyB j (fun i => !validB k (C i) (Am i) (F i) (T i)) = false := anyB_false.2 fun i hi => by rw [HV.out i hi]; rfl
            have hq : refuseB k Z s j C Am F T st = false := by
              unfold refuseB; rw [HQ4.out, hq5, decide_eq_false (by omega : ¬ st < 0), decide_eq_false (by omega : ¬ 1024 < j)]; simp [outB]; omega
            have HQ := Lib.hid hq
            have HR : Hid (RainsOk k C Am F T j) := Lib.hid (fun i hi => validB_true (HV.out i hi))
            have HBD := Lib.hid (rs_bnd (st := st) HR.out HZ.out h2 h3)
            have hOs : OwnAt wr w.heap.size w1.heap.size L k (rsZ st C Am F T Z s 0) := hO1.below hB
            have hBw := join hB1 hB
            have hsz := hB.size
            clear hq hq5 hB hO1
            go_wp2
            go_loopw [1, 14] (fun x i wr => ∃ q : Nat, q ≤ j ∧ x = .int .i64 (rsS st C Am F T Z s q) ∧ i = .int .i64 q ∧ OwnAt wr w.heap.size w1.heap.size L k (rsZ st C Am F T Z s q) ∧ w1.heap.size ≤ wr.heap.size ∧ Below w.heap.size w wr) (fun _ i _ => j - (intOf i).toNat)
            case atStart => exact ⟨0, Nat.zero_le _, rfl, rfl, hOs, hsz, hBw⟩
            case round =>
              obtain ⟨q, hq, rfl, rfl, hO, hsz2, hB⟩ := hrel
              clear hOs hBw hsz
              by_cases hlt : q < j
              · have hl : (q : Int) < (j : Int) := by omega
                obtain ⟨b, off, rfl, hbl, g0, g1, g2, g3⟩ := (hr.below hB) q hlt
                obtain ⟨v1, v2, v3, v4, -, -⟩ := HR.out q hlt
                obtain ⟨c, hcc⟩ : ∃ c : Nat, C q = c := ⟨(C q).toNat, by omega⟩
                rw [hcc] at g0
                have hcn : c < k := by omega
                have hcn' : (c : Int) < (k : Int) := by omega
                obtain ⟨hbz, hs0, hs1⟩ := HBD.out q (by omega)
                obtain ⟨hz0', hz1'⟩ := hbz c hcn
                obtain ⟨bl, ol, rfl, o1, o2, o3, o4, o5⟩ := hO c hcn
                have hs2 : rsS st C Am F T Z s q ≤ 4616189618054758400 := by omega
                have hz2' : rsZ st C Am F T Z s q c ≤ 4616189618054758400 := by omega
                have HC := Lib.hid hcc
                have hB2 : Below w.heap.size w (wr.alloc (.cells #[.int .i64 c, .int .i64 (Am q), .int .i64 (F q), .int .i64 (T q)] 29)) := hB.alloc hB.size _
                have hO2 : OwnAt (wr.alloc (.cells #[.int .i64 c, .int .i64 (Am q), .int .i64 (F q), .int .i64 (T q)] 29)) w.heap.size w1.heap.size (some ⟨bl, ol, none⟩) k (rsZ st C Am F T Z s q) := hO.below ((Below.refl _ _).alloc hsz2 _)
                have HO2 := Lib.hid hO2
                have hst : ∀ v, OwnAt ((wr.setCell ⟨bl, ol + c, none⟩ (.int .i64 v)).alloc (.cells #[.int .i64 c, .int .i64 (Am q), .int .i64 (F q), .int .i64 (T q)] 29)) w.heap.size w1.heap.size (some ⟨bl, ol, none⟩) k (upd (rsZ st C Am F T Z s q) c v) :=
                  fun v => (hO.stored rfl hcn v).below ((Below.refl _ _).alloc (by simpa [World.setCell] using hsz2) _)
                have HST := Lib.hid hst
                have hsb : ∀ v, Below w.heap.size w ((wr.setCell ⟨bl, ol + c, none⟩ (.int .i64 v)).alloc (.cells #[.int .i64 c, .int .i64 (Am q), .int .i64 (F q), .int .i64 (T q)] 29)) := fun v => (hB.setCell o1 _).alloc (by simpa [World.setCell] using hB.size) _
                have HSB := Lib.hid hsb
                have HB2 := Lib.hid hB2
                clear hO hO2 hst hsb hB2 hbz hcc v1 v2
                rcases (show st < F q ∨ (F q ≤ st ∧ T q ≤ st) ∨ (F q ≤ st ∧ st < T q ∧ 0 ≤ Am q) ∨ (F q ≤ st ∧ st < T q ∧ Am q < 0) by omega) with d1 | ⟨d1, d2⟩ | ⟨d1, d2, d3⟩ | ⟨d1, d2, d3⟩
                · have E := Lib.hid (rs_dry (Z := Z) (s := s) (C := C) (A := Am) (F := F) (T := T) (k := q) (.inl d1))
                  go_wp2
                  go_roundw
                  case rel => exact ⟨q + 1, by omega, by rw [E.out.2], by go_num, by rw [E.out.1]; exact HO2.out, by simp; omega, HB2.out⟩
                  case measure => simp [intOf]; omega
                · have E := Lib.hid (rs_dry (Z := Z) (s := s) (C := C) (A := Am) (F := F) (T := T) (k := q) (.inr d2))
                  go_wp2
                  go_roundw
                  case rel => exact ⟨q + 1, by omega, by rw [E.out.2], by go_num, by rw [E.out.1]; exact HO2.out, by simp; omega, HB2.out⟩
                  case measure => simp [intOf]; omega
                · have E := rs_falls (Z := Z) (s := s) (C := C) (A := Am) (F := F) (T := T) (k := q) (by omega : ¬ (st < F q ∨ T q ≤ st)) d3
                  rw [HC.out, Int.toNat_natCast] at E
                  obtain ⟨d, hd⟩ : ∃ d, d = min (Am q) (rsS st C Am F T Z s q) := ⟨_, rfl⟩
                  rw [← hd] at E
                  have e1 : 0 ≤ d := by omega
                  have e2 : d ≤ Am q := by omega
                  have e3 : d ≤ rsS st C Am F T Z s q := by omega
                  have HL1 := Lib.hid (fun x => by have h := less_any (Am q) (rsS st C Am F T Z s q) x; rw [← hd] at h; exact h)
                  have E := Lib.hid E
                  clear hd
                  go_wp2_with (first | (go_at_call 22; ((with_reducible refine (HL1.out _).mono ?_)); rintro e w3 ⟨rfl, rfl⟩))
                  go_roundw
                  case rel => exact ⟨q + 1, by omega, by rw [E.out.2], by go_num, by rw [E.out.1]; exact HST.out _, by simp [World.setCell]; omega, HSB.out _⟩
                  case measure => simp [intOf]; omega
                · have E := rs_rises (Z := Z) (s := s) (C := C) (A := Am) (F := F) (T := T) (k := q) (by omega : ¬ (st < F q ∨ T q ≤ st)) d3
                  rw [HC.out, Int.toNat_natCast] at E
                  obtain ⟨d, hd⟩ : ∃ d, d = min (-Am q) (rsZ st C Am F T Z s q c) := ⟨_, rfl⟩
                  rw [← hd] at E
                  have e1 : 0 ≤ d := by omega
                  have e2 : d ≤ -Am q := by omega
                  have e3 : d ≤ rsZ st C Am F T Z s q c := by omega
                  have HL1 := Lib.hid (fun x => by have h := less_any (Am q) (rsS st C Am F T Z s q) x; rw [show min (Am q) (rsS st C Am F T Z s q) = Am q by omega] at h; exact h)
                  have HL2 := Lib.hid (fun x => by have h := less_any (-Am q) (rsZ st C Am F T Z s q c) x; rw [← hd] at h; exact h)
                  have E := Lib.hid E
                  have hw1 : IntKind.i64.wrap (-Am q) = -Am q := IntWalk.i64_in _ (by omega)
                  have hw2 : IntKind.i64.wrap (-d) = -d := IntWalk.i64_in _ (by omega)
                  clear hd
                  go_wp2_with (first | (go_at_call 22; ((with_reducible refine (HL1.out _).mono ?_)); rintro e w3 ⟨rfl, rfl⟩))
                  go_region_with (first | (go_at_call 22; ((with_reducible refine (HL2.out _).mono ?_)); rintro e w3 ⟨rfl, rfl⟩))
                  all_goals go_wp2
                  all_goals go_roundw
                  all_goals first
                    | exact ⟨q + 1, by omega, by rw [E.out.2] <;> go_num, by go_num, by rw [E.out.1, Int.sub_eq_add_neg]; exact HST.out _, by simp [World.setCell] <;> omega, by first | exact HSB.out _ | exact (HSB.out _).drew⟩
                    | (simp [intOf] <;> omega)
              · have hqj : q = j := by omega
                subst hqj
                have HOF := Lib.hid (hO.wide (Nat.le_refl _))
                clear hO
                go_wp2
                refine bodyPost_ret (results_tmp3 rfl _ _ _) rfl ?_
                exact .inr ⟨HQ.out, L, capL, rfl, hcL, HOF.out, hB⟩
end Go.Proofs.Ytbjkofjkpfgimaa
