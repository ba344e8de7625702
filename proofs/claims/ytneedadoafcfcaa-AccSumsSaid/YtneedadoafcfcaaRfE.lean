/- The reference's carried. -/
import Derived.Test.YtneedadoafcfcaaRfM
import Derived.Test.YtneedadoafcfcaaRfV
import Derived.Laws.CopyOwn
namespace Go.Proofs.Ytneedadoafcfcaa
open Go Go.RowKit TF

attribute [local go_sem] cmp_eq cmp_ne cmp_lt cmp_gt cmp_le cmp_ge

def IL (d : Nat → Int) : List Value := (List.range 136).map (fun i => .int .i64 (d i))
theorem IL_length (d : Nat → Int) : (IL d).length = 136 := by simp [IL]
theorem IL_size (d : Nat → Int) : (IL d).toArray.size = 136 := by simp [IL]
theorem IL_one (d : Nat → Int) : (IL d).toArray.all (·.oneCell') = true := by
  rw [Array.all_eq_true]
  intro i hi
  simp only [IL, List.getElem_toArray, List.getElem_map]
  rfl
theorem IL_at (d : Nat → Int) {j : Nat} (hj : j < 136) : (IL d)[j]? = some (.int .i64 (d j)) := by
  unfold IL; rw [List.getElem?_map, List.getElem?_range hj]; rfl
theorem IL_get {d : Nat → Int} {j : Nat} {v : Value} (h : (IL d)[j]? = some v) : j < 136 ∧ v = .int .i64 (d j) := by
  unfold IL at h
  rw [List.getElem?_map] at h
  by_cases hj : j < 136
  · rw [List.getElem?_range hj] at h
    cases h; exact ⟨hj, rfl⟩
  · rw [List.getElem?_eq_none (by simp; omega)] at h; cases h
theorem IL_ext {d e : Nat → Int} (h : ∀ i, i < 136 → d i = e i) : IL d = IL e := by
  unfold IL
  exact List.map_congr_left fun i hi => by rw [h i (List.mem_range.1 hi)]
theorem ref_range {w : World} {b : Nat} {s : RefS} (h : RefAt w b s) : w.rangeAt b 0 (IL s.l) := by
  intro j v hv
  obtain ⟨hj, rfl⟩ := IL_get hv
  rw [Nat.zero_add]; exact (h.word j hj).1
/-- 136 limbs at a block of their own. -/
def ArrAt (w : World) (L : Nat) (d : Nat → Int) : Prop := w.heap[L]? = some (.cells (IL d).toArray 68 (0, 0))
theorem ArrAt.cell {w : World} {L : Nat} {d : Nat → Int} (h : ArrAt w L d) {i : Nat} (hi : i < 136) : CellIs w L i (.int .i64 (d i)) := by
  refine ⟨?_, ?_⟩
  · rw [cell_of_row w L i _ _ (0, 0) h, List.getElem?_toArray, IL_at d hi]
  · unfold World.frozen?; rw [h]; simp
theorem ArrAt.lt {w : World} {L : Nat} {d : Nat → Int} (h : ArrAt w L d) : L < w.heap.size := (Array.getElem?_eq_some_iff.1 h).1
theorem ArrAt.ext {w : World} {L : Nat} {d e : Nat → Int} (h : ArrAt w L d) (he : ∀ i, i < 136 → d i = e i) : ArrAt w L e := by
  unfold ArrAt at *; rw [← IL_ext he]; exact h
theorem ArrAt.set {w : World} {L : Nat} {d : Nat → Int} (h : ArrAt w L d) (i : Nat) (v : Int) : ArrAt (w.setCell ⟨L, i, none⟩ (.int .i64 v)) L (upw d i v) := by
  refine (heap_setCell_same w L i _ _ _ h).trans ?_
  congr 2
  apply Array.ext_getElem?
  intro j
  rw [Array.getElem?_setIfInBounds, List.getElem?_toArray, List.getElem?_toArray]
  by_cases hj : j < 136
  · rw [IL_at _ hj, IL_at _ hj]
    by_cases e : i = j
    · subst e; rw [if_pos rfl, if_pos (by rw [IL_size]; exact hj), upw_at]
    · rw [if_neg e, upw_off _ _ (Ne.symm e)]
  · rw [List.getElem?_eq_none (by rw [IL_length]; omega), List.getElem?_eq_none (by rw [IL_length]; omega)]
    by_cases e : i = j
    · rw [if_pos e, if_neg (by rw [IL_size]; omega)]
    · rw [if_neg e]
theorem sizeA : (Try.prog.info? 68).map (·.size) = some 136 := by kernel_rfl
def ZA : Array Value := Array.replicate 136 (.int .i64 0)
theorem zeroA : ∀ w : World, (zeroValue 68).run Try.prog w = .ok (.agg ZA) w := fun _ => by kernel_rfl
theorem results_cell_tmp {P : Program} {fn : Func} {p t : Tmp} {ty : TypeId} (h : fn.results = #[.cell p ty, .tmp t]) (tmps : Array Value) (w : World) (g : Nat) (u : TypeId) (cs : Array Value) (fr : Nat × Nat) (d : TypeDesc)
    (hp : tmps.getD p undef = .pointer (some ⟨g, 0, none⟩)) (hg : w.heap[g]? = some (.cells cs u fr))
    (hu : P.underlying ty = some d) (hd : (match d with | .struct _ | .array _ _ => true | _ => false) = true) (hi : (P.info? ty).map (·.size) = some cs.size) :
    (results fn tmps).run P w = .ok (.tuple #[.agg cs, tmps.getD t undef]) w := by
  have hp' : tmps[p]?.getD undef = .pointer (some ⟨g, 0, none⟩) := by simpa using hp
  simp [results, h, hp', asAddr, run_loadVar_row w g u ty cs fr d hg hu hd hi]
/-- the world in which the two arrays lie. -/
structure CarS (w wr : World) (d : Nat → Int) : Prop where
  a : wr.heap[w.heap.size]? = some (.cells ZA 68 (0, 0))
  l : ArrAt wr (w.heap.size + 1) d
  below : Below w.heap.size w wr
theorem CarS.set {w wr : World} {d : Nat → Int} (h : CarS w wr d) (i : Nat) (v : Int) : CarS w (wr.setCell ⟨w.heap.size + 1, i, none⟩ (.int .i64 v)) (upw d i v) :=
  ⟨(heap_setCell_other wr _ _ _ (by simp)).trans h.a, h.l.set i v, h.below.setCell (by simp) _⟩
theorem CarS.ext {w wr : World} {d e : Nat → Int} (h : CarS w wr d) (he : ∀ i, i < 136 → d i = e i) : CarS w wr e := ⟨h.a, h.l.ext he, h.below⟩
theorem part_next {l D : Nat → Int} {k : Nat} : ∀ i, i < 136 → upw (partW l D k) k (D k) i = partW l D (k + 1) i := fun i _ => by
  by_cases e : i = k
  · subst e; rw [upw_at]; unfold partW; rw [if_pos (by omega)]
  · rw [upw_off _ _ e]; unfold partW
    by_cases h1 : i < k
    · rw [if_pos h1, if_pos (by omega)]
    · rw [if_neg h1, if_neg (by omega)]
def CarRel (w : World) (l : Nat → Int) (c i : Value) (wr : World) : Prop :=
  ∃ k : Nat, k ≤ 136 ∧ c = .int .i64 (cR l k) ∧ i = .int .i64 k ∧ CarS w wr (partW l (dR l) k)
/-- one step of carrying, as the machine reckons it. -/
theorem step_cases (v : Int) :
    ∃ t D c : Int, v.tmod 4294967296 = t ∧ v % 4294967296 = D ∧ v / 4294967296 = c ∧ (v - D).tdiv 4294967296 = c ∧ -4294967296 < t ∧ t < 4294967296 ∧ 0 ≤ D ∧ D < 4294967296 ∧ ((0 ≤ t ∧ D = t) ∨ (t < 0 ∧ D = t + 4294967296)) := by
  refine ⟨_, _, _, rfl, rfl, rfl, ?_, ?_⟩
  · have hd := Int.emod_add_mul_ediv v 4294967296
    have e : v - v % 4294967296 = v / 4294967296 * 4294967296 := by omega
    rw [e]; exact Int.mul_tdiv_cancel _ (by decide)
  · have b1 := Int.tmod_lt_of_pos v (show (0 : Int) < 4294967296 by decide)
    have b2 := Int.lt_tmod_of_pos v (show (0 : Int) < 4294967296 by decide)
    refine ⟨by omega, b1, by omega, by omega, ?_⟩
    have e := Int.tmod_eq_emod (a := v) (b := 4294967296)
    split at e
    · left; omega
    · omega
def NgRel (w : World) (l : Nat → Int) (i : Value) (wr : World) : Prop :=
  ∃ k : Nat, k ≤ 136 ∧ i = .int .i64 k ∧ CarS w wr (partW l (fun i => -l i) k)
def OutRel (w : World) (l : Nat → Int) (n r : Value) (wr : World) : Prop :=
  (n = .bool false ∧ r = .int .i64 0 ∧ CarS w wr l) ∨ (n = .bool true ∧ r = .int .i64 1 ∧ CarS w wr (fun i => -l i) ∧ cR l 136 < 0)
def CarP (w : World) (D : Nat → Int) (neg : Bool) (e : Ending) (w' : World) : Prop := e = .returned (.tuple #[.agg (IL D).toArray, .bool neg]) ∧ Below w.heap.size w w'

set_option maxHeartbeats 4000000 in
set_option maxRecDepth 100000 in
theorem rcarried_any (b : Nat) (s : RefS) (w : World) (h : RefAt w b s) (hl : ∀ i, i < 136 → -36028797018963968 ≤ s.l i ∧ s.l i ≤ 36028797018963968) (hneg : cR s.l 136 < 0 → 0 ≤ cR (fun i => -s.l i) 136) :
    Calls Try.prog 44 #[.pointer (some ⟨b, 0, none⟩)] w (CarP w (if cR s.l 136 < 0 then dR (fun i => -s.l i) else dR s.l) (decide (cR s.l 136 < 0))) := by
  have zA := zeroA
  have hbl := h.lt
  obtain ⟨DD, hDD⟩ : ∃ D, D = (if cR s.l 136 < 0 then dR (fun i => -s.l i) else dR s.l) := ⟨_, rfl⟩
  obtain ⟨NN, hNN⟩ : ∃ D, D = decide (cR s.l 136 < 0) := ⟨_, rfl⟩
  rw [← hDD, ← hNN]
  have HP : Hid (∀ w', w'.heap[b]? = w.heap[b]? → World.rangeAt w' b 0 (IL s.l)) := Lib.hid fun w' e => ref_range (h.cong e)
  have HL := Lib.hid (⟨hl, cR_small hl, cR_small (l := fun i => -s.l i) (fun i hi => by have := hl i hi; omega), hneg, hDD, hNN⟩ : _ ∧ _ ∧ _ ∧ _ ∧ _ ∧ _)
  obtain ⟨l, hlq⟩ : ∃ l, l = s.l := ⟨_, rfl⟩
  rw [← hlq] at HP HL
  clear h hl hneg hDD hNN hlq
  obtain ⟨W2, hW2⟩ : ∃ W2, ((w.alloc (.cells ZA 68)).alloc (.cells ZA 68)).setRow (w.heap.size + 1) (IL l).toArray = W2 := ⟨_, rfl⟩
  have HZ : Hid (((w.alloc (.cells ZA 68)).alloc (.cells ZA 68)).heap[w.heap.size + 1]? = some (.cells ZA 68 (0, 0))) := Lib.hid (by
    show ((w.heap.push _).push _)[w.heap.size + 1]? = _
    rw [Array.getElem?_push, if_pos (by simp)])
  have ST : Hid (CarS w W2 l) := Lib.hid (by
    rw [← hW2]
    refine ⟨?_, setRow_heap _ _ _ _ _ _ HZ.out, below_setRow (((Below.refl _ _).alloc (Nat.le_refl _) _).alloc (by simp) _) (by omega) _⟩
    rw [setRow_other _ _ _ _ (by omega)]
    show ((w.heap.push _).push _)[w.heap.size]? = _
    rw [Array.getElem?_push, if_neg (by simp), Array.getElem?_push, if_pos rfl])
  have HP1 : Hid (World.rangeAt (w.alloc (.cells ZA 68)) b 0 (IL l)) := Lib.hid (HP.out _ (by show (w.heap.push _)[b]? = _; rw [Array.getElem?_push, if_neg (by omega)]))
  go_enter Try.func44, Try.ntmps44
  go_wp2_with (first | (refine wpList_load_mid rfl 68 _ rfl b 0 rfl (IL l) _ HP1.out Try.underlying68 rfl (by rw [IL_length]; exact sizeA) ?_) | (refine wpList_store_row rfl 68 _ _ rfl (w.heap.size + 1) (IL l).toArray rfl rfl 68 ZA HZ.out (by rw [IL_size]; exact sizeA) (by rw [IL_size]; rfl) (IL_one l) ?_; rw [hW2]))
  go_loopw [5, 6] (fun n r wr => OutRel w l n r wr) (fun _ r _ => 2 - (intOf r).toNat)
  case atStart => exact .inl ⟨rfl, rfl, ST.out⟩
  case round =>
    obtain ⟨wo, hwo⟩ : ∃ wo : World, wo = wr := ⟨_, rfl⟩
    rw [← hwo] at hrel ⊢
    clear hwo
    rcases hrel with ⟨rfl, rfl, hst⟩ | ⟨rfl, rfl, hst, hneg⟩
    · have HS := Lib.hid hst
      clear hst
      go_wp2_with fail
      go_loopw [7, 8] (fun c i wx => CarRel w (l) c i wx) (fun _ i _ => 136 - (intOf i).toNat)
      case atStart => exact ⟨0, by omega, rfl, rfl, HS.out.ext (fun i _ => by unfold partW; rw [if_neg (by omega)])⟩
      case round =>
        obtain ⟨k, hk, rfl, rfl, hcar⟩ := hrel
        obtain ⟨cb1, cb2⟩ := HL.out.2.1 k hk
        by_cases hlt : k < 136
        · have hl2 : (k : Int) < 136 := by omega
          obtain ⟨x1, x2⟩ := hcar.l.cell hlt
          have hpart : partW (l) (dR (l)) k k = (l) k := by unfold partW; rw [if_neg (by omega)]
          rw [hpart] at x1
          have bl := hcar.l.lt
          have hu : -36028797018963968 ≤ (l) k ∧ (l) k ≤ 36028797018963968 := by have := HL.out.1 k hlt; first | exact this | (dsimp only; omega)
          obtain ⟨t, D, c', ht, hD, hc, hq, t1, t2, D0, D9, hcase⟩ := step_cases ((l) k + cR (l) k)
          have e1 : dR (l) k = D := hD
          have e2 : cR (l) (k + 1) = c' := hc
          have cb : -36028797018963968 ≤ c' ∧ c' ≤ 36028797018963968 := by rw [← e2]; exact HL.out.2.1 (k + 1) hlt
          have hnext := hcar.set k D
          obtain ⟨u, hU⟩ : ∃ u, u = (l) k := ⟨_, rfl⟩
          obtain ⟨c0, hc0⟩ : ∃ u, u = cR (l) k := ⟨_, rfl⟩
          rw [← hU] at x1 hu ht hq
          rw [← hc0] at ht hq cb1 cb2 ⊢
          obtain ⟨u1, u2⟩ := hu
          obtain ⟨c1, c2⟩ := cb
          have KEEP := Lib.hid (⟨hnext, e1, e2⟩ : _ ∧ _ ∧ _)
          clear hcar hnext e1 e2 hD hc hU hc0 hpart
          rcases hcase with ⟨h1, rfl⟩ | ⟨h1, rfl⟩
          all_goals
            go_wp2_with fail
            go_roundw
            case rel =>
              obtain ⟨r1, r2, r3⟩ := KEEP.out
              exact ⟨k + 1, by omega, by rw [r3], by go_num, r1.ext (fun i hi => by rw [← r2]; exact part_next i hi)⟩
            case measure => simp [intOf]; omega
        · have hk9 : k = 136 := by omega
          subst hk9
          have hfull : CarS w wr (dR l) := hcar.ext (fun i hi => by unfold partW; rw [if_pos hi])
          by_cases hc : cR l 136 < 0
          · have bl := hcar.l.lt
            have HF := Lib.hid (⟨hfull, hc⟩ : _ ∧ _)
            obtain ⟨c0, hc0⟩ : ∃ u, u = cR l 136 := ⟨_, rfl⟩
            rw [← hc0] at hc ⊢
            have HPb : Hid (World.rangeAt wr b 0 (IL l)) := Lib.hid (HP.out wr (hfull.below.block b hbl))
            obtain ⟨W3, hW3⟩ : ∃ W3, W3 = wr.setRow (w.heap.size + 1) (IL l).toArray := ⟨_, rfl⟩
            have S3 : Hid (CarS w W3 l) := Lib.hid (by
              rw [hW3]
              refine ⟨?_, setRow_heap _ _ _ _ _ _ hfull.l, below_setRow hfull.below (by omega) _⟩
              rw [setRow_other _ _ _ _ (by omega)]
              exact hfull.a)
            have HLr : Hid (wr.heap[w.heap.size + 1]? = some (.cells (IL (dR l)).toArray 68 (0, 0))) := Lib.hid hfull.l
            clear hcar hfull hc0 cb1 cb2 hk hlt
            go_wp2_with (first | (refine wpList_load_mid rfl 68 _ rfl b 0 rfl (IL l) _ HPb.out Try.underlying68 rfl (by rw [IL_length]; exact sizeA) ?_) | (refine wpList_store_row rfl 68 _ _ rfl (w.heap.size + 1) (IL l).toArray rfl rfl 68 (IL (dR l)).toArray HLr.out (by rw [IL_size]; exact sizeA) (by rw [IL_size, IL_size]) (IL_one l) ?_; rw [← hW3]))
            go_loopw [11] (fun i wx => NgRel w l i wx) (fun i _ => 136 - (intOf i).toNat)
            case atStart => rw [← hW3]; exact ⟨0, by omega, rfl, S3.out.ext (fun i _ => by unfold partW; rw [if_neg (by omega)])⟩
            case round =>
              obtain ⟨k, hk, rfl, hcar⟩ := hrel
              by_cases hlt : k < 136
              · have hl2 : (k : Int) < 136 := by omega
                obtain ⟨x1, x2⟩ := hcar.l.cell hlt
                have hpart : partW l (fun i => -l i) k k = l k := by unfold partW; rw [if_neg (by omega)]
                rw [hpart] at x1
                have bl := hcar.l.lt
                have hu := HL.out.1 k hlt
                have hnext := hcar.set k (-l k)
                obtain ⟨u, hU⟩ : ∃ u, u = l k := ⟨_, rfl⟩
                rw [← hU] at x1 hu hnext
                have kn := run_negi' Try.prog u (by omega)
                have KEEP := Lib.hid (⟨hnext, hU⟩ : _ ∧ _)
                obtain ⟨hu1, hu2⟩ := hu
                clear hcar hnext hU hpart
                go_wp2_with fail
                go_roundw
                case rel =>
                  obtain ⟨r1, r2⟩ := KEEP.out
                  exact ⟨k + 1, by omega, by go_num, r1.ext (fun i hi => by rw [r2]; exact part_next (D := fun i => -l i) i hi)⟩
                case measure => simp [intOf]; omega
              · have hk9 : k = 136 := by omega
                subst hk9
                have hng : CarS w wr (fun i => -l i) := hcar.ext (fun i hi => by unfold partW; rw [if_pos hi])
                have HNG := Lib.hid hng
                clear hcar hng
                go_wp2_with fail
                go_roundw
                case rel => exact .inr ⟨rfl, by first | rfl | go_num, HNG.out, HF.out.2⟩
                case measure => simp [intOf]
          · have hDD : DD = dR l := by rw [HL.out.2.2.2.2.1, if_neg hc]
            have HE : Hid (CarS w wr DD) := Lib.hid (by rw [hDD]; exact hfull)
            have HNN : Hid (NN = false) := Lib.hid (by rw [HL.out.2.2.2.2.2, decide_eq_false hc])
            obtain ⟨c0, hc0⟩ : ∃ u, u = cR l 136 := ⟨_, rfl⟩
            rw [← hc0] at hc ⊢
            clear hcar hfull hDD hc0 cb1 cb2 hk hlt
            go_wp2_with (first | (refine wpList_load_row rfl 68 _ rfl (w.heap.size + 1) rfl 68 (IL DD).toArray (0, 0) _ HE.out.l Try.underlying68 rfl (by rw [IL_size]; exact sizeA) ?_) | (refine wpList_store_row rfl 68 _ _ rfl w.heap.size (IL DD).toArray rfl rfl 68 ZA HE.out.a (by rw [IL_size]; exact sizeA) (by rw [IL_size]; rfl) (IL_one DD) ?_))
            refine bodyPost_ret (v := .tuple #[.agg (IL DD).toArray, .bool false]) (results_cell_tmp (p := 2) (t := 3) rfl _ _ w.heap.size 68 (IL DD).toArray (0, 0) _ rfl (setRow_heap _ _ _ _ _ _ HE.out.a) Try.underlying68 rfl (by rw [IL_size]; exact sizeA)) rfl ⟨?_, below_setRow HE.out.below (Nat.le_refl _) _⟩
            rw [HNN.out]
    · have HS := Lib.hid hst
      have HNEG := Lib.hid hneg
      clear hst hneg
      go_wp2_with fail
      go_loopw [7, 8] (fun c i wx => CarRel w (fun i => -l i) c i wx) (fun _ i _ => 136 - (intOf i).toNat)
      case atStart => exact ⟨0, by omega, rfl, rfl, HS.out.ext (fun i _ => by unfold partW; rw [if_neg (by omega)])⟩
      case round =>
        obtain ⟨k, hk, rfl, rfl, hcar⟩ := hrel
        obtain ⟨cb1, cb2⟩ := HL.out.2.2.1 k hk
        by_cases hlt : k < 136
        · have hl2 : (k : Int) < 136 := by omega
          obtain ⟨x1, x2⟩ := hcar.l.cell hlt
          have hpart : partW (fun i => -l i) (dR (fun i => -l i)) k k = (fun i => -l i) k := by unfold partW; rw [if_neg (by omega)]
          rw [hpart] at x1
          have bl := hcar.l.lt
          have hu : -36028797018963968 ≤ (fun i => -l i) k ∧ (fun i => -l i) k ≤ 36028797018963968 := by have := HL.out.1 k hlt; first | exact this | (dsimp only; omega)
          obtain ⟨t, D, c', ht, hD, hc, hq, t1, t2, D0, D9, hcase⟩ := step_cases ((fun i => -l i) k + cR (fun i => -l i) k)
          have e1 : dR (fun i => -l i) k = D := hD
          have e2 : cR (fun i => -l i) (k + 1) = c' := hc
          have cb : -36028797018963968 ≤ c' ∧ c' ≤ 36028797018963968 := by rw [← e2]; exact HL.out.2.2.1 (k + 1) hlt
          have hnext := hcar.set k D
          obtain ⟨u, hU⟩ : ∃ u, u = (fun i => -l i) k := ⟨_, rfl⟩
          obtain ⟨c0, hc0⟩ : ∃ u, u = cR (fun i => -l i) k := ⟨_, rfl⟩
          rw [← hU] at x1 hu ht hq
          rw [← hc0] at ht hq cb1 cb2 ⊢
          obtain ⟨u1, u2⟩ := hu
          obtain ⟨c1, c2⟩ := cb
          have KEEP := Lib.hid (⟨hnext, e1, e2⟩ : _ ∧ _ ∧ _)
          clear hcar hnext e1 e2 hD hc hU hc0 hpart
          rcases hcase with ⟨h1, rfl⟩ | ⟨h1, rfl⟩
          all_goals
            go_wp2_with fail
            go_roundw
            case rel =>
              obtain ⟨r1, r2, r3⟩ := KEEP.out
              exact ⟨k + 1, by omega, by rw [r3], by go_num, r1.ext (fun i hi => by rw [← r2]; exact part_next i hi)⟩
            case measure => simp [intOf]; omega
        · have hk9 : k = 136 := by omega
          subst hk9
          have hfull : CarS w wr (dR fun i => -l i) := hcar.ext (fun i hi => by unfold partW; rw [if_pos hi])
          have hc := HL.out.2.2.2.1 HNEG.out
          have hDD : DD = dR (fun i => -l i) := by rw [HL.out.2.2.2.2.1, if_pos HNEG.out]
          have HE : Hid (CarS w wr DD) := Lib.hid (by rw [hDD]; exact hfull)
          have HNN : Hid (NN = true) := Lib.hid (by rw [HL.out.2.2.2.2.2, decide_eq_true HNEG.out])
          obtain ⟨c0, hc0⟩ : ∃ u, u = cR (fun i => -l i) 136 := ⟨_, rfl⟩
          rw [← hc0] at hc ⊢
          clear hcar hfull hDD hc0 cb1 cb2 hk hlt
          go_wp2_with (first | (refine wpList_load_row rfl 68 _ rfl (w.heap.size + 1) rfl 68 (IL DD).toArray (0, 0) _ HE.out.l Try.underlying68 rfl (by rw [IL_size]; exact sizeA) ?_) | (refine wpList_store_row rfl 68 _ _ rfl w.heap.size (IL DD).toArray rfl rfl 68 ZA HE.out.a (by rw [IL_size]; exact sizeA) (by rw [IL_size]; rfl) (IL_one DD) ?_))
          refine bodyPost_ret (v := .tuple #[.agg (IL DD).toArray, .bool true]) (results_cell_tmp (p := 2) (t := 3) rfl _ _ w.heap.size 68 (IL DD).toArray (0, 0) _ rfl (setRow_heap _ _ _ _ _ _ HE.out.a) Try.underlying68 rfl (by rw [IL_size]; exact sizeA)) rfl ⟨?_, below_setRow HE.out.below (Nat.le_refl _) _⟩
          rw [HNN.out]
end Go.Proofs.Ytneedadoafcfcaa
