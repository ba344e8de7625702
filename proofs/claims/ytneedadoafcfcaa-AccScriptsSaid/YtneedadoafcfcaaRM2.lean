/- The reference's sums: RfE, RfG, RfH. Laid together out of the texts of their own. -/
import Derived.Test.YtneedadoafcfcaaRM1
import Derived.Test.YtneedadoafcfcaaRfV
import Derived.Laws.CopyOwn
import Derived.Deep.DeepCutAuto
namespace Go.Proofs.Ytneedadoafcfcaa
/- The reference's carried. -/
section
open Go Go.RowKit TF

attribute [local go_sem] cmp_eq cmp_ne cmp_lt cmp_gt cmp_le cmp_ge

def IL (d : Nat → Int) : List Value := (List.range 136).map (fun i => .int .i64 (d i))
theorem IL_length (d : Nat → Int) : (IL d).length = 136 := by simp [IL]
theorem IL_size (d : Nat → Int) : (IL d).toArray.size = 136 := by simp [IL]
theorem IL_one (d : Nat → Int) : (IL d).toArray.all (·.oneCell') = true := by
  rw [Array.all_eq_true]
  intro i hi
  simp only [IL, List.getElem_toArray, List.getElem_map]
  rfl
theorem IL_at (d : Nat → Int) {j : Nat} (hj : j < 136) : (IL d)[j]? = some (.int .i64 (d j)) := by
  unfold IL; rw [List.getElem?_map, List.getElem?_range hj]; rfl
theorem IL_get {d : Nat → Int} {j : Nat} {v : Value} (h : (IL d)[j]? = some v) : j < 136 ∧ v = .int .i64 (d j) := by
  unfold IL at h
  rw [List.getElem?_map] at h
  by_cases hj : j < 136
  · rw [List.getElem?_range hj] at h
    cases h; exact ⟨hj, rfl⟩
  · rw [List.getElem?_eq_none (by simp; omega)] at h; cases h
theorem IL_ext {d e : Nat → Int} (h : ∀ i, i < 136 → d i = e i) : IL d = IL e := by
  unfold IL
  exact List.map_congr_left fun i hi => by rw [h i (List.mem_range.1 hi)]
theorem ref_range {w : World} {b : Nat} {s : RefS} (h : RefAt w b s) : w.rangeAt b 0 (IL s.l) := by
  intro j v hv
  obtain ⟨hj, rfl⟩ := IL_get hv
  rw [Nat.zero_add]; exact (h.word j hj).1
/-- 136 limbs at a block of their own. -/
def ArrAt (w : World) (L : Nat) (d : Nat → Int) : Prop := w.heap[L]? = some (.cells (IL d).toArray 68 (0, 0))
theorem ArrAt.cell {w : World} {L : Nat} {d : Nat → Int} (h : ArrAt w L d) {i : Nat} (hi : i < 136) : CellIs w L i (.int .i64 (d i)) := by
  refine ⟨?_, ?_⟩
  · rw [cell_of_row w L i _ _ (0, 0) h, List.getElem?_toArray, IL_at d hi]
  · unfold World.frozen?; rw [h]; simp
theorem ArrAt.lt {w : World} {L : Nat} {d : Nat → Int} (h : ArrAt w L d) : L < w.heap.size := (Array.getElem?_eq_some_iff.1 h).1
theorem ArrAt.ext {w : World} {L : Nat} {d e : Nat → Int} (h : ArrAt w L d) (he : ∀ i, i < 136 → d i = e i) : ArrAt w L e := by
  unfold ArrAt at *; rw [← IL_ext he]; exact h
theorem ArrAt.set {w : World} {L : Nat} {d : Nat → Int} (h : ArrAt w L d) (i : Nat) (v : Int) : ArrAt (w.setCell ⟨L, i, none⟩ (.int .i64 v)) L (upw d i v) := by
  refine (heap_setCell_same w L i _ _ _ h).trans ?_
  congr 2
  apply Array.ext_getElem?
  intro j
  rw [Array.getElem?_setIfInBounds, List.getElem?_toArray, List.getElem?_toArray]
  by_cases hj : j < 136
  · rw [IL_at _ hj, IL_at _ hj]
    by_cases e : i = j
    · subst e; rw [if_pos rfl, if_pos (by rw [IL_size]; exact hj), upw_at]
    · rw [if_neg e, upw_off _ _ (Ne.symm e)]
  · rw [List.getElem?_eq_none (by rw [IL_length]; omega), List.getElem?_eq_none (by rw [IL_length]; omega)]
    by_cases e : i = j
    · rw [if_pos e, if_neg (by rw [IL_size]; omega)]
    · rw [if_neg e]
theorem sizeA : (Try.prog.info? 68).map (·.size) = some 136 := by kernel_rfl
def ZA : Array Value := Array.replicate 136 (.int .i64 0)
theorem zeroA : ∀ w : World, (zeroValue 68).run Try.prog w = .ok (.agg ZA) w := fun _ => by kernel_rfl
theorem results_cell_tmp {P : Program} {fn : Func} {p t : Tmp} {ty : TypeId} (h : fn.results = #[.cell p ty, .tmp t]) (tmps : Array Value) (w : World) (g : Nat) (u : TypeId) (cs : Array Value) (fr : Nat × Nat) (d : TypeDesc)
    (hp : tmps.getD p undef = .pointer (some ⟨g, 0, none⟩)) (hg : w.heap[g]? = some (.cells cs u fr))
    (hu : P.underlying ty = some d) (hd : (match d with | .struct _ | .array _ _ => true | _ => false) = true) (hi : (P.info? ty).map (·.size) = some cs.size) :
    (results fn tmps).run P w = .ok (.tuple #[.agg cs, tmps.getD t undef]) w := by
  have hp' : tmps[p]?.getD undef = .pointer (some ⟨g, 0, none⟩) := by simpa using hp
  simp [results, h, hp', asAddr, run_loadVar_row w g u ty cs fr d hg hu hd hi]
/-- the world in which the two arrays lie. -/
structure CarS (w wr : World) (d : Nat → Int) : Prop where
  a : wr.heap[w.heap.size]? = some (.cells ZA 68 (0, 0))
  l : ArrAt wr (w.heap.size + 1) d
  below : Below w.heap.size w wr
theorem CarS.set {w wr : World} {d : Nat → Int} (h : CarS w wr d) (i : Nat) (v : Int) : CarS w (wr.setCell ⟨w.heap.size + 1, i, none⟩ (.int .i64 v)) (upw d i v) :=
  ⟨(heap_setCell_other wr _ _ _ (by simp)).trans h.a, h.l.set i v, h.below.setCell (by simp) _⟩
theorem CarS.ext {w wr : World} {d e : Nat → Int} (h : CarS w wr d) (he : ∀ i, i < 136 → d i = e i) : CarS w wr e := ⟨h.a, h.l.ext he, h.below⟩
theorem part_next {l D : Nat → Int} {k : Nat} : ∀ i, i < 136 → upw (partW l D k) k (D k) i = partW l D (k + 1) i := fun i _ => by
  by_cases e : i = k
  · subst e; rw [upw_at]; unfold partW; rw [if_pos (by omega)]
  · rw [upw_off _ _ e]; unfold partW
    by_cases h1 : i < k
    · rw [if_pos h1, if_pos (by omega)]
    · rw [if_neg h1, if_neg (by omega)]
def CarRel (w : World) (l : Nat → Int) (c i : Value) (wr : World) : Prop :=
  ∃ k : Nat, k ≤ 136 ∧ c = .int .i64 (cR l k) ∧ i = .int .i64 k ∧ CarS w wr (partW l (dR l) k)
/-- one step of carrying, as the machine reckons it. -/
theorem step_cases (v : Int) :
    ∃ t D c : Int, v.tmod 4294967296 = t ∧ v % 4294967296 = D ∧ v / 4294967296 = c ∧ (v - D).tdiv 4294967296 = c ∧ -4294967296 < t ∧ t < 4294967296 ∧ 0 ≤ D ∧ D < 4294967296 ∧ ((0 ≤ t ∧ D = t) ∨ (t < 0 ∧ D = t + 4294967296)) := by
  refine ⟨_, _, _, rfl, rfl, rfl, ?_, ?_⟩
  · have hd := Int.emod_add_mul_ediv v 4294967296
    have e : v - v % 4294967296 = v / 4294967296 * 4294967296 := by omega
    rw [e]; exact Int.mul_tdiv_cancel _ (by decide)
  · have b1 := Int.tmod_lt_of_pos v (show (0 : Int) < 4294967296 by decide)
    have b2 := Int.lt_tmod_of_pos v (show (0 : Int) < 4294967296 by decide)
    refine ⟨by omega, b1, by omega, by omega, ?_⟩
    have e := Int.tmod_eq_emod (a := v) (b := 4294967296)
    split at e
    · left; omega
    · omega
def NgRel (w : World) (l : Nat → Int) (i : Value) (wr : World) : Prop :=
  ∃ k : Nat, k ≤ 136 ∧ i = .int .i64 k ∧ CarS w wr (partW l (fun i => -l i) k)
def OutRel (w : World) (l : Nat → Int) (n r : Value) (wr : World) : Prop :=
  (n = .bool false ∧ r = .int .i64 0 ∧ CarS w wr l) ∨ (n = .bool true ∧ r = .int .i64 1 ∧ CarS w wr (fun i => -l i) ∧ cR l 136 < 0)
def CarP (w : World) (D : Nat → Int) (neg : Bool) (e : Ending) (w' : World) : Prop := e = .returned (.tuple #[.agg (IL D).toArray, .bool neg]) ∧ Below w.heap.size w w'

set_option maxHeartbeats 4000000 in
set_option maxRecDepth 100000 in
theorem rcarried_any (b : Nat) (s : RefS) (w : World) (h : RefAt w b s) (hl : ∀ i, i < 136 → -36028797018963968 ≤ s.l i ∧ s.l i ≤ 36028797018963968) (hneg : cR s.l 136 < 0 → 0 ≤ cR (fun i => -s.l i) 136) :
    Calls Try.prog 44 #[.pointer (some ⟨b, 0, none⟩)] w (CarP w (if cR s.l 136 < 0 then dR (fun i => -s.l i) else dR s.l) (decide (cR s.l 136 < 0))) := by
  have zA := zeroA
  have hbl := h.lt
  obtain ⟨DD, hDD⟩ : ∃ D, D = (if cR s.l 136 < 0 then dR (fun i => -s.l i) else dR s.l) := ⟨_, rfl⟩
  obtain ⟨NN, hNN⟩ : ∃ D, D = decide (cR s.l 136 < 0) := ⟨_, rfl⟩
  rw [← hDD, ← hNN]
  have HP : Hid (∀ w', w'.heap[b]? = w.heap[b]? → World.rangeAt w' b 0 (IL s.l)) := Lib.hid fun w' e => ref_range (h.cong e)
  have HL := Lib.hid (⟨hl, cR_small hl, cR_small (l := fun i => -s.l i) (fun i hi => by have := hl i hi; omega), hneg, hDD, hNN⟩ : _ ∧ _ ∧ _ ∧ _ ∧ _ ∧ _)
  obtain ⟨l, hlq⟩ : ∃ l, l = s.l := ⟨_, rfl⟩
  rw [← hlq] at HP HL
  clear h hl hneg hDD hNN hlq
  obtain ⟨W2, hW2⟩ : ∃ W2, ((w.alloc (.cells ZA 68)).alloc (.cells ZA 68)).setRow (w.heap.size + 1) (IL l).toArray = W2 := ⟨_, rfl⟩
  have HZ : Hid (((w.alloc (.cells ZA 68)).alloc (.cells ZA 68)).heap[w.heap.size + 1]? = some (.cells ZA 68 (0, 0))) := Lib.hid (by
    show ((w.heap.push _).push _)[w.heap.size + 1]? = _
    rw [Array.getElem?_push, if_pos (by simp)])
  have ST : Hid (CarS w W2 l) := Lib.hid (by
    rw [← hW2]
    refine ⟨?_, setRow_heap _ _ _ _ _ _ HZ.out, below_setRow (((Below.refl _ _).alloc (Nat.le_refl _) _).alloc (by simp) _) (by omega) _⟩
    rw [setRow_other _ _ _ _ (by omega)]
    show ((w.heap.push _).push _)[w.heap.size]? = _
    rw [Array.getElem?_push, if_neg (by simp), Array.getElem?_push, if_pos rfl])
  have HP1 : Hid (World.rangeAt (w.alloc (.cells ZA 68)) b 0 (IL l)) := Lib.hid (HP.out _ (by show (w.heap.push _)[b]? = _; rw [Array.getElem?_push, if_neg (by omega)]))
  go_enter Try.func44, Try.ntmps44
  go_wp2_with (first | (refine wpList_load_mid rfl 68 _ rfl b 0 rfl (IL l) _ HP1.out Try.underlying68 rfl (by rw [IL_length]; exact sizeA) ?_) | (refine wpList_store_row rfl 68 _ _ rfl (w.heap.size + 1) (IL l).toArray rfl rfl 68 ZA HZ.out (by rw [IL_size]; exact sizeA) (by rw [IL_size]; rfl) (IL_one l) ?_; rw [hW2]))
  go_loopw [5, 6] (fun n r wr => OutRel w l n r wr) (fun _ r _ => 2 - (intOf r).toNat)
  case atStart => exact .inl ⟨rfl, rfl, ST.out⟩
  case round =>
    obtain ⟨wo, hwo⟩ : ∃ wo : World, wo = wr := ⟨_, rfl⟩
    rw [← hwo] at hrel ⊢
    clear hwo
    rcases hrel with ⟨rfl, rfl, hst⟩ | ⟨rfl, rfl, hst, hneg⟩
    · have HS := Lib.hid hst
      clear hst
      go_wp2_with fail
      go_loopw [7, 8] (fun c i wx => CarRel w (l) c i wx) (fun _ i _ => 136 - (intOf i).toNat)
      case atStart => exact ⟨0, by omega, rfl, rfl, HS.out.ext (fun i _ => by unfold partW; rw [if_neg (by omega)])⟩
      case round =>
        obtain ⟨k, hk, rfl, rfl, hcar⟩ := hrel
        obtain ⟨cb1, cb2⟩ := HL.out.2.1 k hk
        by_cases hlt : k < 136
        · have hl2 : (k : Int) < 136 := by omega
          obtain ⟨x1, x2⟩ := hcar.l.cell hlt
          have hpart : partW (l) (dR (l)) k k = (l) k := by unfold partW; rw [if_neg (by omega)]
          rw [hpart] at x1
          have bl := hcar.l.lt
          have hu : -36028797018963968 ≤ (l) k ∧ (l) k ≤ 36028797018963968 := by have := HL.out.1 k hlt; first | exact this | (dsimp only; omega)
          obtain ⟨t, D, c', ht, hD, hc, hq, t1, t2, D0, D9, hcase⟩ := step_cases ((l) k + cR (l) k)
          have e1 : dR (l) k = D := hD
          have e2 : cR (l) (k + 1) = c' := hc
          have cb : -36028797018963968 ≤ c' ∧ c' ≤ 36028797018963968 := by rw [← e2]; exact HL.out.2.1 (k + 1) hlt
          have hnext := hcar.set k D
          obtain ⟨u, hU⟩ : ∃ u, u = (l) k := ⟨_, rfl⟩
          obtain ⟨c0, hc0⟩ : ∃ u, u = cR (l) k := ⟨_, rfl⟩
          rw [← hU] at x1 hu ht hq
          rw [← hc0] at ht hq cb1 cb2 ⊢
          obtain ⟨u1, u2⟩ := hu
          obtain ⟨c1, c2⟩ := cb
          have KEEP := Lib.hid (⟨hnext, e1, e2⟩ : _ ∧ _ ∧ _)
          clear hcar hnext e1 e2 hD hc hU hc0 hpart
          rcases hcase with ⟨h1, rfl⟩ | ⟨h1, rfl⟩
          all_goals
            go_wp2_with fail
            go_roundw
            case rel =>
              obtain ⟨r1, r2, r3⟩ := KEEP.out
              exact ⟨k + 1, by omega, by rw [r3], by go_num, r1.ext (fun i hi => by rw [← r2]; exact part_next i hi)⟩
            case measure => simp [intOf]; omega
        · have hk9 : k = 136 := by omega
          subst hk9
          have hfull : CarS w wr (dR l) := hcar.ext (fun i hi => by unfold partW; rw [if_pos hi])
          by_cases hc : cR l 136 < 0
          · have bl := hcar.l.lt
            have HF := Lib.hid (⟨hfull, hc⟩ : _ ∧ _)
            obtain ⟨c0, hc0⟩ : ∃ u, u = cR l 136 := ⟨_, rfl⟩
            rw [← hc0] at hc ⊢
            have HPb : Hid (World.rangeAt wr b 0 (IL l)) := Lib.hid (HP.out wr (hfull.below.block b hbl))
            obtain ⟨W3, hW3⟩ : ∃ W3, W3 = wr.setRow (w.heap.size + 1) (IL l).toArray := ⟨_, rfl⟩
            have S3 : Hid (CarS w W3 l) := Lib.hid (by
              rw [hW3]
              refine ⟨?_, setRow_heap _ _ _ _ _ _ hfull.l, below_setRow hfull.below (by omega) _⟩
              rw [setRow_other _ _ _ _ (by omega)]
              exact hfull.a)
            have HLr : Hid (wr.heap[w.heap.size + 1]? = some (.cells (IL (dR l)).toArray 68 (0, 0))) := Lib.hid hfull.l
            clear hcar hfull hc0 cb1 cb2 hk hlt
            go_wp2_with (first | (refine wpList_load_mid rfl 68 _ rfl b 0 rfl (IL l) _ HPb.out Try.underlying68 rfl (by rw [IL_length]; exact sizeA) ?_) | (refine wpList_store_row rfl 68 _ _ rfl (w.heap.size + 1) (IL l).toArray rfl rfl 68 (IL (dR l)).toArray HLr.out (by rw [IL_size]; exact sizeA) (by rw [IL_size, IL_size]) (IL_one l) ?_; rw [← hW3]))
            go_loopw [11] (fun i wx => NgRel w l i wx) (fun i _ => 136 - (intOf i).toNat)
            case atStart => rw [← hW3]; exact ⟨0, by omega, rfl, S3.out.ext (fun i _ => by unfold partW; rw [if_neg (by omega)])⟩
            case round =>
              obtain ⟨k, hk, rfl, hcar⟩ := hrel
              by_cases hlt : k < 136
              · have hl2 : (k : Int) < 136 := by omega
                obtain ⟨x1, x2⟩ := hcar.l.cell hlt
                have hpart : partW l (fun i => -l i) k k = l k := by unfold partW; rw [if_neg (by omega)]
                rw [hpart] at x1
                have bl := hcar.l.lt
                have hu := HL.out.1 k hlt
                have hnext := hcar.set k (-l k)
                obtain ⟨u, hU⟩ : ∃ u, u = l k := ⟨_, rfl⟩
                rw [← hU] at x1 hu hnext
                have kn := run_negi' Try.prog u (by omega)
                have KEEP := Lib.hid (⟨hnext, hU⟩ : _ ∧ _)
                obtain ⟨hu1, hu2⟩ := hu
                clear hcar hnext hU hpart
                go_wp2_with fail
                go_roundw
                case rel =>
                  obtain ⟨r1, r2⟩ := KEEP.out
                  exact ⟨k + 1, by omega, by go_num, r1.ext (fun i hi => by rw [r2]; exact part_next (D := fun i => -l i) i hi)⟩
                case measure => simp [intOf]; omega
              · have hk9 : k = 136 := by omega
                subst hk9
                have hng : CarS w wr (fun i => -l i) := hcar.ext (fun i hi => by unfold partW; rw [if_pos hi])
                have HNG := Lib.hid hng
                clear hcar hng
                go_wp2_with fail
                go_roundw
                case rel => exact .inr ⟨rfl, by first | rfl | go_num, HNG.out, HF.out.2⟩
                case measure => simp [intOf]
          · have hDD : DD = dR l := by rw [HL.out.2.2.2.2.1, if_neg hc]
            have HE : Hid (CarS w wr DD) := Lib.hid (by rw [hDD]; exact hfull)
            have HNN : Hid (NN = false) := Lib.hid (by rw [HL.out.2.2.2.2.2, decide_eq_false hc])
            obtain ⟨c0, hc0⟩ : ∃ u, u = cR l 136 := ⟨_, rfl⟩
            rw [← hc0] at hc ⊢
            clear hcar hfull hDD hc0 cb1 cb2 hk hlt
            go_wp2_with (first | (refine wpList_load_row rfl 68 _ rfl (w.heap.size + 1) rfl 68 (IL DD).toArray (0, 0) _ HE.out.l Try.underlying68 rfl (by rw [IL_size]; exact sizeA) ?_) | (refine wpList_store_row rfl 68 _ _ rfl w.heap.size (IL DD).toArray rfl rfl 68 ZA HE.out.a (by rw [IL_size]; exact sizeA) (by rw [IL_size]; rfl) (IL_one DD) ?_))
            refine bodyPost_ret (v := .tuple #[.agg (IL DD).toArray, .bool false]) (results_cell_tmp (p := 2) (t := 3) rfl _ _ w.heap.size 68 (IL DD).toArray (0, 0) _ rfl (setRow_heap _ _ _ _ _ _ HE.out.a) Try.underlying68 rfl (by rw [IL_size]; exact sizeA)) rfl ⟨?_, below_setRow HE.out.below (Nat.le_refl _) _⟩
            rw [HNN.out]
    · have HS := Lib.hid hst
      have HNEG := Lib.hid hneg
      clear hst hneg
      go_wp2_with fail
      go_loopw [7, 8] (fun c i wx => CarRel w (fun i => -l i) c i wx) (fun _ i _ => 136 - (intOf i).toNat)
      case atStart => exact ⟨0, by omega, rfl, rfl, HS.out.ext (fun i _ => by unfold partW; rw [if_neg (by omega)])⟩
      case round =>
        obtain ⟨k, hk, rfl, rfl, hcar⟩ := hrel
        obtain ⟨cb1, cb2⟩ := HL.out.2.2.1 k hk
        by_cases hlt : k < 136
        · have hl2 : (k : Int) < 136 := by omega
          obtain ⟨x1, x2⟩ := hcar.l.cell hlt
          have hpart : partW (fun i => -l i) (dR (fun i => -l i)) k k = (fun i => -l i) k := by unfold partW; rw [if_neg (by omega)]
          rw [hpart] at x1
          have bl := hcar.l.lt
          have hu : -36028797018963968 ≤ (fun i => -l i) k ∧ (fun i => -l i) k ≤ 36028797018963968 := by have := HL.out.1 k hlt; first | exact this | (dsimp only; omega)
          obtain ⟨t, D, c', ht, hD, hc, hq, t1, t2, D0, D9, hcase⟩ := step_cases ((fun i => -l i) k + cR (fun i => -l i) k)
          have e1 : dR (fun i => -l i) k = D := hD
          have e2 : cR (fun i => -l i) (k + 1) = c' := hc
          have cb : -36028797018963968 ≤ c' ∧ c' ≤ 36028797018963968 := by rw [← e2]; exact HL.out.2.2.1 (k + 1) hlt
          have hnext := hcar.set k D
          obtain ⟨u, hU⟩ : ∃ u, u = (fun i => -l i) k := ⟨_, rfl⟩
          obtain ⟨c0, hc0⟩ : ∃ u, u = cR (fun i => -l i) k := ⟨_, rfl⟩
          rw [← hU] at x1 hu ht hq
          rw [← hc0] at ht hq cb1 cb2 ⊢
          obtain ⟨u1, u2⟩ := hu
          obtain ⟨c1, c2⟩ := cb
          have KEEP := Lib.hid (⟨hnext, e1, e2⟩ : _ ∧ _ ∧ _)
          clear hcar hnext e1 e2 hD hc hU hc0 hpart
          rcases hcase with ⟨h1, rfl⟩ | ⟨h1, rfl⟩
          all_goals
            go_wp2_with fail
            go_roundw
            case rel =>
              obtain ⟨r1, r2, r3⟩ := KEEP.out
              exact ⟨k + 1, by omega, by rw [r3], by go_num, r1.ext (fun i hi => by rw [← r2]; exact part_next i hi)⟩
            case measure => simp [intOf]; omega
        · have hk9 : k = 136 := by omega
          subst hk9
          have hfull : CarS w wr (dR fun i => -l i) := hcar.ext (fun i hi => by unfold partW; rw [if_pos hi])
          have hc := HL.out.2.2.2.1 HNEG.out
          have hDD : DD = dR (fun i => -l i) := by rw [HL.out.2.2.2.2.1, if_pos HNEG.out]
          have HE : Hid (CarS w wr DD) := Lib.hid (by rw [hDD]; exact hfull)
          have HNN : Hid (NN = true) := Lib.hid (by rw [HL.out.2.2.2.2.2, decide_eq_true HNEG.out])
          obtain ⟨c0, hc0⟩ : ∃ u, u = cR (fun i => -l i) 136 := ⟨_, rfl⟩
          rw [← hc0] at hc ⊢
          clear hcar hfull hDD hc0 cb1 cb2 hk hlt
          go_wp2_with (first | (refine wpList_load_row rfl 68 _ rfl (w.heap.size + 1) rfl 68 (IL DD).toArray (0, 0) _ HE.out.l Try.underlying68 rfl (by rw [IL_size]; exact sizeA) ?_) | (refine wpList_store_row rfl 68 _ _ rfl w.heap.size (IL DD).toArray rfl rfl 68 ZA HE.out.a (by rw [IL_size]; exact sizeA) (by rw [IL_size]; rfl) (IL_one DD) ?_))
          refine bodyPost_ret (v := .tuple #[.agg (IL DD).toArray, .bool true]) (results_cell_tmp (p := 2) (t := 3) rfl _ _ w.heap.size 68 (IL DD).toArray (0, 0) _ rfl (setRow_heap _ _ _ _ _ _ HE.out.a) Try.underlying68 rfl (by rw [IL_size]; exact sizeA)) rfl ⟨?_, below_setRow HE.out.below (Nat.le_refl _) _⟩
          rw [HNN.out]
end
/- The reference's bit and Value. -/
section
open Go Go.RowKit TF

attribute [local go_sem] cmp_eq cmp_ne cmp_lt cmp_gt cmp_le cmp_ge

set_option maxRecDepth 100000 in
theorem rbit_any (L : Nat) (d : Nat → Int) (N : Nat) (w : World) (h : ArrAt w L d) (D : DigR d N) (a : Int) (a0 : 0 ≤ a) (a9 : a < 4352) (r : Int) (hr : r = ((N / 2 ^ a.toNat % 2 : Nat) : Int)) :
    Calls Try.prog 45 #[.pointer (some ⟨L, 0, none⟩), .int .i64 a] w fun e w' => e = .returned (.int .u64 r) ∧ w = w' := by
  obtain ⟨k, hk⟩ : ∃ k : Nat, (k : Int) = a / 32 := ⟨(a / 32).toNat, by omega⟩
  obtain ⟨s, hs⟩ : ∃ k : Nat, (k : Int) = a % 32 := ⟨(a % 32).toNat, by omega⟩
  obtain ⟨c, -⟩ := h.cell (i := k) (by omega)
  have bl := h.lt
  have hb := D.bit (k := k) (r := s) (by omega) (by omega)
  rw [show 32 * k + s = a.toNat by omega, ← hr] at hb
  have hd := D.ok.r k
  obtain ⟨U, hU⟩ : ∃ U, U = d k := ⟨_, rfl⟩
  rw [← hU] at c hb hd
  have e1 : a.tdiv 32 = k := by rw [Int.tdiv_eq_ediv_of_nonneg a0]; omega
  have e2 : a.tmod 32 = s := by rw [Int.tmod_eq_emod_of_nonneg a0]; omega
  have hp := Nat.two_pow_pos s
  obtain ⟨z, hz⟩ : ∃ z, z = U / 2 ^ s := ⟨_, rfl⟩
  have hz2 := hz.symm
  have hpi : (0 : Int) < 2 ^ s := Int.pow_pos (by decide)
  have z0 : 0 ≤ z := by rw [hz]; exact Int.ediv_nonneg hd.1 (by omega)
  have z9 : z < 4294967296 := by rw [hz]; exact Int.lt_of_le_of_lt (Int.ediv_le_self _ hd.1) hd.2
  have hm : z.tmod 2 = r := by
    rw [Int.tmod_eq_emod_of_nonneg z0, hb, hz, Int.natCast_pow]; rfl
  have k9 : (k : Int) < 136 := by omega
  have s9 : s < 32 := by omega
  obtain ⟨u0, u9⟩ := hd
  clear h D hr hb hU hz hp hpi hk hs
  go_enter Try.func45, Try.ntmps45
  go_wp2_with fail
  go_ret
  exact ⟨rfl, rfl⟩
set_option maxRecDepth 100000 in
theorem rvalue_nil (w : World) :
    Calls Try.prog 25 #[.pointer none] w fun e w' => e = .returned (.float .f64 0) ∧ w = w' := by
  go_enter Try.func25, Try.ntmps25
  go_wp2_with fail
  go_ret
  exact ⟨rfl, rfl⟩
set_option maxRecDepth 100000 in
theorem rvalue_odd (b : Nat) (s : RefS) (w : World) (h : RefAt w b s) (r : Nat) (hc : s.cnt = 0 ∧ r = 0 ∨ (s.cnt == 0) = false ∧ (s.no = true ∧ r = 9221120237041090561 ∨ s.no = false ∧ (s.pl = true ∧ s.mi = true ∧ r = 9221120237041090561 ∨ s.pl = true ∧ s.mi = false ∧ r = 9218868437227405312 ∨ s.pl = false ∧ s.mi = true ∧ r = 18442240474082181120 ∨ s.pl = false ∧ s.mi = false ∧ s.ot = false ∧ r = 9223372036854775808))) :
    Calls Try.prog 25 #[.pointer (some ⟨b, 0, none⟩)] w fun e w' => e = .returned (.float .f64 r) ∧ ∃ n, w' = w.drewN n := by
  obtain ⟨c1, -⟩ := h.cnt
  obtain ⟨c2, -⟩ := h.ot
  obtain ⟨c3, -⟩ := h.pl
  obtain ⟨c4, -⟩ := h.mi
  obtain ⟨c5, -⟩ := h.no
  have bl := h.lt
  clear h
  obtain ⟨C, hC⟩ : ∃ C, C = s.cnt := ⟨_, rfl⟩
  rw [← hC] at c1 hc
  clear hC
  obtain ⟨rfl, rfl⟩ | ⟨h0, ⟨h1, rfl⟩ | ⟨h1, ⟨h2, h3, rfl⟩ | ⟨h2, h3, rfl⟩ | ⟨h2, h3, rfl⟩ | ⟨h2, h3, h4, rfl⟩⟩⟩ := hc
  · go_enter Try.func25, Try.ntmps25
    go_wp2_with fail
    go_ret
    exact ⟨rfl, 0, rfl⟩
  · rw [h1] at c5
    clear h1
    go_enter Try.func25, Try.ntmps25
    go_wp2_with (go_at_call 15; ((with_reducible refine (from_any _ _).mono ?_)); rintro e w' ⟨rfl, rfl⟩)
    go_ret
    exact ⟨rfl, 0, rfl⟩
  all_goals
    rw [h1] at c5
    rw [h2] at c3
    rw [h3] at c4
    try rw [h4] at c2
    clear h1 h2 h3
    go_enter Try.func25, Try.ntmps25
    go_wp2_with (go_at_call 15; ((with_reducible refine (from_any _ _).mono ?_)); rintro e w' ⟨rfl, rfl⟩)
    go_ret
    exact ⟨rfl, 0, rfl⟩
end
/- The reference's Value of a finite sum. -/
section
open Go Go.RowKit TF

attribute [local go_sem] cmp_eq cmp_ne cmp_lt cmp_gt cmp_le cmp_ge

def TopRelR (W : World) (N : Nat) (t : Value) (wr : World) : Prop :=
  wr = W ∧ ∃ a : Int, t = .int .i64 a ∧ -1 ≤ a ∧ a ≤ 4351 ∧ Hid (N < 2 ^ (a + 1).toNat)
def KRelR (W : World) (N l T : Nat) (k i : Value) (wr : World) : Prop :=
  wr = W ∧ ∃ a : Int, i = .int .i64 a ∧ k = .int .u64 ((N / 2 ^ (a + 1).toNat : Nat) : Int) ∧ ((l : Int) - 1 ≤ a ∨ a = T) ∧ a ≤ T ∧ 0 ≤ a
def RestRelR (W : World) (N l : Nat) (f i : Value) (wr : World) : Prop :=
  wr = W ∧ ∃ j : Nat, j ≤ l - 1 ∧ i = .int .i64 j ∧ f = .bool (decide (N % 2 ^ j ≠ 0))
theorem rest_next {N j : Nat} : decide (N % 2 ^ (j + 1) ≠ 0) = (decide (N % 2 ^ j ≠ 0) || decide (N / 2 ^ j % 2 = 1)) := by
  have e : N % 2 ^ (j + 1) = N % 2 ^ j + 2 ^ j * (N / 2 ^ j % 2) := by rw [Nat.pow_succ, Nat.mod_mul]
  have hp := Nat.two_pow_pos j
  rw [e]
  rcases Nat.mod_two_eq_zero_or_one (N / 2 ^ j) with h | h
  · rw [h]; simp
  · rw [h, Nat.mul_one, decide_eq_true (show N % 2 ^ j + 2 ^ j ≠ 0 by omega)]; simp
theorem half_step (N t : Nat) : 2 * (N / 2 ^ (t + 1)) + N / 2 ^ t % 2 = N / 2 ^ t := by
  rw [Nat.pow_succ, ← Nat.div_div_eq_div_mul]; omega
theorem log_is {N t : Nat} (h1 : N < 2 ^ (t + 1)) (h2 : N / 2 ^ t % 2 = 1) : N ≠ 0 ∧ N.log2 = t := by
  have hp := Nat.two_pow_pos t
  have h3 : 2 ^ t ≤ N := by
    rcases Nat.lt_or_ge N (2 ^ t) with h | h
    · rw [Nat.div_eq_of_lt h] at h2; omega
    · exact h
  have h0 : N ≠ 0 := by omega
  have a1 := (Nat.le_log2 h0).2 h3
  have a2 := (Nat.log2_lt h0).2 h1
  exact ⟨h0, by omega⟩
theorem lt_next {N : Nat} {a : Int} (ha : 0 ≤ a) (h : N < 2 ^ (a + 1).toNat) (hz : N / 2 ^ a.toNat % 2 = 0) : N < 2 ^ (a - 1 + 1).toNat := by
  obtain ⟨t, rfl⟩ := Int.eq_ofNat_of_zero_le ha
  rw [show ((t : Int) + 1).toNat = t + 1 by omega] at h
  rw [show ((t : Int) - 1 + 1).toNat = t by omega]
  rw [Int.toNat_natCast] at hz
  have hp := Nat.two_pow_pos t
  rw [Nat.pow_succ] at h
  have h2 : N / 2 ^ t < 2 := (Nat.div_lt_iff_lt_mul hp).2 (by omega)
  have h3 : N / 2 ^ t = 0 := by
    generalize N / 2 ^ t = q at *
    omega
  rcases Nat.lt_or_ge N (2 ^ t) with h4 | h4
  · exact h4
  · have := Nat.div_pos h4 hp; omega
theorem last_lt' {N m : Nat} (h : N < 2 ^ m) (hm : m ≤ 4480) : N / 2 ^ lastI N < 2 ^ 53 ∧ lastI N ≤ 4427 ∧ 1102 ≤ lastI N := by
  unfold lastI
  by_cases h0 : N = 0
  · subst h0
    refine ⟨?_, by rw [if_pos rfl]; omega, by rw [if_pos rfl]; omega⟩
    rw [Nat.zero_div]; exact Nat.two_pow_pos _
  · rw [if_neg h0]
    have hl := (Nat.log2_lt h0).2 h
    refine ⟨?_, by omega, by omega⟩
    refine (Nat.div_lt_iff_lt_mul (Nat.two_pow_pos _)).2 ?_
    rw [← Nat.pow_add]
    refine Nat.lt_of_lt_of_le (Nat.lt_log2_self (n := N)) (Nat.pow_le_pow_right (by omega) (by omega))
theorem k_end {N l t : Nat} {a : Int} (h : N < 2 ^ (t + 1)) (ha : a < l) (hor : (l : Int) - 1 ≤ a ∨ a = t) (a0 : 0 ≤ a) : N / 2 ^ (a + 1).toNat = N / 2 ^ l := by
  rcases hor with h1 | h1
  · rw [show (a + 1).toNat = l by omega]
  · subst h1
    have : 2 ^ (t + 1) ≤ 2 ^ l := Nat.pow_le_pow_right (by omega) (by omega)
    rw [show ((t : Int) + 1).toNat = t + 1 by omega, Nat.div_eq_of_lt h, Nat.div_eq_of_lt (by omega)]
theorem k_small {N l : Nat} {a : Int} (h : N / 2 ^ l < 2 ^ 53) (ha : (l : Int) ≤ a) : N / 2 ^ (a + 1).toNat < 2 ^ 53 :=
  Nat.lt_of_le_of_lt (Nat.div_le_div_left (Nat.pow_le_pow_right (by omega) (by omega)) (Nat.two_pow_pos _)) h
theorem k_next {N : Nat} {a : Int} (ha : 0 ≤ a) : 2 * ((N / 2 ^ (a + 1).toNat : Nat) : Int) + ((N / 2 ^ a.toNat % 2 : Nat) : Int) = ((N / 2 ^ (a - 1 + 1).toNat : Nat) : Int) := by
  obtain ⟨t, rfl⟩ := Int.eq_ofNat_of_zero_le ha
  rw [show ((t : Int) + 1).toNat = t + 1 by omega, show ((t : Int) - 1 + 1).toNat = t by omega, Int.toNat_natCast]
  have := half_step N t
  generalize N / 2 ^ (t + 1) = u at *
  generalize N / 2 ^ t = v at *
  omega
def upT (z : Int) (f : Bool) (p : Int) : Bool := decide (z = 1) && (f || decide (p = 1))
theorem upT_is (z : Int) (f : Bool) (p : Int) : (if z = 1 ∧ (f = true ∨ p = 1) then (1 : Int) else 0) = if upT z f p then 1 else 0 := by
  unfold upT
  by_cases h1 : z = 1
  · by_cases h2 : p = 1
    · rw [if_pos ⟨h1, .inr h2⟩, decide_eq_true h1, decide_eq_true h2]; simp
    · cases f
      · rw [if_neg (fun k => k.2.elim (by simp) h2), decide_eq_true h1, decide_eq_false h2]; rfl
      · rw [if_pos ⟨h1, .inl rfl⟩, decide_eq_true h1]; rfl
  · rw [if_neg (fun k => h1 k.1), decide_eq_false h1]; rfl
def sgnW (neg : Bool) (m : Nat) : Nat := if neg = true ∧ m ≠ 0 then wd true m else m
theorem sgnW_pos (m : Nat) : sgnW false m = m := if_neg (by simp)
theorem sgnW_neg {m : Nat} (h : m ≠ 0) : sgnW true m = wd true m := if_pos ⟨rfl, h⟩
theorem sgnW_zero (s : Bool) : sgnW s 0 = 0 := if_neg (fun k => k.2 rfl)
/-- the number that is rounded, and its word. -/
theorem rnd_word {N l : Nat} {K : Int} (hl : l = lastI N) (h9 : 1102 ≤ l) (hK : K = ((N / 2 ^ l + (if N / 2 ^ (l - 1) % 2 = 1 ∧ (N % 2 ^ (l - 1) ≠ 0 ∨ N / 2 ^ l % 2 = 1) then 1 else 0) : Nat) : Int)) :
    ((l : Int) - 1102) * 4503599627370496 + K = ((rung N (-2176) : Nat) : Int) := by
  have e := rung_sum N
  rw [← hl, nrs_bits N l (by omega)] at e
  rw [e, hK]
  obtain ⟨k, rfl⟩ : ∃ k, l = 1102 + k := ⟨l - 1102, by omega⟩
  generalize N / 2 ^ (1102 + k) + (if N / 2 ^ (1102 + k - 1) % 2 = 1 ∧ (N % 2 ^ (1102 + k - 1) ≠ 0 ∨ N / 2 ^ (1102 + k) % 2 = 1) then 1 else 0) = m
  rw [show 1102 + k - 1102 = k by omega, show (2 : Nat) ^ 52 = 4503599627370496 from rfl, show ((1102 + k : Nat) : Int) - 1102 = (k : Int) by omega]
  omega

set_option maxHeartbeats 4000000 in
set_option maxRecDepth 100000 in
theorem rvalue_main (b : Nat) (g : AccG) (w : World) (h : RefIs w b g) (ok : GOk g) (h0 : g.cnt ≠ 0) (h1 : g.nn = false) (h2 : g.up = false) (h3 : g.dn = false) (h4 : g.nz ≠ g.cnt) (r : Nat)
    (hr : r = if g.X < 0 ∧ min (rung g.X.natAbs (-2176)) INF ≠ 0 then wd true (min (rung g.X.natAbs (-2176)) INF) else min (rung g.X.natAbs (-2176)) INF) :
    Calls Try.prog 25 #[.pointer (some ⟨b, 0, none⟩)] w fun e w' => e = .returned (.float .f64 r) ∧ Below w.heap.size w w' := by
  obtain ⟨l, hX, hL, h⟩ := h
  obtain ⟨c1, -⟩ := h.cnt
  obtain ⟨c2, -⟩ := h.ot
  obtain ⟨c3, -⟩ := h.pl
  obtain ⟨c4, -⟩ := h.mi
  obtain ⟨c5, -⟩ := h.no
  have bl := h.lt
  obtain ⟨B1, B2⟩ := big_limbs ok
  have hsm : ∀ i, i < 136 → -36028797018963968 ≤ l i ∧ l i ≤ 36028797018963968 := fun i hi => hL.small ok.c9 hi
  have hng : cR l 136 < 0 → 0 ≤ cR (fun i => -l i) 136 := fun hc => (dig_neg hX B1 B2 hc).2.1
  obtain ⟨N, hN⟩ : ∃ N, N = g.X.natAbs := ⟨_, rfl⟩
  obtain ⟨D, hD⟩ : ∃ D, D = (if cR l 136 < 0 then dR (fun i => -l i) else dR l) := ⟨_, rfl⟩
  obtain ⟨neg, hneg⟩ : ∃ n, n = decide (cR l 136 < 0) := ⟨_, rfl⟩
  have hDN : DigR D N ∧ neg = decide (g.X < 0) := by
    rw [hD, hN, hneg]
    by_cases hc : cR l 136 < 0
    · obtain ⟨k1, k2, k3⟩ := dig_neg hX B1 B2 hc
      rw [if_pos hc, decide_eq_true hc, decide_eq_true k1]; exact ⟨k3, rfl⟩
    · obtain ⟨k1, k2⟩ := dig_pos hX B1 B2 (by omega)
      rw [if_neg hc, decide_eq_false hc, decide_eq_false (by omega)]; exact ⟨k2, rfl⟩
  have hcar := rcarried_any b _ w h hsm hng
  dsimp only at hcar
  rw [← hD, ← hneg] at hcar
  have HCAR := Lib.hid hcar
  obtain ⟨C, hC⟩ : ∃ C, C = g.cnt := ⟨_, rfl⟩
  have hC0 : (C == 0) = false := by rw [hC]; exact beq_eq_false_iff_ne.2 h0
  dsimp only at c1 c2 c3 c4 c5
  rw [← hC] at c1
  rw [decide_eq_true h4] at c2
  rw [h2] at c3
  rw [h3] at c4
  rw [h1] at c5
  rw [← hN] at hr
  have hr' : r = sgnW neg (min (rung N (-2176)) INF) := by
    rw [hr]
    unfold sgnW
    by_cases hx : g.X < 0
    · rw [hDN.2, decide_eq_true hx]; simp [hx]
    · rw [hDN.2, decide_eq_false hx]; simp [hx]
  have HD := Lib.hid (⟨hDN.1, hr'⟩ : _ ∧ _)
  obtain ⟨TB, hTB⟩ : ∃ TB : Nat, TB = 32 * 136 := ⟨_, rfl⟩
  have hlt0 := hDN.1.lt
  rw [← hTB] at hlt0
  have HLt := Lib.hid (⟨hlt0, hTB⟩ : _ ∧ _)
  clear hlt0 hTB
  clear hX hL h B1 B2 hsm hng hN hD hneg hDN hcar hr hr' hC h0 h1 h2 h3 h4 ok
  have zA := zeroA
  go_enter Try.func25, Try.ntmps25
  go_wp2_with fail
  refine (HCAR.out).mono ?_
  rintro e w1 ⟨rfl, hb1⟩
  have HB1 := Lib.hid hb1
  obtain ⟨W1, hW1⟩ : ∃ W1, W1 = (w1.alloc (.cells ZA 68)).setRow w1.heap.size (IL D).toArray := ⟨_, rfl⟩
  have HW : Hid (ArrAt W1 w1.heap.size D ∧ Below w.heap.size w W1) := Lib.hid (by
    rw [hW1]
    refine ⟨setRow_heap _ _ _ _ _ _ (heap_alloc_last _ _), below_setRow (hb1.alloc hb1.size _) hb1.size _⟩)
  clear hb1
  go_wp2_with (refine wpList_store_row rfl 68 _ _ rfl w1.heap.size (IL D).toArray rfl rfl 68 ZA (heap_alloc_last _ _) (by rw [IL_size]; exact sizeA) (by rw [IL_size]; rfl) (IL_one D) ?_)
  rw [← hW1]
  clear hW1
  obtain ⟨L, hLb⟩ : ∃ L, L = w1.heap.size := ⟨_, rfl⟩
  rw [← hLb] at HW ⊢
  clear hLb
  go_loopw [5] (fun t wr => TopRelR W1 N t wr) (fun t _ => (intOf t + 1).toNat)
  case atStart => exact ⟨rfl, 4351, rfl, by omega, by omega, Lib.hid (by rw [show ((4351 : Int) + 1).toNat = TB by have := HLt.out.2; omega]; exact HLt.out.1)⟩
  case round =>
    obtain ⟨hwx, a, rfl, a0, a9, hlt⟩ := hrel
    rw [hwx]
    clear hwx
    by_cases hneg : a < 0
    · have ha : a = -1 := by omega
      subst ha
      have hN0 : N = 0 := by
        have := hlt.out
        rw [show ((-1 : Int) + 1).toNat = 0 by decide, Nat.pow_zero] at this
        omega
      have HN := Lib.hid hN0
      clear hN0 hlt hneg a0 a9
      go_wp2_with fail
      go_ret
      refine ⟨ret_f64 ?_, HW.out.2⟩
      obtain ⟨-, q⟩ := HD.out
      have e : rung 0 (-2176) = 0 := by unfold rung; rfl
      rw [HN.out, e, Nat.zero_min] at q
      rw [q, sgnW_zero]
    · obtain ⟨z, hz⟩ : ∃ z : Int, z = ((N / 2 ^ a.toNat % 2 : Nat) : Int) := ⟨_, rfl⟩
      have KB := Lib.hid fun w' (hw : ArrAt w' L D) => rbit_any L D N w' hw HD.out.1 a (by omega) (by omega) z hz
      have z01 : z = 0 ∨ z = 1 := by omega
      have HZ := Lib.hid (⟨hz, hlt, hneg⟩ : _ ∧ _ ∧ _)
      have hge : 0 ≤ a := by omega
      clear hz hlt hneg a0
      rcases z01 with rfl | rfl
      · go_wp2_with (go_at_call 45; ((with_reducible refine (KB.out _ HW.out.1).mono ?_)); rintro e w' ⟨rfl, rfl⟩)
        go_roundw
        case rel =>
          obtain ⟨k1, k2, k3⟩ := HZ.out
          exact ⟨rfl, a - 1, by go_num, by omega, by omega, Lib.hid (lt_next hge k2.out (by omega))⟩
        case measure => simp [intOf]; omega
      · obtain ⟨t, rfl⟩ := Int.eq_ofNat_of_zero_le hge
        obtain ⟨n0, nl⟩ := log_is (N := N) (t := t) (by have := HZ.out.2.1.out; rwa [show ((t : Int) + 1).toNat = t + 1 by omega] at this) (by have := HZ.out.1; rw [Int.toNat_natCast] at this; omega)
        obtain ⟨q1, q2, q3⟩ := last_lt' (N := N) HLt.out.1 (by have := HLt.out.2; omega)
        obtain ⟨l, hl⟩ : ∃ l, l = lastI N := ⟨_, rfl⟩
        have hl2 : l = max (t - 52) 1102 := by rw [hl]; unfold lastI; rw [if_neg n0, nl]
        rw [← hl] at q1 q2 q3
        have hun : ((t : Int) - 52 < 1102 ∧ l = 1102) ∨ (¬ (t : Int) - 52 < 1102 ∧ (l : Int) = (t : Int) - 52) := by omega
        have HTL : Hid (N < 2 ^ (t + 1)) := Lib.hid (by have := HZ.out.2.1.out; rwa [show ((t : Int) + 1).toNat = t + 1 by omega] at this)
        have HQ := Lib.hid (⟨q1, hl, hl2⟩ : _ ∧ _ ∧ _)
        have t9 : t ≤ 4351 := by omega
        have q4 : l ≤ 4299 := by omega
        clear n0 nl q1 hl hl2 HZ hge a9
        go_upto_if 78 with (go_at_call 45; ((with_reducible refine (KB.out _ HW.out.1).mono ?_)); rintro e w' ⟨rfl, rfl⟩)
        go_cut [6] (fun u wc => u = .int .i64 l ∧ wc = W1)
        case first =>
          rcases hun with ⟨h1, h2⟩ | ⟨h1, h2⟩
          all_goals
            go_wp2_with fail
            go_meet
            exact ⟨by first | (rw [h2]; rfl) | rw [h2], rfl⟩
        case rest =>
          obtain ⟨rfl, hcw⟩ := hcut
          rw [hcw]
          clear hcw
          clear hun
          go_wp2_with fail
          go_loopw [7, 8] (fun k i wx => KRelR W1 N l t k i wx) (fun _ i _ => (intOf i + 1).toNat)
          case atStart =>
            refine ⟨rfl, (t : Int), rfl, ?_, .inr rfl, Int.le_refl _, by omega⟩
            have := HTL.out
            rw [show ((t : Int) + 1).toNat = t + 1 by omega, Nat.div_eq_of_lt this]; rfl
          case round =>
            obtain ⟨hwx, a, rfl, rfl, hor, hle, ha0⟩ := hrel
            rw [hwx]
            clear hwx
            by_cases hc : (l : Int) ≤ a
            · obtain ⟨z, hz⟩ : ∃ z : Int, z = ((N / 2 ^ a.toNat % 2 : Nat) : Int) := ⟨_, rfl⟩
              have KB := Lib.hid fun w' (hw : ArrAt w' L D) => rbit_any L D N w' hw HD.out.1 a (by omega) (by omega) z hz
              have z0 : 0 ≤ z := by omega
              have z9 : z ≤ 1 := by omega
              have ks := k_small HQ.out.1 hc
              have kn := k_next (N := N) ha0
              rw [← hz] at kn
              obtain ⟨KK, hKK⟩ : ∃ K : Nat, K = N / 2 ^ (a + 1).toNat := ⟨_, rfl⟩
              rw [← hKK] at ks kn ⊢
              obtain ⟨K, hK⟩ : ∃ K : Int, K = (KK : Int) := ⟨_, rfl⟩
              have K0 : 0 ≤ K := by omega
              have K9 : K < 9007199254740992 := by omega
              rw [← hK] at kn ⊢
              have KN := Lib.hid kn
              clear hz ks kn hK hor hKK
              go_wp2_with (go_at_call 45; ((with_reducible refine (KB.out _ HW.out.1).mono ?_)); rintro e w' ⟨rfl, rfl⟩)
              go_roundw
              case rel => exact ⟨rfl, a - 1, by go_num, by rw [KN.out], .inl (by omega), by omega, by omega⟩
              case measure => simp [intOf]; omega
            · have hke := k_end HTL.out (by omega) hor ha0
              rw [hke]
              have hq1 := HQ.out.1
              obtain ⟨KK, hKK⟩ : ∃ K : Nat, K = N / 2 ^ l := ⟨_, rfl⟩
              rw [← hKK] at hq1 ⊢
              obtain ⟨K, hK0⟩ : ∃ K : Int, K = (KK : Int) := ⟨_, rfl⟩
              rw [← hK0]
              have K0 : 0 ≤ K := by omega
              have K9 : K < 9007199254740992 := by omega
              have hK : K = ((N / 2 ^ l : Nat) : Int) := by rw [hK0, hKK]
              clear hK0 hKK hq1
              have HK := Lib.hid hK
              clear hK hke hor hle
              go_wp2_with fail
              go_loopw [9, 10] (fun f i wx => RestRelR W1 N l f i wx) (fun _ i _ => l - (intOf i).toNat)
              case atStart => exact ⟨rfl, 0, by omega, rfl, by rw [Nat.pow_zero, Nat.mod_one]; rfl⟩
              case round =>
                obtain ⟨hwx, j, hj, rfl, rfl⟩ := hrel
                rw [hwx]
                clear hwx
                by_cases hlt : j < l - 1
                · have hl2 : (j : Int) < (l : Int) - 1 := by omega
                  have hn := rest_next (N := N) (j := j)
                  obtain ⟨z, hz⟩ : ∃ z : Int, z = ((N / 2 ^ j % 2 : Nat) : Int) := ⟨_, rfl⟩
                  have KB := Lib.hid fun w' (hw : ArrAt w' L D) => rbit_any L D N w' hw HD.out.1 j (by omega) (by omega) z (by rw [hz, Int.toNat_natCast])
                  obtain ⟨f, hf⟩ : ∃ f, f = decide (N % 2 ^ j ≠ 0) := ⟨_, rfl⟩
                  rw [← hf] at hn ⊢
                  have hb : decide (N / 2 ^ j % 2 = 1) = decide (z = 1) := decide_eq_decide.2 (by omega)
                  rw [hb] at hn
                  have z01 : z = 0 ∨ z = 1 := by omega
                  have HN := Lib.hid hn
                  clear hz hf hb hn
                  cases f
                  · rcases z01 with rfl | rfl
                    all_goals
                      go_wp2_with (go_at_call 45; ((with_reducible refine (KB.out _ HW.out.1).mono ?_)); rintro e w' ⟨rfl, rfl⟩)
                      go_roundw
                      case rel => exact ⟨rfl, j + 1, by omega, by go_num, by rw [HN.out]; rfl⟩
                      case measure => simp [intOf]; omega
                  · clear z01 KB
                    go_wp2_with fail
                    go_roundw
                    case rel => exact ⟨rfl, j + 1, by omega, by go_num, by rw [HN.out]; rfl⟩
                    case measure => simp [intOf]; omega
                · have hje : j = l - 1 := by omega
                  have hl2 : ¬ (j : Int) < (l : Int) - 1 := by omega
                  obtain ⟨f, hf⟩ : ∃ f, f = decide (N % 2 ^ j ≠ 0) := ⟨_, rfl⟩
                  rw [← hf]
                  obtain ⟨z, hz⟩ : ∃ z : Int, z = ((N / 2 ^ (l - 1) % 2 : Nat) : Int) := ⟨_, rfl⟩
                  have KB := Lib.hid fun w' (hw : ArrAt w' L D) => rbit_any L D N w' hw HD.out.1 ((l : Int) - 1) (by omega) (by omega) z (by rw [hz, show ((l : Int) - 1).toNat = l - 1 by omega])
                  obtain ⟨I, hI⟩ : ∃ I : Int, I = (((if N / 2 ^ (l - 1) % 2 = 1 ∧ (N % 2 ^ (l - 1) ≠ 0 ∨ N / 2 ^ l % 2 = 1) then 1 else 0 : Nat)) : Int) := ⟨_, rfl⟩
                  have I01 : 0 ≤ I ∧ I ≤ 1 := by rw [hI]; split <;> omega
                  have hI2 : I = if z = 1 ∧ (f = true ∨ K % 2 = 1) then 1 else 0 := by
                    rw [hI, hf, hje]
                    have hKK := HK.out
                    by_cases hh : z = 1 ∧ (decide (N % 2 ^ (l - 1) ≠ 0) = true ∨ K % 2 = 1)
                    · rw [if_pos hh, if_pos ⟨by omega, by rcases hh.2 with h | h; exact .inl (of_decide_eq_true h); exact .inr (by omega)⟩]; rfl
                    · rw [if_neg hh, if_neg (fun k => hh ⟨by omega, by rcases k.2 with h | h; exact .inl (decide_eq_true h); exact .inr (by omega)⟩)]; rfl
                  have z01 : z = 0 ∨ z = 1 := by omega
                  have hp : K.tmod 2 = K % 2 := Int.tmod_eq_emod_of_nonneg K0
                  have p01 : K % 2 = 0 ∨ K % 2 = 1 := by omega
                  obtain ⟨p, hpp⟩ : ∃ p, p = K % 2 := ⟨_, rfl⟩
                  rw [← hpp] at hp p01 hI2
                  have FINW := rnd_word HQ.out.2.1 q3 (K := K + I) (by rw [HK.out, hI]; rw [Int.natCast_add])
                  have HF := Lib.hid FINW
                  rw [upT_is] at hI2
                  obtain ⟨T, hT⟩ : ∃ T, T = upT z f p := ⟨_, rfl⟩
                  rw [← hT] at hI2
                  have HT := Lib.hid hT
                  obtain ⟨Z, hZ⟩ : ∃ Z : Nat, Z = rung N (-2176) := ⟨_, rfl⟩
                  have hr2 := HD.out.2
                  rw [← hZ] at FINW hr2
                  have HR := Lib.hid (⟨hr2, FINW⟩ : _ ∧ _)
                  clear hf hz hI hpp FINW hje hj hlt HF hT hr2 hZ
                  go_upto_region 30 with fail
                  go_cut [113] (fun tv wc => tv = .bool T ∧ wc = W1)
                  case first =>
                    rcases z01 with rfl | rfl
                    · go_wp2_with (go_at_call 45; ((with_reducible refine (KB.out _ HW.out.1).mono ?_)); rintro e w' ⟨rfl, rfl⟩)
                      go_meet
                      exact ⟨by rw [HT.out]; rfl, rfl⟩
                    · cases f
                      · rcases p01 with rfl | rfl
                        all_goals
                          go_wp2_with (go_at_call 45; ((with_reducible refine (KB.out _ HW.out.1).mono ?_)); rintro e w' ⟨rfl, rfl⟩)
                          go_meet
                          exact ⟨by rw [HT.out]; rfl, rfl⟩
                      · go_wp2_with (go_at_call 45; ((with_reducible refine (KB.out _ HW.out.1).mono ?_)); rintro e w' ⟨rfl, rfl⟩)
                        go_meet
                        exact ⟨by rw [HT.out]; rfl, rfl⟩
                  case rest =>
                    obtain ⟨rfl, hcw⟩ := hcut
                    rw [hcw]
                    clear hcw z01 p01 hp KB HT
                    have hI := INF_eq
                    have HI := Lib.hid hI
                    obtain ⟨z1, z2⟩ : (0 : Int) ≤ (Z : Int) ∧ (Z : Int) < 18446744073709551616 := ⟨Int.natCast_nonneg _, by have := HR.out.2; omega⟩
                    have HI2 := Lib.hid hI2
                    clear hI hI2
                    cases T
                    all_goals
                      go_upto_region 33 with fail
                      first
                      | rw [show ((l : Int) + -2176 + 1074) * 4503599627370496 + (K + 1) = (Z : Int) by have h1 := HR.out.2; have h2 := HI2.out; rw [if_pos rfl] at h2; omega]
                      | rw [show ((l : Int) + -2176 + 1074) * 4503599627370496 + K = (Z : Int) by have h1 := HR.out.2; have h2 := HI2.out; rw [if_neg (by decide)] at h2; omega]
                      obtain ⟨Y, hY⟩ : ∃ Y : Int, Y = Z := ⟨_, rfl⟩
                      rw [← hY] at z1 z2 ⊢
                      have HY := Lib.hid hY
                      clear hY
                      by_cases hcap : 9218868437227405312 < Y
                      · cases neg
                        · go_wp2_with (go_at_call 15; ((with_reducible refine (from_any _ _).mono ?_)); rintro e w' ⟨rfl, rfl⟩)
                          go_ret
                          refine ⟨ret_f64 ?_, HW.out.2⟩
                          rw [HR.out.1, sgnW_pos, Nat.min_eq_right (by have := HI.out; have := HY.out; omega), HI.out]; try rfl
                        · go_wp2_with (go_at_call 15; ((with_reducible refine (from_any _ _).mono ?_)); rintro e w' ⟨rfl, rfl⟩)
                          go_ret
                          refine ⟨ret_f64 ?_, HW.out.2⟩
                          rw [HR.out.1, Nat.min_eq_right (by have := HI.out; have := HY.out; omega), HI.out, sgnW_neg (by decide)]; try rfl
                      · have hmin : Hid (min Z INF = Z) := Lib.hid (Nat.min_eq_left (by have := HI.out; have := HY.out; omega))
                        cases neg
                        · go_wp2_with (go_at_call 15; ((with_reducible refine (from_any _ _).mono ?_)); rintro e w' ⟨rfl, rfl⟩)
                          go_ret
                          refine ⟨ret_f64 ?_, HW.out.2⟩
                          rw [HR.out.1, sgnW_pos, hmin.out]; have := HY.out; omega
                        · by_cases hz0 : Y = 0
                          · subst hz0
                            go_wp2_with (go_at_call 15; ((with_reducible refine (from_any _ _).mono ?_)); rintro e w' ⟨rfl, rfl⟩)
                            go_ret
                            refine ⟨ret_f64 ?_, HW.out.2⟩
                            have h0 : Z = 0 := by have := HY.out; omega
                            rw [HR.out.1, hmin.out, h0, sgnW_zero]; try rfl
                          · go_wp2_with (go_at_call 15; ((with_reducible refine (from_any _ _).mono ?_)); rintro e w' ⟨rfl, rfl⟩)
                            go_ret
                            refine ⟨ret_f64 ?_, HW.out.2⟩
                            have h0 : Z ≠ 0 := by have := HY.out; omega
                            rw [HR.out.1, hmin.out, sgnW_neg h0]
                            have := HY.out
                            unfold wd
                            rw [if_pos rfl]; omega
theorem rvalue_any (b : Nat) (g : AccG) (w : World) (h : RefIs w b g) (ok : GOk g) :
    Calls Try.prog 25 #[.pointer (some ⟨b, 0, none⟩)] w fun e w' => e = .returned (.float .f64 (valG g)) ∧ Below w.heap.size w w' := by
  have low : ∀ {n : Nat} {w' : World}, w' = w.drewN n → Below w.heap.size w w' := fun h => by rw [h]; exact below_drewN (Below.refl _ _) _
  obtain ⟨l, hX, hL, ha⟩ := h
  have odd : ∀ r : Nat, valG g = r → (g.cnt = 0 ∧ r = 0 ∨ (g.cnt == 0) = false ∧ (g.nn = true ∧ r = 9221120237041090561 ∨ g.nn = false ∧ (g.up = true ∧ g.dn = true ∧ r = 9221120237041090561 ∨ g.up = true ∧ g.dn = false ∧ r = 9218868437227405312 ∨ g.up = false ∧ g.dn = true ∧ r = 18442240474082181120 ∨ g.up = false ∧ g.dn = false ∧ decide (g.nz ≠ g.cnt) = false ∧ r = 9223372036854775808))) →
      Calls Try.prog 25 #[.pointer (some ⟨b, 0, none⟩)] w fun e w' => e = .returned (.float .f64 (valG g)) ∧ Below w.heap.size w w' := fun r hr hc => by
    refine (rvalue_odd b _ w ha r hc).mono ?_
    rintro e w' ⟨rfl, n, hn⟩
    exact ⟨ret_f64 hr.symm, low hn⟩
  by_cases h0 : g.cnt = 0
  · exact odd 0 (by unfold valG; rw [if_pos h0]) (.inl ⟨h0, rfl⟩)
  have h0' : (g.cnt == 0) = false := beq_eq_false_iff_ne.2 h0
  cases h1 : g.nn
  · cases h2 : g.up
    · cases h3 : g.dn
      · by_cases h4 : g.nz = g.cnt
        · exact odd 9223372036854775808 (by unfold valG; rw [if_neg h0, h1, h2, h3, if_neg (by decide), if_neg (by decide), if_neg (by decide), if_pos h4]) (.inr ⟨h0', .inr ⟨h1, .inr (.inr (.inr ⟨h2, h3, decide_eq_false (fun k => k h4), rfl⟩))⟩⟩)
        · refine rvalue_main b g w ⟨l, hX, hL, ha⟩ ok h0 h1 h2 h3 h4 (valG g) ?_
          unfold valG; rw [if_neg h0, h1, h2, h3, if_neg (by decide), if_neg (by decide), if_neg (by decide), if_neg h4]
      · exact odd 18442240474082181120 (by unfold valG; rw [if_neg h0, h1, h2, h3]; rfl) (.inr ⟨h0', .inr ⟨h1, .inr (.inr (.inl ⟨h2, h3, rfl⟩))⟩⟩)
    · cases h3 : g.dn
      · exact odd 9218868437227405312 (by unfold valG; rw [if_neg h0, h1, h2, h3]; rfl) (.inr ⟨h0', .inr ⟨h1, .inr (.inl ⟨h2, h3, rfl⟩)⟩⟩)
      · exact odd 9221120237041090561 (by unfold valG; rw [if_neg h0, h1, h2, h3]; rfl) (.inr ⟨h0', .inr ⟨h1, .inl ⟨h2, h3, rfl⟩⟩⟩)
  · exact odd 9221120237041090561 (by unfold valG; rw [if_neg h0, h1, Bool.true_or, if_pos rfl]) (.inr ⟨h0', .inl ⟨h1, rfl⟩⟩)
def RSumRel (w : World) (xs : Nat → Nat) (len : Nat) (i : Value) (wr : World) : Prop :=
  ∃ k : Nat, k ≤ len ∧ i = .int .i64 k ∧ RefIs wr w.heap.size (sumG xs k) ∧ Below w.heap.size w wr
set_option maxHeartbeats 1000000 in
set_option maxRecDepth 100000 in
theorem rsum_any (A : Option Addr) (len cap : Nat) (xs : Nat → Nat) (w : World) (hF : Floats w A len xs) (hl : len ≤ 1048576) :
    Calls Try.prog 26 #[.slice A len cap] w fun e w' => e = .returned (.tuple #[.float .f64 (valG (sumG xs len)), .int .i64 0]) ∧ Below w.heap.size w w' := by
  have KN := Lib.hid rnew_any
  have HF := Lib.hid hF
  obtain ⟨r, hr⟩ : ∃ r, r = valG (sumG xs len) := ⟨_, rfl⟩
  rw [← hr]
  have HR := Lib.hid hr
  clear hF hr
  go_enter Try.func26, Try.ntmps26
  go_wp2_with (go_at_call 19; ((with_reducible refine (KN.out _).mono ?_)); rintro e w' ⟨rfl, rfl⟩)
  go_loopw [5] (fun i wr => RSumRel w xs len i wr) (fun i _ => len - (intOf i).toNat)
  case atStart => exact ⟨0, by omega, rfl, rnew_is w, (Below.refl _ _).alloc (Nat.le_refl _) _⟩
  case round =>
    obtain ⟨k, hk, rfl, hacc, hbel⟩ := hrel
    by_cases hlt : k < len
    · have hl2 : (k : Int) < len := by omega
      obtain ⟨hok, hcnt⟩ := sumG_ok xs k (by omega)
      obtain ⟨b, off, rfl, hb, c0, hx⟩ := HF.out k hlt
      have c1 : wr.cell? ⟨b, off + k, none⟩ = some (.float .f64 (xs k)) := by rw [hbel.cell (p := ⟨b, off + k, none⟩) hb]; exact c0
      have KA := Lib.hid (radd_some w.heap.size _ wr hacc hok (xs k) hx (by omega))
      have KEEP := Lib.hid hbel
      have hsz := hbel.size
      obtain ⟨X, hX⟩ : ∃ X, X = xs k := ⟨_, rfl⟩
      rw [← hX] at c1 KA
      have KX := Lib.hid hX
      clear hacc hok hcnt hbel hx c0 hX
      go_wp2_with (go_at_call 20; ((with_reducible refine (KA.out).mono ?_)); rintro e w' ⟨rfl, hac, hch⟩)
      go_roundw
      case rel => exact ⟨k + 1, by omega, by go_num, by show RefIs _ _ (addG (sumG xs k) (xs k)); rw [← KX.out]; exact hac, hch.below KEEP.out (Nat.le_refl _) hsz⟩
      case measure => simp [intOf]; omega
    · have hn : k = len := by omega
      subst hn
      obtain ⟨hok, hcnt⟩ := sumG_ok xs k (by omega)
      have KV := Lib.hid (rvalue_any w.heap.size _ wr hacc hok)
      have KEEP := Lib.hid hbel
      have hsz := hbel.size
      rw [← HR.out] at KV
      clear hacc hok hcnt hbel
      go_wp2_with (go_at_call 25; ((with_reducible refine (KV.out).mono ?_)); rintro e w' ⟨rfl, hbl⟩)
      go_ret2
      exact ⟨rfl, KEEP.out.trans (hbl.mono hsz)⟩
end
end Go.Proofs.Ytneedadoafcfcaa
