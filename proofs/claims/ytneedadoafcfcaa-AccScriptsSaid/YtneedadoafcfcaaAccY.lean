/- Value, main. -/
import Derived.Test.YtneedadoafcfcaaAccX
import Derived.Test.YtneedadoafcfcaaAccZ
namespace Go.Proofs.Ytneedadoafcfcaa
open Go Go.RowKit TF

attribute [local go_sem] cmp_eq cmp_ne cmp_lt cmp_gt cmp_le cmp_ge

theorem copy_acc (w : World) : Calls Try.prog 36 #[.float .f64 0, .float .f64 13830554455654793216] w fun x w' => x = .returned (.float .f64 9223372036854775808) ∧ w = w' := by
  have k1 : ∀ w : World, (callFunc 39 #[.float .f64 0]).run Try.prog w = .ok (.value (.int .u64 0)) w := fun w => run_f64bits _ w
  have k2 : ∀ w : World, (callFunc 39 #[.float .f64 13830554455654793216]).run Try.prog w = .ok (.value (.int .u64 13830554455654793216)) w := fun w => run_f64bits _ w
  have k3 := run_f64from
  have k4 : bits .andNot .u64 0 9223372036854775808 = 0 := by kernel_rfl
  have k5 : bits .and .u64 13830554455654793216 9223372036854775808 = 9223372036854775808 := by kernel_rfl
  have k6 : bits .or .u64 0 9223372036854775808 = 9223372036854775808 := by kernel_rfl
  go_enter Try.func36, Try.ntmps36
  go_wp2_with fail
  go_ret
  exact ⟨rfl, rfl⟩
theorem value_nought (b : Nat) (s : AccS) (w : World) (h : AccAt w b s) (h0 : s.cnt ≠ 0) (h1 : s.nn = false) (h2 : s.up = false) (h3 : s.dn = false) (h4 : s.nz = s.cnt) :
    Calls Try.prog 13 #[.pointer (some ⟨b, 0, none⟩)] w fun e w' => e = .returned (.float .f64 9223372036854775808) ∧ ∃ n, w' = w.drewN n := by
  have KC := Lib.hid copy_acc
  obtain ⟨c1, -⟩ := h.cnt
  obtain ⟨c2, -⟩ := h.nz
  obtain ⟨c3, -⟩ := h.up
  obtain ⟨c4, -⟩ := h.dn
  obtain ⟨c5, -⟩ := h.nn
  clear h
  rw [h1] at c5
  rw [h2] at c3
  rw [h3] at c4
  rw [h4] at c2
  clear h1 h2 h3 h4
  go_enter Try.func13, Try.ntmps13
  go_wp2_with fail
  go_region
  go_wp2_with (go_at_call 36; ((with_reducible refine (KC.out _).mono ?_)); rintro e w' ⟨rfl, rfl⟩)
  go_ret
  exact ⟨rfl, 1, rfl⟩
def WL (d : Nat → Int) : List Value := (List.range 70).map (fun i => .int .u64 (d i))
theorem WL_length (d : Nat → Int) : (WL d).length = 70 := by simp [WL]
theorem WL_size (d : Nat → Int) : (WL d).toArray.size = 70 := by simp [WL]
theorem WL_one (d : Nat → Int) : (WL d).toArray.all (·.oneCell') = true := by
  rw [Array.all_eq_true]
  intro i hi
  simp only [WL, List.getElem_toArray, List.getElem_map]
  rfl
theorem setRow_drew (w : World) (c c' : Array Value) (t : TypeId) : ((w.alloc (.cells c t)).drew).setRow w.heap.size c' = (w.alloc (.cells c' t)).drew :=
  congrArg World.drew (World.setRow_alloc_new w c c' t)
theorem WL_get {d : Nat → Int} {j : Nat} {v : Value} (h : (WL d)[j]? = some v) : j < 70 ∧ v = .int .u64 (d j) := by
  unfold WL at h
  rw [List.getElem?_map] at h
  by_cases hj : j < 70
  · rw [List.getElem?_range hj] at h
    cases h; exact ⟨hj, rfl⟩
  · rw [List.getElem?_eq_none (by simp; omega)] at h; cases h
theorem acc_range {w : World} {b : Nat} {s : AccS} (h : AccAt w b s) : w.rangeAt b 0 (WL s.d) := by
  intro j v hv
  obtain ⟨hj, rfl⟩ := WL_get hv
  rw [Nat.zero_add]; exact (h.word j hj).1
theorem words_range {w : World} {L : Nat} {d : Nat → Int} (h : WordsAt w L d) : w.rangeAt L 0 (WL d) := by
  intro j v hv
  obtain ⟨hj, rfl⟩ := WL_get hv
  rw [Nat.zero_add]; exact (h j hj).1
theorem WordsAt.ext {w : World} {L : Nat} {d e : Nat → Int} (h : WordsAt w L d) (he : ∀ i, i < 70 → d i = e i) : WordsAt w L e := fun i hi => he i hi ▸ h i hi
theorem WordsAt.next {w : World} {L : Nat} {d O : Nat → Int} {k : Nat} (h : WordsAt w L (partW d O k)) (hk : k < 70) : WordsAt (w.setCell ⟨L, k, none⟩ (.int .u64 (O k))) L (partW d O (k + 1)) := by
  intro j hj
  by_cases e : j = k
  · subst e
    have : partW d O (j + 1) j = O j := by unfold partW; rw [if_pos (by omega)]
    rw [this]; exact (h j hj).same
  · have : partW d O (k + 1) j = partW d O k j := by
      unfold partW
      by_cases h1 : j < k
      · rw [if_pos h1, if_pos (by omega)]
      · rw [if_neg h1, if_neg (by omega)]
    rw [this]; exact (h j hj).other (fun _ => e)
theorem run_index_W (d : Nat → Int) (k : Nat) (hk : k < 70) (U : Int) (hU : U = d k) (w : World) : (Instr.index 53 (.agg (WL d).toArray) (.int .i64 k)).run Try.prog w = .ok (.int .u64 U) w := by
  have hn : (0 : Int) ≤ k ∧ (k : Int) < 70 := by omega
  have hs : ∀ w, (sizeOf 32).run Try.prog w = .ok 1 w := fun w => by kernel_rfl
  have ha : ∀ w, (isAgg 32).run Try.prog w = .ok false w := fun w => by kernel_rfl
  have hg : (WL d)[k]? = some (.int .u64 U) := by unfold WL; rw [List.getElem?_map, List.getElem?_range hk, hU]; rfl
  have hb : (k : Int).toNat * 1 = k := by omega
  simp [Instr.index, run_underlying Try.underlying53, asIntOf, hn, hs, ha, hg, hk, part, go_sem]
def NegRel (w : World) (d : Nat → Int) (c i : Value) (wr : World) : Prop :=
  ∃ k : Nat, k ≤ 70 ∧ c = .int .u64 (br (fun _ => 0) d k) ∧ i = .int .i64 k ∧ WordsAt wr w.heap.size (partW d (sb (fun _ => 0) d) k) ∧ Below w.heap.size w wr
def ZW : Array Value := Array.replicate 70 (.int .u64 0)
theorem zeroW : ∀ w : World, (zeroValue 53).run Try.prog w = .ok (.agg ZW) w := fun _ => by kernel_rfl
theorem sizeW : (Try.prog.info? 53).map (·.size) = some 70 := by kernel_rfl
theorem words_new (w : World) (d : Nat → Int) (t : TypeId) : WordsAt (w.alloc (.cells (WL d).toArray t)).drew w.heap.size d := by
  intro i hi
  have hv : (WL d).toArray[i]? = some (.int .u64 (d i)) := by
    rw [List.getElem?_toArray]; unfold WL; rw [List.getElem?_map, List.getElem?_range hi]; rfl
  exact ⟨(World.cell?_alloc_new w _ t i).trans hv, World.frozen?_alloc_new w _ t i⟩
set_option maxRecDepth 100000 in
theorem value_main (b : Nat) (g : AccG) (w : World) (h : AccIs w b g) (ok : GOk g) (h0 : g.cnt ≠ 0) (h1 : g.nn = false) (h2 : g.up = false) (h3 : g.dn = false) (h4 : g.nz ≠ g.cnt) (r : Nat)
    (hr : r = if g.X < 0 ∧ min (rung g.X.natAbs (-2176)) INF ≠ 0 then wd true (min (rung g.X.natAbs (-2176)) INF) else min (rung g.X.natAbs (-2176)) INF) :
    Calls Try.prog 13 #[.pointer (some ⟨b, 0, none⟩)] w fun e w' => e = .returned (.float .f64 r) ∧ Below w.heap.size w w' := by
  obtain ⟨d, hX, h⟩ := h
  obtain ⟨c1, -⟩ := h.cnt
  obtain ⟨c2, -⟩ := h.nz
  obtain ⟨c3, -⟩ := h.up
  obtain ⟨c4, -⟩ := h.dn
  obtain ⟨c5, -⟩ := h.nn
  rw [h1] at c5
  rw [h2] at c3
  rw [h3] at c4
  dsimp only at c1 c2
  clear h1 h2 h3
  obtain ⟨W2, hW2⟩ : ∃ W2, (w.alloc (.cells (WL d).toArray 53)).drew = W2 := ⟨_, rfl⟩
  have hB : Below w.heap.size w W2 := by rw [← hW2]; exact ((Below.refl _ _).alloc (Nat.le_refl _) _).drew
  have hS : W2.heap.size = w.heap.size + 1 := by rw [← hW2]; simp
  have hV : WordsAt W2 w.heap.size d := by rw [← hW2]; exact words_new _ _ _
  obtain ⟨T, hT⟩ : ∃ T, T = d 69 := ⟨_, rfl⟩
  obtain ⟨c69, -⟩ := hV 69 (by omega)
  rw [← hT] at c69
  have hTk := hX.ok 69
  rw [← hT] at hTk
  obtain ⟨bl, bh⟩ := big_half ok
  obtain ⟨sg0, sg1⟩ := sum_sign hX bl bh
  rw [← hT] at sg0 sg1
  have H := Lib.hid (⟨h, hX, ok, hr⟩ : _ ∧ _ ∧ _ ∧ _)
  have HB := Lib.hid (⟨hB, hS, hV⟩ : _ ∧ _ ∧ _)
  have HP : Hid (World.rangeAt w.drew b 0 (WL d)) := Lib.hid (acc_range h.drew)
  clear h hX ok hr bl bh hB hS hV hT
  have zW := zeroW
  have k1 := run_f64from
  obtain ⟨z, hz⟩ : ∃ z : Int, z = ((min (rung g.X.natAbs (-2176)) INF : Nat) : Int) := ⟨_, rfl⟩
  have z0 : 0 ≤ z := by omega
  by_cases hlow : T < 9223372036854775808
  · obtain ⟨x0, D⟩ := sg0 hlow
    have hT2 : T / 9223372036854775808 = 0 := by omega
    have KR := Lib.hid fun w' h => rounded_any w.heap.size d _ w' h D z hz
    have HH := Lib.hid (⟨x0, hz⟩ : _ ∧ _)
    clear sg0 sg1 x0 D hz hlow
    go_enter Try.func13, Try.ntmps13
    go_wp2_with fail
    go_region
    go_wp2_with (first | (refine wpList_load_mid rfl 53 _ rfl b 0 rfl (WL d) _ HP.out Try.underlying53 rfl (by rw [WL_length]; exact sizeW) ?_) | (refine wpList_store_row rfl 53 _ _ rfl w.heap.size (WL d).toArray rfl rfl 53 ZW (heap_alloc_last _ _) (by rw [WL_size]; exact sizeW) (by rw [WL_size]; rfl) (WL_one d) ?_; rw [setRow_drew, hW2]) | (go_at_call 38; ((with_reducible refine (KR.out _ HB.out.2.2).mono ?_)); rintro e w' ⟨rfl, nn, rfl⟩))
    go_ret
    obtain ⟨x0, hz⟩ := HH.out
    refine ⟨ret_f64 ?_, below_drewN HB.out.1 nn⟩
    rw [H.out.2.2.2, if_neg (by omega)]; omega
  · obtain ⟨x0, D⟩ := sg1 (by omega)
    have hT2 : T / 9223372036854775808 = 1 := by omega
    have KR := Lib.hid fun w' h => rounded_any w.heap.size (sb (fun _ => 0) d) _ w' h D z hz
    have HH := Lib.hid (⟨x0, hz⟩ : _ ∧ _)
    have HP2 : Hid (World.rangeAt W2 w.heap.size 0 (WL d)) := Lib.hid (words_range HB.out.2.2)
    clear sg0 sg1 x0 D hz hlow
    go_enter Try.func13, Try.ntmps13
    go_wp2_with fail
    go_region
    go_wp2_with (first | (refine wpList_load_mid rfl 53 _ rfl b 0 rfl (WL d) _ HP.out Try.underlying53 rfl (by rw [WL_length]; exact sizeW) ?_) | (refine wpList_load_mid rfl 53 _ rfl w.heap.size 0 rfl (WL d) _ HP2.out Try.underlying53 rfl (by rw [WL_length]; exact sizeW) ?_) | (refine wpList_store_row rfl 53 _ _ rfl w.heap.size (WL d).toArray rfl rfl 53 ZW (heap_alloc_last _ _) (by rw [WL_size]; exact sizeW) (by rw [WL_size]; rfl) (WL_one d) ?_; rw [setRow_drew, hW2]) | (go_at_call 38; ((with_reducible refine (KR.out _ HB.out.2.2).mono ?_)); rintro e w' ⟨rfl, nn, rfl⟩))
    have START : Hid (WordsAt W2 w.heap.size (partW d (sb (fun _ => 0) d) 0)) := Lib.hid (HB.out.2.2.ext (fun i _ => by unfold partW; rw [if_neg (by omega)]))
    have HO := Lib.hid H.out.2.1.ok
    go_loopw [5, 70] (fun c i wr => NegRel w d c i wr) (fun _ i _ => 70 - (intOf i).toNat)
    case atStart => exact ⟨0, by omega, rfl, rfl, START.out, HB.out.1⟩
    case round =>
      obtain ⟨k, hk, rfl, rfl, hw, hbel⟩ := hrel
      by_cases hlt : k < 70
      · have hl : (k : Int) < 70 := by omega
        obtain ⟨cw, fw⟩ := hw k hlt
        have hdk := HO.out k
        have hcb := br_bit (fun _ => 0) d k
        have hbn : br (fun _ => 0) d (k + 1) = if (0 : Int) < d k + br (fun _ => 0) d k then 1 else 0 := rfl
        have hsk : sb (fun _ => 0) d k = (0 + 18446744073709551616 - d k - br (fun _ => 0) d k) % 18446744073709551616 := rfl
        have hnext := hw.next hlt
        obtain ⟨U, hU⟩ : ∃ U, U = d k := ⟨_, rfl⟩
        obtain ⟨D, hD⟩ : ∃ D, D = sb (fun _ => 0) d k := ⟨_, rfl⟩
        obtain ⟨C', hC'⟩ : ∃ D, D = br (fun _ => 0) d (k + 1) := ⟨_, rfl⟩
        rw [← hD] at hnext hsk
        rw [← hU] at hdk hbn hsk
        rw [← hC'] at hbn
        generalize hC : br (fun _ => 0) d k = C at *
        have ki := fun w => run_index_W d k hlt U hU w
        have kr := fun w => run_sub64 0 U C (by omega) hdk.1 hdk.2 hcb w
        rw [← hsk, ← hbn] at kr
        have hpk : partW d (sb (fun _ => 0) d) k k = U := by unfold partW; rw [if_neg (by omega), hU]
        rw [hpk] at cw
        have hLs := (hw k hlt).lt
        have KEEP := Lib.hid (⟨hnext, hbel, hC'⟩ : _ ∧ _ ∧ _)
        clear hnext hbel hC' hC hbn hsk hD hw hU hcb hpk
        go_wp2_with fail
        go_roundw
        case rel =>
          obtain ⟨q1, q2, q3⟩ := KEEP.out
          exact ⟨k + 1, by omega, by rw [q3], by go_num, q1, q2.setCell (Nat.le_refl _) _⟩
        case measure => simp [intOf]; omega
      · have hn : k = 70 := by omega
        subst hn
        have hw2 : WordsAt wr w.heap.size (sb (fun _ => 0) d) := hw.ext (fun i hi => by unfold partW; rw [if_pos hi])
        have K2 := Lib.hid (⟨hw2, hbel⟩ : _ ∧ _)
        have z9 : z.toNat < 2 ^ 63 := by
          have := HH.out.2
          have hI := INF_lt
          omega
        have kn := fun w => run_neg Try.prog (b := z.toNat) (Nat.lt_of_lt_of_le z9 (Nat.pow_le_pow_right (by omega) (by omega))) w
        have hmg : mg z.toNat = z.toNat := Nat.mod_eq_of_lt z9
        have hnn : isN z.toNat = false := isN_false.2 (by rw [hmg]; have := HH.out.2; omega)
        have hz0 : eqW z.toNat 0 = decide (z = 0) := by rw [eqW_zero, hmg, hnn, Bool.not_false, Bool.true_and]; exact decide_eq_decide.2 (by omega)
        have hop : op z.toNat = wd true z.toNat := op_wd (s := false) z9
        have KO := Lib.hid (⟨hop, z9⟩ : _ ∧ _)
        clear hw hbel hw2 hk hlt hop hmg hnn z9
        by_cases h00 : z = 0
        · subst h00
          rw [decide_eq_true rfl] at hz0
          clear kn
          go_wp2_with (go_at_call 38; ((with_reducible refine (KR.out _ K2.out.1).mono ?_)); rintro e w' ⟨rfl, nn, rfl⟩)
          go_ret
          obtain ⟨x0, hz⟩ := HH.out
          refine ⟨ret_f64 ?_, below_drewN K2.out.2 nn⟩
          rw [H.out.2.2.2, if_neg (fun h => h.2 (by omega))]; omega
        · rw [decide_eq_false h00] at hz0
          go_wp2_with (go_at_call 38; ((with_reducible refine (KR.out _ K2.out.1).mono ?_)); rintro e w' ⟨rfl, nn, rfl⟩)
          go_ret
          obtain ⟨x0, hz⟩ := HH.out
          refine ⟨ret_f64 ?_, below_drewN K2.out.2 nn⟩
          rw [H.out.2.2.2, if_pos ⟨x0, by omega⟩, KO.out.1, hz, Int.toNat_natCast]
end Go.Proofs.Ytneedadoafcfcaa
