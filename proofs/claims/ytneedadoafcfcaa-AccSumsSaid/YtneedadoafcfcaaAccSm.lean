/- AccSums. -/
import Derived.Test.YtneedadoafcfcaaRfH
import Derived.Test.YtneedadoafcfcaaAccAw
import Derived.Deep.DeepCutAuto
namespace Go.Proofs.Ytneedadoafcfcaa
open Go Go.RowKit TF

theorem run_store_floatS (P : Program) (w : World) (a : Addr) (m : Mode) (k : FloatKind) (n : Nat) : (store a (.float k n) m).run P w = stored P w a (.float k n) m := run_store P w a _ m rfl
attribute [local go_sem] run_store_floatS cmp_eq cmp_ne cmp_lt cmp_gt cmp_le cmp_ge

theorem accG_ext {g h : AccG} (h1 : g.X = h.X) (h2 : g.cnt = h.cnt) (h3 : g.nz = h.nz) (h4 : g.up = h.up) (h5 : g.dn = h.dn) (h6 : g.nn = h.nn) : g = h := by
  cases g; cases h; simp at *; exact ⟨h1, h2, h3, h4, h5, h6⟩
def oneG (x : Nat) : AccG := addG newG x
theorem addG_one (g : AccG) (x : Nat) : addG g x = mergeG g (oneG x) := by
  unfold oneG addG mergeG newG
  split
  · exact accG_ext (by dsimp only; omega) (by dsimp only; omega) (by dsimp only; omega) (by simp) (by simp) (by simp)
  · split
    · split
      · exact accG_ext (by dsimp only; omega) (by dsimp only; omega) (by dsimp only; omega) (by simp) (by simp) (by simp)
      · exact accG_ext (by dsimp only; omega) (by dsimp only; omega) (by dsimp only; omega) (by simp) (by simp) (by simp)
    · exact accG_ext (by dsimp only; omega) (by dsimp only; omega) (by dsimp only; omega) (by simp) (by simp) (by simp)
theorem mergeG_comm (g h : AccG) : mergeG g h = mergeG h g := by
  unfold mergeG
  exact accG_ext (Int.add_comm _ _) (Int.add_comm _ _) (Int.add_comm _ _) (Bool.or_comm _ _) (Bool.or_comm _ _) (Bool.or_comm _ _)
theorem mergeG_assoc (g h k : AccG) : mergeG (mergeG g h) k = mergeG g (mergeG h k) := by
  unfold mergeG
  exact accG_ext (Int.add_assoc _ _ _) (Int.add_assoc _ _ _) (Int.add_assoc _ _ _) (Bool.or_assoc _ _ _) (Bool.or_assoc _ _ _) (Bool.or_assoc _ _ _)
theorem mergeG_new (g : AccG) : mergeG g newG = g := by
  unfold mergeG newG
  exact accG_ext (by simp) (by simp) (by simp) (by simp) (by simp) (by simp)
theorem sumG_ext {f k : Nat → Nat} : ∀ n, (∀ i, i < n → f i = k i) → sumG f n = sumG k n := by
  intro n
  induction n with
  | zero => intro _; rfl
  | succ n ih => intro h; show addG _ _ = addG _ _; rw [ih (fun i hi => h i (by omega)), h n (by omega)]
theorem sumG_split (f : Nat → Nat) (m : Nat) : ∀ k, sumG f (m + k) = mergeG (sumG f m) (sumG (fun i => f (m + i)) k) := by
  intro k
  induction k with
  | zero => exact (mergeG_new _).symm
  | succ k ih =>
    show addG (sumG f (m + k)) (f (m + k)) = mergeG _ (addG _ (f (m + k)))
    rw [ih, addG_one, addG_one, mergeG_assoc]
theorem sumG_back (f : Nat → Nat) : ∀ n, sumG (fun i => f (n - 1 - i)) n = sumG f n := by
  intro n
  induction n with
  | zero => rfl
  | succ n ih =>
    rw [show n + 1 = 1 + n by omega, sumG_split _ 1 n]
    have e : sumG (fun i => (fun i => f (1 + n - 1 - i)) (1 + i)) n = sumG f n := by
      rw [← ih]
      exact sumG_ext n (fun i hi => by show f _ = f _; congr 1; omega)
    rw [e, show 1 + n = n + 1 by omega]
    show mergeG (addG newG (f (n + 1 - 1 - 0))) (sumG f n) = addG (sumG f n) (f n)
    rw [addG_one (sumG f n), mergeG_comm, show n + 1 - 1 - 0 = n by omega]; rfl
theorem sumG_parts (f : Nat → Nat) {a n : Nat} (h : a ≤ n) : mergeG (sumG f a) (sumG (fun i => f (a + i)) (n - a)) = sumG f n := by
  rw [← sumG_split, show a + (n - a) = n by omega]
theorem sumG_round (f : Nat → Nat) {a n : Nat} (h : a < n) : sumG (fun i => f ((a + i) % n)) n = sumG f n := by
  have e := sumG_split (fun i => f ((a + i) % n)) (n - a) a
  rw [show n - a + a = n by omega] at e
  rw [e, ← sumG_parts f (Nat.le_of_lt h), mergeG_comm]
  congr 1
  · exact sumG_ext a (fun i hi => by
      show f _ = f _
      congr 1
      rw [show a + (n - a + i) = n + i by omega, Nat.add_mod_left, Nat.mod_eq_of_lt (by omega)])
  · exact sumG_ext (n - a) (fun i hi => by
      show f _ = f _
      congr 1
      exact Nat.mod_eq_of_lt (by omega))
/-- a block of floats of the call's own. -/
def FBox (w : World) (g n : Nat) (f : Nat → Nat) : Prop := ∀ i, i < n → CellIs w g i (.float .f64 (f i))
theorem fbox_cong {w w' : World} {g n : Nat} {f : Nat → Nat} (h : FBox w g n f) (e : w'.heap[g]? = w.heap[g]?) : FBox w' g n f := fun i hi => (h i hi).cong e
theorem fbox_other {w : World} {g n c j : Nat} {f : Nat → Nat} {v : Value} (h : FBox w g n f) (hn : g ≠ c) : FBox (w.setCell ⟨c, j, none⟩ v) g n f := fun i hi => (h i hi).other (fun e => absurd e hn)
def fpart (f : Nat → Nat) (k i : Nat) : Nat := if i < k then f i else 0
theorem fbox_next {w : World} {g n k : Nat} {f : Nat → Nat} (h : FBox w g n (fpart f k)) : FBox (w.setCell ⟨g, k, none⟩ (.float .f64 (f k))) g n (fpart f (k + 1)) := fun i hi => by
  by_cases e : i = k
  · subst e
    have e2 : fpart f (i + 1) i = f i := if_pos (by omega)
    rw [e2]; exact (h i hi).same
  · have e2 : fpart f (k + 1) i = fpart f k i := by
      unfold fpart
      by_cases h1 : i < k
      · rw [if_pos h1, if_pos (by omega)]
      · rw [if_neg h1, if_neg (by omega)]
    rw [e2]; exact (h i hi).other (fun _ => e)
theorem fbox_floats {w : World} {g n : Nat} {f : Nat → Nat} (h : FBox w g n f) (hx : ∀ i, i < n → W64 (f i)) : Floats w (some ⟨g, 0, none⟩) n f := fun i hi =>
  ⟨g, 0, rfl, (h i hi).lt, by rw [Nat.zero_add]; exact (h i hi).1, hx i hi⟩
theorem same_self' (a : Nat) (w : World) : Calls Try.prog 16 #[.float .f64 a, .float .f64 a] w fun e w' => e = .returned (.bool true) ∧ w = w' := by
  have h := rsame_any a a w
  rwa [sameB_self] at h
theorem info_f64s : (Try.prog.info? 22).map (fun i => (i.zero, i.size, i.bytes)) = some (some (.float .f64 0), 1, 8) := by kernel_rfl
theorem made_box {w : World} {base g n : Nat} {z : Value} (hz : z = .float .f64 0) (h : w.ownsRow base 22 1 (.slice (some ⟨g, 0, none⟩) n n) n (madeCells z.cells (n * 1)).toList) (f : Nat → Nat) : FBox w g n (fpart f 0) := fun i hi => by
  subst hz
  refine ⟨?_, h.frozenAt i⟩
  have e : fpart f 0 i = 0 := if_neg (by omega)
  have h2 : i < n * 1 := by omega
  rw [h.cellAt i h2, Array.getElem?_toList, e]
  have e2 : (Value.float .f64 0).cells = #[.float .f64 0] := rfl
  rw [e2]
  simp [madeCells, hi, Nat.mod_one]
/-- what lies in the blocks that the law makes, before round k. -/
structure SmS (wr : World) (P R A B n a : Nat) (xs : Nat → Nat) (k : Nat) : Prop where
  bp : FBox wr P n (fpart (fun i => xs (n - 1 - i)) k)
  br : FBox wr R n (fpart (fun i => xs ((a + i) % n)) k)
  ba : AccIs wr A (sumG xs (min k a))
  bb : AccIs wr B (sumG (fun i => xs (a + i)) (k - a))
theorem SmS.adda {w w1 w2 : World} {P R A B n a k : Nat} {xs : Nat → Nat} (hPR : P < R) (hRA : R < A) (hAB : A < B) (h : SmS w P R A B n a xs k) (hk : k < a)
    (h1 : w1 = (w.setCell ⟨P, k, none⟩ (.float .f64 (xs (n - 1 - k)))).setCell ⟨R, k, none⟩ (.float .f64 (xs ((a + k) % n)))) (ha : AccIs w2 A (addG (sumG xs (min k a)) (xs k))) (hc : Chg A w1 w2) : SmS w2 P R A B n a xs (k + 1) := by
  have hB := h.bb.lt
  have hA := h.ba.lt
  have hs : w1.heap.size = w.heap.size := by rw [h1]; simp
  have p1 : FBox w1 P n (fpart (fun i => xs (n - 1 - i)) (k + 1)) := by
    rw [h1]; exact fbox_other (fbox_next (f := fun i => xs (n - 1 - i)) h.bp) (by omega)
  have r1 : FBox w1 R n (fpart (fun i => xs ((a + i) % n)) (k + 1)) := by
    rw [h1]; exact fbox_next (f := fun i => xs ((a + i) % n)) (fbox_other h.br (by omega))
  have b1 : AccIs w1 B (sumG (fun i => xs (a + i)) (k - a)) := h.bb.cong (by rw [h1, heap_setCell_other _ _ _ _ (show B ≠ R by omega), heap_setCell_other _ _ _ _ (show B ≠ P by omega)])
  refine ⟨fbox_cong p1 (hc.block P (by omega) (by omega)), fbox_cong r1 (hc.block R (by omega) (by omega)), ?_, ?_⟩
  · rw [show min (k + 1) a = min k a + 1 by omega]
    show AccIs w2 A (addG (sumG xs (min k a)) (xs (min k a)))
    rw [show xs (min k a) = xs k by congr 1; omega]; exact ha
  · rw [show k + 1 - a = k - a by omega]
    exact b1.cong (hc.block B (by omega) (by omega))
theorem SmS.addb {w w1 w2 : World} {P R A B n a k : Nat} {xs : Nat → Nat} (hPR : P < R) (hRA : R < A) (hAB : A < B) (h : SmS w P R A B n a xs k) (hk : a ≤ k)
    (h1 : w1 = (w.setCell ⟨P, k, none⟩ (.float .f64 (xs (n - 1 - k)))).setCell ⟨R, k, none⟩ (.float .f64 (xs ((a + k) % n)))) (hb : AccIs w2 B (addG (sumG (fun i => xs (a + i)) (k - a)) (xs k))) (hc : Chg B w1 w2) : SmS w2 P R A B n a xs (k + 1) := by
  have hB := h.bb.lt
  have hs : w1.heap.size = w.heap.size := by rw [h1]; simp
  have p1 : FBox w1 P n (fpart (fun i => xs (n - 1 - i)) (k + 1)) := by
    rw [h1]; exact fbox_other (fbox_next (f := fun i => xs (n - 1 - i)) h.bp) (by omega)
  have r1 : FBox w1 R n (fpart (fun i => xs ((a + i) % n)) (k + 1)) := by
    rw [h1]; exact fbox_next (f := fun i => xs ((a + i) % n)) (fbox_other h.br (by omega))
  have a1 : AccIs w1 A (sumG xs (min k a)) := h.ba.cong (by rw [h1, heap_setCell_other _ _ _ _ (show A ≠ R by omega), heap_setCell_other _ _ _ _ (show A ≠ P by omega)])
  refine ⟨fbox_cong p1 (hc.block P (by omega) (by omega)), fbox_cong r1 (hc.block R (by omega) (by omega)), ?_, ?_⟩
  · rw [show min (k + 1) a = min k a by omega]
    exact a1.cong (hc.block A (by omega) (by omega))
  · rw [show k + 1 - a = k - a + 1 by omega]
    show AccIs w2 B (addG (sumG (fun i => xs (a + i)) (k - a)) (xs (a + (k - a))))
    rw [show a + (k - a) = k by omega]; exact hb
theorem at_mod (aa : Int) {n : Nat} (h0 : 0 < n) (h9 : n ≤ 65536) : ∃ a : Nat, a < n ∧ wrap64 ((IntKind.u64.wrap aa).tmod (n : Int)) = (a : Int) := by
  have e : IntKind.u64.wrap aa = aa % 18446744073709551616 := rfl
  rw [e, Int.tmod_eq_emod_of_nonneg (by omega)]
  have b1 := Int.emod_nonneg (aa % 18446744073709551616) (show (n : Int) ≠ 0 by omega)
  have b2 := Int.emod_lt_of_pos (aa % 18446744073709551616) (show (0 : Int) < (n : Int) by omega)
  generalize aa % 18446744073709551616 % (n : Int) = z at *
  exact ⟨z.toNat, by omega, by unfold wrap64; omega⟩

set_option maxHeartbeats 8000000 in
set_option maxRecDepth 100000 in
theorem accSums_any (A0 : Option Addr) (n cap : Nat) (xs : Nat → Nat) (aa : Int) (w : World) (hl : n ≤ 9223372036854775807) (hF : Floats w A0 n xs) (_hk : (Lit.int .i64 aa).wf = true) :
    Calls Try.prog 7 #[.slice A0 n cap, .int .i64 aa] w fun e w' => e = .returned (.bool true) ∧ Below w.heap.size w w' := by
  have KN := Lib.hid new_any
  have KAw := Lib.hid (awake_any w)
  have HF := Lib.hid hF
  have KSm := Lib.hid same_self'
  clear hF
  by_cases hbig : 65536 < n
  · have hb2 : (65536 : Int) < n := by omega
    go_enter Try.func7, Try.ntmps7
    go_wp2_with fail
    refine (KAw.out).mono ?_
    rintro e w1 ⟨rfl, hb1⟩
    have HB1 := Lib.hid hb1
    clear hb1
    go_wp2_with fail
    go_ret
    exact ⟨rfl, HB1.out⟩
  have hb2 : ¬ (65536 : Int) < n := by omega
  obtain ⟨S, hS⟩ : ∃ S, S = sumG xs n := ⟨_, rfl⟩
  obtain ⟨okS, cntS⟩ := sumG_ok xs n (by omega)
  obtain ⟨V, hV⟩ : ∃ V, V = valG S := ⟨_, rfl⟩
  have KS1 := Lib.hid fun w' (hb : Below w.heap.size w w') => sum_any A0 n cap xs w' (fun i hi => by
    obtain ⟨b, off, h1, h2, h3, h4⟩ := HF.out i hi
    exact ⟨b, off, h1, Nat.lt_of_lt_of_le h2 hb.size, by rw [hb.cell (p := ⟨b, off + i, none⟩) h2]; exact h3, h4⟩) (by omega)
  have KS2 := Lib.hid fun w' (hb : Below w.heap.size w w') => rsum_any A0 n cap xs w' (fun i hi => by
    obtain ⟨b, off, h1, h2, h3, h4⟩ := HF.out i hi
    exact ⟨b, off, h1, Nat.lt_of_lt_of_le h2 hb.size, by rw [hb.cell (p := ⟨b, off + i, none⟩) h2]; exact h3, h4⟩) (by omega)
  rw [← hS, ← hV] at KS1 KS2
  rw [← hS] at okS cntS
  have HS := Lib.hid (⟨hS, hV, okS, cntS⟩ : _ ∧ _ ∧ _ ∧ _)
  clear hS hV okS cntS
  by_cases hn0 : n = 0
  · subst hn0
    have V0 : V = 0 := by
      obtain ⟨h1, h2, -, -⟩ := HS.out
      rw [h2, h1]; rfl
    subst V0
    go_enter Try.func7, Try.ntmps7
    go_wp2_with fail
    refine (KAw.out).mono ?_
    rintro e w1 ⟨rfl, hb1⟩
    have HB1 := Lib.hid hb1
    clear hb1
    go_wp2_with fail
    refine (KS1.out _ HB1.out).mono ?_
    rintro e w2 ⟨rfl, hb2⟩
    have HB2 := Lib.hid (HB1.out.trans (hb2.mono HB1.out.size))
    clear hb2
    go_wp2_with fail
    refine (KS2.out _ HB2.out).mono ?_
    rintro e w3 ⟨rfl, hb3⟩
    have HB3 := Lib.hid (HB2.out.trans (hb3.mono HB2.out.size))
    clear hb3
    go_wp2_with (first | (go_at_call 16; ((with_reducible refine (KSm.out _ _).mono ?_)); rintro e w' ⟨rfl, rfl⟩) | (go_at_call 14; ((with_reducible refine (rbits_any 0 0 rfl _).mono ?_)); rintro e w' ⟨rfl, rfl⟩))
    go_ret
    exact ⟨rfl, HB3.out⟩
  · obtain ⟨a, ha, hat⟩ := at_mod aa (n := n) (by omega) (by omega)
    have n1 : 1 ≤ n := by omega
    obtain ⟨i0, hi, hz0, hz1, hz2⟩ := info_parts info_f64s
    go_enter Try.func7, Try.ntmps7
    go_wp2_with fail
    refine (KAw.out).mono ?_
    rintro e w1 ⟨rfl, hb1⟩
    have HB1 := Lib.hid hb1
    clear hb1
    go_wp2_with fail
    refine (KS1.out _ HB1.out).mono ?_
    rintro e w2 ⟨rfl, hb2⟩
    have HB2 := Lib.hid (HB1.out.trans (hb2.mono HB1.out.size))
    clear hb2
    go_wp2_with fail
    refine (KS2.out _ HB2.out).mono ?_
    rintro e w3 ⟨rfl, hb3⟩
    have HB3 := Lib.hid (HB2.out.trans (hb3.mono HB2.out.size))
    clear hb3
    go_upto_region 12 with (first | (go_at_call 16; ((with_reducible refine (KSm.out _ _).mono ?_)); rintro e w' ⟨rfl, rfl⟩))
    rw [hat]
    clear hat
    have a0n : (a : Int) < n := by omega
    go_wp2_with (first
      | (refine wpList_make_full _ rfl (.tmp 63) (.tmp 63) 27 rfl w3.heap.size 22 i0 (.float .f64 0) 1 Try.underlying27 hi hz0 hz1 .i64 .i64 n n n rfl rfl rfl rfl (by rw [hz2]; omega) (by unfold maxLen; omega) (Nat.le_refl _) ?_; intro w4 hown1 hgrow1; have HG1 := Lib.hid (⟨hown1, hgrow1⟩ : _ ∧ _); clear hown1 hgrow1)
      | (refine wpList_make_full _ rfl (.tmp 65) (.tmp 65) 27 rfl w4.heap.size 22 i0 (.float .f64 0) 1 Try.underlying27 hi hz0 hz1 .i64 .i64 n n n rfl rfl rfl rfl (by rw [hz2]; omega) (by unfold maxLen; omega) (Nat.le_refl _) ?_; intro w5 hown2 hgrow2; have HG2 := Lib.hid (⟨hown2, hgrow2⟩ : _ ∧ _); clear hown2 hgrow2)
      | (go_at_call 11; ((with_reducible refine (KN.out _).mono ?_)); rintro e w' ⟨rfl, rfl⟩))
    have START : Hid (SmS ((w5.alloc (.cells ZAcc 55)).alloc (.cells ZAcc 55)) w3.heap.size w4.heap.size w5.heap.size (w5.heap.size + 1) n a xs 0 ∧ w3.heap.size < w4.heap.size ∧ w4.heap.size < w5.heap.size ∧ w.heap.size ≤ w3.heap.size ∧ Below w.heap.size w ((w5.alloc (.cells ZAcc 55)).alloc (.cells ZAcc 55))) := Lib.hid (by
      obtain ⟨o1, g1⟩ := HG1.out
      obtain ⟨o2, g2⟩ := HG2.out
      have l1 : w3.heap.size < w4.heap.size := (o1.lt _ rfl).2
      have l2 : w4.heap.size < w5.heap.size := (o2.lt _ rfl).2
      have s3 := HB3.out.size
      have old : ∀ (u : World) (x y : Obj) (g : Nat), g < u.heap.size → ((u.alloc x).alloc y).heap[g]? = u.heap[g]? := fun u x y g hg => by
        rw [heap_alloc_old _ _ (by simp; omega), heap_alloc_old _ _ hg]
      refine ⟨⟨?_, ?_, ?_, ?_⟩, l1, l2, s3, ?_⟩
      · exact fbox_cong (fbox_cong (made_box rfl o1 _) (g2.block _ l1 (by simp))) (old _ _ _ _ (by omega))
      · exact fbox_cong (made_box rfl o2 _) (old _ _ _ _ (by omega))
      · refine (new_is w5).cong ?_
        rw [heap_alloc_old _ _ (by simp)]
      · have h := new_is (w5.alloc (.cells ZAcc 55))
        rw [World.size_alloc] at h
        rw [Nat.zero_sub]
        exact h
      · have b4 := HB3.out.grown g1 (by omega) (by intro q hq; cases hq)
        have b5 := b4.grown g2 (by have := b4.size; omega) (by intro q hq; cases hq)
        exact (b5.alloc b5.size _).alloc (by have := b5.size; simp; omega) _)
    obtain ⟨b, off, rfl, hbw, hcell⟩ : ∃ b off, A0 = some ⟨b, off, none⟩ ∧ b < w.heap.size ∧ ∀ i, i < n → w.cell? ⟨b, off + i, none⟩ = some (.float .f64 (xs i)) ∧ W64 (xs i) := by
      obtain ⟨b, off, e, h1, -, -⟩ := HF.out 0 (by omega)
      refine ⟨b, off, e, h1, fun i hi => ?_⟩
      obtain ⟨b', off', e', -, h3, h4⟩ := HF.out i hi
      rw [e] at e'
      cases e'
      exact ⟨h3, h4⟩
    have HC := Lib.hid hcell
    clear hcell
    obtain ⟨P, hP⟩ : ∃ P, P = w3.heap.size := ⟨_, rfl⟩
    obtain ⟨R, hR⟩ : ∃ P, P = w4.heap.size := ⟨_, rfl⟩
    obtain ⟨A, hA⟩ : ∃ P, P = w5.heap.size := ⟨_, rfl⟩
    obtain ⟨B, hB⟩ : ∃ P, P = A + 1 := ⟨_, rfl⟩
    obtain ⟨W6, hW6⟩ : ∃ W6, W6 = (w5.alloc (.cells ZAcc 55)).alloc (.cells ZAcc 55) := ⟨_, rfl⟩
    rw [← hP, ← hR, ← hA, ← hB, ← hW6] at START
    rw [← hP, ← hR, ← hA, ← hB, ← hW6]
    obtain ⟨-, o1, o2, o3, -⟩ := START.out
    have o4 : A < B := by omega
    have ORD := Lib.hid (⟨o1, o2, o4, o3, hbw, ha⟩ : _ ∧ _ ∧ _ ∧ _ ∧ _ ∧ _)
    have hbP : b ≠ P := by omega
    have hbR : b ≠ R := by omega
    have hPR : P ≠ R := by omega
    clear hP hR hA hB hW6 HG1 HG2 o1 o2 o3 o4 HB1 HB2 HB3 HF hbw KN KAw hi hz0 hz1 hz2
    go_loopw [15] (fun i wr => ∃ k : Nat, k ≤ n ∧ i = .int .i64 k ∧ SmS wr P R A B n a xs k ∧ Below w.heap.size w wr) (fun i _ => n - (intOf i).toNat)
    case atStart => exact ⟨0, by omega, rfl, START.out.1, START.out.2.2.2.2⟩
    case round =>
      obtain ⟨k, hk, rfl, hst, hbel⟩ := hrel
      by_cases hlt : k < n
      · have hl2 : (k : Int) < n := by omega
        obtain ⟨ca, x1⟩ := HC.out (n - 1 - k) (by omega)
        obtain ⟨cb, x2⟩ := HC.out ((a + k) % n) (Nat.mod_lt _ (by omega))
        obtain ⟨cc, x3⟩ := HC.out k hlt
        have hbs : b < w.heap.size := ORD.out.2.2.2.2.1
        have fa : wr.cell? ⟨b, off + (n - 1 - k), none⟩ = some (.float .f64 (xs (n - 1 - k))) := by
          rw [hbel.cell (p := ⟨b, _, none⟩) hbs]; exact ca
        obtain ⟨p1, p2⟩ := hst.bp k hlt
        obtain ⟨r1, r2⟩ := hst.br k hlt
        obtain ⟨X1, hX1⟩ : ∃ X, X = xs (n - 1 - k) := ⟨_, rfl⟩
        obtain ⟨X2, hX2⟩ : ∃ X, X = xs ((a + k) % n) := ⟨_, rfl⟩
        obtain ⟨X3, hX3⟩ : ∃ X, X = xs k := ⟨_, rfl⟩
        obtain ⟨w1, hw1⟩ : ∃ w1, w1 = wr.setCell ⟨P, k, none⟩ (.float .f64 X1) := ⟨_, rfl⟩
        obtain ⟨w2, hw2⟩ : ∃ w2, w2 = w1.setCell ⟨R, k, none⟩ (.float .f64 X2) := ⟨_, rfl⟩
        obtain ⟨q, hq⟩ : ∃ q, q = (a + k) % n := ⟨_, rfl⟩
        have hmod : ((a : Int) + k).tmod n = (q : Int) := by
          rw [Int.tmod_eq_emod_of_nonneg (by omega), hq]; simp
        have q9 : (q : Int) < n := by have := Nat.mod_lt (a + k) (show 0 < n by omega); omega
        have fb : w1.cell? ⟨b, off + q, none⟩ = some (.float .f64 X2) := by
          rw [hw1, World.cell?_setCell_other _ _ _ _ (by intro e; injection e with e1 e2; exact hbP e1.symm), hbel.cell (p := ⟨b, _, none⟩) hbs, hq, hX2]; exact cb
        have fr1 : w1.cell? ⟨R, k, none⟩ = wr.cell? ⟨R, k, none⟩ := by
          rw [hw1, World.cell?_setCell_other _ _ _ _ (by intro e; injection e with e1 e2; exact hPR e1)]
        have fr2 : w1.frozen? ⟨R, k, none⟩ = false := by rw [hw1]; simpa using r2
        rw [r1] at fr1
        have fc : w2.cell? ⟨b, off + k, none⟩ = some (.float .f64 X3) := by
          rw [hw2, World.cell?_setCell_other _ _ _ _ (by intro e; injection e with e1 e2; exact hbR e1.symm), hw1, World.cell?_setCell_other _ _ _ _ (by intro e; injection e with e1 e2; exact hbP e1.symm), hbel.cell (p := ⟨b, _, none⟩) hbs, hX3]; exact cc
        rw [← hX1] at fa
        have HE := Lib.hid (⟨hst, hbel, hX1, hX2, hX3, hw1, hw2, x3⟩ : _ ∧ _ ∧ _ ∧ _ ∧ _ ∧ _ ∧ _ ∧ _)
        clear hst hbel hX1 hX2 hX3 ca cb cc x1 x2 x3 r1 r2 hq hbs hw1 hw2
        go_upto_region 20 with fail
        rw [← HE.out.2.2.2.2.2.1]
        clear p1 p2 fa
        go_upto_region 21 with fail
        rw [← HE.out.2.2.2.2.2.2.1]
        clear fr1 fr2 fb hmod q9
        by_cases hka : k < a
        · have hka2 : (k : Int) < a := by omega
          have KA := Lib.hid (by
            obtain ⟨e1, e2, e3, e4, e5, e6, e7, e8⟩ := HE.out
            obtain ⟨o1, o2, o3, o4, o5, o6⟩ := ORD.out
            have hacc : AccIs w2 A (sumG xs (min k a)) := e1.ba.cong (by rw [e7, e6, heap_setCell_other _ _ _ _ (show A ≠ R by omega), heap_setCell_other _ _ _ _ (show A ≠ P by omega)])
            obtain ⟨hok, hcnt⟩ := sumG_ok xs (min k a) (by omega)
            exact add_some A _ w2 hacc hok X3 (by rw [e5]; exact e8) (by rw [hcnt]; omega))
          clear hka
          go_wp2_with fail
          refine (KA.out).mono ?_
          rintro e w' ⟨rfl, hac, hch⟩
          have KE := Lib.hid (⟨hac, hch⟩ : _ ∧ _)
          clear hac hch
          go_wp2_with fail
          go_roundw
          case rel =>
            obtain ⟨e1, e2, e3, e4, e5, e6, e7, e8⟩ := HE.out
            obtain ⟨o1, o2, o3, o4, o5, o6⟩ := ORD.out
            have hs2 : w.heap.size ≤ w2.heap.size := by rw [e7, e6]; simp; exact e2.size
            refine ⟨k + 1, by omega, by go_num, e1.adda o1 o2 o3 (by omega) (by rw [← e3, ← e4, ← e6, ← e7]) (by rw [← e5]; exact KE.out.1) KE.out.2, ?_⟩
            refine KE.out.2.below ?_ (by omega) hs2
            rw [e7, e6]
            exact (e2.setCell (by show w.heap.size ≤ P; omega) _).setCell (by show w.heap.size ≤ R; omega) _
          case measure => simp [intOf]; omega
        · have hka2 : ¬ (k : Int) < a := by omega
          have KA := Lib.hid (by
            obtain ⟨e1, e2, e3, e4, e5, e6, e7, e8⟩ := HE.out
            obtain ⟨o1, o2, o3, o4, o5, o6⟩ := ORD.out
            have hacc : AccIs w2 B (sumG (fun i => xs (a + i)) (k - a)) := e1.bb.cong (by rw [e7, e6, heap_setCell_other _ _ _ _ (show B ≠ R by omega), heap_setCell_other _ _ _ _ (show B ≠ P by omega)])
            obtain ⟨hok, hcnt⟩ := sumG_ok (fun i => xs (a + i)) (k - a) (by omega)
            exact add_some B _ w2 hacc hok X3 (by rw [e5]; exact e8) (by rw [hcnt]; omega))
          clear hka
          go_wp2_with fail
          refine (KA.out).mono ?_
          rintro e w' ⟨rfl, hac, hch⟩
          have KE := Lib.hid (⟨hac, hch⟩ : _ ∧ _)
          clear hac hch
          go_wp2_with fail
          go_roundw
          case rel =>
            obtain ⟨e1, e2, e3, e4, e5, e6, e7, e8⟩ := HE.out
            obtain ⟨o1, o2, o3, o4, o5, o6⟩ := ORD.out
            have hs2 : w.heap.size ≤ w2.heap.size := by rw [e7, e6]; simp; exact e2.size
            refine ⟨k + 1, by omega, by go_num, e1.addb o1 o2 o3 (by omega) (by rw [← e3, ← e4, ← e6, ← e7]) (by rw [← e5]; exact KE.out.1) KE.out.2, ?_⟩
            refine KE.out.2.below ?_ (by omega) hs2
            rw [e7, e6]
            exact (e2.setCell (by show w.heap.size ≤ P; omega) _).setCell (by show w.heap.size ≤ R; omega) _
          case measure => simp [intOf]; omega
      · have hn : k = n := by omega
        subst hn
        obtain ⟨s1, s2, s3, s4⟩ := HS.out
        obtain ⟨o1, o2, o3, o4, o5, o6⟩ := ORD.out
        have hx : ∀ i, i < k → W64 (xs i) := fun i hi => (HC.out i hi).2
        have f1 : FBox wr P k (fun i => xs (k - 1 - i)) := fun i hi => by have := hst.bp i hi; rwa [show fpart (fun i => xs (k - 1 - i)) k i = xs (k - 1 - i) from if_pos hi] at this
        have f2 : FBox wr R k (fun i => xs ((a + i) % k)) := fun i hi => by have := hst.br i hi; rwa [show fpart (fun i => xs ((a + i) % k)) k i = xs ((a + i) % k) from if_pos hi] at this
        have g1 := fbox_floats f1 (fun i hi => hx _ (by omega))
        have g2 := fbox_floats f2 (fun i hi => hx _ (Nat.mod_lt _ (by omega)))
        have ga : AccIs wr A (sumG xs a) := by have := hst.ba; rwa [show min k a = a by omega] at this
        have gb := hst.bb
        obtain ⟨oka, cnta⟩ := sumG_ok xs a (by omega)
        obtain ⟨okb, cntb⟩ := sumG_ok (fun i => xs (a + i)) (k - a) (by omega)
        have hmg := sumG_parts xs (Nat.le_of_lt o6)
        have T1 := sum_any (some ⟨P, 0, none⟩) k k _ wr g1 (by omega)
        have T2 := fun w' (hb : Below wr.heap.size wr w') => sum_any (some ⟨R, 0, none⟩) k k (fun i => xs ((a + i) % k)) w' (fun i hi => by
          obtain ⟨b', off', h1, h2, h3, h4⟩ := g2 i hi
          exact ⟨b', off', h1, Nat.lt_of_lt_of_le h2 hb.size, by rw [hb.cell (p := ⟨b', off' + i, none⟩) h2]; exact h3, h4⟩) (by omega)
        rw [sumG_back, ← s1, ← s2] at T1
        rw [sumG_round xs o6, ← s1, ← s2] at T2
        obtain ⟨GA, hGA⟩ : ∃ g, g = sumG xs a := ⟨_, rfl⟩
        obtain ⟨GB, hGB⟩ : ∃ g, g = sumG (fun i => xs (a + i)) (k - a) := ⟨_, rfl⟩
        rw [← hGA] at ga oka cnta hmg
        rw [← hGB] at gb okb cntb hmg
        rw [← s1] at hmg
        obtain ⟨KV, hKV⟩ : ∃ v, v = valG GB := ⟨_, rfl⟩
        have T3 := fun w' (hb : Below wr.heap.size wr w') => value_any B GB w' (gb.cong (hb.block _ gb.lt)) okb
        rw [← hKV] at T3
        have U1 := Lib.hid T1
        have U2 := Lib.hid T2
        have U3 := Lib.hid T3
        have HH := Lib.hid (⟨ga, gb, oka, okb, cnta, cntb, hmg, hbel, hKV⟩ : _ ∧ _ ∧ _ ∧ _ ∧ _ ∧ _ ∧ _ ∧ _ ∧ _)
        clear T1 T2 T3 ga gb oka okb cnta cntb hmg hbel hst f1 f2 g1 g2 hx hGA hGB hKV s1 s2 s3 s4 o1 o2 o3 o4 o5 o6 hk hlt
        go_wp2_with fail
        refine (U1.out).mono ?_
        rintro e y1 ⟨rfl, b1⟩
        have B1 := Lib.hid b1
        clear b1
        go_wp2_with fail
        refine (U2.out _ B1.out).mono ?_
        rintro e y2 ⟨rfl, b2⟩
        have B2 := Lib.hid (B1.out.trans (b2.mono B1.out.size))
        clear b2
        go_wp2_with fail
        refine (U3.out _ B2.out).mono ?_
        rintro e y3 ⟨rfl, b3⟩
        have B3 := Lib.hid (B2.out.trans (b3.mono B2.out.size))
        clear b3
        have M := Lib.hid (by
          obtain ⟨ga, gb, oka, okb, cnta, cntb, hmg, hbel, hKV⟩ := HH.out
          obtain ⟨o1, o2, o3, o4, o5, o6⟩ := ORD.out
          have h := merge_some A B GA GB y3 (ga.cong (B3.out.block _ ga.lt)) oka (gb.cong (B3.out.block _ gb.lt)) okb (by omega) (by omega)
          rwa [hmg] at h)
        go_wp2_with fail
        refine (M.out).mono ?_
        rintro e y4 ⟨rfl, m1, m2⟩
        have M1 := Lib.hid (⟨m1, m2⟩ : _ ∧ _)
        clear m1 m2
        have V1 := Lib.hid (by
          have h := value_any A S y4 M1.out.1 HS.out.2.2.1
          rwa [← HS.out.2.1] at h)
        go_wp2_with (go_at_call 16; ((with_reducible refine (KSm.out _ _).mono ?_)); rintro e w' ⟨rfl, rfl⟩)
        refine (V1.out).mono ?_
        rintro e y5 ⟨rfl, b5⟩
        have B5 := Lib.hid b5
        clear b5
        have C1 := Lib.hid (by
          have h := count_any A S y5 (M1.out.1.cong (B5.out.block _ M1.out.1.lt))
          rwa [HS.out.2.2.2] at h)
        go_wp2_with (go_at_call 16; ((with_reducible refine (KSm.out _ _).mono ?_)); rintro e w' ⟨rfl, rfl⟩)
        refine (C1.out).mono ?_
        rintro e y6 ⟨rfl, rfl⟩
        have C2 := Lib.hid (by
          obtain ⟨ga, gb, oka, okb, cnta, cntb, hmg, hbel, hKV⟩ := HH.out
          obtain ⟨o1, o2, o3, o4, o5, o6⟩ := ORD.out
          have g4 : AccIs y4 B GB := (gb.cong (B3.out.block _ gb.lt)).cong (M1.out.2.block B (Nat.lt_of_lt_of_le gb.lt B3.out.size) (by omega))
          have h := count_any B GB y5 (g4.cong (B5.out.block _ g4.lt))
          rw [cntb, show ((k - a : Nat) : Int) = (k : Int) - a by omega] at h
          exact (⟨h, value_any B GB y5 (g4.cong (B5.out.block _ g4.lt)) okb⟩ : _ ∧ _))
        go_wp2_with fail
        refine (C2.out.1).mono ?_
        rintro e y6 ⟨rfl, rfl⟩
        have V2 := Lib.hid (by
          have h := C2.out.2
          rwa [← HH.out.2.2.2.2.2.2.2.2] at h)
        go_wp2_with fail
        refine (V2.out).mono ?_
        rintro e y7 ⟨rfl, b7⟩
        have B7 := Lib.hid b7
        clear b7
        go_wp2_with (go_at_call 16; ((with_reducible refine (KSm.out _ _).mono ?_)); rintro e w' ⟨rfl, rfl⟩)
        go_ret
        refine ⟨rfl, ?_⟩
        obtain ⟨ga, gb, oka, okb, cnta, cntb, hmg, hbel, hKV⟩ := HH.out
        obtain ⟨o1, o2, o3, o4, o5, o6⟩ := ORD.out
        have d3 := hbel.trans (B3.out.mono hbel.size)
        have d4 := M1.out.2.below d3 (by omega) d3.size
        have d5 := d4.trans (B5.out.mono d4.size)
        exact d5.trans (B7.out.mono d5.size)
end Go.Proofs.Ytneedadoafcfcaa
