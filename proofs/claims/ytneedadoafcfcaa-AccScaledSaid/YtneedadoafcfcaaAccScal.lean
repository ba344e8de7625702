/- AccScaled. -/
import Derived.Test.YtneedadoafcfcaaAccTwo
import Derived.Test.YtneedadoafcfcaaAccSc
import Derived.Maps.AppendAt
namespace Go.Proofs.Ytneedadoafcfcaa
open Go Go.RowKit TF

attribute [local go_sem] cmp_eq cmp_ne cmp_lt cmp_gt cmp_le cmp_ge

theorem info_f64 : (Try.prog.info? 22).map (fun i => (i.zero, i.size, i.bytes)) = some (some (.float .f64 0), 1, 8) := by kernel_rfl
theorem power_k (kk : Int) : ∃ K : Nat, K < 400 ∧ wrap64 ((IntKind.u64.wrap kk).tmod 400) = (K : Int) := by
  have e : IntKind.u64.wrap kk = kk % 18446744073709551616 := rfl
  rw [e, Int.tmod_eq_emod_of_nonneg (by omega)]
  refine ⟨(kk % 18446744073709551616 % 400).toNat, by omega, ?_⟩
  unfold wrap64; omega
theorem power_word {K : Nat} (h : K < 400) : IntKind.u64.wrap (IntKind.u64.wrap (wrap64 (1023 + (K : Int))) * 4503599627370496) = ((PW K : Nat) : Int) := by
  have e : ∀ z, IntKind.u64.wrap z = z % 18446744073709551616 := fun _ => rfl
  rw [e, e]
  unfold PW wrap64; omega
/-- the numbers taken, by their places. -/
def tk (xs : Nat → Nat) (i : Nat) : Bool := decide (723 < xs i / 2 ^ 52 % 2048 ∧ xs i / 2 ^ 52 % 2048 < 1323)
def Ls (xs : Nat → Nat) (k : Nat) : List Nat := (List.range k).filter (tk xs)
theorem Ls_succ (xs : Nat → Nat) (k : Nat) : Ls xs (k + 1) = Ls xs k ++ if tk xs k then [k] else [] := by
  unfold Ls
  rw [List.range_succ, List.filter_append]
  cases h : tk xs k <;> simp [List.filter, h]
theorem Ls_len (xs : Nat → Nat) (k : Nat) : (Ls xs k).length ≤ k := by
  have := List.length_filter_le (tk xs) (List.range k)
  simpa [Ls] using this
structure Two (w : World) (base : Nat) (K : Nat) (xs : Nat → Nat) (k : Nat) (va vb : Value) : Prop where
  a : w.ownsRow base 22 1 va (Ls xs k).length ((Ls xs k).map fun i => Value.float .f64 (xs i))
  b : w.ownsRow base 22 1 vb (Ls xs k).length ((Ls xs k).map fun i => Value.float .f64 (sc K (xs i)))
  ne : va.ownBlock ≠ vb.ownBlock
def TwoRel (w : World) (len K : Nat) (xs : Nat → Nat) (va vb i : Value) (wr : World) : Prop :=
  ∃ k : Nat, k ≤ len ∧ i = .int .i64 k ∧ Two wr w.heap.size K xs k va vb ∧ Below w.heap.size w wr
theorem own_ne {w : World} {base : Nat} {e : TypeId} {size n s : Nat} {v v' vb : Value} {l : List Value} (h : w.ownsRow base e size vb n l) (hne : v.ownBlock ≠ vb.ownBlock) (hs : w.heap.size ≤ s) (hloc : v'.ownBlock = v.ownBlock ∨ v'.ownBlock = some s) : v'.ownBlock ≠ vb.ownBlock := by
  rcases hloc with e | e
  · rw [e]; exact hne
  · intro h2
    rw [e] at h2
    have := (h.lt s h2.symm).2
    omega
structure Mid (w w0 : World) (base : Nat) (K : Nat) (xs : Nat → Nat) (k : Nat) (va vb : Value) : Prop where
  a : w.ownsRow base 22 1 va ((Ls xs k).length + 1) ((Ls xs k).map (fun i => Value.float .f64 (xs i)) ++ [.float .f64 (xs k)])
  b : w.ownsRow base 22 1 vb (Ls xs k).length ((Ls xs k).map fun i => Value.float .f64 (sc K (xs i)))
  ne : va.ownBlock ≠ vb.ownBlock
  below : Below base w0 w
theorem step_a {w0 wr wa : World} {base K k X : Nat} {xs : Nat → Nat} {va vb va' : Value} {o : Obj} (T : Two wr base K xs k va vb) (hb : Below base w0 wr) (hs : base = w0.heap.size)
    (ho : wa.ownsRow base 22 1 va' ((Ls xs k).length + 1) ((Ls xs k).map (fun i => Value.float .f64 (xs i)) ++ [.float .f64 X])) (hg : (wr.alloc o).grownBy wa va.ownBlock)
    (hl : va'.ownBlock = va.ownBlock ∨ va'.ownBlock = some (wr.alloc o).heap.size) (hX : X = xs k) : Mid wa w0 base K xs k va' vb := by
  subst hX
  have hsz := hb.size
  refine ⟨ho, (T.b.alloc o).kept hg (.inr (Ne.symm T.ne)), own_ne T.b T.ne (by simp) hl, ?_⟩
  exact (hb.alloc (by omega) o).grown hg (by simp; omega) (by intro q hq; have := T.a.lt q hq; omega)
theorem step_b {w0 wa wb : World} {base K k S : Nat} {xs : Nat → Nat} {va vb vb' : Value} {o : Obj} (T : Mid wa w0 base K xs k va vb) (hs : base = w0.heap.size) (hk : Ls xs (k + 1) = Ls xs k ++ [k])
    (ho : wb.ownsRow base 22 1 vb' ((Ls xs k).length + 1) ((Ls xs k).map (fun i => Value.float .f64 (sc K (xs i))) ++ [.float .f64 S])) (hg : (wa.alloc o).grownBy wb vb.ownBlock)
    (hl : vb'.ownBlock = vb.ownBlock ∨ vb'.ownBlock = some (wa.alloc o).heap.size) (hS : S = sc K (xs k)) : Two wb base K xs (k + 1) va vb' ∧ Below base w0 wb := by
  subst hS
  have hsz := T.below.size
  have e : ((Ls xs k ++ [k] : List Nat)).length = (Ls xs k).length + 1 := by simp
  refine ⟨⟨?_, ?_, fun h => own_ne T.a (Ne.symm T.ne) (by simp) hl h.symm⟩, ?_⟩
  · rw [hk, e, List.map_append]; exact (T.a.alloc o).kept hg (.inr T.ne)
  · rw [hk, e, List.map_append]; exact ho
  · exact (T.below.alloc (by omega) o).grown hg (by simp; omega) (by intro q hq; have := T.b.lt q hq; omega)
theorem one_onef (a : Nat) : ∀ u ∈ [Value.float .f64 a], u.oneCell' = true := by
  intro u hu
  simp at hu
  subst hu; rfl
/-- a row of floats of the call's own, read. -/
theorem floats_of_row {w : World} {base : Nat} {e : TypeId} {v : Value} {l : List Nat} {xs : Nat → Nat} (h : w.ownsRow base e 1 v l.length (l.map fun i => Value.float .f64 (xs i))) (hx : ∀ i ∈ l, W64 (xs i)) :
    ∃ A cap, v = .slice A l.length cap ∧ Floats w A l.length (fun j => xs (l.getD j 0)) := by
  have key := fun g (hg : v.ownBlock = some g) => h.cells hg
  rcases h.2 with ⟨rfl, h2⟩ | ⟨g, cap, cur, rfl, hb, hg, _⟩
  · rw [h2]
    exact ⟨none, 0, rfl, fun i hi => absurd hi (Nat.not_lt_zero _)⟩
  · refine ⟨_, cap, rfl, fun i hi => ⟨g, 0, rfl, (Array.getElem?_eq_some_iff.1 hg).1, ?_, ?_⟩⟩
    · have := key g rfl i (.float .f64 (xs (l.getD i 0))) (by rw [List.getElem?_map, List.getElem?_eq_getElem hi]; simp [List.getD, List.getElem?_eq_getElem hi])
      have e : (⟨g, 0, none⟩ : Addr).add i = ⟨g, 0 + i, none⟩ := by unfold Addr.add; split <;> simp_all
      rwa [e] at this
    · have : l.getD i 0 ∈ l := by rw [List.getD, List.getElem?_eq_getElem hi]; exact List.getElem_mem hi
      exact hx _ this
theorem floats_below {w w' : World} {A : Option Addr} {n : Nat} {f : Nat → Nat} {lim : Nat} (h : Floats w A n f) (hb : Below lim w w') (hl : w.heap.size ≤ lim) : Floats w' A n f := by
  intro i hi
  obtain ⟨b, off, rfl, h1, h2, h3⟩ := h i hi
  exact ⟨b, off, rfl, Nat.lt_of_lt_of_le h1 hb.size, by rw [hb.cell (p := ⟨b, off + i, none⟩) (show b < lim by omega)]; exact h2, h3⟩
theorem num_sum {f : Nat → Nat} {n : Nat} (h : ∀ j, j < n → mg (f j) < INF ∧ ¬ (mg (f j) = 0 ∧ ng (f j) = true)) (hn : n ≤ 1048576) : ∀ k, k ≤ n → NumG (sumG f k) (SI f k) k := by
  intro k
  induction k with
  | zero => intro _; exact num_new
  | succ k ih => intro hk; exact (ih (by omega)).add (h k (by omega)).1 (h k (by omega)).2 (by omega)
theorem tk_sel {xs : Nat → Nat} {i : Nat} (hx : W64 (xs i)) (h : tk xs i = true) : Sel (xs i) := by
  have hx' : xs i < 2 ^ 64 := hx
  unfold tk at h
  have h2 := of_decide_eq_true h
  refine ⟨hx', ?_, ?_⟩
  · unfold mg; omega
  · unfold mg; omega
theorem Ls_mem {xs : Nat → Nat} {k i : Nat} (h : i ∈ Ls xs k) : i < k ∧ tk xs i = true := by
  unfold Ls at h
  rw [List.mem_filter, List.mem_range] at h
  exact h
def NI (is : Nat → Int) (i : Nat) : Int := (is i).tmod 1099511627776
def TI (is : Nat → Int) : Nat → Int
  | 0 => 0
  | k + 1 => TI is k + NI is k
theorem NI_le (z : Int) : -1099511627776 < z.tmod 1099511627776 ∧ z.tmod 1099511627776 < 1099511627776 := by
  have h1 := Int.tmod_lt_of_pos z (show (0 : Int) < 1099511627776 by decide)
  have h2 := Int.lt_tmod_of_pos z (show (0 : Int) < 1099511627776 by decide)
  omega
theorem TI_le (is : Nat → Int) : ∀ k : Nat, -(1099511627776 * (k : Int)) ≤ TI is k ∧ TI is k ≤ 1099511627776 * (k : Int) := by
  intro k
  induction k with
  | zero => exact ⟨Int.le_refl _, Int.le_refl _⟩
  | succ k ih =>
    have := NI_le (is k)
    have e : TI is (k + 1) = TI is k + (is k).tmod 1099511627776 := rfl
    omega
def FI (is : Nat → Int) (i : Nat) : Nat := floatOfInt .f64 (NI is i)
theorem FI_is (is : Nat → Int) (i : Nat) : W64 (FI is i) ∧ mg (FI is i) < INF ∧ ¬ (mg (FI is i) = 0 ∧ ng (FI is i) = true) ∧ iv (FI is i) = NI is i * Q := by
  have hb := NI_le (is i)
  have hN : (NI is i).natAbs ≤ 2 ^ 53 := by unfold NI; omega
  obtain ⟨h1, h2, h3, h4, h5⟩ := fi_small hN
  refine ⟨h1, h2, ?_, h5⟩
  rintro ⟨k1, k2⟩
  have k2' : ng (floatOfInt .f64 (NI is i)) = true := k2
  have k1' : mg (floatOfInt .f64 (NI is i)) = 0 := k1
  rw [h4] at k2'
  rw [k1', V_zero] at h3
  have hq := Q_pos
  have hneg := of_decide_eq_true k2'
  have : 0 < (NI is i).natAbs * Q := Nat.mul_pos (by omega) hq
  omega
theorem SI_FI (is : Nat → Int) : ∀ k, SI (FI is) k = TI is k * Q := by
  intro k
  induction k with
  | zero => simp [SI, TI]
  | succ k ih =>
    show SI (FI is) k + iv (FI is k) = (TI is k + NI is k) * Q
    rw [ih, (FI_is is k).2.2.2, Int.add_mul]
def WhRel (w : World) (len : Nat) (is : Nat → Int) (v t i : Value) (wr : World) : Prop :=
  ∃ k : Nat, k ≤ len ∧ i = .int .i64 k ∧ t = .int .i64 (TI is k) ∧ wr.ownsRow w.heap.size 22 1 v (List.range k).length ((List.range k).map fun i => Value.float .f64 (FI is i)) ∧ Below w.heap.size w wr

set_option maxHeartbeats 4000000 in
set_option maxRecDepth 100000 in
theorem accScaled_any (A : Option Addr) (len cap : Nat) (xs : Nat → Nat) (A2 : Option Addr) (len2 cap2 : Nat) (is : Nat → Int) (kk : Int) (w : World)
    (hl : len ≤ 9223372036854775807) (hF : Floats w A len xs) (hl2 : len2 ≤ 9223372036854775807) (hI : Ints w .i64 A2 len2 is) (_hk : (Lit.int .i64 kk).wf = true) :
    Calls Try.prog 5 #[.slice A len cap, .slice A2 len2 cap2, .int .i64 kk] w fun e w' => e = .returned (.bool true) ∧ Below w.heap.size w w' := by
  have KN := Lib.hid new_any
  have KAw := Lib.hid (awake_any w)
  have HF := Lib.hid hF
  have HI := Lib.hid hI
  clear hF hI
  by_cases hbig : 4096 < len
  · have hb2 : (4096 : Int) < len := by omega
    go_enter Try.func5, Try.ntmps5
    go_wp2_with fail
    refine (KAw.out).mono ?_
    rintro e w1 ⟨rfl, hb1⟩
    have HB1 := Lib.hid hb1
    clear hb1
    go_wp2_with fail
    go_ret
    exact ⟨rfl, HB1.out⟩
  have hb2 : ¬ (4096 : Int) < len := by omega
  by_cases hbig2 : 4096 < len2
  · have hb3 : (4096 : Int) < len2 := by omega
    go_enter Try.func5, Try.ntmps5
    go_wp2_with fail
    refine (KAw.out).mono ?_
    rintro e w1 ⟨rfl, hb1⟩
    have HB1 := Lib.hid hb1
    clear hb1
    go_wp2_with fail
    go_ret
    exact ⟨rfl, HB1.out⟩
  have hb3 : ¬ (4096 : Int) < len2 := by omega
  go_enter Try.func5, Try.ntmps5
  go_wp2_with fail
  refine (KAw.out).mono ?_
  rintro e w1 ⟨rfl, hb1⟩
  have HB1 := Lib.hid hb1
  clear hb1
  go_wp2_with fail
  obtain ⟨K, hK, e1⟩ : ∃ K : Nat, K < 400 ∧ wrap64 ((IntKind.u64.wrap kk).tmod 400) = (K : Int) := power_k kk
  rw [e1, power_word hK]
  clear e1
  refine (from_any _ _).mono ?_
  rintro e w2 ⟨rfl, rfl⟩
  rw [Int.toNat_natCast]
  obtain ⟨p, hp⟩ : ∃ p, p = PW K := ⟨_, rfl⟩
  rw [← hp]
  have HP := Lib.hid (⟨hK, hp⟩ : _ ∧ _)
  clear hp hK
  go_wp2_with fail
  go_loopw [9, 10, 11] (fun va vb i wr => TwoRel w len K xs va vb i wr) (fun _ _ i _ => len - (intOf i).toNat)
  case atStart =>
    have hz : Ls xs 0 = [] := rfl
    have hs1 := HB1.out.size
    refine ⟨0, by omega, rfl, ⟨?_, ?_, ?_⟩, ?_⟩
    · rw [hz]; exact (World.ownsRow_lit w1 #[] 0 hs1 (Nat.zero_le _) rfl).alloc _
    · rw [hz]; have h := World.ownsRow_lit (base := w.heap.size) (size := 1) (e := 22) (w1.alloc (.cells #[] 22)) #[] 0 (by simp; omega) (Nat.zero_le _) rfl; rw [World.size_alloc] at h; exact h
    · simp [Value.ownBlock]
    · have h1 := HB1.out.alloc hs1 (.cells #[] 22)
      exact h1.alloc h1.size _
  case round =>
    obtain ⟨k, hk, rfl, hown, hbel⟩ := hrel
    by_cases hlt : k < len
    · have hl2 : (k : Int) < len := by omega
      obtain ⟨b, off, rfl, hb, c0, hx⟩ := HF.out k hlt
      have c1 : wr.cell? ⟨b, off + k, none⟩ = some (.float .f64 (xs k)) := by rw [hbel.cell (p := ⟨b, off + k, none⟩) hb]; exact c0
      have hle := Ls_len xs k
      have hsc := Ls_succ xs k
      have CT : tk xs k = decide (723 < xs k / 2 ^ 52 % 2048 ∧ xs k / 2 ^ 52 % 2048 < 1323) := rfl
      obtain ⟨X, hX⟩ : ∃ X, X = xs k := ⟨_, rfl⟩
      rw [← hX] at c1 hx CT
      obtain ⟨n, hn⟩ : ∃ n : Int, n = X := ⟨_, rfl⟩
      have hq : (n / 4503599627370496).tmod 2048 = ((X / 2 ^ 52 % 2048 : Nat) : Int) := by
        rw [hn, Int.tmod_eq_emod_of_nonneg (by omega)]; omega
      have HN := Lib.hid hn
      have KEEP := Lib.hid (⟨hown, hbel, hX, hx, c0, hb⟩ : _ ∧ _ ∧ _ ∧ _ ∧ _ ∧ _)
      by_cases hc : 723 < X / 2 ^ 52 % 2048 ∧ X / 2 ^ 52 % 2048 < 1323
      · have ct : tk xs k = true := by rw [CT]; exact decide_eq_true hc
        have g1 : 723 < (n / 4503599627370496).tmod 2048 := by omega
        have g2 : (n / 4503599627370496).tmod 2048 < 1323 := by omega
        rw [ct, if_pos rfl] at hsc
        have hm : floatBits .mul .f64 X p = some (sc K X) := by rw [HP.out.2]; rw [hX]; exact sc_mul (tk_sel (by rw [← hX]; exact hx) ct) HP.out.1
        have km := run_valid (P := Try.prog) 22 hm
        have HS := Lib.hid hsc
        clear hown hbel hX hn c0 hx hq CT hc ct hsc hm
        obtain ⟨i0, hi, hz0, hz1, hz2⟩ := info_parts info_f64
        obtain ⟨L, hL⟩ : ∃ L, L = (Ls xs k).length := ⟨_, rfl⟩
        have KL := Lib.hid hL
        rw [← hL] at hle
        clear hL
        go_wp2_with (first | (go_at_call 14; refine (rbits_any _ n HN.out _).mono ?_; rintro e w' ⟨rfl, rfl⟩) | (at_builtin; refine wpList_append_own_at _ rfl _ _ 27 rfl w.heap.size 22 i0 (.float .f64 0) 1 8 Try.underlying27 hi hz0 hz1 hz2 rfl (by decide) _ _ _ rfl (World.ownsRow.alloc KEEP.out.1.a _) ⟨wr.heap.size, 0, none⟩ 1 1 [.float .f64 X] rfl rfl (cell_one_new _ _ _) (one_onef _) (by rw [← KL.out]; unfold maxLen; omega) (by rw [← KL.out]; omega) (by have := KEEP.out.2.1.size; simp; omega) ?_; intro va' wa hown' hgrow _ hloc; have MID := Lib.hid (step_a KEEP.out.1 KEEP.out.2.1 rfl hown' hgrow hloc KEEP.out.2.2.1); have cA : wa.cell? ⟨b, off + k, none⟩ = some (.float .f64 X) := (by rw [MID.out.below.cell (p := ⟨b, off + k, none⟩) KEEP.out.2.2.2.2.2, KEEP.out.2.2.1]; exact KEEP.out.2.2.2.2.1); clear hown' hgrow hloc) | (at_builtin; refine wpList_append_own_at _ rfl _ _ 27 rfl w.heap.size 22 i0 (.float .f64 0) 1 8 Try.underlying27 hi hz0 hz1 hz2 rfl (by decide) _ _ _ rfl (World.ownsRow.alloc MID.out.b _) ⟨wa.heap.size, 0, none⟩ 1 1 [.float .f64 (sc K X)] rfl rfl (cell_one_new _ _ _) (one_onef _) (by rw [← KL.out]; unfold maxLen; omega) (by rw [← KL.out]; omega) (by have := MID.out.below.size; simp; omega) ?_; intro vb' wb hown' hgrow _ hloc; have END := Lib.hid (step_b MID.out rfl HS.out hown' hgrow hloc (by rw [KEEP.out.2.2.1])); clear hown' hgrow hloc))
        go_roundw
        case rel =>
          exact ⟨k + 1, by omega, by go_num, END.out.1, END.out.2⟩
        case measure => simp [intOf]; omega
      · have ct : tk xs k = false := by rw [CT]; exact decide_eq_false hc
        rw [ct, if_neg (by decide), List.append_nil] at hsc
        have g1 : ¬ 723 < (n / 4503599627370496).tmod 2048 ∨ (723 < (n / 4503599627370496).tmod 2048 ∧ ¬ (n / 4503599627370496).tmod 2048 < 1323) := by omega
        have HS := Lib.hid hsc
        clear hown hbel hX hn c0 hx hq CT hc ct hsc hle
        rcases g1 with g1 | ⟨g1, g2⟩
        all_goals
          go_wp2_with (go_at_call 14; refine (rbits_any _ n HN.out _).mono ?_; rintro e w' ⟨rfl, rfl⟩)
          go_roundw
          case rel =>
            have e := KEEP.out.1
            exact ⟨k + 1, by omega, by go_num, ⟨by rw [HS.out]; exact e.a, by rw [HS.out]; exact e.b, e.ne⟩, KEEP.out.2.1⟩
          case measure => simp [intOf]; omega
    · have hn : k = len := by omega
      subst hn
      obtain ⟨Aa, capA, rfl, fa⟩ := floats_of_row hown.a (fun i hi => by obtain ⟨_, _, _, _, _, h⟩ := HF.out i (Ls_mem hi).1; exact h)
      have hsel : ∀ i, i ∈ Ls xs k → Sel (xs i) := fun i hi => tk_sel (by obtain ⟨_, _, _, _, _, h⟩ := HF.out i (Ls_mem hi).1; exact h) (Ls_mem hi).2
      obtain ⟨Ab, capB, rfl, fb⟩ := floats_of_row hown.b (xs := fun i => sc K (xs i)) (fun i hi => (sc_parts (hsel i hi) HP.out.1).1)
      have hle := Ls_len xs k
      obtain ⟨F, hF⟩ : ∃ F : Nat → Nat, F = fun j => xs ((Ls xs k).getD j 0) := ⟨_, rfl⟩
      have hG : (fun j => sc K (xs ((Ls xs k).getD j 0))) = fun j => sc K (F j) := by rw [hF]
      have hS : ∀ j, j < (Ls xs k).length → Sel (F j) := fun j hj => by
        rw [hF]
        refine hsel _ ?_
        rw [List.getD, List.getElem?_eq_getElem hj]; exact List.getElem_mem hj
      rw [← hF] at fa
      rw [hG] at fb
      obtain ⟨m, hm⟩ : ∃ m, m = (Ls xs k).length := ⟨_, rfl⟩
      rw [← hm] at fa fb hle hS ⊢
      have n1 := num_sum (f := F) (n := m) (fun j hj => ⟨(hS j hj).fin, fun h => by have := (hS j hj).lo; omega⟩) (by omega) m (Nat.le_refl _)
      have n2 := num_sum (f := fun j => sc K (F j)) (n := m) (fun j hj => by
        obtain ⟨q1, q2, q3, q4⟩ := sc_parts (hS j hj) HP.out.1
        exact ⟨q4, fun h => by have := (hS j hj).lo; rw [q2] at h; omega⟩) (by omega) m (Nat.le_refl _)
      rw [SI_sc hS HP.out.1 m (Nat.le_refl _)] at n2
      have hv := val_sc hS (by omega) HP.out.1 n1 n2
      have KS1 := Lib.hid (sum_any Aa m capA F wr fa (by omega))
      have KS2 := Lib.hid (fun w' (h : Below wr.heap.size wr w') => sum_any Ab m capB _ w' (floats_below fb h (Nat.le_refl _)) (by omega))
      obtain ⟨x, hx⟩ : ∃ x, x = valG (sumG F m) := ⟨_, rfl⟩
      obtain ⟨y, hy⟩ : ∃ y, y = valG (sumG (fun j => sc K (F j)) m) := ⟨_, rfl⟩
      rw [← hx] at KS1 hv
      rw [← hy] at KS2 hv
      rw [← HP.out.2] at hv
      have km := run_valid (P := Try.prog) 22 (show floatBits .mul .f64 x p = some y from hv)
      have KSm := Lib.hid same_self
      have KB := Lib.hid hbel
      clear fa fb hle hS n1 n2 hv hx hy hown hbel hF hG hm hsel
      go_wp2_with fail
      refine (KS1.out).mono ?_
      rintro e w3 ⟨rfl, hb3⟩
      have K3 := Lib.hid hb3
      clear hb3
      go_wp2_with fail
      refine (KS2.out _ K3.out).mono ?_
      rintro e w4 ⟨rfl, hb4⟩
      have K4 := Lib.hid ((KB.out.trans (K3.out.mono KB.out.size)).trans (hb4.mono (Nat.le_trans KB.out.size K3.out.size)))
      clear hb4
      go_wp2_with (go_at_call 16; ((with_reducible refine (KSm.out _ _).mono ?_)); rintro e w' ⟨rfl, rfl⟩)
      go_loopw [17, 18, 19] (fun v t i wq => WhRel w len2 is v t i wq) (fun _ _ i _ => len2 - (intOf i).toNat)
      case atStart => exact ⟨0, by omega, rfl, rfl, World.ownsRow_lit w4 #[] 0 K4.out.size (Nat.zero_le _) rfl, K4.out.alloc K4.out.size _⟩
      case round =>
        obtain ⟨j, hj, rfl, rfl, hown, hbel⟩ := hrel
        by_cases hlt : j < len2
        · have hl2 : (j : Int) < len2 := by omega
          obtain ⟨b, off, rfl, hb, c0, -⟩ := HI.out j hlt
          have c1 : wr.cell? ⟨b, off + j, none⟩ = some (.int .i64 (is j)) := by rw [hbel.cell (p := ⟨b, off + j, none⟩) hb]; exact c0
          have hT := TI_le is j
          have hN := NI_le (is j)
          have HEq := Lib.hid (⟨rfl, rfl⟩ : TI is (j + 1) = TI is j + (is j).tmod 1099511627776 ∧ FI is j = floatOfInt .f64 ((is j).tmod 1099511627776))
          obtain ⟨t, ht⟩ : ∃ t, t = TI is j := ⟨_, rfl⟩
          rw [← ht] at hT HEq ⊢
          have KR := Lib.hid (⟨hown, hbel⟩ : _ ∧ _)
          clear hown hbel c0 ht
          obtain ⟨i0, hi, hz0, hz1, hz2⟩ := info_parts info_f64
          have hlen : (List.range j).length = j := List.length_range
          have KL := Lib.hid hlen
          clear hlen
          go_wp2_with (at_builtin; refine wpList_append_own _ rfl _ _ 27 rfl w.heap.size 22 i0 (.float .f64 0) 1 8 Try.underlying27 hi hz0 hz1 hz2 rfl (by decide) _ _ _ rfl (World.ownsRow.alloc KR.out.1 _) ⟨wr.heap.size, 0, none⟩ 1 1 [.float .f64 (floatOfInt .f64 ((is j).tmod 1099511627776))] rfl rfl (cell_one_new _ _ _) (one_onef _) (by rw [KL.out]; unfold maxLen; omega) (by rw [KL.out]; omega) (by have := KR.out.2.size; simp; omega) ?_; intro v' wa hown' hgrow _; have END := Lib.hid (⟨hown', (KR.out.2.alloc KR.out.2.size _).grown hgrow (by have := KR.out.2.size; simp; omega) (by intro q hq; have := KR.out.1.lt q hq; omega)⟩ : _ ∧ _); clear hown' hgrow)
          go_roundw
          case rel =>
            refine ⟨j + 1, by omega, by go_num, by rw [HEq.out.1], ?_, END.out.2⟩
            have h := END.out.1
            rw [← HEq.out.2] at h
            rw [List.range_succ, List.map_append, List.length_append]
            exact h
          case measure => simp [intOf]; omega
        · have hn : j = len2 := by omega
          subst hn
          obtain ⟨Ac, capC, rfl, fc⟩ := floats_of_row hown (fun i _ => (FI_is is i).1)
          rw [List.length_range] at fc ⊢
          have fc2 : Floats wr Ac j (FI is) := fun i hi => by
            obtain ⟨b, off, h1, h2, h3, h4⟩ := fc i hi
            have e : (List.range j).getD i 0 = i := by rw [List.getD, List.getElem?_range hi]; rfl
            simp only [e] at h3
            exact ⟨b, off, h1, h2, h3, (FI_is is i).1⟩
          have n1 := num_sum (f := FI is) (n := j) (fun i _ => ⟨(FI_is is i).2.1, (FI_is is i).2.2.1⟩) (by omega) j (Nat.le_refl _)
          rw [SI_FI] at n1
          have hT := TI_le is j
          have hv := val_whole n1 (fun h => by subst h; rfl) (by omega)
          have KS1 := Lib.hid (sum_any Ac j capC (FI is) wr fc2 (by omega))
          obtain ⟨z, hz⟩ : ∃ x, x = valG (sumG (FI is) j) := ⟨_, rfl⟩
          obtain ⟨t, ht⟩ : ∃ x, x = TI is j := ⟨_, rfl⟩
          rw [← hz] at KS1 hv
          rw [← ht] at hv hT ⊢
          have KB := Lib.hid hbel
          clear fc fc2 n1 hown hbel hz ht
          go_wp2_with fail
          refine (KS1.out).mono ?_
          rintro e w5 ⟨rfl, hb5⟩
          have K5 := Lib.hid hb5
          clear hb5
          go_wp2_with fail
          go_ret
          exact ⟨rfl, KB.out.trans (K5.out.mono KB.out.size)⟩
end Go.Proofs.Ytneedadoafcfcaa
