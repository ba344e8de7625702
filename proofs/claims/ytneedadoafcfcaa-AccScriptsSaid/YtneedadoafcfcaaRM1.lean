/- The reference's sums: RfA, RfB, RfC, RfD, RfM. Laid together out of the texts of their own. -/
import Derived.Test.YtneedadoafcfcaaAccS2
import Derived.Test.YtneedadoafcfcaaRfN
import Derived.Deep.DeepCutAuto
namespace Go.Proofs.Ytneedadoafcfcaa
/- The reference: a float's parts; half a number put to the sum. -/
section
open Go Go.RowKit TF

attribute [local go_sem] cmp_eq cmp_ne cmp_lt cmp_gt cmp_le cmp_ge

theorem rparts_cases {b : Nat} (hb : W64 b) (n : Int) (hn : n = b) :
    0 ≤ n ∧ n < 18446744073709551616 ∧ ((n / 9223372036854775808 = 1 ∧ ng b = true) ∨ (n / 9223372036854775808 = 0 ∧ ng b = false)) ∧
    ∃ F m : Int, (n / 4503599627370496).tmod 2048 = F ∧ n.tmod 4503599627370496 = m ∧ 0 ≤ F ∧ F ≤ 2047 ∧ 0 ≤ m ∧ m < 4503599627370496 ∧
      ((F = 2047 ∧ m = 0 ∧ mg b = INF) ∨ ((F == 2047) = true ∧ (m == 0) = false ∧ F = 2047 ∧ INF < mg b) ∨ (F = 0 ∧ mg b < INF ∧ m = M (mg b) ∧ E (mg b) = 0) ∨
       ((F == 2047) = false ∧ (F == 0) = false ∧ mg b < INF ∧ m + 4503599627370496 = M (mg b) ∧ F - 1075 = (E (mg b) : Int) - 1074)) := by
  have hb' : b < 2 ^ 64 := hb
  have hI := INF_eq
  have hm : mg b = b % 2 ^ 63 := rfl
  have hE : E (mg b) = mg b / 2 ^ 52 - 1 := rfl
  have hg := ng_iff hb'
  have hg2 := ng_false_iff hb'
  refine ⟨by omega, by omega, ?_, (n / 4503599627370496) % 2048, n % 4503599627370496, Int.tmod_eq_emod_of_nonneg (by omega), Int.tmod_eq_emod_of_nonneg (by omega), by omega, by omega, by omega, by omega, ?_⟩
  · by_cases h : 2 ^ 63 ≤ b
    · exact .inl ⟨by omega, hg.2 h⟩
    · exact .inr ⟨by omega, hg2.2 (by omega)⟩
  · by_cases h1 : mg b = INF
    · exact .inl ⟨by omega, by omega, h1⟩
    · by_cases h2 : INF < mg b
      · have : n / 4503599627370496 % 2048 = 2047 := by omega
        exact .inr (.inl ⟨by rw [this]; rfl, by rw [beq_eq_false_iff_ne]; omega, this, h2⟩)
      · by_cases h3 : mg b < 2 ^ 52
        · have hM : M (mg b) = mg b := if_pos h3
          exact .inr (.inr (.inl ⟨by omega, by omega, by omega, by omega⟩))
        · have hM : M (mg b) = 2 ^ 52 + mg b % 2 ^ 52 := if_neg h3
          exact .inr (.inr (.inr ⟨by rw [beq_eq_false_iff_ne]; omega, by rw [beq_eq_false_iff_ne]; omega, by omega, by omega, by omega⟩))
theorem ret_tuple {a b : Array Value} (h : a = b) : Ending.returned (.tuple a) = .returned (.tuple b) := by rw [h]
theorem results_tmp4 {fn : Func} {t u v x : Tmp} (h : fn.results = #[.tmp t, .tmp u, .tmp v, .tmp x]) (tmps : Array Value) (P : Program) (w : World) :
    (results fn tmps).run P w = .ok (.tuple #[tmps.getD t undef, tmps.getD u undef, tmps.getD v undef, tmps.getD x undef]) w := by
  simp [results, h]
/-- what the reference's parts answers. -/
def pM (b : Nat) : Int := if mg b < INF then M (mg b) else 0
def pE (b : Nat) : Int := if mg b < INF then (E (mg b) : Int) - 1074 else 0
def pK (b : Nat) : Int := if mg b < INF then 0 else if mg b = INF then 1 else 2
theorem rparts_any (b : Nat) (hb : W64 b) (w : World) :
    Calls Try.prog 40 #[.float .f64 b] w fun x w' => x = .returned (.tuple #[.bool (ng b), .int .u64 (pM b), .int .i64 (pE b), .int .i64 (pK b)]) ∧ w = w' := by
  obtain ⟨n, hn⟩ : ∃ n : Int, n = b := ⟨_, rfl⟩
  obtain ⟨n0, n9, hs, F, m, hF, hm, F0, F9, m0, m9, hc⟩ := rparts_cases hb n hn
  have HN := Lib.hid hn
  obtain ⟨s, hsg⟩ : ∃ s, s = ng b := ⟨_, rfl⟩
  rw [← hsg] at hs ⊢
  clear hn hb hsg
  rcases hc with ⟨rfl, rfl, h⟩ | ⟨g1, g2, g3, h⟩ | ⟨rfl, h, h1, h2⟩ | ⟨g1, g2, h, h1, h2⟩
  · have e1 : pM b = 0 := if_neg (by omega)
    have e2 : pE b = 0 := if_neg (by omega)
    have e3 : pK b = 1 := by unfold pK; rw [if_neg (by omega), if_pos h]
    rw [e1, e2, e3]
    clear e1 e2 e3 h
    rcases hs with ⟨hs, rfl⟩ | ⟨hs, rfl⟩
    all_goals
      go_enter Try.func40, Try.ntmps40
      go_wp2_with (go_at_call 14; refine (rbits_any _ n HN.out _).mono ?_; rintro e w' ⟨rfl, rfl⟩)
      refine bodyPost_ret (results_tmp4 rfl _ _ _) rfl ?_
      exact ⟨rfl, rfl⟩
  · have e1 : pM b = 0 := if_neg (by omega)
    have e2 : pE b = 0 := if_neg (by omega)
    have e3 : pK b = 2 := by unfold pK; rw [if_neg (by omega), if_neg (by omega)]
    rw [e1, e2, e3]
    subst g3
    clear e1 e2 e3 h g1
    rcases hs with ⟨hs, rfl⟩ | ⟨hs, rfl⟩
    all_goals
      go_enter Try.func40, Try.ntmps40
      go_wp2_with (go_at_call 14; refine (rbits_any _ n HN.out _).mono ?_; rintro e w' ⟨rfl, rfl⟩)
      refine bodyPost_ret (results_tmp4 rfl _ _ _) rfl ?_
      exact ⟨rfl, rfl⟩
  · have e1 : pM b = m := by rw [h1]; exact if_pos h
    have e2 : pE b = -1074 := by unfold pE; rw [if_pos h, h2]; rfl
    have e3 : pK b = 0 := if_pos h
    rw [e1, e2, e3]
    clear e1 e2 e3 h h1 h2
    rcases hs with ⟨hs, rfl⟩ | ⟨hs, rfl⟩
    all_goals
      go_enter Try.func40, Try.ntmps40
      go_wp2_with (go_at_call 14; refine (rbits_any _ n HN.out _).mono ?_; rintro e w' ⟨rfl, rfl⟩)
      refine bodyPost_ret (results_tmp4 rfl _ _ _) rfl ?_
      exact ⟨rfl, rfl⟩
  · have e1 : pM b = m + 4503599627370496 := by rw [h1]; exact if_pos h
    have e2 : pE b = F - 1075 := by rw [h2]; exact if_pos h
    have e3 : pK b = 0 := if_pos h
    rw [e1, e2, e3]
    clear e1 e2 e3 h h1 h2
    rcases hs with ⟨hs, rfl⟩ | ⟨hs, rfl⟩
    all_goals
      go_enter Try.func40, Try.ntmps40
      go_wp2_with (go_at_call 14; refine (rbits_any _ n HN.out _).mono ?_; rintro e w' ⟨rfl, rfl⟩)
      refine bodyPost_ret (results_tmp4 rfl _ _ _) rfl ?_
      exact ⟨rfl, rfl⟩

theorem run_negi' (P : Program) (x : Int) (h : -4611686018427387904 ≤ x ∧ x ≤ 4611686018427387904) (W : World) : (Op.unary .neg (.int .i64 x)).run P W = .ok (.int .i64 (-x)) W := by
  have e : IntKind.i64.wrap (0 - x) = -x := by rw [IntKind.wrap_i64]; omega
  show Result.ok (Value.int .i64 (IntKind.i64.wrap (0 - x))) W = _
  rw [e]
/-- half a number. -/
def HalfP (w : World) (b : Nat) (s : RefS) (neg : Bool) (v : Int) (q : Nat) (x : Ending) (w' : World) : Prop :=
  x = .returned (.tuple #[]) ∧ RefAt w' b { s with l := addH s.l neg v q } ∧ Chg b w w'
def Room (l : Nat → Int) : Prop := ∀ i, i < 136 → -1152921504606846976 ≤ l i ∧ l i ≤ 1152921504606846976
theorem half_any (b : Nat) (s : RefS) (w : World) (h : RefAt w b s) (hr : Room s.l) (neg : Bool) (x e v : Int) (q r : Nat) (he : e = 32 * (q : Int) + r - 2176) (hq : q + 1 < 136) (hr32 : r < 32) (x0 : 0 ≤ x) (x9 : x < 4294967296) (hv : v = x * 2 ^ r) :
    Calls Try.prog 51 #[.pointer (some ⟨b, 0, none⟩), .bool neg, .int .u64 x, .int .i64 e] w (HalfP w b s neg v q) := by
  obtain ⟨v0, v9⟩ := half_w x0 x9 hr32
  rw [← hv] at v0 v9
  obtain ⟨c1, f1⟩ := h.word q (by omega)
  obtain ⟨c2, f2⟩ := h.word (q + 1) hq
  have b1 := hr q (by omega)
  have b2 := hr (q + 1) hq
  have hbl := h.lt
  have KH := Lib.hid h
  obtain ⟨A, hA⟩ : ∃ A : Int, A = e + 2176 := ⟨_, rfl⟩
  have k1 : A.tmod 32 = r := by rw [Int.tmod_eq_emod_of_nonneg (by omega)]; omega
  have k2 : A.tdiv 32 = q := by rw [Int.tdiv_eq_ediv_of_nonneg (by omega)]; omega
  have A0 : 0 ≤ A := by omega
  have A9 : A < 4352 := by omega
  have he2 : e = A - 2176 := by omega
  subst he2
  obtain ⟨l0, hl0⟩ : ∃ z, z = s.l q := ⟨_, rfl⟩
  obtain ⟨l1, hl1⟩ : ∃ z, z = s.l (q + 1) := ⟨_, rfl⟩
  rw [← hl0] at c1 b1
  rw [← hl1] at c2 b2
  have HL := Lib.hid (⟨hl0, hl1⟩ : _ ∧ _)
  have ksh : IntKind.u64.wrap (x * 2 ^ r) = v := by
    have : IntKind.u64.wrap (x * 2 ^ r) = x * 2 ^ r % 18446744073709551616 := rfl
    rw [this, ← hv]; omega
  have k3 : v.tmod 4294967296 = v % 4294967296 := Int.tmod_eq_emod_of_nonneg v0
  obtain ⟨lo, hlo⟩ : ∃ z, z = v % 4294967296 := ⟨_, rfl⟩
  obtain ⟨hi, hhi⟩ : ∃ z, z = v / 4294967296 := ⟨_, rfl⟩
  have lo0 : 0 ≤ lo := by omega
  have lo9 : lo < 4294967296 := by omega
  have hi0 : 0 ≤ hi := by omega
  have hi9 : hi < 4294967296 := by omega
  rw [← hlo] at k3
  have k5 := hhi.symm
  have hb1 := b1.1
  have hb2 := b1.2
  have hb3 := b2.1
  have hb4 := b2.2
  have HV := Lib.hid (⟨hlo, hhi⟩ : _ ∧ _)
  have hqq : (q : Int) < 135 := by omega
  have hne : q ≠ q + 1 := by omega
  clear hA he hv hr hl0 hl1 hlo hhi v0 v9 x0 x9 hq b1 b2 h
  cases neg
  · obtain ⟨w1, hw1⟩ : ∃ w1, w1 = (w.setCell ⟨b, q, none⟩ (.int .i64 (l0 + lo))).drew := ⟨_, rfl⟩
    have d2 : w1.cell? ⟨b, q + 1, none⟩ = some (.int .i64 l1) := by rw [hw1]; exact (World.cell?_setCell_other _ _ _ _ (by simp)).trans c2
    have g2 : w1.frozen? ⟨b, q + 1, none⟩ = false := by rw [hw1]; simpa using f2
    have bl1 : b < w1.heap.size := by rw [hw1]; simpa using hbl
    have HW := Lib.hid hw1
    clear f2 c2
    go_enter Try.func51, Try.ntmps51
    go_wp2_with fail
    go_region
    rw [← hw1]
    clear hw1 c1 f1
    go_wp2_with fail
    go_region
    go_wp2_with fail
    go_end0
    have e1 := KH.out.setLimb q (by omega) (l0 + lo)
    have e2 := e1.drew.setLimb (q + 1) (by omega) (l1 + hi)
    rw [← HW.out] at e2
    refine ⟨rfl, e2.drew.ext (fun i _ => ?_) rfl rfl rfl rfl rfl, ?_⟩
    · show upw (upw s.l q (l0 + lo)) (q + 1) (l1 + hi) i = addH s.l false v q i
      unfold addH sgn
      rw [← HL.out.1, ← HL.out.2, ← HV.out.1, ← HV.out.2]; rfl
    · have h1 := ((Chg.refl b w).set q (.int .i64 (l0 + lo))).drew
      rw [← HW.out] at h1
      exact (h1.set (q + 1) (.int .i64 (l1 + hi))).drew
  · obtain ⟨w1, hw1⟩ : ∃ w1, w1 = (w.setCell ⟨b, q, none⟩ (.int .i64 (l0 + -lo))).drew := ⟨_, rfl⟩
    have d2 : w1.cell? ⟨b, q + 1, none⟩ = some (.int .i64 l1) := by rw [hw1]; exact (World.cell?_setCell_other _ _ _ _ (by simp)).trans c2
    have g2 : w1.frozen? ⟨b, q + 1, none⟩ = false := by rw [hw1]; simpa using f2
    have bl1 : b < w1.heap.size := by rw [hw1]; simpa using hbl
    have HW := Lib.hid hw1
    clear f2 c2
    have kn1 := run_negi' Try.prog lo (by omega)
    have kn2 := run_negi' Try.prog hi (by omega)
    go_enter Try.func51, Try.ntmps51
    go_wp2_with fail
    go_region
    rw [← hw1]
    clear hw1 c1 f1
    go_wp2_with fail
    go_region
    go_wp2_with fail
    go_end0
    have e1 := KH.out.setLimb q (by omega) (l0 + -lo)
    have e2 := e1.drew.setLimb (q + 1) (by omega) (l1 + -hi)
    rw [← HW.out] at e2
    refine ⟨rfl, e2.drew.ext (fun i _ => ?_) rfl rfl rfl rfl rfl, ?_⟩
    · show upw (upw s.l q (l0 + -lo)) (q + 1) (l1 + -hi) i = addH s.l true v q i
      unfold addH sgn
      rw [← HL.out.1, ← HL.out.2, ← HV.out.1, ← HV.out.2]; rfl
    · have h1 := ((Chg.refl b w).set q (.int .i64 (l0 + -lo))).drew
      rw [← HW.out] at h1
      exact (h1.set (q + 1) (.int .i64 (l1 + -hi))).drew
theorem HalfP.lim {l : Nat → Int} (h : ∀ i, i < 136 → -1152921500311879680 ≤ l i ∧ l i ≤ 1152921500311879680) (neg : Bool) {v : Int} (q : Nat) (v0 : 0 ≤ v) (v9 : v < 18446744073709551616) : Room (addH l neg v q) := by
  intro i hi
  have h1 := h i hi
  have h2 := addH_near l neg q v0 v9 i
  omega
def PutR (w : World) (b : Nat) (s : RefS) (neg : Bool) (m : Int) (q r : Nat) (x : Ending) (w' : World) : Prop :=
  x = .returned (.tuple #[]) ∧ RefAt w' b { s with l := addP s.l neg m q r } ∧ Chg b w w'
theorem rput_any (b : Nat) (s : RefS) (w : World) (h : RefAt w b s) (hr : ∀ i, i < 136 → -1152921500311879680 ≤ s.l i ∧ s.l i ≤ 1152921500311879680) (neg : Bool) (m e : Int) (q r : Nat) (he : e = 32 * (q : Int) + r - 2176) (hq : q + 2 < 136) (hr32 : r < 32) (m0 : 0 ≤ m) (m9 : m < 18446744073709551616) :
    Calls Try.prog 42 #[.pointer (some ⟨b, 0, none⟩), .bool neg, .int .u64 m, .int .i64 e] w (PutR w b s neg m q r) := by
  obtain ⟨a1, a2⟩ := half_w (h := m % 4294967296) (r := r) (by omega) (by omega) hr32
  have K1 := half_any b s w h (fun i hi => by have := hr i hi; omega) neg (m % 4294967296) e _ q r he (by omega) hr32 (by omega) (by omega) rfl
  have K2 := Lib.hid fun w' (h' : RefAt w' b { s with l := addH s.l neg (m % 4294967296 * 2 ^ r) q }) => half_any b _ w' h' (HalfP.lim hr neg q a1 a2) neg (m / 4294967296) (e + 32) _ (q + 1) r (by omega) (by omega) hr32 (by omega) (by omega) rfl
  have k3 : m.tmod 4294967296 = m % 4294967296 := Int.tmod_eq_emod_of_nonneg m0
  have K1' := Lib.hid K1
  have e0 : -2176 ≤ e := by omega
  have e9 : e < 4000 := by omega
  clear h hr a1 a2 he hq hr32 K1
  go_enter Try.func42, Try.ntmps42
  go_wp2_with fail
  refine (K1'.out).mono ?_
  rintro x w1 ⟨rfl, h1, c1⟩
  have H1 := Lib.hid (⟨h1, c1⟩ : _ ∧ _)
  clear h1 c1
  go_wp2_with fail
  refine (K2.out _ H1.out.1).mono ?_
  rintro x w2 ⟨rfl, h2, c2⟩
  have H2 := Lib.hid (⟨h2, c2⟩ : _ ∧ _)
  clear h2 c2
  go_wp2_with fail
  go_end0
  exact ⟨rfl, H2.out.1, H1.out.2.trans H2.out.2⟩

def OddR (w : World) (b : Nat) (t : RefS) (e : Ending) (w' : World) : Prop := e = .returned (.tuple #[]) ∧ RefAt w' b t ∧ Chg b w w'
theorem rodd_any (b : Nat) (s : RefS) (w : World) (h : RefAt w b s) (neg nan : Bool) :
    Calls Try.prog 41 #[.pointer (some ⟨b, 0, none⟩), .bool neg, .bool nan] w (OddR w b { s with ot := true, no := s.no || nan, mi := s.mi || (!nan && neg), pl := s.pl || (!nan && !neg) }) := by
  obtain ⟨c1, f1⟩ := h.ot
  obtain ⟨c2, f2⟩ := h.no
  obtain ⟨c3, f3⟩ := h.mi
  obtain ⟨c4, f4⟩ := h.pl
  have KH := Lib.hid h
  clear h
  cases nan
  · cases neg
    · go_enter Try.func41, Try.ntmps41
      go_wp2_with fail
      go_end0
      refine ⟨rfl, ((KH.out.setOt true).setPl true).ext (fun _ _ => rfl) rfl (by simp) (by simp) (by simp) rfl, ((Chg.refl b w).set 140 _).set 137 _⟩
    · go_enter Try.func41, Try.ntmps41
      go_wp2_with fail
      go_end0
      refine ⟨rfl, ((KH.out.setOt true).setMi true).ext (fun _ _ => rfl) rfl (by simp) (by simp) (by simp) rfl, ((Chg.refl b w).set 140 _).set 138 _⟩
  · go_enter Try.func41, Try.ntmps41
    go_wp2_with fail
    go_end0
    refine ⟨rfl, ((KH.out.setOt true).setNo true).ext (fun _ _ => rfl) rfl (by simp) (by simp) (by simp) rfl, ((Chg.refl b w).set 140 _).set 139 _⟩
end
/- The reference's New, Count, Add. -/
section
open Go Go.RowKit TF

attribute [local go_sem] cmp_eq cmp_ne cmp_lt cmp_gt cmp_le cmp_ge

def ZRef : Array Value := (List.replicate 136 (Value.int .i64 0) ++ ([.int .i64 0, .bool false, .bool false, .bool false, .bool false] : List Value)).toArray
theorem zeroRef : ∀ w : World, (zeroValue 70).run Try.prog w = .ok (.agg ZRef) w := fun _ => by kernel_rfl
theorem ZRef_word {i : Nat} (h : i < 136) : ZRef[i]? = some (.int .i64 0) := by
  unfold ZRef
  rw [List.getElem?_toArray, List.getElem?_append_left (by simpa using h), List.getElem?_replicate, if_pos h]
theorem SR_zero : ∀ n, SR (fun _ => 0) n = 0 := by
  intro n
  induction n with
  | zero => rfl
  | succ n ih => simp only [SR]; rw [ih]; simp
set_option maxRecDepth 100000 in
theorem rnew_is (w : World) : RefIs (w.alloc (.cells ZRef 70)) w.heap.size newG :=
  ⟨fun _ => 0, SR_zero _, fun _ _ => ⟨by show -(0 * 34359738368) ≤ (0 : Int); decide, by show (0 : Int) ≤ 0 * 34359738368; decide⟩, fun _ hi => alloc_cell (ZRef_word hi), alloc_cell (by kernel_rfl), alloc_cell (by kernel_rfl), alloc_cell (by kernel_rfl), alloc_cell (by kernel_rfl), alloc_cell (by kernel_rfl)⟩
theorem rnew_any (w : World) :
    Calls Try.prog 19 #[] w fun e w' => e = .returned (.pointer (some ⟨w.heap.size, 0, none⟩)) ∧ w' = w.alloc (.cells ZRef 70) := by
  have z := zeroRef
  go_enter Try.func19, Try.ntmps19
  go_wp2_with fail
  go_ret
  exact ⟨rfl, rfl⟩
theorem rcount_any (b : Nat) (g : AccG) (w : World) (h : RefIs w b g) :
    Calls Try.prog 24 #[.pointer (some ⟨b, 0, none⟩)] w fun e w' => e = .returned (.int .i64 g.cnt) ∧ w = w' := by
  obtain ⟨d, hX, hL, h⟩ := h
  obtain ⟨c, f⟩ := h.cnt
  clear hX h hL
  go_enter Try.func24, Try.ntmps24
  go_wp2_with fail
  go_ret
  exact ⟨rfl, rfl⟩
theorem rcount_nil (w : World) :
    Calls Try.prog 24 #[.pointer none] w fun e w' => e = .returned (.int .i64 0) ∧ w = w' := by
  go_enter Try.func24, Try.ntmps24
  go_wp2_with fail
  go_ret
  exact ⟨rfl, rfl⟩
def RAddP (w : World) (b : Nat) (g : AccG) (r : Int) (e : Ending) (w' : World) : Prop := e = .returned (.int .i64 r) ∧ RefIs w' b g ∧ Chg b w w'
theorem radd_full (b : Nat) (g : AccG) (w : World) (h : RefIs w b g) (x : Nat) (hc : g.cnt = 1048576) :
    Calls Try.prog 20 #[.pointer (some ⟨b, 0, none⟩), .float .f64 x] w fun e w' => e = .returned (.int .i64 3) ∧ w = w' := by
  obtain ⟨d, hX, hL, h⟩ := h
  obtain ⟨c, f⟩ := h.cnt
  rw [show (⟨d, g.cnt, g.up, g.dn, g.nn, decide (g.nz ≠ g.cnt)⟩ : RefS).cnt = 1048576 from hc] at c
  clear hX h hL hc
  go_enter Try.func20, Try.ntmps20
  go_wp2_with fail
  go_ret
  exact ⟨rfl, rfl⟩
theorem radd_nil (x : Nat) (w : World) :
    Calls Try.prog 20 #[.pointer none, .float .f64 x] w fun e w' => e = .returned (.int .i64 2) ∧ w = w' := by
  go_enter Try.func20, Try.ntmps20
  go_wp2_with fail
  go_ret
  exact ⟨rfl, rfl⟩
theorem lim_room {l : Nat → Int} {c : Int} (h : Lim l c) (h9 : c ≤ 1048576) (k : Int) (hk : k ≤ 1048576) : ∀ i, i < 136 → -1152921500311879680 + k * 34359738368 ≤ l i ∧ l i ≤ 1152921500311879680 - k * 34359738368 := by
  intro i hi
  have := h.small h9 hi
  omega
theorem pM_zero {x : Nat} (h : mg x < INF) : pM x = 0 ↔ mg x = 0 := by
  unfold pM; rw [if_pos h]
  unfold M
  split <;> omega
theorem pM_range (x : Nat) : 0 ≤ pM x ∧ pM x < 9007199254740992 := by
  unfold pM; split
  · have := M_lt (mg x); omega
  · omega
theorem pE_range (x : Nat) : -1074 ≤ pE x ∧ pE x ≤ 971 := by
  unfold pE; split
  · have hI := INF_eq
    have : E (mg x) ≤ 2045 := by unfold E; omega
    omega
  · omega
theorem pE_is {x : Nat} (h : mg x < INF) : pE x = (E (mg x) : Int) - 1074 := if_pos h
theorem pM_is {x : Nat} (h : mg x < INF) : pM x = M (mg x) := if_pos h
/-- what a float adds. -/
theorem sgn_add {x : Nat} (h : mg x < INF) : sgn (ng x) (pM x) * 2 ^ (E (mg x) + TA) = iv x * KA := by
  have hp := put_val (x := x)
  have hT : TA = 1102 := rfl
  rw [Int.zero_mul, Int.zero_add, show ((E (mg x) : Int) - 1074 + 2176).toNat = E (mg x) + TA by omega] at hp
  unfold sgn iv
  rw [pM_is h]
  split
  · rw [Int.neg_mul, Int.neg_mul, hp]
  · exact hp
def otF (t : Bool) (m : Int) (s : Bool) : Bool := t || (decide (m ≠ 0) || !s)
theorem rot_close {nz cnt dz m : Int} {s t v : Bool} (h : (m = 0 ∧ s = true → dz = 1) ∧ (¬ (m = 0 ∧ s = true) → dz = 0)) (ht : t = decide (nz ≠ cnt)) (hl : nz ≤ cnt) (hv : v = (t || (decide (m ≠ 0) || !s))) : v = decide (nz + dz ≠ cnt + 1) := by
  rw [hv, ht]
  by_cases hm : m = 0
  · cases s
    · have := h.2 (by simp)
      rw [this, decide_eq_true (show nz + 0 ≠ cnt + 1 by omega)]; simp
    · have := h.1 ⟨hm, rfl⟩
      rw [this, decide_eq_false (show ¬ m ≠ 0 from fun k => k hm)]
      simp only [Bool.not_true, Bool.or_false]
      by_cases hn : nz = cnt
      · rw [hn]; simp
      · rw [decide_eq_true hn, decide_eq_true (show nz + 1 ≠ cnt + 1 by omega)]
  · have := h.2 (fun k => hm k.1)
    rw [this, decide_eq_true (show nz + 0 ≠ cnt + 1 by omega), decide_eq_true (show m ≠ 0 from hm)]; simp
set_option maxRecDepth 100000 in
theorem radd_some (b : Nat) (g : AccG) (w : World) (h : RefIs w b g) (ok : GOk g) (x : Nat) (hx : W64 x) (hc : g.cnt < 1048576) :
    Calls Try.prog 20 #[.pointer (some ⟨b, 0, none⟩), .float .f64 x] w (RAddP w b (addG g x) 0) := by
  obtain ⟨l, hX, hL, h⟩ := h
  obtain ⟨c, f⟩ := h.cnt
  have c0 := ok.c0
  have z0 := ok.z0
  have z9 := ok.z9
  have KP := Lib.hid fun w => rparts_any x hx w
  obtain ⟨C, hC⟩ : ∃ C, C = g.cnt := ⟨_, rfl⟩
  have HC := Lib.hid hC
  have KH := Lib.hid h
  have HL := Lib.hid (⟨hX, hL⟩ : _ ∧ _)
  by_cases hf : mg x < INF
  · obtain ⟨dz, hdz⟩ : ∃ z : Int, z = if mg x = 0 ∧ ng x = true then 1 else 0 := ⟨_, rfl⟩
    have eg := addG_fin g hf
    rw [← hdz] at eg
    rw [eg]
    obtain ⟨c6, f6⟩ := h.ot
    have hk : pK x = 0 := if_pos hf
    obtain ⟨m1, m2⟩ := pM_range x
    obtain ⟨e1, e2⟩ := pE_range x
    have hz := pM_zero hf
    have hadd := sgn_add hf
    have hE := pE_is hf
    obtain ⟨q, hq⟩ : ∃ q : Nat, q = (E (mg x) + TA) / 32 := ⟨_, rfl⟩
    obtain ⟨r, hr⟩ : ∃ q : Nat, q = (E (mg x) + TA) % 32 := ⟨_, rfl⟩
    have hT : TA = 1102 := rfl
    have hat : E (mg x) + TA = 32 * q + r := by omega
    rw [hat] at hadd
    obtain ⟨m, hm⟩ : ∃ m, m = pM x := ⟨_, rfl⟩
    obtain ⟨e, he⟩ : ∃ m, m = pE x := ⟨_, rfl⟩
    obtain ⟨s, hs⟩ : ∃ m, m = ng x := ⟨_, rfl⟩
    obtain ⟨t, ht⟩ : ∃ t, t = decide (g.nz ≠ g.cnt) := ⟨_, rfl⟩
    rw [hk, ← hm, ← he, ← hs] at KP
    rw [← hm, ← hs] at hadd
    rw [← hm] at m1 m2 hz
    rw [← ht] at c6
    dsimp only at c c6
    rw [← hC] at c c0 z9 hc
    have PUT := Lib.hid fun (t : Bool) w' (hw : RefAt w' b ⟨l, g.cnt + 1, g.up, g.dn, g.nn, t⟩) => rput_any b _ w' hw (fun i hi => by have := lim_room hL ok.c9 0 (by omega) i hi; dsimp only; omega) s m e q r (by omega) (by omega) (by omega) m1 (by omega)
    have HH := Lib.hid fun t : Bool => (h.setCnt (g.cnt + 1)).setOt t
    have HG := Lib.hid fun t : Bool => ((Chg.refl b w).set 136 (.int .i64 (g.cnt + 1))).set 140 (.bool t)
    rw [← hC] at PUT HH HG
    have ADD := Lib.hid (⟨hadd, addP_near l s q m1 (show m < 18446744073709551616 by omega) (show r < 32 by omega)⟩ : _ ∧ _)
    have CLOSE : Hid (∀ v : Bool, v = decide (g.nz + dz ≠ g.cnt + 1) → ∀ x' w', PutR ((w.setCell ⟨b, 136, none⟩ (.int .i64 (C + 1))).setCell ⟨b, 140, none⟩ (.bool v)) b ⟨l, C + 1, g.up, g.dn, g.nn, v⟩ s m q r x' w' →
        RefIs w' b { g with cnt := g.cnt + 1, X := g.X + iv x * KA, nz := g.nz + dz } ∧ Chg b w w') := Lib.hid fun v hv x' w' hp => by
      obtain ⟨-, p2, p3⟩ := hp
      refine ⟨⟨addP l s m q r, ?_, ?_, ?_⟩, (HG.out v).trans p3⟩
      · rw [SR_addP _ _ _ _ _ _ (by omega), ADD.out.1, hX]
      · intro i hi
        have a1 := ADD.out.2 i
        have a2 := hL i hi
        show -((g.cnt + 1) * 34359738368) ≤ _ ∧ _ ≤ (g.cnt + 1) * 34359738368
        omega
      · rw [← hv]
        rw [HC.out] at p2
        exact p2
    have ZC : Hid ((m = 0 ∧ s = true → dz = 1) ∧ (¬ (m = 0 ∧ s = true) → dz = 0)) :=
      Lib.hid ⟨fun hh => by rw [hdz]; exact if_pos ⟨hz.1 hh.1, by rw [← hs]; exact hh.2⟩, fun hh => by rw [hdz]; exact if_neg (fun k => hh ⟨hz.2 k.1, by rw [hs]; exact k.2⟩)⟩
    have HT := Lib.hid ht
    have CL : Hid (otF t m s = decide (g.nz + dz ≠ g.cnt + 1)) := Lib.hid (rot_close ZC.out ht (by rw [← hC]; exact z9) rfl)
    clear ZC
    clear hdz hX hL h hf eg hk e1 e2 hz hadd hE hq hr hT hat hm he hs ht hC ok z0 z9
    by_cases hm0 : m = 0
    · subst hm0
      cases s
      all_goals
        cases t
        all_goals
          go_enter Try.func20, Try.ntmps20
          go_wp2_with (first | (go_at_call 40; ((with_reducible refine (KP.out _).mono ?_)); rintro e w' ⟨rfl, rfl⟩))
          refine (PUT.out _ _ (HH.out _)).mono ?_
          rintro x' w' hp
          have hp1 := hp.1
          subst hp1
          have HP := Lib.hid hp
          clear hp
          go_wp2_with fail
          go_ret
          refine ⟨rfl, CLOSE.out _ ?_ _ _ HP.out⟩
          exact (show _ = otF _ _ _ from rfl).trans CL.out
    · cases t
      all_goals
        go_enter Try.func20, Try.ntmps20
        go_wp2_with (first | (go_at_call 40; ((with_reducible refine (KP.out _).mono ?_)); rintro e w' ⟨rfl, rfl⟩))
        refine (PUT.out _ _ (HH.out _)).mono ?_
        rintro x' w' hp
        have hp1 := hp.1
        subst hp1
        have HP := Lib.hid hp
        clear hp
        go_wp2_with fail
        go_ret
        refine ⟨rfl, CLOSE.out _ ?_ _ _ HP.out⟩
        exact (show _ = otF _ _ _ by unfold otF; rw [decide_eq_true hm0]; rfl).trans CL.out
  · have hI := INF_eq
    have hk : pK x = if mg x = INF then 1 else 2 := if_neg hf
    have hm : pM x = 0 := if_neg hf
    have he : pE x = 0 := if_neg hf
    obtain ⟨s, hs⟩ : ∃ m, m = ng x := ⟨_, rfl⟩
    rw [hm, he, ← hs] at KP
    dsimp only at c
    rw [← hC] at c c0 z9 hc
    have HH := Lib.hid (h.setCnt (g.cnt + 1))
    have HG := Lib.hid ((Chg.refl b w).set 136 (.int .i64 (g.cnt + 1)))
    rw [← hC] at HH HG
    have hot : decide (g.nz ≠ g.cnt + 1) = true := decide_eq_true (by omega)
    have HO := Lib.hid hot
    have LIM : Hid (Lim l (g.cnt + 1)) := Lib.hid (fun i hi => by have := hL i hi; omega)
    by_cases h1 : mg x = INF
    · have en : isN x = false := isN_false.2 (by omega)
      have eg : addG g x = if s then { g with cnt := g.cnt + 1, dn := true } else { g with cnt := g.cnt + 1, up := true } := by rw [hs]; unfold addG; rw [if_neg (by rw [en]; simp), if_pos h1]
      rw [eg]
      rw [hk, if_pos h1] at KP
      clear hX hL h hf hk hm he hs hC ok z0 z9 hot hI h1 en eg
      cases s
      all_goals
        go_enter Try.func20, Try.ntmps20
        go_wp2_with (first | (go_at_call 40; ((with_reducible refine (KP.out _).mono ?_)); rintro e w' ⟨rfl, rfl⟩))
        refine (rodd_any b _ _ HH.out _ _).mono ?_
        rintro x' w' ⟨rfl, a1, a2⟩
        have HP := Lib.hid (⟨a1, a2⟩ : _ ∧ _)
        clear a1 a2
        go_wp2_with fail
        go_ret
        refine ⟨rfl, ⟨l, HL.out.1, LIM.out, HP.out.1.ext (fun _ _ => rfl) (by show C + 1 = g.cnt + 1; rw [HC.out]) ?_ ?_ ?_ HO.out.symm⟩, HG.out.trans HP.out.2⟩
        all_goals simp
    · have en : isN x = true := isN_true.2 (by omega)
      have eg : addG g x = { g with cnt := g.cnt + 1, nn := true } := if_pos en
      rw [eg]
      rw [hk, if_neg h1] at KP
      clear hX hL h hf hk hm he hs hC ok z0 z9 hot hI h1 en eg
      go_enter Try.func20, Try.ntmps20
      go_wp2_with (first | (go_at_call 40; ((with_reducible refine (KP.out _).mono ?_)); rintro e w' ⟨rfl, rfl⟩))
      refine (rodd_any b _ _ HH.out _ _).mono ?_
      rintro x' w' ⟨rfl, a1, a2⟩
      have HP := Lib.hid (⟨a1, a2⟩ : _ ∧ _)
      clear a1 a2
      go_wp2_with fail
      go_ret
      refine ⟨rfl, ⟨l, HL.out.1, LIM.out, HP.out.1.ext (fun _ _ => rfl) (by show C + 1 = g.cnt + 1; rw [HC.out]) ?_ ?_ ?_ HO.out.symm⟩, HG.out.trans HP.out.2⟩
      all_goals simp
end
/- The reference's AddProduct. -/
section
open Go Go.RowKit TF

attribute [local go_sem] cmp_eq cmp_ne cmp_lt cmp_gt cmp_le cmp_ge

set_option maxRecDepth 100000 in
theorem rmul_full (b : Nat) (g : AccG) (w : World) (h : RefIs w b g) (x y : Nat) (hc : g.cnt = 1048576) :
    Calls Try.prog 21 #[.pointer (some ⟨b, 0, none⟩), .float .f64 x, .float .f64 y] w fun e w' => e = .returned (.int .i64 3) ∧ w = w' := by
  obtain ⟨d, hX, hL, h⟩ := h
  obtain ⟨c, f⟩ := h.cnt
  rw [show (⟨d, g.cnt, g.up, g.dn, g.nn, decide (g.nz ≠ g.cnt)⟩ : RefS).cnt = 1048576 from hc] at c
  clear hX h hL hc
  go_enter Try.func21, Try.ntmps21
  go_wp2_with fail
  go_ret
  exact ⟨rfl, rfl⟩
set_option maxRecDepth 100000 in
theorem rmul_nil (x y : Nat) (w : World) :
    Calls Try.prog 21 #[.pointer none, .float .f64 x, .float .f64 y] w fun e w' => e = .returned (.int .i64 2) ∧ w = w' := by
  go_enter Try.func21, Try.ntmps21
  go_wp2_with fail
  go_ret
  exact ⟨rfl, rfl⟩
def nanB (x y : Nat) : Bool := isN x || isN y || decide (mg x = 0) || decide (mg y = 0)
theorem mulG_odd (g : AccG) {x y : Nat} (h : ¬ (mg x < INF ∧ mg y < INF)) :
    mulG g x y = { g with cnt := g.cnt + 1, nn := g.nn || nanB x y, dn := g.dn || (!nanB x y && (ng x != ng y)), up := g.up || (!nanB x y && !(ng x != ng y)) } := by
  rw [show mulG g x y = (if isN x ∨ isN y ∨ mg x = 0 ∨ mg y = 0 then { g with cnt := g.cnt + 1, nn := true } else if ng x ^^ ng y then { g with cnt := g.cnt + 1, dn := true } else { g with cnt := g.cnt + 1, up := true }) from if_neg h]
  by_cases hn : isN x = true ∨ isN y = true ∨ mg x = 0 ∨ mg y = 0
  · have e : nanB x y = true := by
      unfold nanB
      rcases hn with h | h | h | h
      · rw [h]; rfl
      · rw [h]; simp
      · rw [decide_eq_true h]; simp
      · rw [decide_eq_true h]; simp
    rw [if_pos hn, e]; simp
  · have e : nanB x y = false := by
      unfold nanB
      rw [decide_eq_false (fun k => hn (.inr (.inr (.inl k)))), decide_eq_false (fun k => hn (.inr (.inr (.inr k))))]
      have h1 : isN x = false := by cases h : isN x; rfl; exact absurd (.inl h) hn
      have h2 : isN y = false := by cases h : isN y; rfl; exact absurd (.inr (.inl h)) hn
      rw [h1, h2]; rfl
    rw [if_neg hn, e]
    cases ng x <;> cases ng y <;> simp
/-- what the walk sees of a factor. -/
theorem fac_cases (x : Nat) :
    (pK x = 1 ∧ pM x = 0 ∧ pE x = 0 ∧ isN x = false ∧ decide (mg x = 0) = false ∧ ¬ mg x < INF) ∨ (pK x = 2 ∧ pM x = 0 ∧ pE x = 0 ∧ isN x = true ∧ decide (mg x = 0) = false ∧ ¬ mg x < INF) ∨
    (pK x = 0 ∧ pM x = 0 ∧ isN x = false ∧ decide (mg x = 0) = true ∧ mg x < INF) ∨ (pK x = 0 ∧ (pM x ≠ 0 ∧ (pM x == 0) = false) ∧ isN x = false ∧ decide (mg x = 0) = false ∧ mg x < INF) := by
  have hI := INF_eq
  by_cases h : mg x < INF
  · have hk : pK x = 0 := if_pos h
    have hz := pM_zero h
    have hn := isN_false.2 (show mg x ≤ INF by omega)
    by_cases h0 : mg x = 0
    · exact .inr (.inr (.inl ⟨hk, hz.2 h0, hn, decide_eq_true h0, h⟩))
    · exact .inr (.inr (.inr ⟨hk, ⟨fun k => h0 (hz.1 k), beq_eq_false_iff_ne.2 (fun k => h0 (hz.1 k))⟩, hn, decide_eq_false h0, h⟩))
  · have hm : pM x = 0 := if_neg h
    have he : pE x = 0 := if_neg h
    have hz : decide (mg x = 0) = false := decide_eq_false (by omega)
    by_cases h1 : mg x = INF
    · exact .inl ⟨by unfold pK; rw [if_neg h, if_pos h1], hm, he, isN_false.2 (by omega), hz, h⟩
    · exact .inr (.inl ⟨by unfold pK; rw [if_neg h, if_neg h1], hm, he, isN_true.2 (by omega), hz, h⟩)
def OddFacts (g g' : AccG) (x y : Nat) : Prop := g'.X = g.X ∧ g'.cnt = g.cnt + 1 ∧ g'.nz = g.nz ∧ g'.nn = (g.nn || nanB x y) ∧ g'.dn = (g.dn || (!nanB x y && (ng x != ng y))) ∧ g'.up = (g.up || (!nanB x y && !(ng x != ng y)))
theorem odd_close {w w' : World} {b : Nat} {g g' : AccG} {l : Nat → Int} {x y : Nat} {nan neg : Bool} (hf : OddFacts g g' x y) (hX : SR l 136 = g.X) (hL : Lim l (g.cnt + 1)) (hot : decide (g.nz ≠ g.cnt + 1) = true)
    (hn : nanB x y = nan) (hs : (ng x != ng y) = neg) (h : RefAt w' b { l := l, cnt := g.cnt + 1, pl := g.up || (!nan && !neg), mi := g.dn || (!nan && neg), no := g.nn || nan, ot := true }) (_hc : Chg b w w') : RefIs w' b g' := by
  obtain ⟨f1, f2, f3, f4, f5, f6⟩ := hf
  refine ⟨l, by rw [hX, f1], by rw [f2]; exact hL, ?_⟩
  rw [f2, f3, f4, f5, f6, hn, hs, hot]
  exact h

set_option maxRecDepth 100000 in
set_option maxHeartbeats 4000000 in
theorem rmul_odd (b : Nat) (g g' : AccG) (w : World) (h : RefIs w b g) (ok : GOk g) (x y : Nat) (hx : W64 x) (hy : W64 y) (hc : g.cnt < 1048576) (hfin : ¬ (mg x < INF ∧ mg y < INF)) (hg' : g' = mulG g x y) :
    Calls Try.prog 21 #[.pointer (some ⟨b, 0, none⟩), .float .f64 x, .float .f64 y] w (RAddP w b g' 0) := by
  have hfacts : OddFacts g g' x y := by rw [hg', mulG_odd g hfin]; exact ⟨rfl, rfl, rfl, rfl, rfl, rfl⟩
  obtain ⟨l, hX, hL, h⟩ := h
  obtain ⟨c, f⟩ := h.cnt
  have c0 := ok.c0
  have z0 := ok.z0
  have z9 := ok.z9
  have KP1 := Lib.hid fun w => rparts_any x hx w
  have KP2 := Lib.hid fun w => rparts_any y hy w
  have CX := fac_cases x
  have CY := fac_cases y
  obtain ⟨C, hC⟩ : ∃ C, C = g.cnt := ⟨_, rfl⟩
  have HC := Lib.hid hC
  have HH := Lib.hid (h.setCnt (g.cnt + 1))
  have HG := Lib.hid ((Chg.refl b w).set 136 (.int .i64 (g.cnt + 1)))
  have LIM : Hid (Lim l (g.cnt + 1)) := Lib.hid (fun i hi => by have := hL i hi; omega)
  have HO := Lib.hid (show decide (g.nz ≠ g.cnt + 1) = true from decide_eq_true (by omega))
  have HF := Lib.hid (⟨hfacts, hX⟩ : _ ∧ _)
  dsimp only at c
  rw [← hC] at HH HG c c0 hc
  obtain ⟨M1, e1⟩ : ∃ z, z = pM x := ⟨_, rfl⟩
  obtain ⟨M2, e2⟩ : ∃ z, z = pM y := ⟨_, rfl⟩
  obtain ⟨K1, e3⟩ : ∃ z, z = pK x := ⟨_, rfl⟩
  obtain ⟨K2, e4⟩ : ∃ z, z = pK y := ⟨_, rfl⟩
  obtain ⟨E1, e5⟩ : ∃ z, z = pE x := ⟨_, rfl⟩
  obtain ⟨E2, e6⟩ : ∃ z, z = pE y := ⟨_, rfl⟩
  obtain ⟨s, e7⟩ : ∃ z, z = ng x := ⟨_, rfl⟩
  obtain ⟨o, e8⟩ : ∃ z, z = ng y := ⟨_, rfl⟩
  rw [← e1, ← e3, ← e5] at CX
  rw [← e2, ← e4, ← e6] at CY
  rw [← e1, ← e3, ← e5, ← e7] at KP1
  rw [← e2, ← e4, ← e6, ← e8] at KP2
  have HS := Lib.hid (show (ng x != ng y) = (s != o) by rw [e7, e8])
  clear e1 e2 e3 e4 e5 e6 e7 e8 hX hL h hC ok z0 z9 hfacts hg' hx hy
  have NB : ∀ p q r t : Bool, isN x = p → isN y = q → decide (mg x = 0) = r → decide (mg y = 0) = t → nanB x y = (p || q || r || t) := by intro p q r t a b c d; unfold nanB; rw [a, b, c, d]
  rcases CX with ⟨rfl, rfl, rfl, x1, x2, -⟩ | ⟨rfl, rfl, rfl, x1, x2, -⟩ | ⟨rfl, rfl, x1, x2, x3⟩ | ⟨rfl, ⟨x4, x5⟩, x1, x2, x3⟩ <;> rcases CY with ⟨rfl, rfl, rfl, y1, y2, -⟩ | ⟨rfl, rfl, rfl, y1, y2, -⟩ | ⟨rfl, rfl, y1, y2, y3⟩ | ⟨rfl, ⟨y4, y5⟩, y1, y2, y3⟩
  all_goals
    first
    | (exfalso; apply hfin; constructor <;> assumption)
    | (have HN := Lib.hid (NB _ _ _ _ x1 y1 x2 y2)
       clear NB x1 x2 y1 y2 hfin
       go_enter Try.func21, Try.ntmps21
       go_wp2_with (first | (go_at_call 40; ((with_reducible refine (KP1.out _).mono ?_)); rintro e w' ⟨rfl, rfl⟩) | (go_at_call 40; ((with_reducible refine (KP2.out _).mono ?_)); rintro e w' ⟨rfl, rfl⟩))
       refine (rodd_any b _ _ HH.out _ _).mono ?_
       rintro x' w' ⟨rfl, a1, a2⟩
       have HP := Lib.hid (⟨a1, a2⟩ : _ ∧ _)
       clear a1 a2
       go_wp2_with fail
       go_ret
       exact ⟨rfl, odd_close HF.out.1 HF.out.2 LIM.out HO.out HN.out HS.out (HP.out.1.ext (fun _ _ => rfl) (by show C + 1 = g.cnt + 1; rw [HC.out]) (by first | rfl | (simp [*]; done)) (by first | rfl | (simp [*]; done)) (by first | rfl | (simp [*]; done)) rfl) (HG.out.trans HP.out.2), HG.out.trans HP.out.2⟩)
theorem sgn_mul {x y : Nat} (hx : mg x < INF) (hy : mg y < INF) : sgn (ng x != ng y) (pM x * pM y) * 2 ^ (E (mg x) + E (mg y) + 28) = iv x * iv y * 268435456 := by
  have h := prod_val (x := x) (y := y) 0
  rw [show ((E (mg x) : Int) - 1074 + ((E (mg y) : Int) - 1074) + 2176).toNat = E (mg x) + E (mg y) + 28 by omega] at h
  have hd := Int.emod_add_mul_ediv ((M (mg x) : Int) * (M (mg y) : Int)) 18446744073709551616
  rw [show (M (mg x) : Int) * (M (mg y) : Int) / 18446744073709551616 * 18446744073709551616 + (M (mg x) : Int) * (M (mg y) : Int) % 18446744073709551616 = (M (mg x) : Int) * (M (mg y) : Int) by rw [Int.mul_comm ((M (mg x) : Int) * (M (mg y) : Int) / 18446744073709551616)]; omega] at h
  rw [pM_is hx, pM_is hy]
  have hs : (ng x != ng y) = (ng x ^^ ng y) := by cases ng x <;> cases ng y <;> rfl
  rw [hs]
  unfold sgn
  cases hc : ng x ^^ ng y
  · rw [hc, if_neg Bool.false_ne_true, Int.zero_add, Int.zero_add] at h
    rw [if_neg Bool.false_ne_true]; exact h
  · rw [hc, if_pos rfl, Int.zero_add] at h
    rw [if_pos rfl, Int.neg_mul]; omega
/-- four halves' products. -/
def mulL (l : Nat → Int) (s : Bool) (a b c d : Int) (q r : Nat) (i j : Nat) : Nat → Int :=
  if i = 0 then (if j = 0 then l else if j = 1 then addP l s (a * c) q r else addP (addP l s (a * c) q r) s (a * d) (q + 1) r)
  else if i = 1 then (if j = 0 then addP (addP l s (a * c) q r) s (a * d) (q + 1) r else if j = 1 then addP (addP (addP l s (a * c) q r) s (a * d) (q + 1) r) s (b * c) (q + 1) r
    else addP (addP (addP (addP l s (a * c) q r) s (a * d) (q + 1) r) s (b * c) (q + 1) r) s (b * d) (q + 2) r)
  else addP (addP (addP (addP l s (a * c) q r) s (a * d) (q + 1) r) s (b * c) (q + 1) r) s (b * d) (q + 2) r
theorem SR_mulL (l : Nat → Int) (s : Bool) (m k : Int) {q r : Nat} (h : q + 4 < 136) :
    SR (mulL l s (m % 4294967296) (m / 4294967296) (k % 4294967296) (k / 4294967296) q r 2 0) 136 = SR l 136 + sgn s (m * k) * 2 ^ (32 * q + r) := by
  unfold mulL
  rw [if_neg (by omega), if_neg (by omega), SR_addP _ _ _ _ _ _ (by omega), SR_addP _ _ _ _ _ _ (by omega), SR_addP _ _ _ _ _ _ (by omega), SR_addP _ _ _ _ _ _ (by omega)]
  have hm := Int.emod_add_mul_ediv m 4294967296
  have hk := Int.emod_add_mul_ediv k 4294967296
  rw [show 32 * (q + 1) + r = (32 * q + r) + 32 by omega, show 32 * (q + 2) + r = (32 * q + r) + 64 by omega]
  generalize 32 * q + r = u
  rw [Int.pow_add _ u 32, Int.pow_add _ u 64, show (2 : Int) ^ 32 = 4294967296 from rfl, show (2 : Int) ^ 64 = 18446744073709551616 from rfl]
  generalize (2 : Int) ^ u = p
  have e : m * k = (m % 4294967296) * (k % 4294967296) + 4294967296 * ((m % 4294967296) * (k / 4294967296)) + 4294967296 * ((m / 4294967296) * (k % 4294967296)) + 18446744073709551616 * ((m / 4294967296) * (k / 4294967296)) := by
    conv => lhs; rw [← hm, ← hk]
    grind
  generalize m % 4294967296 * (k % 4294967296) = t1 at *
  generalize m % 4294967296 * (k / 4294967296) = t2 at *
  generalize m / 4294967296 * (k % 4294967296) = t3 at *
  generalize m / 4294967296 * (k / 4294967296) = t4 at *
  rw [e]
  have e2 : sgn s (t1 + 4294967296 * t2 + 4294967296 * t3 + 18446744073709551616 * t4) = sgn s t1 + 4294967296 * sgn s t2 + 4294967296 * sgn s t3 + 18446744073709551616 * sgn s t4 := by unfold sgn; split <;> omega
  rw [e2]
  generalize sgn s t1 = u1
  generalize sgn s t2 = u2
  generalize sgn s t3 = u3
  generalize sgn s t4 = u4
  grind
theorem prod_range {a c : Int} (a0 : 0 ≤ a) (a9 : a < 4294967296) (c0 : 0 ≤ c) (c9 : c < 4294967296) : 0 ≤ a * c ∧ a * c < 18446744073709551616 := by
  have h := Int.mul_le_mul (show a ≤ 4294967295 by omega) (show c ≤ 4294967295 by omega) c0 (by decide)
  exact ⟨Int.mul_nonneg a0 c0, by omega⟩
/-- each limb stays near, at each stage. -/
theorem mulL_near (l : Nat → Int) (s : Bool) {a b c d : Int} {q r : Nat} (a0 : 0 ≤ a) (a9 : a < 4294967296) (b0 : 0 ≤ b) (b9 : b < 4294967296) (c0 : 0 ≤ c) (c9 : c < 4294967296) (d0 : 0 ≤ d) (d9 : d < 4294967296) (hr : r < 32) (i j z : Nat) :
    l z - 34359738368 ≤ mulL l s a b c d q r i j z ∧ mulL l s a b c d q r i j z ≤ l z + 34359738368 := by
  obtain ⟨p0, p9⟩ := prod_range a0 a9 c0 c9
  obtain ⟨q0, q9⟩ := prod_range a0 a9 d0 d9
  obtain ⟨r0, r9⟩ := prod_range b0 b9 c0 c9
  obtain ⟨s0, s9⟩ := prod_range b0 b9 d0 d9
  have h1 := addP_near l s q p0 p9 hr z
  have h2 := addP_near (addP l s (a * c) q r) s (q + 1) q0 q9 hr z
  have h3 := addP_near (addP (addP l s (a * c) q r) s (a * d) (q + 1) r) s (q + 1) r0 r9 hr z
  have h4 := addP_near (addP (addP (addP l s (a * c) q r) s (a * d) (q + 1) r) s (b * c) (q + 1) r) s (q + 2) s0 s9 hr z
  unfold mulL
  split
  · split
    · omega
    · split <;> omega
  · split
    · split
      · omega
      · split <;> omega
    · omega
end
/- The reference's AddProduct of finite floats. -/
section
open Go Go.RowKit TF

attribute [local go_sem] cmp_eq cmp_ne cmp_lt cmp_gt cmp_le cmp_ge

def FinFacts (g g' : AccG) (x y : Nat) : Prop := g'.X = g.X + iv x * iv y * 268435456 ∧ g'.cnt = g.cnt + 1 ∧ g'.nn = g.nn ∧ g'.dn = g.dn ∧ g'.up = g.up ∧
  ∀ t, t = decide (g.nz ≠ g.cnt) → g.nz ≤ g.cnt → otF t (pM x * pM y) (ng x != ng y) = decide (g'.nz ≠ g'.cnt)
theorem fin_facts (g : AccG) {x y : Nat} (hx : mg x < INF) (hy : mg y < INF) : FinFacts g (mulG g x y) x y := by
  have e : mulG g x y = { g with cnt := g.cnt + 1, X := g.X + iv x * iv y * 268435456, nz := g.nz + if (mg x = 0 ∨ mg y = 0) ∧ (ng x ^^ ng y) = true then 1 else 0 } := by
    unfold mulG; exact if_pos ⟨hx, hy⟩
  rw [e]
  refine ⟨rfl, rfl, rfl, rfl, rfl, fun t ht hl => ?_⟩
  have hz : pM x * pM y = 0 ↔ (mg x = 0 ∨ mg y = 0) := by rw [Int.mul_eq_zero, pM_zero hx, pM_zero hy]
  have hs : (ng x != ng y) = (ng x ^^ ng y) := by cases ng x <;> cases ng y <;> rfl
  refine rot_close (m := pM x * pM y) (s := ng x != ng y) ⟨fun hh => ?_, fun hh => ?_⟩ ht hl rfl
  · exact if_pos ⟨hz.1 hh.1, by rw [← hs]; exact hh.2⟩
  · exact if_neg (fun k => hh ⟨hz.2 k.1, by rw [hs]; exact k.2⟩)
theorem otF_true (m : Int) (s : Bool) : otF true m s = true := rfl
theorem otF_prod {m k : Int} (h1 : m ≠ 0) (h2 : k ≠ 0) (s : Bool) : otF false (m * k) s = true := by
  unfold otF
  rw [decide_eq_true (show m * k ≠ 0 from Int.mul_ne_zero h1 h2)]; rfl
theorem otF_zero {m : Int} (h1 : m = 0) (s : Bool) : otF false m s = !s := by
  unfold otF
  rw [decide_eq_false (fun k => k h1)]; simp
def MulRel (w : World) (b : Nat) (L : Nat → Nat → Nat → Int) (T : RefS) (i : Nat) (v : Value) (wr : World) : Prop :=
  ∃ j : Nat, j ≤ 2 ∧ v = .int .i64 j ∧ RefAt wr b { T with l := L i j } ∧ Chg b w wr

set_option maxHeartbeats 4000000 in
set_option maxRecDepth 100000 in
theorem rmul_fin (b : Nat) (g g' : AccG) (w : World) (h : RefIs w b g) (ok : GOk g) (x y : Nat) (hx : W64 x) (hy : W64 y) (hc : g.cnt < 1048576) (fx : mg x < INF) (fy : mg y < INF) (hg' : g' = mulG g x y) :
    Calls Try.prog 21 #[.pointer (some ⟨b, 0, none⟩), .float .f64 x, .float .f64 y] w (RAddP w b g' 0) := by
  have hfacts : FinFacts g g' x y := by rw [hg']; exact fin_facts g fx fy
  obtain ⟨l, hX, hL, h⟩ := h
  obtain ⟨c, f⟩ := h.cnt
  obtain ⟨c6, f6⟩ := h.ot
  have c0 := ok.c0
  have z9 := ok.z9
  have KP1 := Lib.hid fun w => rparts_any x hx w
  have KP2 := Lib.hid fun w => rparts_any y hy w
  have hk1 : pK x = 0 := if_pos fx
  have hk2 : pK y = 0 := if_pos fy
  obtain ⟨m1, m9⟩ := pM_range x
  obtain ⟨k1, k9⟩ := pM_range y
  obtain ⟨e1, e9⟩ := pE_range x
  obtain ⟨f1, f9⟩ := pE_range y
  have hE1 := pE_is fx
  have hE2 := pE_is fy
  have hmul := sgn_mul fx fy
  obtain ⟨q, hq⟩ : ∃ q : Nat, q = (E (mg x) + E (mg y) + 28) / 32 := ⟨_, rfl⟩
  obtain ⟨r, hr⟩ : ∃ q : Nat, q = (E (mg x) + E (mg y) + 28) % 32 := ⟨_, rfl⟩
  have hat : E (mg x) + E (mg y) + 28 = 32 * q + r := by omega
  rw [hat] at hmul
  obtain ⟨m, em⟩ : ∃ z, z = pM x := ⟨_, rfl⟩
  obtain ⟨k, ek⟩ : ∃ z, z = pM y := ⟨_, rfl⟩
  obtain ⟨e, ee⟩ : ∃ z, z = pE x := ⟨_, rfl⟩
  obtain ⟨f, ef⟩ : ∃ z, z = pE y := ⟨_, rfl⟩
  obtain ⟨s, es⟩ : ∃ z, z = ng x := ⟨_, rfl⟩
  obtain ⟨o, eo⟩ : ∃ z, z = ng y := ⟨_, rfl⟩
  obtain ⟨t, ht⟩ : ∃ t, t = decide (g.nz ≠ g.cnt) := ⟨_, rfl⟩
  have hot := hfacts.2.2.2.2.2 t ht z9
  rw [hk1, ← em, ← ee, ← es] at KP1
  rw [hk2, ← ek, ← ef, ← eo] at KP2
  rw [← em, ← ek, ← es, ← eo] at hot hmul
  rw [← em] at m1 m9
  rw [← ek] at k1 k9
  rw [← ee] at e1 e9 hE1
  rw [← ef] at f1 f9 hE2
  obtain ⟨C, hC⟩ : ∃ C, C = g.cnt := ⟨_, rfl⟩
  obtain ⟨N, hN⟩ : ∃ N : Bool, N = (s != o) := ⟨_, rfl⟩
  rw [← hN] at hot hmul
  obtain ⟨a0, ha0⟩ : ∃ z, z = m % 4294967296 := ⟨_, rfl⟩
  obtain ⟨a1, ha1⟩ : ∃ z, z = m / 4294967296 := ⟨_, rfl⟩
  obtain ⟨b0, hb0⟩ : ∃ z, z = k % 4294967296 := ⟨_, rfl⟩
  obtain ⟨b1, hb1⟩ : ∃ z, z = k / 4294967296 := ⟨_, rfl⟩
  have hsr := SR_mulL l N m k (q := q) (r := r) (by omega)
  rw [← ha0, ← ha1, ← hb0, ← hb1, hX, hmul] at hsr
  have hnear := mulL_near l N (a := a0) (b := a1) (c := b0) (d := b1) (q := q) (r := r) (by omega) (by omega) (by omega) (by omega) (by omega) (by omega) (by omega) (by omega) (by omega)
  obtain ⟨L, eL⟩ : ∃ L : Nat → Nat → Nat → Int, L = fun i j => mulL l N a0 a1 b0 b1 q r i j := ⟨_, rfl⟩
  have hroom : ∀ i j z, z < 136 → -1152921500311879680 ≤ L i j z ∧ L i j z ≤ 1152921500311879680 := by
    intro i j z hz
    rw [eL]
    have h1 := lim_room hL ok.c9 2 (by omega) z hz
    have h2 := hnear i j z
    dsimp only
    omega
  obtain ⟨p00, r00⟩ := prod_range (a := a0) (c := b0) (by omega) (by omega) (by omega) (by omega)
  obtain ⟨p01, r01⟩ := prod_range (a := a0) (c := b1) (by omega) (by omega) (by omega) (by omega)
  obtain ⟨p10, r10⟩ := prod_range (a := a1) (c := b0) (by omega) (by omega) (by omega) (by omega)
  obtain ⟨p11, r11⟩ := prod_range (a := a1) (c := b1) (by omega) (by omega) (by omega) (by omega)
  dsimp only at c c6
  rw [← hC] at c c0 hc
  rw [← ht] at c6
  have HT := Lib.hid (⟨hot, hfacts, hC⟩ : _ ∧ _ ∧ _)
  have FIN : Hid (∀ (v : Bool) w', v = otF t (m * k) N → RefAt w' b ⟨L 2 0, C + 1, g.up, g.dn, g.nn, v⟩ → RefIs w' b g') := Lib.hid fun v w' hv h' => by
    obtain ⟨q1, q2, q3⟩ := HT.out
    obtain ⟨u1, u2, u3, u4, u5, -⟩ := q2
    refine ⟨L 2 0, ?_, ?_, ?_⟩
    · rw [eL, u1]; exact hsr
    · intro z hz
      have n1 := hnear 2 0 z
      have n2 := hL z hz
      rw [eL, u2]
      dsimp only
      omega
    · rw [← q1, u2, u3, u4, u5, ← hv, ← q3]; exact h'
  have HH := Lib.hid fun v : Bool => (h.setCnt (g.cnt + 1)).setOt v
  have HG := Lib.hid fun v : Bool => ((Chg.refl b w).set 136 (.int .i64 (g.cnt + 1))).set 140 (.bool v)
  rw [← hC] at HH HG
  have P00 := Lib.hid fun (T : RefS) w' (hw : RefAt w' b { T with l := L 0 0 }) => rput_any b _ w' hw (hroom 0 0) N (a0 * b0) (e + f) q r (by omega) (by omega) (by omega) p00 r00
  have P01 := Lib.hid fun (T : RefS) w' (hw : RefAt w' b { T with l := L 0 1 }) => rput_any b _ w' hw (hroom 0 1) N (a0 * b1) (e + f + 32) (q + 1) r (by omega) (by omega) (by omega) p01 r01
  have P10 := Lib.hid fun (T : RefS) w' (hw : RefAt w' b { T with l := L 1 0 }) => rput_any b _ w' hw (hroom 1 0) N (a1 * b0) (e + f + 32) (q + 1) r (by omega) (by omega) (by omega) p10 r10
  have P11 := Lib.hid fun (T : RefS) w' (hw : RefAt w' b { T with l := L 1 1 }) => rput_any b _ w' hw (hroom 1 1) N (a1 * b1) (e + f + 32 + 32) (q + 2) r (by omega) (by omega) (by omega) p11 r11
  have NEXT : Hid (L 0 0 = l ∧ addP (L 0 0) N (a0 * b0) q r = L 0 1 ∧ addP (L 0 1) N (a0 * b1) (q + 1) r = L 0 2 ∧ L 0 2 = L 1 0 ∧ addP (L 1 0) N (a1 * b0) (q + 1) r = L 1 1 ∧ addP (L 1 1) N (a1 * b1) (q + 2) r = L 1 2 ∧ L 1 2 = L 2 0) := Lib.hid (by rw [eL]; exact ⟨rfl, rfl, rfl, rfl, rfl, rfl, rfl⟩)
  have x1 : m.tmod 4294967296 = a0 := by rw [ha0]; exact Int.tmod_eq_emod_of_nonneg m1
  have x2 : (m / 4294967296).tmod 4294967296 = a1 := by rw [ha1, Int.tmod_eq_emod_of_nonneg (by omega)]; omega
  have x3 : k.tmod 4294967296 = b0 := by rw [hb0]; exact Int.tmod_eq_emod_of_nonneg k1
  have x4 : (k / 4294967296).tmod 4294967296 = b1 := by rw [hb1, Int.tmod_eq_emod_of_nonneg (by omega)]; omega
  have y00 : IntKind.u64.wrap (a0 * b0) = a0 * b0 := by rw [IntKind.wrap_u64]; omega
  have y01 : IntKind.u64.wrap (a0 * b1) = a0 * b1 := by rw [IntKind.wrap_u64]; omega
  have y10 : IntKind.u64.wrap (a1 * b0) = a1 * b0 := by rw [IntKind.wrap_u64]; omega
  have y11 : IntKind.u64.wrap (a1 * b1) = a1 * b1 := by rw [IntKind.wrap_u64]; omega
  have HN := Lib.hid hN
  have HA := Lib.hid (⟨ha0, ha1, hb0, hb1⟩ : _ ∧ _ ∧ _ ∧ _)
  clear hsr hnear eL hroom p00 p01 p10 p11 r00 r01 r10 r11 ha0 ha1 hb0 hb1 hot hfacts hC hN hmul hat hq hr em ek ee ef es eo ht hE1 hE2 hk1 hk2 hX hL h ok z9 hg' fx fy hx hy
  have WAYS : ∃ V : Bool, Hid (V = otF t (m * k) N) ∧ ((t = true ∧ V = true) ∨ (t = false ∧ m ≠ 0 ∧ k ≠ 0 ∧ V = true) ∨ (t = false ∧ m = 0 ∧ V = (s == o)) ∨ (t = false ∧ m ≠ 0 ∧ k = 0 ∧ V = (s == o))) := by
    have hN : (s == o) = !N := by rw [HN.out]; cases s <;> cases o <;> rfl
    cases t
    · by_cases h1 : m = 0
      · exact ⟨s == o, Lib.hid (by rw [otF_zero (by rw [h1, Int.zero_mul]), hN]), .inr (.inr (.inl ⟨rfl, h1, rfl⟩))⟩
      · by_cases h2 : k = 0
        · exact ⟨s == o, Lib.hid (by rw [otF_zero (by rw [h2, Int.mul_zero]), hN]), .inr (.inr (.inr ⟨rfl, h1, h2, rfl⟩))⟩
        · exact ⟨true, Lib.hid (otF_prod h1 h2 _).symm, .inr (.inl ⟨rfl, h1, h2, rfl⟩)⟩
    · exact ⟨true, Lib.hid (otF_true _ _).symm, .inl ⟨rfl, rfl⟩⟩
  obtain ⟨V, HV, WAYS⟩ := WAYS
  obtain ⟨T, hT⟩ : ∃ T : RefS, T = ⟨l, C + 1, g.up, g.dn, g.nn, V⟩ := ⟨_, rfl⟩
  have START : Hid (RefAt ((w.setCell ⟨b, 136, none⟩ (.int .i64 (C + 1))).setCell ⟨b, 140, none⟩ (.bool V)) b { T with l := L 0 0 } ∧ Chg b w ((w.setCell ⟨b, 136, none⟩ (.int .i64 (C + 1))).setCell ⟨b, 140, none⟩ (.bool V))) :=
    Lib.hid ⟨by rw [hT, NEXT.out.1]; exact HH.out V, HG.out V⟩
  have FIN2 : Hid (∀ w', RefAt w' b { T with l := L 2 0 } → RefIs w' b g') := Lib.hid fun w' h' => FIN.out V w' HV.out (by rw [hT] at h'; exact h')
  obtain ⟨N1, N2, N3, N4, N5, N6, N7⟩ := NEXT.out
  have Q00 := Lib.hid fun w' hw => (P00.out T w' hw).mono fun x' w'' (h : PutR _ _ _ _ _ _ _ x' w'') => (show x' = .returned (.tuple #[]) ∧ RefAt w'' b { T with l := L 0 1 } ∧ Chg b w' w'' from ⟨h.1, by rw [← N2]; exact h.2.1, h.2.2⟩)
  have Q01 := Lib.hid fun w' hw => (P01.out T w' hw).mono fun x' w'' (h : PutR _ _ _ _ _ _ _ x' w'') => (show x' = .returned (.tuple #[]) ∧ RefAt w'' b { T with l := L 0 2 } ∧ Chg b w' w'' from ⟨h.1, by rw [← N3]; exact h.2.1, h.2.2⟩)
  have Q10 := Lib.hid fun w' hw => (P10.out T w' hw).mono fun x' w'' (h : PutR _ _ _ _ _ _ _ x' w'') => (show x' = .returned (.tuple #[]) ∧ RefAt w'' b { T with l := L 1 1 } ∧ Chg b w' w'' from ⟨h.1, by rw [← N5]; exact h.2.1, h.2.2⟩)
  have Q11 := Lib.hid fun w' hw => (P11.out T w' hw).mono fun x' w'' (h : PutR _ _ _ _ _ _ _ x' w'') => (show x' = .returned (.tuple #[]) ∧ RefAt w'' b { T with l := L 1 2 } ∧ Chg b w' w'' from ⟨h.1, by rw [← N6]; exact h.2.1, h.2.2⟩)
  have N47 := Lib.hid (⟨N4, N7⟩ : _ ∧ _)
  clear N1 N2 N3 N4 N5 N6 N7 P00 P01 P10 P11 NEXT
  clear hT HV FIN HH HG
  rcases WAYS with ⟨rfl, rfl⟩ | ⟨rfl, h1, h2, rfl⟩ | ⟨rfl, rfl, rfl⟩ | ⟨rfl, h1, rfl, rfl⟩
  all_goals
    try (have z1 : a0 = 0 := by have h := HA.out.1; omega
         have z2 : a1 = 0 := by have h := HA.out.2.1; omega
         subst z1
         subst z2
         rw [Int.zero_mul] at Q00 Q01 Q10 Q11)
    try (have z1 : b0 = 0 := by have h := HA.out.2.2.1; omega
         have z2 : b1 = 0 := by have h := HA.out.2.2.2; omega
         subst z1
         subst z2
         rw [Int.mul_zero] at Q00 Q01 Q10 Q11)
    go_enter Try.func21, Try.ntmps21
    go_wp2_with (first | (go_at_call 40; ((with_reducible refine (KP1.out _).mono ?_)); rintro e w' ⟨rfl, rfl⟩) | (go_at_call 40; ((with_reducible refine (KP2.out _).mono ?_)); rintro e w' ⟨rfl, rfl⟩))
    rw [show (!(s == o)) = N from HN.out.symm]
    go_loopw [17] (fun v wr => ∃ i : Nat, i ≤ 2 ∧ v = .int .i64 i ∧ RefAt wr b { T with l := L i 0 } ∧ Chg b w wr) (fun v _ => 2 - (intOf v).toNat)
    case atStart => exact ⟨0, by omega, rfl, START.out.1, START.out.2⟩
    case round =>
      obtain ⟨i, hi, rfl, hacc, hchg⟩ := hrel
      rcases (show i = 0 ∨ i = 1 ∨ i = 2 by omega) with rfl | rfl | rfl
      rotate_right
      · have HE := Lib.hid (⟨hacc, hchg⟩ : _ ∧ _)
        clear hacc hchg
        go_wp2_with fail
        go_ret
        exact ⟨rfl, FIN2.out _ HE.out.1, HE.out.2⟩
      all_goals
        have HE := Lib.hid (⟨hacc, hchg⟩ : _ ∧ _)
        clear hacc hchg
        go_wp2_with fail
        go_loopw [18] (fun v wx => MulRel w b L T _ v wx) (fun v _ => 2 - (intOf v).toNat)
        case atStart => exact ⟨0, by omega, rfl, HE.out.1, HE.out.2⟩
        case round =>
          obtain ⟨j, hj, rfl, hacc, hchg⟩ := hrel
          rcases (show j = 0 ∨ j = 1 ∨ j = 2 by omega) with rfl | rfl | rfl
          rotate_right
          · have HE2 := Lib.hid (⟨hacc, hchg⟩ : _ ∧ _)
            clear hacc hchg
            go_wp2_with fail
            go_roundw
            case rel =>
              first
              | exact ⟨1, by omega, by first | rfl | go_num, by rw [← N47.out.1]; exact HE2.out.1, HE2.out.2⟩
              | exact ⟨2, by omega, by first | rfl | go_num, by rw [← N47.out.2]; exact HE2.out.1, HE2.out.2⟩
              | ((repeat apply Exists.intro); exact ⟨⟨1, by omega, by first | rfl | go_num, by rw [← N47.out.1]; exact HE2.out.1, HE2.out.2⟩, rfl⟩)
              | ((repeat apply Exists.intro); exact ⟨⟨2, by omega, by first | rfl | go_num, by rw [← N47.out.2]; exact HE2.out.1, HE2.out.2⟩, rfl⟩)
            case measure => simp [intOf]
          all_goals
            have HE2 := Lib.hid (⟨hacc, hchg⟩ : _ ∧ _)
            clear hacc hchg
            go_wp2_with fail
            first
            | (with_reducible refine (Q00.out _ HE2.out.1).mono ?_)
            | (with_reducible refine (Q01.out _ HE2.out.1).mono ?_)
            | (with_reducible refine (Q10.out _ HE2.out.1).mono ?_)
            | (with_reducible refine (Q11.out _ HE2.out.1).mono ?_)
            rintro x' w' ⟨rfl, a1, a2⟩
            have HP := Lib.hid (⟨a1, a2⟩ : _ ∧ _)
            clear a1 a2
            go_wp2_with fail
            go_roundw
            case rel =>
              first
              | exact ⟨1, by omega, by first | rfl | go_num, HP.out.1, HE2.out.2.trans HP.out.2⟩
              | exact ⟨2, by omega, by first | rfl | go_num, HP.out.1, HE2.out.2.trans HP.out.2⟩
              | ((repeat apply Exists.intro); exact ⟨⟨1, by omega, by first | rfl | go_num, HP.out.1, HE2.out.2.trans HP.out.2⟩, rfl⟩)
              | ((repeat apply Exists.intro); exact ⟨⟨2, by omega, by first | rfl | go_num, HP.out.1, HE2.out.2.trans HP.out.2⟩, rfl⟩)
            case measure => simp [intOf]
end
/- The reference's Merge: of two sums, of one with itself. -/
section
open Go Go.RowKit TF

attribute [local go_sem] cmp_eq cmp_ne cmp_lt cmp_gt cmp_le cmp_ge

theorem rmerge_nil (p : Option Addr) (w : World) :
    Calls Try.prog 23 #[.pointer none, .pointer p] w fun e w' => e = .returned (.int .i64 2) ∧ w = w' := by
  go_enter Try.func23, Try.ntmps23
  go_wp2_with fail
  go_ret
  exact ⟨rfl, rfl⟩
theorem rmerge_nil2 (c : Nat) (w : World) :
    Calls Try.prog 23 #[.pointer (some ⟨c, 0, none⟩), .pointer none] w fun e w' => e = .returned (.int .i64 2) ∧ w = w' := by
  go_enter Try.func23, Try.ntmps23
  go_wp2_with fail
  go_ret
  exact ⟨rfl, rfl⟩
theorem rmerge_full (b c : Nat) (g k : AccG) (w : World) (h : RefIs w b g) (ok : GOk g) (h' : RefIs w c k) (ok' : GOk k) (hc : 1048576 < g.cnt + k.cnt) :
    Calls Try.prog 23 #[.pointer (some ⟨b, 0, none⟩), .pointer (some ⟨c, 0, none⟩)] w fun e w' => e = .returned (.int .i64 3) ∧ ∃ n, w' = w.drewN n := by
  obtain ⟨l, hX, hL, h⟩ := h
  obtain ⟨l', hX', hL', h'⟩ := h'
  obtain ⟨c1, f1⟩ := h.cnt
  obtain ⟨c2, f2⟩ := h'.cnt
  have a0 := ok.c0
  have a9 := ok.c9
  have b0 := ok'.c0
  have b9 := ok'.c9
  obtain ⟨C, hC⟩ : ∃ C, C = g.cnt := ⟨_, rfl⟩
  obtain ⟨D, hD⟩ : ∃ C, C = k.cnt := ⟨_, rfl⟩
  dsimp only at c1 c2
  rw [← hC] at c1 a0 a9 hc
  rw [← hD] at c2 b0 b9 hc
  clear hX hX' hL hL' h h' ok ok' hC hD
  go_enter Try.func23, Try.ntmps23
  go_wp2_with fail
  go_region
  go_wp2_with fail
  go_ret
  exact ⟨rfl, 1, rfl⟩
/-- what is left to be read of the second sum. -/
structure Rest (w : World) (c : Nat) (t : RefS) : Prop where
  word : ∀ i, i < 136 → CellIs w c i (.int .i64 (t.l i))
  pl : CellIs w c 137 (.bool t.pl)
  mi : CellIs w c 138 (.bool t.mi)
  no : CellIs w c 139 (.bool t.no)
  ot : CellIs w c 140 (.bool t.ot)
structure Rest2 (w : World) (c : Nat) (t : RefS) : Prop where
  word : ∀ i, i < 136 → CellIs w c i (.int .i64 (t.l i))
  mi : CellIs w c 138 (.bool t.mi)
  no : CellIs w c 139 (.bool t.no)
  ot : CellIs w c 140 (.bool t.ot)
structure Rest3 (w : World) (c : Nat) (t : RefS) : Prop where
  word : ∀ i, i < 136 → CellIs w c i (.int .i64 (t.l i))
  no : CellIs w c 139 (.bool t.no)
  ot : CellIs w c 140 (.bool t.ot)
structure Rest4 (w : World) (c : Nat) (t : RefS) : Prop where
  word : ∀ i, i < 136 → CellIs w c i (.int .i64 (t.l i))
  ot : CellIs w c 140 (.bool t.ot)
def RMrgRel (w : World) (b c : Nat) (T : RefS) (l l' : Nat → Int) (i : Value) (wr : World) : Prop :=
  ∃ n : Nat, n ≤ 136 ∧ i = .int .i64 n ∧ RefAt wr b { T with l := partW l (fun i => l i + l' i) n } ∧ (∀ i, n ≤ i → i < 136 → CellIs wr c i (.int .i64 (l' i))) ∧ Chg b w wr
theorem cell_drew {w : World} {b i : Nat} {v : Value} (h : CellIs w b i v) : CellIs w.drew b i v := h
theorem ref_next {w : World} {b : Nat} {T : RefS} {l l' : Nat → Int} {n : Nat} (h : RefAt w b { T with l := partW l (fun i => l i + l' i) n }) (hn : n < 136) : RefAt (w.setCell ⟨b, n, none⟩ (.int .i64 (l n + l' n))) b { T with l := partW l (fun i => l i + l' i) (n + 1) } :=
  (h.setLimb n hn (l n + l' n)).ext (fun i _ => by
    show upw (partW l (fun i => l i + l' i) n) n (l n + l' n) i = partW l (fun i => l i + l' i) (n + 1) i
    by_cases e : i = n
    · subst e; rw [upw_at]; unfold partW; rw [if_pos (by omega)]
    · rw [upw_off _ _ e]; unfold partW
      by_cases h1 : i < n
      · rw [if_pos h1, if_pos (by omega)]
      · rw [if_neg h1, if_neg (by omega)]) rfl rfl rfl rfl rfl
theorem ot_or {n m c d : Int} (h1 : n ≤ c) (h2 : m ≤ d) : decide (n + m ≠ c + d) = (decide (n ≠ c) || decide (m ≠ d)) := by
  by_cases e1 : n = c
  · by_cases e2 : m = d
    · rw [e1, e2]; simp
    · rw [decide_eq_true (show n + m ≠ c + d by omega), decide_eq_true e2]; simp
  · rw [decide_eq_true (show n + m ≠ c + d by omega), decide_eq_true e1]; simp

set_option maxHeartbeats 4000000 in
set_option maxRecDepth 100000 in
theorem rmerge_some (b c : Nat) (g k : AccG) (w : World) (h : RefIs w b g) (ok : GOk g) (h' : RefIs w c k) (ok' : GOk k) (hcc : g.cnt + k.cnt ≤ 1048576) :
    Calls Try.prog 23 #[.pointer (some ⟨b, 0, none⟩), .pointer (some ⟨c, 0, none⟩)] w (RAddP w b (mergeG g k) 0) := by
  obtain ⟨l, hX, hL, h⟩ := h
  obtain ⟨l', hX', hL', h'⟩ := h'
  obtain ⟨c1, f1⟩ := h.cnt
  obtain ⟨c2, -⟩ := h'.cnt
  have a0 := ok.c0
  have b0 := ok'.c0
  have hbl := h.lt
  have hcl := h'.lt
  obtain ⟨S, hS⟩ : ∃ S : RefS, S = ⟨l, g.cnt, g.up, g.dn, g.nn, decide (g.nz ≠ g.cnt)⟩ := ⟨_, rfl⟩
  obtain ⟨T, hT⟩ : ∃ S : RefS, S = ⟨l', k.cnt, k.up, k.dn, k.nn, decide (k.nz ≠ k.cnt)⟩ := ⟨_, rfl⟩
  have FIN : Hid (∀ w', RefAt w' b ⟨fun i => S.l i + T.l i, S.cnt + T.cnt, S.pl || T.pl, S.mi || T.mi, S.no || T.no, S.ot || T.ot⟩ → RefIs w' b (mergeG g k)) := Lib.hid fun w' hw => by
    rw [hS, hT] at hw
    refine ⟨fun i => l i + l' i, ?_, ?_, ?_⟩
    · rw [SR_add, hX, hX']; rfl
    · intro i hi
      have n1 := hL i hi
      have n2 := hL' i hi
      show -((g.cnt + k.cnt) * 34359738368) ≤ l i + l' i ∧ l i + l' i ≤ (g.cnt + k.cnt) * 34359738368
      omega
    · have e := ot_or ok.z9 ok'.z9
      refine hw.ext (fun _ _ => rfl) rfl rfl rfl rfl ?_
      exact e.symm
  have LIM : Hid (∀ i, i < 136 → (-36028797018963968 ≤ S.l i ∧ S.l i ≤ 36028797018963968) ∧ (-36028797018963968 ≤ T.l i ∧ T.l i ≤ 36028797018963968)) := Lib.hid fun i hi => by rw [hS, hT]; exact ⟨hL.small ok.c9 hi, hL'.small ok'.c9 hi⟩
  rw [← hS] at h
  rw [← hT] at h'
  obtain ⟨C, hC⟩ : ∃ C, C = S.cnt := ⟨_, rfl⟩
  obtain ⟨D, hD⟩ : ∃ C, C = T.cnt := ⟨_, rfl⟩
  have C1 : S.cnt = g.cnt := by rw [hS]
  have D1 : T.cnt = k.cnt := by rw [hT]
  dsimp only at c1 c2
  rw [← C1, ← hC] at c1 a0 hcc
  rw [← D1, ← hD] at c2 b0 hcc
  obtain ⟨w5, hw5⟩ : ∃ w5, w5 = (w.setCell ⟨b, 136, none⟩ (.int .i64 (C + D))).drew.drew := ⟨_, rfl⟩
  have E5 : Hid (RefAt w5 b { S with cnt := S.cnt + T.cnt } ∧ Rest w5 c T ∧ Chg b w w5) := Lib.hid (by
    rw [hw5, hC, hD]
    refine ⟨(h.setCnt (S.cnt + T.cnt)).drew.drew, ⟨fun i hi => ?_, ?_, ?_, ?_, ?_⟩, ((Chg.refl b w).set 136 _).drew.drew⟩
    · exact cell_drew (cell_drew (CellIs.other (h'.word i hi) (fun _ => by omega)))
    · exact cell_drew (cell_drew (CellIs.other h'.pl (fun _ => by omega)))
    · exact cell_drew (cell_drew (CellIs.other h'.mi (fun _ => by omega)))
    · exact cell_drew (cell_drew (CellIs.other h'.no (fun _ => by omega)))
    · exact cell_drew (cell_drew (CellIs.other h'.ot (fun _ => by omega))))
  clear hX hX' hL hL' ok ok' C1 D1 hC hD hS hT h h'
  go_enter Try.func23, Try.ntmps23
  go_wp2_with fail
  go_region
  go_wp2_with fail
  go_region
  rw [← hw5]
  clear hw5 c1 c2 f1 hcc
  obtain ⟨x1, x2⟩ := E5.out.1.pl
  obtain ⟨y1, y2⟩ := E5.out.2.1.pl
  have HS : Hid (∀ v : Bool, v = (S.pl || T.pl) → (fun wc => RefAt wc b { S with cnt := S.cnt + T.cnt, pl := S.pl || T.pl } ∧ Rest2 wc c T ∧ Chg b w wc) (w5.setCell ⟨b, 137, none⟩ (.bool v))) := Lib.hid fun v hv => by
    subst hv
    have E := E5.out.2.1
    exact ⟨E5.out.1.setPl _, ⟨fun i hi => CellIs.other (E.word i hi) (fun _ => by omega), CellIs.other E.mi (fun _ => by omega), CellIs.other E.no (fun _ => by omega), CellIs.other E.ot (fun _ => by omega)⟩, E5.out.2.2.set 137 _⟩
  obtain ⟨p, hp⟩ : ∃ p, p = S.pl := ⟨_, rfl⟩
  obtain ⟨q, hq⟩ : ∃ p, p = T.pl := ⟨_, rfl⟩
  dsimp only at x1 y1
  rw [← hp] at x1
  rw [← hq] at y1
  have HPQ := Lib.hid (⟨hp, hq⟩ : _ ∧ _)
  have bl := E5.out.1.lt
  clear hp hq
  go_upto_region 6 with fail
  go_cut [44] (fun _ wc => RefAt wc b { S with cnt := S.cnt + T.cnt, pl := S.pl || T.pl } ∧ Rest2 wc c T ∧ Chg b w wc)
  case first =>
    cases p
    all_goals
      go_wp2_with fail
      go_meet
      exact HS.out _ (by rw [← HPQ.out.1, ← HPQ.out.2]; rfl)
  case rest =>
    have E6 : Hid (RefAt wc b { S with cnt := S.cnt + T.cnt, pl := S.pl || T.pl } ∧ Rest2 wc c T ∧ Chg b w wc) := Lib.hid hcut
    clear hcut x1 x2 y1 y2 HPQ HS bl
    obtain ⟨x1, x2⟩ := E6.out.1.mi
    obtain ⟨y1, y2⟩ := E6.out.2.1.mi
    have HS : Hid (∀ v : Bool, v = (S.mi || T.mi) → (fun wc => RefAt wc b { S with cnt := S.cnt + T.cnt, pl := S.pl || T.pl, mi := S.mi || T.mi } ∧ Rest3 wc c T ∧ Chg b w wc) (wc.setCell ⟨b, 138, none⟩ (.bool v))) := Lib.hid fun v hv => by
      subst hv
      have E := E6.out.2.1
      exact ⟨E6.out.1.setMi _, ⟨fun i hi => CellIs.other (E.word i hi) (fun _ => by omega), CellIs.other E.no (fun _ => by omega), CellIs.other E.ot (fun _ => by omega)⟩, E6.out.2.2.set 138 _⟩
    obtain ⟨p, hp⟩ : ∃ p, p = S.mi := ⟨_, rfl⟩
    obtain ⟨q, hq⟩ : ∃ p, p = T.mi := ⟨_, rfl⟩
    dsimp only at x1 y1
    rw [← hp] at x1
    rw [← hq] at y1
    have HPQ := Lib.hid (⟨hp, hq⟩ : _ ∧ _)
    have bl := E6.out.1.lt
    clear hp hq
    go_upto_region 7 with fail
    go_cut [57] (fun _ wc => RefAt wc b { S with cnt := S.cnt + T.cnt, pl := S.pl || T.pl, mi := S.mi || T.mi } ∧ Rest3 wc c T ∧ Chg b w wc)
    case first =>
      cases p
      all_goals
        go_wp2_with fail
        go_meet
        exact HS.out _ (by rw [← HPQ.out.1, ← HPQ.out.2]; rfl)
    case rest =>
      have E7 : Hid (RefAt wc b { S with cnt := S.cnt + T.cnt, pl := S.pl || T.pl, mi := S.mi || T.mi } ∧ Rest3 wc c T ∧ Chg b w wc) := Lib.hid hcut
      clear hcut x1 x2 y1 y2 HPQ HS bl
      obtain ⟨x1, x2⟩ := E7.out.1.no
      obtain ⟨y1, y2⟩ := E7.out.2.1.no
      have HS : Hid (∀ v : Bool, v = (S.no || T.no) → (fun wc => RefAt wc b { S with cnt := S.cnt + T.cnt, pl := S.pl || T.pl, mi := S.mi || T.mi, no := S.no || T.no } ∧ Rest4 wc c T ∧ Chg b w wc) (wc.setCell ⟨b, 139, none⟩ (.bool v))) := Lib.hid fun v hv => by
        subst hv
        have E := E7.out.2.1
        exact ⟨E7.out.1.setNo _, ⟨fun i hi => CellIs.other (E.word i hi) (fun _ => by omega), CellIs.other E.ot (fun _ => by omega)⟩, E7.out.2.2.set 139 _⟩
      obtain ⟨p, hp⟩ : ∃ p, p = S.no := ⟨_, rfl⟩
      obtain ⟨q, hq⟩ : ∃ p, p = T.no := ⟨_, rfl⟩
      dsimp only at x1 y1
      rw [← hp] at x1
      rw [← hq] at y1
      have HPQ := Lib.hid (⟨hp, hq⟩ : _ ∧ _)
      have bl := E7.out.1.lt
      clear hp hq
      go_upto_region 8 with fail
      go_cut [70] (fun _ wc => RefAt wc b { S with cnt := S.cnt + T.cnt, pl := S.pl || T.pl, mi := S.mi || T.mi, no := S.no || T.no } ∧ Rest4 wc c T ∧ Chg b w wc)
      case first =>
        cases p
        all_goals
          go_wp2_with fail
          go_meet
          exact HS.out _ (by rw [← HPQ.out.1, ← HPQ.out.2]; rfl)
      case rest =>
        have E8 : Hid (RefAt wc b { S with cnt := S.cnt + T.cnt, pl := S.pl || T.pl, mi := S.mi || T.mi, no := S.no || T.no } ∧ Rest4 wc c T ∧ Chg b w wc) := Lib.hid hcut
        clear hcut x1 x2 y1 y2 HPQ HS bl
        obtain ⟨x1, x2⟩ := E8.out.1.ot
        obtain ⟨y1, y2⟩ := E8.out.2.1.ot
        have HS : Hid (∀ v : Bool, v = (S.ot || T.ot) → (fun wc => RefAt wc b { S with cnt := S.cnt + T.cnt, pl := S.pl || T.pl, mi := S.mi || T.mi, no := S.no || T.no, ot := S.ot || T.ot } ∧ (∀ i, i < 136 → CellIs wc c i (.int .i64 (T.l i))) ∧ Chg b w wc) (wc.setCell ⟨b, 140, none⟩ (.bool v))) := Lib.hid fun v hv => by
          subst hv
          have E := E8.out.2.1
          exact ⟨E8.out.1.setOt _, fun i hi => CellIs.other (E.word i hi) (fun _ => by omega), E8.out.2.2.set 140 _⟩
        obtain ⟨p, hp⟩ : ∃ p, p = S.ot := ⟨_, rfl⟩
        obtain ⟨q, hq⟩ : ∃ p, p = T.ot := ⟨_, rfl⟩
        dsimp only at x1 y1
        rw [← hp] at x1
        rw [← hq] at y1
        have HPQ := Lib.hid (⟨hp, hq⟩ : _ ∧ _)
        have bl := E8.out.1.lt
        clear hp hq
        go_upto_region 9 with fail
        go_cut [83] (fun _ wc => RefAt wc b { S with cnt := S.cnt + T.cnt, pl := S.pl || T.pl, mi := S.mi || T.mi, no := S.no || T.no, ot := S.ot || T.ot } ∧ (∀ i, i < 136 → CellIs wc c i (.int .i64 (T.l i))) ∧ Chg b w wc)
        case first =>
          cases p
          all_goals
            go_wp2_with fail
            go_meet
            exact HS.out _ (by rw [← HPQ.out.1, ← HPQ.out.2]; rfl)
        case rest =>
          have E9 : Hid (RefAt wc b { S with cnt := S.cnt + T.cnt, pl := S.pl || T.pl, mi := S.mi || T.mi, no := S.no || T.no, ot := S.ot || T.ot } ∧ (∀ i, i < 136 → CellIs wc c i (.int .i64 (T.l i))) ∧ Chg b w wc) := Lib.hid hcut
          clear hcut x1 x2 y1 y2 HPQ HS bl
          obtain ⟨w9, hw9⟩ : ∃ w9, w9 = wc := ⟨_, rfl⟩
          rw [← hw9] at E9 ⊢
          clear hw9
          go_wp2_with fail
          go_loopw [5] (fun i wr => RMrgRel w b c { S with cnt := S.cnt + T.cnt, pl := S.pl || T.pl, mi := S.mi || T.mi, no := S.no || T.no, ot := S.ot || T.ot } S.l T.l i wr) (fun i _ => 136 - (intOf i).toNat)
          case atStart => exact ⟨0, by omega, rfl, E9.out.1.ext (fun i _ => by show S.l i = partW S.l (fun i => S.l i + T.l i) 0 i; unfold partW; rw [if_neg (by omega)]) rfl rfl rfl rfl rfl, fun i _ hi => E9.out.2.1 i hi, E9.out.2.2⟩
          case round =>
            obtain ⟨n, hn, rfl, hacc, hrest, hchg⟩ := hrel
            by_cases hlt : n < 136
            · have hl2 : (n : Int) < 136 := by omega
              obtain ⟨x1, x2⟩ := hacc.word n hlt
              obtain ⟨y1, -⟩ := hrest n (Nat.le_refl _) hlt
              have hpart : partW S.l (fun i => S.l i + T.l i) n n = S.l n := by unfold partW; rw [if_neg (by omega)]
              dsimp only at x1
              rw [hpart] at x1
              obtain ⟨⟨q1, q2⟩, q3, q4⟩ := LIM.out n hlt
              have hnext := ref_next hacc hlt
              have bl := hacc.lt
              have bl2 : c < wr.heap.size := (hrest n (Nat.le_refl _) hlt).lt
              obtain ⟨U, hU⟩ : ∃ U, U = S.l n := ⟨_, rfl⟩
              obtain ⟨V, hV⟩ : ∃ U, U = T.l n := ⟨_, rfl⟩
              have KEEP := Lib.hid (⟨hnext, hrest, hchg, hU, hV⟩ : _ ∧ _ ∧ _ ∧ _ ∧ _)
              rw [← hU] at x1 q1 q2
              rw [← hV] at y1 q3 q4
              clear hacc hrest hchg hnext hU hV hpart
              go_wp2_with fail
              go_region
              go_wp2_with fail
              go_roundw
              case rel =>
                obtain ⟨r1, r2, r3, r4, r5⟩ := KEEP.out
                rw [← r4, ← r5] at r1
                exact ⟨n + 1, by omega, by go_num, r1.drew, fun i h1 h2 => cell_drew (CellIs.other (r2 i (by omega) h2) (fun _ => by omega)), (r3.set n _).drew⟩
              case measure => simp [intOf]; omega
            · have hn70 : n = 136 := by omega
              subst hn70
              have KEEP := Lib.hid (⟨FIN.out _ (hacc.ext (fun i hi => by show partW S.l (fun i => S.l i + T.l i) 136 i = S.l i + T.l i; unfold partW; rw [if_pos hi]) rfl rfl rfl rfl rfl), hchg⟩ : _ ∧ _)
              clear hacc hrest hchg hn hlt
              go_wp2_with fail
              go_ret
              exact ⟨rfl, KEEP.out.1, KEEP.out.2⟩
end
end Go.Proofs.Ytneedadoafcfcaa
