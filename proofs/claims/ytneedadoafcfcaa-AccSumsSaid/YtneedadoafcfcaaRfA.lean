/- The reference: a float's parts; half a number put to the sum. -/
import Derived.Test.YtneedadoafcfcaaAccS2
import Derived.Test.YtneedadoafcfcaaRfN
namespace Go.Proofs.Ytneedadoafcfcaa
open Go Go.RowKit TF

attribute [local go_sem] cmp_eq cmp_ne cmp_lt cmp_gt cmp_le cmp_ge

theorem rparts_cases {b : Nat} (hb : W64 b) (n : Int) (hn : n = b) :
    0 ≤ n ∧ n < 18446744073709551616 ∧ ((n / 9223372036854775808 = 1 ∧ ng b = true) ∨ (n / 9223372036854775808 = 0 ∧ ng b = false)) ∧
    ∃ F m : Int, (n / 4503599627370496).tmod 2048 = F ∧ n.tmod 4503599627370496 = m ∧ 0 ≤ F ∧ F ≤ 2047 ∧ 0 ≤ m ∧ m < 4503599627370496 ∧
      ((F = 2047 ∧ m = 0 ∧ mg b = INF) ∨ ((F == 2047) = true ∧ (m == 0) = false ∧ F = 2047 ∧ INF < mg b) ∨ (F = 0 ∧ mg b < INF ∧ m = M (mg b) ∧ E (mg b) = 0) ∨
       ((F == 2047) = false ∧ (F == 0) = false ∧ mg b < INF ∧ m + 4503599627370496 = M (mg b) ∧ F - 1075 = (E (mg b) : Int) - 1074)) := by
  have hb' : b < 2 ^ 64 := hb
  have hI := INF_eq
  have hm : mg b = b % 2 ^ 63 := rfl
  have hE : E (mg b) = mg b / 2 ^ 52 - 1 := rfl
  have hg := ng_iff hb'
  have hg2 := ng_false_iff hb'
  refine ⟨by omega, by omega, ?_, (n / 4503599627370496) % 2048, n % 4503599627370496, Int.tmod_eq_emod_of_nonneg (by omega), Int.tmod_eq_emod_of_nonneg (by omega), by omega, by omega, by omega, by omega, ?_⟩
  · by_cases h : 2 ^ 63 ≤ b
    · exact .inl ⟨by omega, hg.2 h⟩
    · exact .inr ⟨by omega, hg2.2 (by omega)⟩
  · by_cases h1 : mg b = INF
    · exact .inl ⟨by omega, by omega, h1⟩
    · by_cases h2 : INF < mg b
      · have : n / 4503599627370496 % 2048 = 2047 := by omega
        exact .inr (.inl ⟨by rw [this]; rfl, by rw [beq_eq_false_iff_ne]; omega, this, h2⟩)
      · by_cases h3 : mg b < 2 ^ 52
        · have hM : M (mg b) = mg b := if_pos h3
          exact .inr (.inr (.inl ⟨by omega, by omega, by omega, by omega⟩))
        · have hM : M (mg b) = 2 ^ 52 + mg b % 2 ^ 52 := if_neg h3
          exact .inr (.inr (.inr ⟨by rw [beq_eq_false_iff_ne]; omega, by rw [beq_eq_false_iff_ne]; omega, by omega, by omega, by omega⟩))
theorem ret_tuple {a b : Array Value} (h : a = b) : Ending.returned (.tuple a) = .returned (.tuple b) := by rw [h]
theorem results_tmp4 {fn : Func} {t u v x : Tmp} (h : fn.results = #[.tmp t, .tmp u, .tmp v, .tmp x]) (tmps : Array Value) (P : Program) (w : World) :
    (results fn tmps).run P w = .ok (.tuple #[tmps.getD t undef, tmps.getD u undef, tmps.getD v undef, tmps.getD x undef]) w := by
  simp [results, h]
/-- what the reference's parts answers. -/
def pM (b : Nat) : Int := if mg b < INF then M (mg b) else 0
def pE (b : Nat) : Int := if mg b < INF then (E (mg b) : Int) - 1074 else 0
def pK (b : Nat) : Int := if mg b < INF then 0 else if mg b = INF then 1 else 2
theorem rparts_any (b : Nat) (hb : W64 b) (w : World) :
    Calls Try.prog 40 #[.float .f64 b] w fun x w' => x = .returned (.tuple #[.bool (ng b), .int .u64 (pM b), .int .i64 (pE b), .int .i64 (pK b)]) ∧ w = w' := by
  obtain ⟨n, hn⟩ : ∃ n : Int, n = b := ⟨_, rfl⟩
  obtain ⟨n0, n9, hs, F, m, hF, hm, F0, F9, m0, m9, hc⟩ := rparts_cases hb n hn
  have HN := Lib.hid hn
  obtain ⟨s, hsg⟩ : ∃ s, s = ng b := ⟨_, rfl⟩
  rw [← hsg] at hs ⊢
  clear hn hb hsg
  rcases hc with ⟨rfl, rfl, h⟩ | ⟨g1, g2, g3, h⟩ | ⟨rfl, h, h1, h2⟩ | ⟨g1, g2, h, h1, h2⟩
  · have e1 : pM b = 0 := if_neg (by omega)
    have e2 : pE b = 0 := if_neg (by omega)
    have e3 : pK b = 1 := by unfold pK; rw [if_neg (by omega), if_pos h]
    rw [e1, e2, e3]
    clear e1 e2 e3 h
    rcases hs with ⟨hs, rfl⟩ | ⟨hs, rfl⟩
    all_goals
      go_enter Try.func40, Try.ntmps40
      go_wp2_with (go_at_call 14; refine (rbits_any _ n HN.out _).mono ?_; rintro e w' ⟨rfl, rfl⟩)
      refine bodyPost_ret (results_tmp4 rfl _ _ _) rfl ?_
      exact ⟨rfl, rfl⟩
  · have e1 : pM b = 0 := if_neg (by omega)
    have e2 : pE b = 0 := if_neg (by omega)
    have e3 : pK b = 2 := by unfold pK; rw [if_neg (by omega), if_neg (by omega)]
    rw [e1, e2, e3]
    subst g3
    clear e1 e2 e3 h g1
    rcases hs with ⟨hs, rfl⟩ | ⟨hs, rfl⟩
    all_goals
      go_enter Try.func40, Try.ntmps40
      go_wp2_with (go_at_call 14; refine (rbits_any _ n HN.out _).mono ?_; rintro e w' ⟨rfl, rfl⟩)
      refine bodyPost_ret (results_tmp4 rfl _ _ _) rfl ?_
      exact ⟨rfl, rfl⟩
  · have e1 : pM b = m := by rw [h1]; exact if_pos h
    have e2 : pE b = -1074 := by unfold pE; rw [if_pos h, h2]; rfl
    have e3 : pK b = 0 := if_pos h
    rw [e1, e2, e3]
    clear e1 e2 e3 h h1 h2
    rcases hs with ⟨hs, rfl⟩ | ⟨hs, rfl⟩
    all_goals
      go_enter Try.func40, Try.ntmps40
      go_wp2_with (go_at_call 14; refine (rbits_any _ n HN.out _).mono ?_; rintro e w' ⟨rfl, rfl⟩)
      refine bodyPost_ret (results_tmp4 rfl _ _ _) rfl ?_
      exact ⟨rfl, rfl⟩
  · have e1 : pM b = m + 4503599627370496 := by rw [h1]; exact if_pos h
    have e2 : pE b = F - 1075 := by rw [h2]; exact if_pos h
    have e3 : pK b = 0 := if_pos h
    rw [e1, e2, e3]
    clear e1 e2 e3 h h1 h2
    rcases hs with ⟨hs, rfl⟩ | ⟨hs, rfl⟩
    all_goals
      go_enter Try.func40, Try.ntmps40
      go_wp2_with (go_at_call 14; refine (rbits_any _ n HN.out _).mono ?_; rintro e w' ⟨rfl, rfl⟩)
      refine bodyPost_ret (results_tmp4 rfl _ _ _) rfl ?_
      exact ⟨rfl, rfl⟩

theorem run_negi' (P : Program) (x : Int) (h : -4611686018427387904 ≤ x ∧ x ≤ 4611686018427387904) (W : World) : (Op.unary .neg (.int .i64 x)).run P W = .ok (.int .i64 (-x)) W := by
  have e : IntKind.i64.wrap (0 - x) = -x := by rw [IntKind.wrap_i64]; omega
  show Result.ok (Value.int .i64 (IntKind.i64.wrap (0 - x))) W = _
  rw [e]
/-- half a number. -/
def HalfP (w : World) (b : Nat) (s : RefS) (neg : Bool) (v : Int) (q : Nat) (x : Ending) (w' : World) : Prop :=
  x = .returned (.tuple #[]) ∧ RefAt w' b { s with l := addH s.l neg v q } ∧ Chg b w w'
def Room (l : Nat → Int) : Prop := ∀ i, i < 136 → -1152921504606846976 ≤ l i ∧ l i ≤ 1152921504606846976
theorem half_any (b : Nat) (s : RefS) (w : World) (h : RefAt w b s) (hr : Room s.l) (neg : Bool) (x e v : Int) (q r : Nat) (he : e = 32 * (q : Int) + r - 2176) (hq : q + 1 < 136) (hr32 : r < 32) (x0 : 0 ≤ x) (x9 : x < 4294967296) (hv : v = x * 2 ^ r) :
    Calls Try.prog 51 #[.pointer (some ⟨b, 0, none⟩), .bool neg, .int .u64 x, .int .i64 e] w (HalfP w b s neg v q) := by
  obtain ⟨v0, v9⟩ := half_w x0 x9 hr32
  rw [← hv] at v0 v9
  obtain ⟨c1, f1⟩ := h.word q (by omega)
  obtain ⟨c2, f2⟩ := h.word (q + 1) hq
  have b1 := hr q (by omega)
  have b2 := hr (q + 1) hq
  have hbl := h.lt
  have KH := Lib.hid h
  obtain ⟨A, hA⟩ : ∃ A : Int, A = e + 2176 := ⟨_, rfl⟩
  have k1 : A.tmod 32 = r := by rw [Int.tmod_eq_emod_of_nonneg (by omega)]; omega
  have k2 : A.tdiv 32 = q := by rw [Int.tdiv_eq_ediv_of_nonneg (by omega)]; omega
  have A0 : 0 ≤ A := by omega
  have A9 : A < 4352 := by omega
  have he2 : e = A - 2176 := by omega
  subst he2
  obtain ⟨l0, hl0⟩ : ∃ z, z = s.l q := ⟨_, rfl⟩
  obtain ⟨l1, hl1⟩ : ∃ z, z = s.l (q + 1) := ⟨_, rfl⟩
  rw [← hl0] at c1 b1
  rw [← hl1] at c2 b2
  have HL := Lib.hid (⟨hl0, hl1⟩ : _ ∧ _)
  have ksh : IntKind.u64.wrap (x * 2 ^ r) = v := by
    have : IntKind.u64.wrap (x * 2 ^ r) = x * 2 ^ r % 18446744073709551616 := rfl
    rw [this, ← hv]; omega
  have k3 : v.tmod 4294967296 = v % 4294967296 := Int.tmod_eq_emod_of_nonneg v0
  obtain ⟨lo, hlo⟩ : ∃ z, z = v % 4294967296 := ⟨_, rfl⟩
  obtain ⟨hi, hhi⟩ : ∃ z, z = v / 4294967296 := ⟨_, rfl⟩
  have lo0 : 0 ≤ lo := by omega
  have lo9 : lo < 4294967296 := by omega
  have hi0 : 0 ≤ hi := by omega
  have hi9 : hi < 4294967296 := by omega
  rw [← hlo] at k3
  have k5 := hhi.symm
  have hb1 := b1.1
  have hb2 := b1.2
  have hb3 := b2.1
  have hb4 := b2.2
  have HV := Lib.hid (⟨hlo, hhi⟩ : _ ∧ _)
  have hqq : (q : Int) < 135 := by omega
  have hne : q ≠ q + 1 := by omega
  clear hA he hv hr hl0 hl1 hlo hhi v0 v9 x0 x9 hq b1 b2 h
  cases neg
  · obtain ⟨w1, hw1⟩ : ∃ w1, w1 = (w.setCell ⟨b, q, none⟩ (.int .i64 (l0 + lo))).drew := ⟨_, rfl⟩
    have d2 : w1.cell? ⟨b, q + 1, none⟩ = some (.int .i64 l1) := by rw [hw1]; exact (World.cell?_setCell_other _ _ _ _ (by simp)).trans c2
    have g2 : w1.frozen? ⟨b, q + 1, none⟩ = false := by rw [hw1]; simpa using f2
    have bl1 : b < w1.heap.size := by rw [hw1]; simpa using hbl
    have HW := Lib.hid hw1
    clear f2 c2
    go_enter Try.func51, Try.ntmps51
    go_wp2_with fail
    go_region
    rw [← hw1]
    clear hw1 c1 f1
    go_wp2_with fail
    go_region
    go_wp2_with fail
    go_end0
    have e1 := KH.out.setLimb q (by omega) (l0 + lo)
    have e2 := e1.drew.setLimb (q + 1) (by omega) (l1 + hi)
    rw [← HW.out] at e2
    refine ⟨rfl, e2.drew.ext (fun i _ => ?_) rfl rfl rfl rfl rfl, ?_⟩
    · show upw (upw s.l q (l0 + lo)) (q + 1) (l1 + hi) i = addH s.l false v q i
      unfold addH sgn
      rw [← HL.out.1, ← HL.out.2, ← HV.out.1, ← HV.out.2]; rfl
    · have h1 := ((Chg.refl b w).set q (.int .i64 (l0 + lo))).drew
      rw [← HW.out] at h1
      exact (h1.set (q + 1) (.int .i64 (l1 + hi))).drew
  · obtain ⟨w1, hw1⟩ : ∃ w1, w1 = (w.setCell ⟨b, q, none⟩ (.int .i64 (l0 + -lo))).drew := ⟨_, rfl⟩
    have d2 : w1.cell? ⟨b, q + 1, none⟩ = some (.int .i64 l1) := by rw [hw1]; exact (World.cell?_setCell_other _ _ _ _ (by simp)).trans c2
    have g2 : w1.frozen? ⟨b, q + 1, none⟩ = false := by rw [hw1]; simpa using f2
    have bl1 : b < w1.heap.size := by rw [hw1]; simpa using hbl
    have HW := Lib.hid hw1
    clear f2 c2
    have kn1 := run_negi' Try.prog lo (by omega)
    have kn2 := run_negi' Try.prog hi (by omega)
    go_enter Try.func51, Try.ntmps51
    go_wp2_with fail
    go_region
    rw [← hw1]
    clear hw1 c1 f1
    go_wp2_with fail
    go_region
    go_wp2_with fail
    go_end0
    have e1 := KH.out.setLimb q (by omega) (l0 + -lo)
    have e2 := e1.drew.setLimb (q + 1) (by omega) (l1 + -hi)
    rw [← HW.out] at e2
    refine ⟨rfl, e2.drew.ext (fun i _ => ?_) rfl rfl rfl rfl rfl, ?_⟩
    · show upw (upw s.l q (l0 + -lo)) (q + 1) (l1 + -hi) i = addH s.l true v q i
      unfold addH sgn
      rw [← HL.out.1, ← HL.out.2, ← HV.out.1, ← HV.out.2]; rfl
    · have h1 := ((Chg.refl b w).set q (.int .i64 (l0 + -lo))).drew
      rw [← HW.out] at h1
      exact (h1.set (q + 1) (.int .i64 (l1 + -hi))).drew
theorem HalfP.lim {l : Nat → Int} (h : ∀ i, i < 136 → -1152921500311879680 ≤ l i ∧ l i ≤ 1152921500311879680) (neg : Bool) {v : Int} (q : Nat) (v0 : 0 ≤ v) (v9 : v < 18446744073709551616) : Room (addH l neg v q) := by
  intro i hi
  have h1 := h i hi
  have h2 := addH_near l neg q v0 v9 i
  omega
def PutR (w : World) (b : Nat) (s : RefS) (neg : Bool) (m : Int) (q r : Nat) (x : Ending) (w' : World) : Prop :=
  x = .returned (.tuple #[]) ∧ RefAt w' b { s with l := addP s.l neg m q r } ∧ Chg b w w'
theorem rput_any (b : Nat) (s : RefS) (w : World) (h : RefAt w b s) (hr : ∀ i, i < 136 → -1152921500311879680 ≤ s.l i ∧ s.l i ≤ 1152921500311879680) (neg : Bool) (m e : Int) (q r : Nat) (he : e = 32 * (q : Int) + r - 2176) (hq : q + 2 < 136) (hr32 : r < 32) (m0 : 0 ≤ m) (m9 : m < 18446744073709551616) :
    Calls Try.prog 42 #[.pointer (some ⟨b, 0, none⟩), .bool neg, .int .u64 m, .int .i64 e] w (PutR w b s neg m q r) := by
  obtain ⟨a1, a2⟩ := half_w (h := m % 4294967296) (r := r) (by omega) (by omega) hr32
  have K1 := half_any b s w h (fun i hi => by have := hr i hi; omega) neg (m % 4294967296) e _ q r he (by omega) hr32 (by omega) (by omega) rfl
  have K2 := Lib.hid fun w' (h' : RefAt w' b { s with l := addH s.l neg (m % 4294967296 * 2 ^ r) q }) => half_any b _ w' h' (HalfP.lim hr neg q a1 a2) neg (m / 4294967296) (e + 32) _ (q + 1) r (by omega) (by omega) hr32 (by omega) (by omega) rfl
  have k3 : m.tmod 4294967296 = m % 4294967296 := Int.tmod_eq_emod_of_nonneg m0
  have K1' := Lib.hid K1
  have e0 : -2176 ≤ e := by omega
  have e9 : e < 4000 := by omega
  clear h hr a1 a2 he hq hr32 K1
  go_enter Try.func42, Try.ntmps42
  go_wp2_with fail
  refine (K1'.out).mono ?_
  rintro x w1 ⟨rfl, h1, c1⟩
  have H1 := Lib.hid (⟨h1, c1⟩ : _ ∧ _)
  clear h1 c1
  go_wp2_with fail
  refine (K2.out _ H1.out.1).mono ?_
  rintro x w2 ⟨rfl, h2, c2⟩
  have H2 := Lib.hid (⟨h2, c2⟩ : _ ∧ _)
  clear h2 c2
  go_wp2_with fail
  go_end0
  exact ⟨rfl, H2.out.1, H1.out.2.trans H2.out.2⟩

def OddR (w : World) (b : Nat) (t : RefS) (e : Ending) (w' : World) : Prop := e = .returned (.tuple #[]) ∧ RefAt w' b t ∧ Chg b w w'
theorem rodd_any (b : Nat) (s : RefS) (w : World) (h : RefAt w b s) (neg nan : Bool) :
    Calls Try.prog 41 #[.pointer (some ⟨b, 0, none⟩), .bool neg, .bool nan] w (OddR w b { s with ot := true, no := s.no || nan, mi := s.mi || (!nan && neg), pl := s.pl || (!nan && !neg) }) := by
  obtain ⟨c1, f1⟩ := h.ot
  obtain ⟨c2, f2⟩ := h.no
  obtain ⟨c3, f3⟩ := h.mi
  obtain ⟨c4, f4⟩ := h.pl
  have KH := Lib.hid h
  clear h
  cases nan
  · cases neg
    · go_enter Try.func41, Try.ntmps41
      go_wp2_with fail
      go_end0
      refine ⟨rfl, ((KH.out.setOt true).setPl true).ext (fun _ _ => rfl) rfl (by simp) (by simp) (by simp) rfl, ((Chg.refl b w).set 140 _).set 137 _⟩
    · go_enter Try.func41, Try.ntmps41
      go_wp2_with fail
      go_end0
      refine ⟨rfl, ((KH.out.setOt true).setMi true).ext (fun _ _ => rfl) rfl (by simp) (by simp) (by simp) rfl, ((Chg.refl b w).set 140 _).set 138 _⟩
  · go_enter Try.func41, Try.ntmps41
    go_wp2_with fail
    go_end0
    refine ⟨rfl, ((KH.out.setOt true).setNo true).ext (fun _ _ => rfl) rfl (by simp) (by simp) (by simp) rfl, ((Chg.refl b w).set 140 _).set 139 _⟩
end Go.Proofs.Ytneedadoafcfcaa
