/- The reference's AddProduct of finite floats. -/
import Derived.Test.YtneedadoafcfcaaRfC
namespace Go.Proofs.Ytneedadoafcfcaa
open Go Go.RowKit TF

attribute [local go_sem] cmp_eq cmp_ne cmp_lt cmp_gt cmp_le cmp_ge

def FinFacts (g g' : AccG) (x y : Nat) : Prop := g'.X = g.X + iv x * iv y * 268435456 ∧ g'.cnt = g.cnt + 1 ∧ g'.nn = g.nn ∧ g'.dn = g.dn ∧ g'.up = g.up ∧
  ∀ t, t = decide (g.nz ≠ g.cnt) → g.nz ≤ g.cnt → otF t (pM x * pM y) (ng x != ng y) = decide (g'.nz ≠ g'.cnt)
theorem fin_facts (g : AccG) {x y : Nat} (hx : mg x < INF) (hy : mg y < INF) : FinFacts g (mulG g x y) x y := by
  have e : mulG g x y = { g with cnt := g.cnt + 1, X := g.X + iv x * iv y * 268435456, nz := g.nz + if (mg x = 0 ∨ mg y = 0) ∧ (ng x ^^ ng y) = true then 1 else 0 } := by
    unfold mulG; exact if_pos ⟨hx, hy⟩
  rw [e]
  refine ⟨rfl, rfl, rfl, rfl, rfl, fun t ht hl => ?_⟩
  have hz : pM x * pM y = 0 ↔ (mg x = 0 ∨ mg y = 0) := by rw [Int.mul_eq_zero, pM_zero hx, pM_zero hy]
  have hs : (ng x != ng y) = (ng x ^^ ng y) := by cases ng x <;> cases ng y <;> rfl
  refine rot_close (m := pM x * pM y) (s := ng x != ng y) ⟨fun hh => ?_, fun hh => ?_⟩ ht hl rfl
  · exact if_pos ⟨hz.1 hh.1, by rw [← hs]; exact hh.2⟩
  · exact if_neg (fun k => hh ⟨hz.2 k.1, by rw [hs]; exact k.2⟩)
theorem otF_true (m : Int) (s : Bool) : otF true m s = true := rfl
theorem otF_prod {m k : Int} (h1 : m ≠ 0) (h2 : k ≠ 0) (s : Bool) : otF false (m * k) s = true := by
  unfold otF
  rw [decide_eq_true (show m * k ≠ 0 from Int.mul_ne_zero h1 h2)]; rfl
theorem otF_zero {m : Int} (h1 : m = 0) (s : Bool) : otF false m s = !s := by
  unfold otF
  rw [decide_eq_false (fun k => k h1)]; simp
def MulRel (w : World) (b : Nat) (L : Nat → Nat → Nat → Int) (T : RefS) (i : Nat) (v : Value) (wr : World) : Prop :=
  ∃ j : Nat, j ≤ 2 ∧ v = .int .i64 j ∧ RefAt wr b { T with l := L i j } ∧ Chg b w wr

set_option maxHeartbeats 4000000 in
set_option maxRecDepth 100000 in
theorem rmul_fin (b : Nat) (g g' : AccG) (w : World) (h : RefIs w b g) (ok : GOk g) (x y : Nat) (hx : W64 x) (hy : W64 y) (hc : g.cnt < 1048576) (fx : mg x < INF) (fy : mg y < INF) (hg' : g' = mulG g x y) :
    Calls Try.prog 21 #[.pointer (some ⟨b, 0, none⟩), .float .f64 x, .float .f64 y] w (RAddP w b g' 0) := by
  have hfacts : FinFacts g g' x y := by rw [hg']; exact fin_facts g fx fy
  obtain ⟨l, hX, hL, h⟩ := h
  obtain ⟨c, f⟩ := h.cnt
  obtain ⟨c6, f6⟩ := h.ot
  have c0 := ok.c0
  have z9 := ok.z9
  have KP1 := Lib.hid fun w => rparts_any x hx w
  have KP2 := Lib.hid fun w => rparts_any y hy w
  have hk1 : pK x = 0 := if_pos fx
  have hk2 : pK y = 0 := if_pos fy
  obtain ⟨m1, m9⟩ := pM_range x
  obtain ⟨k1, k9⟩ := pM_range y
  obtain ⟨e1, e9⟩ := pE_range x
  obtain ⟨f1, f9⟩ := pE_range y
  have hE1 := pE_is fx
  have hE2 := pE_is fy
  have hmul := sgn_mul fx fy
  obtain ⟨q, hq⟩ : ∃ q : Nat, q = (E (mg x) + E (mg y) + 28) / 32 := ⟨_, rfl⟩
  obtain ⟨r, hr⟩ : ∃ q : Nat, q = (E (mg x) + E (mg y) + 28) % 32 := ⟨_, rfl⟩
  have hat : E (mg x) + E (mg y) + 28 = 32 * q + r := by omega
  rw [hat] at hmul
  obtain ⟨m, em⟩ : ∃ z, z = pM x := ⟨_, rfl⟩
  obtain ⟨k, ek⟩ : ∃ z, z = pM y := ⟨_, rfl⟩
  obtain ⟨e, ee⟩ : ∃ z, z = pE x := ⟨_, rfl⟩
  obtain ⟨f, ef⟩ : ∃ z, z = pE y := ⟨_, rfl⟩
  obtain ⟨s, es⟩ : ∃ z, z = ng x := ⟨_, rfl⟩
  obtain ⟨o, eo⟩ : ∃ z, z = ng y := ⟨_, rfl⟩
  obtain ⟨t, ht⟩ : ∃ t, t = decide (g.nz ≠ g.cnt) := ⟨_, rfl⟩
  have hot := hfacts.2.2.2.2.2 t ht z9
  rw [hk1, ← em, ← ee, ← es] at KP1
  rw [hk2, ← ek, ← ef, ← eo] at KP2
  rw [← em, ← ek, ← es, ← eo] at hot hmul
  rw [← em] at m1 m9
  rw [← ek] at k1 k9
  rw [← ee] at e1 e9 hE1
  rw [← ef] at f1 f9 hE2
  obtain ⟨C, hC⟩ : ∃ C, C = g.cnt := ⟨_, rfl⟩
  obtain ⟨N, hN⟩ : ∃ N : Bool, N = (s != o) := ⟨_, rfl⟩
  rw [← hN] at hot hmul
  obtain ⟨a0, ha0⟩ : ∃ z, z = m % 4294967296 := ⟨_, rfl⟩
  obtain ⟨a1, ha1⟩ : ∃ z, z = m / 4294967296 := ⟨_, rfl⟩
  obtain ⟨b0, hb0⟩ : ∃ z, z = k % 4294967296 := ⟨_, rfl⟩
  obtain ⟨b1, hb1⟩ : ∃ z, z = k / 4294967296 := ⟨_, rfl⟩
  have hsr := SR_mulL l N m k (q := q) (r := r) (by omega)
  rw [← ha0, ← ha1, ← hb0, ← hb1, hX, hmul] at hsr
  have hnear := mulL_near l N (a := a0) (b := a1) (c := b0) (d := b1) (q := q) (r := r) (by omega) (by omega) (by omega) (by omega) (by omega) (by omega) (by omega) (by omega) (by omega)
  obtain ⟨L, eL⟩ : ∃ L : Nat → Nat → Nat → Int, L = fun i j => mulL l N a0 a1 b0 b1 q r i j := ⟨_, rfl⟩
  have hroom : ∀ i j z, z < 136 → -1152921500311879680 ≤ L i j z ∧ L i j z ≤ 1152921500311879680 := by
    intro i j z hz
    rw [eL]
    have h1 := lim_room hL ok.c9 2 (by omega) z hz
    have h2 := hnear i j z
    dsimp only
    omega
  obtain ⟨p00, r00⟩ := prod_range (a := a0) (c := b0) (by omega) (by omega) (by omega) (by omega)
  obtain ⟨p01, r01⟩ := prod_range (a := a0) (c := b1) (by omega) (by omega) (by omega) (by omega)
  obtain ⟨p10, r10⟩ := prod_range (a := a1) (c := b0) (by omega) (by omega) (by omega) (by omega)
  obtain ⟨p11, r11⟩ := prod_range (a := a1) (c := b1) (by omega) (by omega) (by omega) (by omega)
  dsimp only at c c6
  rw [← hC] at c c0 hc
  rw [← ht] at c6
  have HT := Lib.hid (⟨hot, hfacts, hC⟩ : _ ∧ _ ∧ _)
  have FIN : Hid (∀ (v : Bool) w', v = otF t (m * k) N → RefAt w' b ⟨L 2 0, C + 1, g.up, g.dn, g.nn, v⟩ → RefIs w' b g') := Lib.hid fun v w' hv h' => by
    obtain ⟨q1, q2, q3⟩ := HT.out
    obtain ⟨u1, u2, u3, u4, u5, -⟩ := q2
    refine ⟨L 2 0, ?_, ?_, ?_⟩
    · rw [eL, u1]; exact hsr
    · intro z hz
      have n1 := hnear 2 0 z
      have n2 := hL z hz
      rw [eL, u2]
      dsimp only
      omega
    · rw [← q1, u2, u3, u4, u5, ← hv, ← q3]; exact h'
  have HH := Lib.hid fun v : Bool => (h.setCnt (g.cnt + 1)).setOt v
  have HG := Lib.hid fun v : Bool => ((Chg.refl b w).set 136 (.int .i64 (g.cnt + 1))).set 140 (.bool v)
  rw [← hC] at HH HG
  have P00 := Lib.hid fun (T : RefS) w' (hw : RefAt w' b { T with l := L 0 0 }) => rput_any b _ w' hw (hroom 0 0) N (a0 * b0) (e + f) q r (by omega) (by omega) (by omega) p00 r00
  have P01 := Lib.hid fun (T : RefS) w' (hw : RefAt w' b { T with l := L 0 1 }) => rput_any b _ w' hw (hroom 0 1) N (a0 * b1) (e + f + 32) (q + 1) r (by omega) (by omega) (by omega) p01 r01
  have P10 := Lib.hid fun (T : RefS) w' (hw : RefAt w' b { T with l := L 1 0 }) => rput_any b _ w' hw (hroom 1 0) N (a1 * b0) (e + f + 32) (q + 1) r (by omega) (by omega) (by omega) p10 r10
  have P11 := Lib.hid fun (T : RefS) w' (hw : RefAt w' b { T with l := L 1 1 }) => rput_any b _ w' hw (hroom 1 1) N (a1 * b1) (e + f + 32 + 32) (q + 2) r (by omega) (by omega) (by omega) p11 r11
  have NEXT : Hid (L 0 0 = l ∧ addP (L 0 0) N (a0 * b0) q r = L 0 1 ∧ addP (L 0 1) N (a0 * b1) (q + 1) r = L 0 2 ∧ L 0 2 = L 1 0 ∧ addP (L 1 0) N (a1 * b0) (q + 1) r = L 1 1 ∧ addP (L 1 1) N (a1 * b1) (q + 2) r = L 1 2 ∧ L 1 2 = L 2 0) := Lib.hid (by rw [eL]; exact ⟨rfl, rfl, rfl, rfl, rfl, rfl, rfl⟩)
  have x1 : m.tmod 4294967296 = a0 := by rw [ha0]; exact Int.tmod_eq_emod_of_nonneg m1
  have x2 : (m / 4294967296).tmod 4294967296 = a1 := by rw [ha1, Int.tmod_eq_emod_of_nonneg (by omega)]; omega
  have x3 : k.tmod 4294967296 = b0 := by rw [hb0]; exact Int.tmod_eq_emod_of_nonneg k1
  have x4 : (k / 4294967296).tmod 4294967296 = b1 := by rw [hb1, Int.tmod_eq_emod_of_nonneg (by omega)]; omega
  have y00 : IntKind.u64.wrap (a0 * b0) = a0 * b0 := by rw [IntKind.wrap_u64]; omega
  have y01 : IntKind.u64.wrap (a0 * b1) = a0 * b1 := by rw [IntKind.wrap_u64]; omega
  have y10 : IntKind.u64.wrap (a1 * b0) = a1 * b0 := by rw [IntKind.wrap_u64]; omega
  have y11 : IntKind.u64.wrap (a1 * b1) = a1 * b1 := by rw [IntKind.wrap_u64]; omega
  have HN := Lib.hid hN
  have HA := Lib.hid (⟨ha0, ha1, hb0, hb1⟩ : _ ∧ _ ∧ _ ∧ _)
  clear hsr hnear eL hroom p00 p01 p10 p11 r00 r01 r10 r11 ha0 ha1 hb0 hb1 hot hfacts hC hN hmul hat hq hr em ek ee ef es eo ht hE1 hE2 hk1 hk2 hX hL h ok z9 hg' fx fy hx hy
  have WAYS : ∃ V : Bool, Hid (V = otF t (m * k) N) ∧ ((t = true ∧ V = true) ∨ (t = false ∧ m ≠ 0 ∧ k ≠ 0 ∧ V = true) ∨ (t = false ∧ m = 0 ∧ V = (s == o)) ∨ (t = false ∧ m ≠ 0 ∧ k = 0 ∧ V = (s == o))) := by
    have hN : (s == o) = !N := by rw [HN.out]; cases s <;> cases o <;> rfl
    cases t
    · by_cases h1 : m = 0
      · exact ⟨s == o, Lib.hid (by rw [otF_zero (by rw [h1, Int.zero_mul]), hN]), .inr (.inr (.inl ⟨rfl, h1, rfl⟩))⟩
      · by_cases h2 : k = 0
        · exact ⟨s == o, Lib.hid (by rw [otF_zero (by rw [h2, Int.mul_zero]), hN]), .inr (.inr (.inr ⟨rfl, h1, h2, rfl⟩))⟩
        · exact ⟨true, Lib.hid (otF_prod h1 h2 _).symm, .inr (.inl ⟨rfl, h1, h2, rfl⟩)⟩
    · exact ⟨true, Lib.hid (otF_true _ _).symm, .inl ⟨rfl, rfl⟩⟩
  obtain ⟨V, HV, WAYS⟩ := WAYS
  obtain ⟨T, hT⟩ : ∃ T : RefS, T = ⟨l, C + 1, g.up, g.dn, g.nn, V⟩ := ⟨_, rfl⟩
  have START : Hid (RefAt ((w.setCell ⟨b, 136, none⟩ (.int .i64 (C + 1))).setCell ⟨b, 140, none⟩ (.bool V)) b { T with l := L 0 0 } ∧ Chg b w ((w.setCell ⟨b, 136, none⟩ (.int .i64 (C + 1))).setCell ⟨b, 140, none⟩ (.bool V))) :=
    Lib.hid ⟨by rw [hT, NEXT.out.1]; exact HH.out V, HG.out V⟩
  have FIN2 : Hid (∀ w', RefAt w' b { T with l := L 2 0 } → RefIs w' b g') := Lib.hid fun w' h' => FIN.out V w' HV.out (by rw [hT] at h'; exact h')
  obtain ⟨N1, N2, N3, N4, N5, N6, N7⟩ := NEXT.out
  have Q00 := Lib.hid fun w' hw => (P00.out T w' hw).mono fun x' w'' (h : PutR _ _ _ _ _ _ _ x' w'') => (show x' = .returned (.tuple #[]) ∧ RefAt w'' b { T with l := L 0 1 } ∧ Chg b w' w'' from ⟨h.1, by rw [← N2]; exact h.2.1, h.2.2⟩)
  have Q01 := Lib.hid fun w' hw => (P01.out T w' hw).mono fun x' w'' (h : PutR _ _ _ _ _ _ _ x' w'') => (show x' = .returned (.tuple #[]) ∧ RefAt w'' b { T with l := L 0 2 } ∧ Chg b w' w'' from ⟨h.1, by rw [← N3]; exact h.2.1, h.2.2⟩)
  have Q10 := Lib.hid fun w' hw => (P10.out T w' hw).mono fun x' w'' (h : PutR _ _ _ _ _ _ _ x' w'') => (show x' = .returned (.tuple #[]) ∧ RefAt w'' b { T with l := L 1 1 } ∧ Chg b w' w'' from ⟨h.1, by rw [← N5]; exact h.2.1, h.2.2⟩)
  have Q11 := Lib.hid fun w' hw => (P11.out T w' hw).mono fun x' w'' (h : PutR _ _ _ _ _ _ _ x' w'') => (show x' = .returned (.tuple #[]) ∧ RefAt w'' b { T with l := L 1 2 } ∧ Chg b w' w'' from ⟨h.1, by rw [← N6]; exact h.2.1, h.2.2⟩)
  have N47 := Lib.hid (⟨N4, N7⟩ : _ ∧ _)
  clear N1 N2 N3 N4 N5 N6 N7 P00 P01 P10 P11 NEXT
  clear hT HV FIN HH HG
  rcases WAYS with ⟨rfl, rfl⟩ | ⟨rfl, h1, h2, rfl⟩ | ⟨rfl, rfl, rfl⟩ | ⟨rfl, h1, rfl, rfl⟩
  all_goals
    try (have z1 : a0 = 0 := by have h := HA.out.1; omega
         have z2 : a1 = 0 := by have h := HA.out.2.1; omega
         subst z1
         subst z2
         rw [Int.zero_mul] at Q00 Q01 Q10 Q11)
    try (have z1 : b0 = 0 := by have h := HA.out.2.2.1; omega
         have z2 : b1 = 0 := by have h := HA.out.2.2.2; omega
         subst z1
         subst z2
         rw [Int.mul_zero] at Q00 Q01 Q10 Q11)
    go_enter Try.func21, Try.ntmps21
    go_wp2_with (first | (go_at_call 40; ((with_reducible refine (KP1.out _).mono ?_)); rintro e w' ⟨rfl, rfl⟩) | (go_at_call 40; ((with_reducible refine (KP2.out _).mono ?_)); rintro e w' ⟨rfl, rfl⟩))
    rw [show (!(s == o)) = N from HN.out.symm]
    go_loopw [17] (fun v wr => ∃ i : Nat, i ≤ 2 ∧ v = .int .i64 i ∧ RefAt wr b { T with l := L i 0 } ∧ Chg b w wr) (fun v _ => 2 - (intOf v).toNat)
    case atStart => exact ⟨0, by omega, rfl, START.out.1, START.out.2⟩
    case round =>
      obtain ⟨i, hi, rfl, hacc, hchg⟩ := hrel
      rcases (show i = 0 ∨ i = 1 ∨ i = 2 by omega) with rfl | rfl | rfl
      rotate_right
      · have HE := Lib.hid (⟨hacc, hchg⟩ : _ ∧ _)
        clear hacc hchg
        go_wp2_with fail
        go_ret
        exact ⟨rfl, FIN2.out _ HE.out.1, HE.out.2⟩
      all_goals
        have HE := Lib.hid (⟨hacc, hchg⟩ : _ ∧ _)
        clear hacc hchg
        go_wp2_with fail
        go_loopw [18] (fun v wx => MulRel w b L T _ v wx) (fun v _ => 2 - (intOf v).toNat)
        case atStart => exact ⟨0, by omega, rfl, HE.out.1, HE.out.2⟩
        case round =>
          obtain ⟨j, hj, rfl, hacc, hchg⟩ := hrel
          rcases (show j = 0 ∨ j = 1 ∨ j = 2 by omega) with rfl | rfl | rfl
          rotate_right
          · have HE2 := Lib.hid (⟨hacc, hchg⟩ : _ ∧ _)
            clear hacc hchg
            go_wp2_with fail
            go_roundw
            case rel =>
              first
              | exact ⟨1, by omega, by first | rfl | go_num, by rw [← N47.out.1]; exact HE2.out.1, HE2.out.2⟩
              | exact ⟨2, by omega, by first | rfl | go_num, by rw [← N47.out.2]; exact HE2.out.1, HE2.out.2⟩
              | ((repeat apply Exists.intro); exact ⟨⟨1, by omega, by first | rfl | go_num, by rw [← N47.out.1]; exact HE2.out.1, HE2.out.2⟩, rfl⟩)
              | ((repeat apply Exists.intro); exact ⟨⟨2, by omega, by first | rfl | go_num, by rw [← N47.out.2]; exact HE2.out.1, HE2.out.2⟩, rfl⟩)
            case measure => simp [intOf]
          all_goals
            have HE2 := Lib.hid (⟨hacc, hchg⟩ : _ ∧ _)
            clear hacc hchg
            go_wp2_with fail
            first
            | (with_reducible refine (Q00.out _ HE2.out.1).mono ?_)
            | (with_reducible refine (Q01.out _ HE2.out.1).mono ?_)
            | (with_reducible refine (Q10.out _ HE2.out.1).mono ?_)
            | (with_reducible refine (Q11.out _ HE2.out.1).mono ?_)
            rintro x' w' ⟨rfl, a1, a2⟩
            have HP := Lib.hid (⟨a1, a2⟩ : _ ∧ _)
            clear a1 a2
            go_wp2_with fail
            go_roundw
            case rel =>
              first
              | exact ⟨1, by omega, by first | rfl | go_num, HP.out.1, HE2.out.2.trans HP.out.2⟩
              | exact ⟨2, by omega, by first | rfl | go_num, HP.out.1, HE2.out.2.trans HP.out.2⟩
              | ((repeat apply Exists.intro); exact ⟨⟨1, by omega, by first | rfl | go_num, HP.out.1, HE2.out.2.trans HP.out.2⟩, rfl⟩)
              | ((repeat apply Exists.intro); exact ⟨⟨2, by omega, by first | rfl | go_num, HP.out.1, HE2.out.2.trans HP.out.2⟩, rfl⟩)
            case measure => simp [intOf]
end Go.Proofs.Ytneedadoafcfcaa
