/- times: whether a product is two floats, in words. -/
import Derived.Test.YtkkikcfolinkfaaTwHalves
import Derived.Test.YtkkikcfolinkfaaTwinE3
namespace Go.Proofs.Ytkkikcfolinkfaa
open Go Go.RowKit TF

attribute [local go_sem] cmp_eq cmp_ne cmp_lt cmp_gt cmp_le cmp_ge

/-- four partial products. -/
theorem four_parts (ma mb : Int) (s : Nat) : ma % 134217728 * (mb % 134217728) * 2 ^ s + ma / 134217728 * (mb % 134217728) * 2 ^ (s + 27) + ma % 134217728 * (mb / 134217728) * 2 ^ (s + 27) + ma / 134217728 * (mb / 134217728) * 2 ^ (s + 54) = ma * mb * 2 ^ s := by
  have e1 := Int.emod_add_mul_ediv ma 134217728
  have e2 := Int.emod_add_mul_ediv mb 134217728
  have p1 : (2 : Int) ^ (s + 27) = 2 ^ s * 134217728 := by rw [Int.pow_add]; rfl
  have p2 : (2 : Int) ^ (s + 54) = 2 ^ s * (134217728 * 134217728) := by rw [Int.pow_add]; rfl
  rw [p1, p2]
  generalize ma % 134217728 = x at *
  generalize mb % 134217728 = y at *
  generalize ma / 134217728 = u at *
  generalize mb / 134217728 = v at *
  generalize (2 : Int) ^ s = q at *
  rw [← e1, ← e2]
  grind
theorem times_s {ia ib ip ie mm q u0 v0 u1 u2 u3 u4 u5 v5 u6 v6 a1 a2 a3 a4 : Int} (h : ia * ib = (ip + ie) * q) (hv : ia * ib = mm) (h1 : u1 = u0 + a1) (h2 : u2 = u1 + a2) (h3 : u3 = u2 + a3) (h4 : u4 = u3 + a4) (hp : a1 + a2 + a3 + a4 = mm)
    (D5 : u5 - v5 = v0 - u4 + ip * q) (D6 : u6 - v6 = u5 - v5 + ie * q) (h0 : u0 = v0 := by rfl) : v6 = u6 := by
  rw [Int.add_mul] at h
  omega
theorem times_d {ia ib ip ie mm q u0 v0 u1 u2 u3 u4 u5 v5 u6 v6 a1 a2 a3 a4 : Int} (h : ia * ib = (ip + ie) * q) (hv : ia * ib = -mm) (h1 : u1 = u0 + a1) (h2 : u2 = u1 + a2) (h3 : u3 = u2 + a3) (h4 : u4 = u3 + a4) (hp : a1 + a2 + a3 + a4 = mm)
    (D5 : u5 - v5 = u4 - v0 + ip * q) (D6 : u6 - v6 = u5 - v5 + ie * q) (h0 : u0 = v0 := by rfl) : v6 = u6 := by
  rw [Int.add_mul] at h
  omega

set_option maxRecDepth 100000 in
set_option maxHeartbeats 4000000 in
theorem times_any (a b p e : Nat) (w : World) (ha : W64 a) (hb : W64 b) (hp : W64 p) (he : W64 e) (fa : mg a < INF) (fb : mg b < INF) (fp : mg p < INF) (fe : mg e < INF) (hi : iv a * iv b = (iv p + iv e) * 2 ^ 1074) :
    Calls Try.prog 27 #[.float .f64 a, .float .f64 b, .float .f64 p, .float .f64 e] w fun e' w' => e' = .returned (.bool true) ∧ Below w.heap.size w w' := by
  have z43 := zero43
  have hI := INF_eq
  obtain ⟨ma, hma⟩ : ∃ m : Int, m = M (mg a) := ⟨_, rfl⟩
  obtain ⟨mb, hmb⟩ : ∃ m : Int, m = M (mg b) := ⟨_, rfl⟩
  obtain ⟨ea, hea⟩ : ∃ e : Int, e = E (mg a) := ⟨_, rfl⟩
  obtain ⟨eb, heb⟩ : ∃ e : Int, e = E (mg b) := ⟨_, rfl⟩
  have hMa := M_lt (mg a)
  have hMb := M_lt (mg b)
  have ma0 : 0 ≤ ma := by omega
  have mb0 : 0 ≤ mb := by omega
  have ma9 : ma ≤ 9007199254740991 := by omega
  have mb9 : mb ≤ 9007199254740991 := by omega
  have hEa : E (mg a) ≤ 2046 := by unfold E; omega
  have hEb : E (mg b) ≤ 2046 := by unfold E; omega
  have ea0 : 0 ≤ ea := by omega
  have eb0 : 0 ≤ eb := by omega
  have ea9 : ea ≤ 2046 := by omega
  have eb9 : eb ≤ 2046 := by omega
  obtain ⟨s, hs⟩ : ∃ s, s = E (mg a) + E (mg b) := ⟨_, rfl⟩
  obtain ⟨k0, n0, hk0, hn0⟩ : ∃ k n, 32 * k + n = s ∧ n < 32 := ⟨s / 32, s % 32, by omega, by omega⟩
  obtain ⟨k1, n1, hk1, hn1⟩ : ∃ k n, 32 * k + n = s + 27 ∧ n < 32 := ⟨(s + 27) / 32, (s + 27) % 32, by omega, by omega⟩
  obtain ⟨k2, n2, hk2, hn2⟩ : ∃ k n, 32 * k + n = s + 54 ∧ n < 32 := ⟨(s + 54) / 32, (s + 54) % 32, by omega, by omega⟩
  have HN := Lib.hid (show n0 < 32 ∧ n1 < 32 ∧ n2 < 32 ∧ k0 + 2 < 150 ∧ k1 + 2 < 150 ∧ k2 + 2 < 150 from ⟨hn0, hn1, hn2, by omega, by omega, by omega⟩)
  have HA0 := Lib.hid (show ea + eb = 32 * (k0 : Int) + n0 by omega)
  have HA1 := Lib.hid (show ea + eb + 27 = 32 * (k1 : Int) + n1 by omega)
  have HA2 := Lib.hid (show ea + eb + 54 = 32 * (k2 : Int) + n2 by omega)
  -- the four products
  have prod : ∀ x y : Int, 0 ≤ x → x ≤ 134217727 → 0 ≤ y → y ≤ 134217727 → 0 ≤ x * y ∧ x * y ≤ 18014398509481984 := fun x y hx hx' hy hy' =>
    ⟨Int.mul_nonneg hx hy, Int.le_trans (Int.mul_le_mul hx' hy' hy (by decide)) (by decide)⟩
  have hp00 := prod (ma % 134217728) (mb % 134217728) (by omega) (by omega) (by omega) (by omega)
  have hp10 := prod (ma / 134217728) (mb % 134217728) (by omega) (by omega) (by omega) (by omega)
  have hp01 := prod (ma % 134217728) (mb / 134217728) (by omega) (by omega) (by omega) (by omega)
  have hp11 := prod (ma / 134217728) (mb / 134217728) (by omega) (by omega) (by omega) (by omega)
  have fp4 := four_parts ma mb s
  rw [← hk1, ← hk2, ← hk0] at fp4
  have w00 : IntKind.u64.wrap (ma % 134217728 * (mb % 134217728)) = ma % 134217728 * (mb % 134217728) := IntWalk.u64_in _ (by omega)
  have w10 : IntKind.u64.wrap (ma / 134217728 * (mb % 134217728)) = ma / 134217728 * (mb % 134217728) := IntWalk.u64_in _ (by omega)
  have w01 : IntKind.u64.wrap (ma % 134217728 * (mb / 134217728)) = ma % 134217728 * (mb / 134217728) := IntWalk.u64_in _ (by omega)
  have w11 : IntKind.u64.wrap (ma / 134217728 * (mb / 134217728)) = ma / 134217728 * (mb / 134217728) := IntWalk.u64_in _ (by omega)
  obtain ⟨p00, e00⟩ : ∃ x, x = ma % 134217728 * (mb % 134217728) := ⟨_, rfl⟩
  obtain ⟨p10, e10⟩ : ∃ x, x = ma / 134217728 * (mb % 134217728) := ⟨_, rfl⟩
  obtain ⟨p01, e01⟩ : ∃ x, x = ma % 134217728 * (mb / 134217728) := ⟨_, rfl⟩
  obtain ⟨p11, e11⟩ : ∃ x, x = ma / 134217728 * (mb / 134217728) := ⟨_, rfl⟩
  rw [← e00] at hp00
  rw [← e10] at hp10
  rw [← e01] at hp01
  rw [← e11] at hp11
  rw [← e00, ← e10, ← e01, ← e11] at fp4
  have w00' : IntKind.u64.wrap (ma % 134217728 * (mb % 134217728)) = p00 := by rw [w00, e00]
  have w10' : IntKind.u64.wrap (ma / 134217728 * (mb % 134217728)) = p10 := by rw [w10, e10]
  have w01' : IntKind.u64.wrap (ma % 134217728 * (mb / 134217728)) = p01 := by rw [w01, e01]
  have w11' : IntKind.u64.wrap (ma / 134217728 * (mb / 134217728)) = p11 := by rw [w11, e11]
  clear w00 w10 w01 w11 e00 e10 e01 e11 prod
  have HMa := Lib.hid hma
  have HMb := Lib.hid hmb
  have HEa := Lib.hid hea
  have HEb := Lib.hid heb
  have HI := Lib.hid hi
  have HP := Lib.hid fp4
  have hva := iv_parts a
  have hvb := iv_parts b
  rw [← hma] at hva
  rw [← hmb] at hvb
  have hpow : (2 : Int) ^ E (mg a) * 2 ^ E (mg b) = 2 ^ (32 * k0 + n0) := by rw [← Int.pow_add, hk0, hs]
  have hmm : ∀ x y : Int, x * 2 ^ E (mg a) * (y * 2 ^ E (mg b)) = x * y * 2 ^ (32 * k0 + n0) := fun x y => by rw [← hpow]; ac_rfl
  clear hi fp4 hma hmb hea heb hMa hMb hEa hEb hk0 hk1 hk2 hn0 hn1 hn2 hs hI hpow
  cases hna : ng a <;> cases hnb : ng b
  all_goals
    rw [hna] at hva
    rw [hnb] at hvb
  case false.false | true.true =>
    have hv : iv a * iv b = ma * mb * 2 ^ (32 * k0 + n0) := by
      rw [hva, hvb]
      first
        | rw [if_neg (by decide), if_neg (by decide), hmm]
        | rw [if_pos rfl, if_pos rfl, Int.neg_mul_neg, hmm]
    have HV := Lib.hid hv
    clear hva hvb hmm hv
    go_enter Try.func27, Try.ntmps27
    go_wp2_with (first | (go_at_call 46; ((with_reducible refine (wparts_any a ma ea HMa.out HEa.out ha fa _).mono ?_)); rintro e w' ⟨rfl, rfl⟩) | (go_at_call 46; ((with_reducible refine (wparts_any b mb eb HMb.out HEb.out hb fb _).mono ?_)); rintro e w' ⟨rfl, rfl⟩) | (go_at_call 47; ((with_reducible refine (wadd_any w.heap.size k0 n0 _ _ p00 _ _ (zero_pair w 43).u (zero_pair w 43).bu (by omega) hp00.1 hp00.2 HN.out.1 HN.out.2.2.2.1 HA0.out).mono ?_)); rintro e1 w1 ⟨rfl, U1, q11, q12, q13, q14⟩; have P1 := (zero_pair w 43).onto q11 q13 q14) | (go_at_call 47; ((with_reducible refine (wadd_any w.heap.size k1 n1 _ _ p10 _ _ P1.u P1.bu (by omega) hp10.1 hp10.2 HN.out.2.1 HN.out.2.2.2.2.1 HA1.out).mono ?_)); rintro e1 w2 ⟨rfl, U2, q21, q22, q23, q24⟩; have P2 := P1.onto q21 q23 q24) | (go_at_call 47; ((with_reducible refine (wadd_any w.heap.size k1 n1 _ _ p01 _ _ P2.u P2.bu (by omega) hp01.1 hp01.2 HN.out.2.1 HN.out.2.2.2.2.1 HA1.out).mono ?_)); rintro e1 w3 ⟨rfl, U3, q31, q32, q33, q34⟩; have P3 := P2.onto q31 q33 q34) | (go_at_call 47; ((with_reducible refine (wadd_any w.heap.size k2 n2 _ _ p11 _ _ P3.u P3.bu (by omega) hp11.1 hp11.2 HN.out.2.2.1 HN.out.2.2.2.2.2 HA2.out).mono ?_)); rintro e1 w4 ⟨rfl, U4, q41, q42, q43, q44⟩; have P4 := P3.onto q41 q43 q44) | (go_at_call 30; ((with_reducible refine (put_any w (w.heap.size + 1) w.heap.size _ _ _ p _ hp fp P4.swap (by omega)).mono ?_)); rintro e1 w5 ⟨rfl, U5, V5, P5, D5⟩) | (go_at_call 30; ((with_reducible refine (put_any w (w.heap.size + 1) w.heap.size _ _ _ e _ he fe P5 (by omega)).mono ?_)); rintro e1 w6 ⟨rfl, U6, V6, P6, D6⟩) | (go_at_call 31; ((with_reducible refine (carried_any w.heap.size V6 _ w6 P6.v P6.bv (by omega) (by omega)).mono ?_)); rintro e1 w7 ⟨rfl, hB7⟩) | (go_at_call 31; ((with_reducible refine (carried_any (w.heap.size + 1) U6 _ w7 (P6.u.below hB7 P6.ltB) P6.bu (by omega) (by omega)).mono ?_)); rintro e1 w8 ⟨rfl, hB8⟩; have heq := eq_words (U := V6) (V := U6) (times_s HI.out HV.out q12 q22 q32 q42 HP.out D5 D6)))
    go_ret
    exact ⟨rfl, P6.below.trans ((hB7.mono P6.below.size).trans (hB8.mono (Nat.le_trans P6.below.size hB7.size)))⟩
  case false.true | true.false =>
    have hv : iv a * iv b = -(ma * mb * 2 ^ (32 * k0 + n0)) := by
      rw [hva, hvb]
      first
        | rw [if_neg (by decide), if_pos rfl, Int.mul_neg, hmm]
        | rw [if_pos rfl, if_neg (by decide), Int.neg_mul, hmm]
    have HV := Lib.hid hv
    clear hva hvb hmm hv
    go_enter Try.func27, Try.ntmps27
    go_wp2_with (first | (go_at_call 46; ((with_reducible refine (wparts_any a ma ea HMa.out HEa.out ha fa _).mono ?_)); rintro e w' ⟨rfl, rfl⟩) | (go_at_call 46; ((with_reducible refine (wparts_any b mb eb HMb.out HEb.out hb fb _).mono ?_)); rintro e w' ⟨rfl, rfl⟩) | (go_at_call 47; ((with_reducible refine (wadd_any (w.heap.size + 1) k0 n0 _ _ p00 _ _ (zero_pair w 43).swap.u (zero_pair w 43).swap.bu (by omega) hp00.1 hp00.2 HN.out.1 HN.out.2.2.2.1 HA0.out).mono ?_)); rintro e1 w1 ⟨rfl, U1, q11, q12, q13, q14⟩; have P1 := (zero_pair w 43).swap.onto q11 q13 q14) | (go_at_call 47; ((with_reducible refine (wadd_any (w.heap.size + 1) k1 n1 _ _ p10 _ _ P1.u P1.bu (by omega) hp10.1 hp10.2 HN.out.2.1 HN.out.2.2.2.2.1 HA1.out).mono ?_)); rintro e1 w2 ⟨rfl, U2, q21, q22, q23, q24⟩; have P2 := P1.onto q21 q23 q24) | (go_at_call 47; ((with_reducible refine (wadd_any (w.heap.size + 1) k1 n1 _ _ p01 _ _ P2.u P2.bu (by omega) hp01.1 hp01.2 HN.out.2.1 HN.out.2.2.2.2.1 HA1.out).mono ?_)); rintro e1 w3 ⟨rfl, U3, q31, q32, q33, q34⟩; have P3 := P2.onto q31 q33 q34) | (go_at_call 47; ((with_reducible refine (wadd_any (w.heap.size + 1) k2 n2 _ _ p11 _ _ P3.u P3.bu (by omega) hp11.1 hp11.2 HN.out.2.2.1 HN.out.2.2.2.2.2 HA2.out).mono ?_)); rintro e1 w4 ⟨rfl, U4, q41, q42, q43, q44⟩; have P4 := P3.onto q41 q43 q44) | (go_at_call 30; ((with_reducible refine (put_any w (w.heap.size + 1) w.heap.size _ _ _ p _ hp fp P4 (by omega)).mono ?_)); rintro e1 w5 ⟨rfl, U5, V5, P5, D5⟩) | (go_at_call 30; ((with_reducible refine (put_any w (w.heap.size + 1) w.heap.size _ _ _ e _ he fe P5 (by omega)).mono ?_)); rintro e1 w6 ⟨rfl, U6, V6, P6, D6⟩) | (go_at_call 31; ((with_reducible refine (carried_any w.heap.size V6 _ w6 P6.v P6.bv (by omega) (by omega)).mono ?_)); rintro e1 w7 ⟨rfl, hB7⟩) | (go_at_call 31; ((with_reducible refine (carried_any (w.heap.size + 1) U6 _ w7 (P6.u.below hB7 P6.ltB) P6.bu (by omega) (by omega)).mono ?_)); rintro e1 w8 ⟨rfl, hB8⟩; have heq := eq_words (U := V6) (V := U6) (times_d HI.out HV.out q12 q22 q32 q42 HP.out D5 D6)))
    go_ret
    exact ⟨rfl, P6.below.trans ((hB7.mono P6.below.size).trans (hB8.mono (Nat.le_trans P6.below.size hB7.size)))⟩
end Go.Proofs.Ytkkikcfolinkfaa
