/- Numbers put to a sum: leaves. -/
import Derived.Test.YtneedadoafcfcaaAccP
import Derived.Test.YtneedadoafcfcaaAccG
namespace Go.Proofs.Ytneedadoafcfcaa
open Go Go.RowKit TF

attribute [local go_sem] cmp_eq cmp_ne cmp_lt cmp_gt cmp_le cmp_ge

theorem put_okay {hi lo e : Int} (e0 : -2176 ≤ e) (e9 : e ≤ 2000) (h0 : 0 ≤ hi) (h9 : hi < 18446744073709551616) (l0 : 0 ≤ lo) (l9 : lo < 18446744073709551616) :
    ∃ at' Aw x0 y0 x1 y1 m, PutOk hi lo e at' Aw x0 y0 x1 y1 m ∧ SW Aw 70 = (hi * 18446744073709551616 + lo) * 2 ^ (e + 2176).toNat := by
  obtain ⟨k, hk⟩ : ∃ k : Nat, (k : Int) = (e + 2176) / 64 := ⟨((e + 2176) / 64).toNat, by omega⟩
  obtain ⟨sh, hs⟩ : ∃ k : Nat, (k : Int) = (e + 2176) % 64 := ⟨((e + 2176) % 64).toNat, by omega⟩
  have hs9 : sh < 64 := by omega
  have hk9 : k < 67 := by omega
  have ht : (e + 2176).toNat = 64 * k + sh := by omega
  have t1 : ((e + 2176) % 64).toNat = sh := by omega
  have t2 : (64 - (e + 2176) % 64).toNat = 64 - sh := by omega
  have hp : (2 : Int) ^ sh * 2 ^ (64 - sh) = 18446744073709551616 := by
    rw [← Int.pow_add, show sh + (64 - sh) = 64 by omega]; rfl
  have hq : (0 : Int) < 2 ^ sh := Int.pow_pos (by decide)
  have hq2 : (0 : Int) < 2 ^ (64 - sh) := Int.pow_pos (by decide)
  have down : ∀ x : Int, x / 2 ^ (64 - sh) = x * 2 ^ sh / 18446744073709551616 := by
    intro x; rw [← hp, Int.mul_comm x, Int.mul_ediv_mul_of_pos _ _ hq]
  have hlo : lo * 2 ^ sh / 18446744073709551616 < 2 ^ sh := by
    refine Int.ediv_lt_of_lt_mul (by decide) ?_
    rw [Int.mul_comm]; exact Int.mul_lt_mul_of_pos_left l9 hq
  have hlo0 : 0 ≤ lo * 2 ^ sh / 18446744073709551616 := Int.ediv_nonneg (Int.mul_nonneg l0 (by omega)) (by decide)
  have hhd : hi * 2 ^ sh % 18446744073709551616 % 2 ^ sh = 0 := by
    have e : hi * 2 ^ sh % 18446744073709551616 = hi % 2 ^ (64 - sh) * 2 ^ sh := by
      rw [← hp, Int.mul_comm hi, Int.mul_emod_mul_of_pos _ _ hq, Int.mul_comm]
    rw [e]; exact Int.mul_emod_left _ _
  refine ⟨k, lw hi lo k sh, _, _, _, _, _, ⟨e0, e9, hk.symm, hk9, lw_ok h0 h9 l0 l9 hs9, rfl, rfl, rfl, fun i h1 h2 h3 => by unfold lw; rw [if_neg h1, if_neg h2, if_neg h3], ?_, rfl, rfl, ?_, ?_⟩, ?_⟩
  · rw [t1, u64w]; unfold lw; rw [if_pos rfl]
  · rw [t2, down]; unfold lw; rw [if_neg (by omega), if_neg (by omega), if_pos rfl]
  · rw [t1, t2, u64w, down]
    rw [or_add (Int.emod_nonneg _ (by decide)) (Int.emod_lt_of_pos _ (by decide)) hlo0 hlo hs9 hhd]
    unfold lw; rw [if_neg (by omega), if_pos rfl]
  · rw [ht]; exact lw_sum (by omega)
theorem put_is (b : Nat) (d : Nat → Int) (cnt nz : Int) (up dn nn : Bool) (X : Int) (w : World) (h : AccAt w b ⟨d, cnt, nz, up, dn, nn⟩) (hX : Is d X) (below : Bool) (hi lo e : Int) (e0 : -2176 ≤ e) (e9 : e ≤ 2000) (h0 : 0 ≤ hi) (h9 : hi < 18446744073709551616) (l0 : 0 ≤ lo) (l9 : lo < 18446744073709551616) :
    Calls Try.prog 33 #[.pointer (some ⟨b, 0, none⟩), .bool below, .int .u64 hi, .int .u64 lo, .int .i64 e] w fun x w' => x = .returned (.tuple #[]) ∧
      AccIs w' b ⟨if below then X - (hi * 18446744073709551616 + lo) * 2 ^ (e + 2176).toNat else X + (hi * 18446744073709551616 + lo) * 2 ^ (e + 2176).toNat, cnt, nz, up, dn, nn⟩ ∧ Chg b w w' := by
  obtain ⟨at', Aw, x0, y0, x1, y1, m, P, hS⟩ := put_okay e0 e9 h0 h9 l0 l9
  cases below
  · exact (put_add b _ w h hX.ok hi lo e at' Aw x0 y0 x1 y1 m P).mono fun _ _ ⟨q1, q2, q3⟩ => ⟨q1, ⟨_, hX.add hS, q2⟩, q3⟩
  · exact (put_sub b _ w h hX.ok hi lo e at' Aw x0 y0 x1 y1 m P).mono fun _ _ ⟨q1, q2, q3⟩ => ⟨q1, ⟨_, hX.sub P.ok hS, q2⟩, q3⟩

theorem isnan_any (b : Nat) (w : World) :
    Calls Try.prog 46 #[.float .f64 b] w fun e w' => e = .returned (.bool (!eqW b b)) ∧ w = w' := by
  go_enter Try.func46, Try.ntmps46
  go_wp2_with fail
  go_ret
  exact ⟨rfl, rfl⟩
theorem isinf_up (b : Nat) (w : World) :
    Calls Try.prog 47 #[.float .f64 b, .int .i64 1] w fun e w' => e = .returned (.bool (ltW 9218868437227405311 b)) ∧ w = w' := by
  go_enter Try.func47, Try.ntmps47
  go_wp2_with fail
  go_ret
  exact ⟨rfl, rfl⟩
theorem isinf_dn (b : Nat) (hb : W64 b) (w : World) :
    Calls Try.prog 47 #[.float .f64 b, .int .i64 (-1)] w fun e w' => e = .returned (.bool (ltW 9218868437227405311 (op b))) ∧ w = w' := by
  have k := fun w => run_neg Try.prog (b := b) hb w
  go_enter Try.func47, Try.ntmps47
  go_wp2_with fail
  go_ret
  exact ⟨rfl, rfl⟩
theorem isinf_any (b : Nat) (hb : W64 b) (w : World) :
    Calls Try.prog 47 #[.float .f64 b, .int .i64 0] w fun e w' => e = .returned (.bool (ltW 9218868437227405311 (mg b))) ∧ w = w' := by
  have hb' : b < 2 ^ 64 := hb
  go_enter Try.func47, Try.ntmps47
  go_wp2_with (first | (go_at_call 52; ((with_reducible refine (abs_any _ (by assumption) _).mono ?_)); rintro e w' ⟨rfl, rfl⟩))
  go_ret
  exact ⟨rfl, rfl⟩
theorem signbit_any (b : Nat) (hb : W64 b) (w : World) :
    Calls Try.prog 30 #[.float .f64 b] w fun e w' => e = .returned (.bool (ng b)) ∧ w = w' := by
  have hb' : b < 2 ^ 64 := hb
  obtain ⟨n, hn⟩ : ∃ n : Int, n = b := ⟨_, rfl⟩
  have k1 := bits_of b n hn
  have n0 : 0 ≤ n := by omega
  have n9 : n < 18446744073709551616 := by omega
  have hg := ng_iff hb'
  have hg2 := ng_false_iff hb'
  by_cases hc : 9223372036854775808 ≤ n
  · have hq : decide (wrap64 n < 0) = true := decide_eq_true (by unfold wrap64; omega)
    rw [hg.2 (by omega)]
    clear hg hg2 hn hb'
    go_enter Try.func30, Try.ntmps30
    go_wp2_with fail
    go_ret
    exact ⟨by first | rfl | exact ret_bool' hq, rfl⟩
  · have hq : decide (n < 0) = false := decide_eq_false (by omega)
    have n8 : n < 9223372036854775808 := by omega
    rw [hg2.2 (by omega)]
    clear hg hg2 hn hb'
    go_enter Try.func30, Try.ntmps30
    go_wp2_with fail
    go_ret
    exact ⟨by first | rfl | exact ret_bool' hq, rfl⟩

theorem parts_cases {b : Nat} (hb : W64 b) (hf : mg b < INF) (n : Int) (hn : n = b) :
    0 ≤ n ∧ n < 18446744073709551616 ∧ bits .and .u64 n 4503599627370495 = n % 4503599627370496 ∧ bits .and .u64 (n / 4503599627370496) 2047 = n / 4503599627370496 % 2048 ∧
    ((n / 4503599627370496 % 2048 = 0 ∧ n % 4503599627370496 = M (mg b) ∧ E (mg b) = 0) ∨
     ((n / 4503599627370496 % 2048 == 0) = false ∧ 1 ≤ n / 4503599627370496 % 2048 ∧ bits .or .u64 (n % 4503599627370496) 4503599627370496 = M (mg b) ∧ n / 4503599627370496 % 2048 - 1075 = (E (mg b) : Int) - 1074)) := by
  have hb' : b < 2 ^ 64 := hb
  have hI := INF_eq
  have a1 := u64_and_nat b 4503599627370495 (by omega) (by omega)
  have a2 : b &&& 4503599627370495 = b % 4503599627370496 := Nat.and_two_pow_sub_one_eq_mod b 52
  have a3 := u64_and_nat (b / 4503599627370496) 2047 (by omega) (by omega)
  have a4 : (b / 4503599627370496) &&& 2047 = b / 4503599627370496 % 2048 := Nat.and_two_pow_sub_one_eq_mod _ 11
  rw [a2] at a1
  rw [a4] at a3
  have a5 : ((b / 4503599627370496 : Nat) : Int) = n / 4503599627370496 := by omega
  rw [a5, show ((2047 : Nat) : Int) = 2047 from rfl] at a3
  rw [← hn, show ((4503599627370495 : Nat) : Int) = 4503599627370495 from rfl] at a1
  have hm : mg b = b % 2 ^ 63 := rfl
  have hE : E (mg b) = mg b / 2 ^ 52 - 1 := rfl
  refine ⟨by omega, by omega, by rw [a1]; omega, by rw [a3]; omega, ?_⟩
  by_cases hl : mg b < 2 ^ 52
  · have hM : M (mg b) = mg b := if_pos hl
    left; omega
  · have hM : M (mg b) = 2 ^ 52 + mg b % 2 ^ 52 := if_neg hl
    right
    have o := u64_or_nat (b % 4503599627370496) 4503599627370496 (by omega) (by omega)
    have o2 := Nat.two_pow_add_eq_or_of_lt (i := 52) (b := b % 4503599627370496) (by omega) 1
    rw [show (2 : Nat) ^ 52 * 1 = 4503599627370496 from rfl] at o2
    rw [Nat.or_comm, ← o2] at o
    have a6 : ((b % 4503599627370496 : Nat) : Int) = n % 4503599627370496 := by omega
    rw [a6, show ((4503599627370496 : Nat) : Int) = 4503599627370496 from rfl] at o
    refine ⟨?_, by omega, by rw [o]; omega, by omega⟩
    rw [beq_eq_false_iff_ne]; omega
theorem ret_mi {a b c d : Int} (h : a = b) (h' : c = d) : Ending.returned (.tuple #[.int .u64 a, .int .i64 c]) = .returned (.tuple #[.int .u64 b, .int .i64 d]) := by rw [h, h']
theorem parts_any (b : Nat) (hb : W64 b) (hf : mg b < INF) (m e : Int) (hm : m = M (mg b)) (he : e = (E (mg b) : Int) - 1074) (w : World) :
    Calls Try.prog 31 #[.float .f64 b] w fun x w' => x = .returned (.tuple #[.int .u64 m, .int .i64 e]) ∧ w = w' := by
  obtain ⟨n, hn⟩ : ∃ n : Int, n = b := ⟨_, rfl⟩
  have k1 := bits_of b n hn
  obtain ⟨n0, n9, a1, a2, hc⟩ := parts_cases hb hf n hn
  obtain ⟨F, hF⟩ : ∃ F, F = n / 4503599627370496 % 2048 := ⟨_, rfl⟩
  rw [← hF] at a2 hc
  have F0 : 0 ≤ F := by omega
  have F9 : F < 2048 := by omega
  rcases hc with ⟨g1, g2, g3⟩ | ⟨g1, g2, g3, g4⟩
  · have e1 : e = -1074 := by rw [he, g3]; rfl
    rw [g2, ← hm] at a1
    subst e1 g1
    clear hm he hn hF hf hb
    go_enter Try.func31, Try.ntmps31
    go_wp2_with fail
    go_ret2
    exact ⟨rfl, rfl⟩
  · rw [← hm] at g3
    rw [← he] at g4
    clear hm he hn hF hf hb
    go_enter Try.func31, Try.ntmps31
    go_wp2_with fail
    go_ret2
    exact ⟨by first | rfl | exact ret_mi rfl g4, rfl⟩

/-- the product of two words. -/
theorem mul_words {x y : Int} (x0 : 0 ≤ x) (x9 : x < 18446744073709551616) (y0 : 0 ≤ y) (y9 : y < 18446744073709551616) :
    ∃ a b c d : Int, x % 4294967296 = a ∧ x / 4294967296 = b ∧ y % 4294967296 = c ∧ y / 4294967296 = d ∧ 0 ≤ a ∧ a < 4294967296 ∧ 0 ≤ b ∧ b < 4294967296 ∧ 0 ≤ c ∧ c < 4294967296 ∧ 0 ≤ d ∧ d < 4294967296 ∧
    ∃ p q r s t u : Int, a * c = p ∧ 0 ≤ p ∧ p < 18446744065119617026 ∧ b * c = q ∧ 0 ≤ q ∧ q < 18446744065119617026 ∧ a * d = r ∧ 0 ≤ r ∧ r < 18446744065119617026 ∧ b * d = s ∧ 0 ≤ s ∧ s < 18446744065119617026 ∧
      q + p / 4294967296 = t ∧ t % 4294967296 + r = u ∧ s + t / 4294967296 + u / 4294967296 = x * y / 18446744073709551616 := by
  refine ⟨_, _, _, _, rfl, rfl, rfl, rfl, by omega, by omega, by omega, by omega, by omega, by omega, by omega, by omega, ?_⟩
  have hx := Int.emod_add_mul_ediv x 4294967296
  have hy := Int.emod_add_mul_ediv y 4294967296
  have a0 : 0 ≤ x % 4294967296 := by omega
  have a9 : x % 4294967296 ≤ 4294967295 := by omega
  have b0 : 0 ≤ x / 4294967296 := by omega
  have b9 : x / 4294967296 ≤ 4294967295 := by omega
  have c0 : 0 ≤ y % 4294967296 := by omega
  have c9 : y % 4294967296 ≤ 4294967295 := by omega
  have d0 : 0 ≤ y / 4294967296 := by omega
  have d9 : y / 4294967296 ≤ 4294967295 := by omega
  generalize x % 4294967296 = a at *
  generalize x / 4294967296 = b at *
  generalize y % 4294967296 = c at *
  generalize y / 4294967296 = d at *
  have p0 := Int.mul_nonneg a0 c0
  have p9 : a * c ≤ 4294967295 * 4294967295 := Int.mul_le_mul a9 c9 c0 (by decide)
  have q0 := Int.mul_nonneg b0 c0
  have q9 : b * c ≤ 4294967295 * 4294967295 := Int.mul_le_mul b9 c9 c0 (by decide)
  have r0 := Int.mul_nonneg a0 d0
  have r9 : a * d ≤ 4294967295 * 4294967295 := Int.mul_le_mul a9 d9 d0 (by decide)
  have s0 := Int.mul_nonneg b0 d0
  have s9 : b * d ≤ 4294967295 * 4294967295 := Int.mul_le_mul b9 d9 d0 (by decide)
  have hxy : x * y = a * c + 4294967296 * (b * c) + 4294967296 * (a * d) + 18446744073709551616 * (b * d) := by rw [← hx, ← hy]; grind
  refine ⟨_, _, _, _, _, _, rfl, p0, by omega, rfl, q0, by omega, rfl, r0, by omega, rfl, s0, by omega, rfl, rfl, ?_⟩
  rw [hxy]
  generalize a * c = p at *
  generalize b * c = q at *
  generalize a * d = r at *
  generalize b * d = s at *
  omega
theorem mul64_any (x y : Int) (x0 : 0 ≤ x) (x9 : x < 18446744073709551616) (y0 : 0 ≤ y) (y9 : y < 18446744073709551616) (w : World) :
    Calls Try.prog 32 #[.int .u64 x, .int .u64 y] w fun e w' => e = .returned (.tuple #[.int .u64 (x * y / 18446744073709551616), .int .u64 (x * y % 18446744073709551616)]) ∧ w = w' := by
  obtain ⟨a, b, c, d, ha, hb, hc, hd, a0, a9, b0, b9, c0, c9, d0, d9, p, q, r, s, t, u, hp, p0, p9, hq, q0, q9, hr, r0, r9, hs, s0, s9, ht, hu, hh⟩ := mul_words x0 x9 y0 y9
  have and32 : ∀ z : Int, 0 ≤ z → z < 18446744073709551616 → bits .and .u64 z 4294967295 = z % 4294967296 := by
    intro z z0 z9
    obtain ⟨Z, rfl⟩ := Int.eq_ofNat_of_zero_le z0
    have e := u64_and_nat Z 4294967295 (by omega) (by omega)
    have e2 : Z &&& 4294967295 = Z % 4294967296 := Nat.and_two_pow_sub_one_eq_mod Z 32
    rw [e2] at e
    rw [show ((4294967295 : Nat) : Int) = 4294967295 from rfl] at e
    rw [e]; omega
  have t0 : 0 ≤ t := by omega
  have t9 : t < 18446744073709551616 := by omega
  have u0 : 0 ≤ u := by omega
  have u9 : u < 18446744073709551616 := by omega
  have k1 := and32 x x0 x9
  have k2 := and32 y y0 y9
  have k3 := and32 t t0 t9
  rw [ha] at k1
  rw [hc] at k2
  obtain ⟨z, hz⟩ : ∃ z, z = t % 4294967296 := ⟨_, rfl⟩
  obtain ⟨v, hv⟩ : ∃ z, z = t / 4294967296 := ⟨_, rfl⟩
  obtain ⟨p', hp'⟩ : ∃ z, z = p / 4294967296 := ⟨_, rfl⟩
  obtain ⟨u', hu'⟩ : ∃ z, z = u / 4294967296 := ⟨_, rfl⟩
  rw [← hz] at k3 hu
  rw [← hp'] at ht
  rw [← hv, ← hu'] at hh
  have w1 : IntKind.u64.wrap (a * c) = p := by rw [hp, u64w]; omega
  have w2 : IntKind.u64.wrap (b * c) = q := by rw [hq, u64w]; omega
  have w3 : IntKind.u64.wrap (a * d) = r := by rw [hr, u64w]; omega
  have w4 : IntKind.u64.wrap (b * d) = s := by rw [hs, u64w]; omega
  have w5 : IntKind.u64.wrap (q + p') = t := by rw [ht, u64w]; omega
  have w6 : IntKind.u64.wrap (z + r) = u := by rw [hu, u64w]; omega
  have w7 : IntKind.u64.wrap (s + v) = s + v := by rw [u64w]; omega
  have w8 : IntKind.u64.wrap (s + v + u') = x * y / 18446744073709551616 := by
    have : s + v + u' < 18446744073709551616 := by
      rw [hh]
      refine Int.ediv_lt_of_lt_mul (by decide) ?_
      exact Int.lt_of_le_of_lt (Int.mul_le_mul_of_nonneg_left (Int.le_of_lt y9) x0) (Int.mul_lt_mul_of_pos_right x9 (by decide))
    rw [← hh, u64w]; omega
  have w9 : IntKind.u64.wrap (x * y) = x * y % 18446744073709551616 := u64w _
  have hp2 := hp'.symm
  have hu2 := hu'.symm
  have hv2 := hv.symm
  have hz2 := hz.symm
  clear hp hq hr hs ht hu hh hz hv hp' hu' p0 p9 q0 q9 r0 r9 s0 s9 t0 t9 u0 u9 a0 a9 b0 b9 c0 c9 d0 d9 and32 ha hc
  go_enter Try.func32, Try.ntmps32
  go_wp2_with fail
  go_ret2
  trace_state
  exact ⟨rfl, rfl⟩
end Go.Proofs.Ytneedadoafcfcaa
