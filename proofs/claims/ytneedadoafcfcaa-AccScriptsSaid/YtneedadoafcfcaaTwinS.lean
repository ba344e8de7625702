/- The reference's Sum: the words that its walk wants. -/
import Derived.Test.YtneedadoafcfcaaTwinR
namespace TF
open Ieee Go Go.RowKit

theorem ret_ui {a b c d : Int} (h : a = b) (h' : c = d) : Ending.returned (.tuple #[.int .u64 a, .int .i64 c]) = .returned (.tuple #[.int .u64 b, .int .i64 d]) := by rw [h, h']
theorem u64w (n : Int) : IntKind.u64.wrap n = n % 18446744073709551616 := by simp [IntKind.wrap, IntKind.bits, IntKind.signed]

theorem parts_cases {b : Nat} (n m e : Int) (hn : n = mg b) (hm : m = M (mg b)) (he : e = E (mg b)) (hb : mg b < INF) : 0 ≤ n ∧ n ≤ 9223372036854775807 ∧
    (((n / 4503599627370496 == 0) = true ∧ n % 4503599627370496 = m ∧ e = 0) ∨ ((n / 4503599627370496 == 0) = false ∧ n % 4503599627370496 + 4503599627370496 = m ∧ n / 4503599627370496 - 1075 = e - 1074)) := by
  have hI := INF_eq
  subst hm he hn
  refine ⟨by omega, by omega, ?_⟩
  unfold M E
  by_cases h : mg b < 2 ^ 52
  · left
    rw [if_pos h, Nat.div_eq_of_lt h]
    refine ⟨by simp; omega, by omega, by omega⟩
  · right
    rw [if_neg h]
    refine ⟨by simp; omega, by omega, by omega⟩

/-- What shifted answers. -/
def shW (m n : Int) (below : Bool) : Int := (if below then -(m * 2 ^ n.toNat) else m * 2 ^ n.toNat) % 18446744073709551616
theorem dvd64 (m : Int) {n : Nat} (h : 64 ≤ n) : (m * 2 ^ n) % 18446744073709551616 = 0 := by
  obtain ⟨j, rfl⟩ : ∃ j, n = 64 + j := ⟨n - 64, by omega⟩
  rw [Int.pow_add, show (2 : Int) ^ 64 = 18446744073709551616 from by decide, Int.mul_left_comm]
  exact Int.mul_emod_right _ _
theorem shW_far {m n : Int} (b : Bool) (h : 64 ≤ n) : shW m n b = 0 := by
  unfold shW
  have := dvd64 m (n := n.toNat) (by omega)
  cases b
  · exact this
  · rw [if_pos rfl]; omega
theorem shW_near_f (m n : Int) : IntKind.u64.wrap (m * 2 ^ n.toNat) = shW m n false := by
  rw [u64w]; rfl
theorem shW_near_t (m n : Int) : IntKind.u64.wrap (-IntKind.u64.wrap (m * 2 ^ n.toNat)) = shW m n true := by
  rw [u64w, u64w]
  unfold shW
  rw [if_pos rfl]
  omega
theorem shW_mod (x k : Nat) (m e : Int) (hm : m = M (mg x)) (he : e = (E (mg x) - k : Nat)) : shW m e (ng x) = sn x k % 18446744073709551616 := by
  unfold shW sn
  subst hm he
  congr 1
theorem int64_of (a b c X : Int) (h : X = a + b - c) (hX : X.natAbs ≤ 2 ^ 53) :
    wrap64 (IntKind.u64.wrap (IntKind.u64.wrap (a % 18446744073709551616 + b % 18446744073709551616) - c % 18446744073709551616)) = X := by
  rw [u64w, u64w]; unfold wrap64; omega

/-- The ways through the reference's Sum, behind its first test and its exchange. -/
theorem rsum_ways {x y s : Nat} (hx : mg x < INF) (hy64 : W64 y) (hle : mg y ≤ mg x) (hs : mg s < INF) (e : iv s = rI (iv x + iv y)) (es : mg s = rnd (iv x + iv y).natAbs)
    (mx ex my ey ms es' : Int) (hmx : mx = M (mg x)) (hex : ex = E (mg x)) (hmy : my = M (mg y)) (hey : ey = E (mg y)) (hms : ms = M (mg s)) (hes : es' = E (mg s)) :
    (my = 0 ∧ rw' false (iv x + iv y - iv s) = 0) ∨ ((my == 0) = false ∧ 0 ≤ ey ∧ ey ≤ ex ∧ ex ≤ 2045 ∧ 0 ≤ es' ∧ es' ≤ 2045 ∧ ((56 < ex - ey ∧ rw' false (iv x + iv y - iv s) = y) ∨ (ex - ey ≤ 56 ∧
      ∃ (X : Int) (k : Nat), k ≤ 2045 ∧ ((¬ es' < ey ∧ (k : Int) = ey) ∨ (es' < ey ∧ (k : Int) = es')) ∧
        wrap64 (IntKind.u64.wrap (IntKind.u64.wrap (shW mx (ex - k) (ng x) + shW my (ey - k) (ng y)) - shW ms (es' - k) (ng s))) = X ∧
        ((0 ≤ X ∧ ∃ r, floatBits .mul .f64 (floatOfInt .f64 X) (pw k) = some r ∧ canonW r = rw' false (iv x + iv y - iv s)) ∨
         (X < 0 ∧ -9007199254740992 ≤ X ∧ ∃ f r, floatOfInt .f64 (-X) = f ∧ W64 f ∧ floatBits .mul .f64 (op f) (pw k) = some r ∧ canonW r = rw' false (iv x + iv y - iv s)))))) := by
  have hI := INF_lt
  have hI' := INF_eq
  have hEb : ∀ r, r < INF → E r ≤ 2045 := by intro r hr; unfold E; omega
  have hmono := E_mono hle
  have b1 := hEb (mg x) hx
  have b2 := hEb (mg s) hs
  by_cases h0 : my = 0
  · left
    refine ⟨h0, ?_⟩
    have : mg y = 0 := M_eq_zero.1 (by omega)
    have hy0 : iv y = 0 := by unfold iv; rw [this, V_zero]; split <;> rfl
    rw [e, hy0, Int.add_zero, rI_rep (rep_iv x), Int.sub_self]; decide
  · right
    have hy0 : mg y ≠ 0 := fun hc => h0 (by rw [hmy, hc]; rfl)
    refine ⟨by simp [h0], by omega, by omega, by omega, by omega, by omega, ?_⟩
    by_cases hfar : 56 < ex - ey
    · left
      refine ⟨hfar, ?_⟩
      rw [e, far_sum (by omega), show iv x + iv y - iv x = iv y from by omega]
      have hyw := word_split (show y < 2 ^ 64 from hy64)
      have hiv : iv y = if ng y = true then -(V (mg y) : Int) else V (mg y) := rfl
      have hVpos : 0 < V (mg y) := by have := V_lt (show 0 < mg y by omega); rw [V_zero] at this; exact this
      unfold rw'
      rw [if_neg (by rw [hiv]; split <;> omega), iv_natAbs, rnd_V, Nat.min_eq_left (by omega)]
      conv => rhs; rw [hyw]
      congr 1
      rw [hiv]
      cases ng y
      · simp
      · simp; omega
    · right
      refine ⟨by omega, ?_⟩
      obtain ⟨X, hX1, hX2, hX3⟩ := rest_whole hle e es
      have hk1 : min (E (mg y)) (E (mg s)) ≤ 2045 := by omega
      refine ⟨X, min (E (mg y)) (E (mg s)), hk1, ?_, ?_, ?_⟩
      · by_cases hc : es' < ey
        · right; exact ⟨hc, by omega⟩
        · left; exact ⟨hc, by omega⟩
      · rw [shW_mod x (min (E (mg y)) (E (mg s))) mx (ex - (min (E (mg y)) (E (mg s)) : Nat)) hmx (by omega), shW_mod y (min (E (mg y)) (E (mg s))) my (ey - (min (E (mg y)) (E (mg s)) : Nat)) hmy (by omega), shW_mod s (min (E (mg y)) (E (mg s))) ms (es' - (min (E (mg y)) (E (mg s)) : Nat)) hms (by omega)]
        exact int64_of _ _ _ X hX2 hX3
      · rw [hX1]
        by_cases hneg : X < 0
        · right
          obtain ⟨r, h1, h2⟩ := prod_neg (n := X) (k := min (E (mg y)) (E (mg s))) hneg (by omega) (by omega)
          exact ⟨hneg, by omega, _, r, rfl, (fi_small (n := -X) (by omega)).1, h1, h2⟩
        · left
          obtain ⟨r, h1, h2⟩ := prod_pos (n := X) (k := min (E (mg y)) (E (mg s))) (by omega) (by omega) (by omega)
          exact ⟨by omega, r, h1, h2⟩

theorem tfin_cases (b : Nat) : (finB b = true ∧ ltW 9218868437227405311 (mg b) = false ∧ eqW b b = true) ∨ (finB b = false ∧ ltW 9218868437227405311 (mg b) = true) ∨ (finB b = false ∧ ltW 9218868437227405311 (mg b) = false ∧ eqW b b = false) := by
  have hI := INF_eq
  have hm := mg_lt b
  unfold ltW
  rw [isN_mg, show isN 9218868437227405311 = false from by decide, rk_small (r := 9218868437227405311) (by omega), rk_small hm, eqW_self]
  cases hn : isN b
  · have := isN_false.1 hn
    by_cases h : mg b < INF
    · left; exact ⟨finB_true.2 h, by simp; omega, rfl⟩
    · right; left; exact ⟨finB_false.2 (by omega), by simp; omega⟩
  · right; right
    have := isN_true.1 hn
    exact ⟨finB_false.2 (by omega), by simp, rfl⟩
theorem floatBits_lt {o : BinOp} {a b r : Nat} (h : floatBits o .f64 a b = some r) : W64 r := by
  have := floatBits_wf h
  exact W64.of_wf this
end TF
