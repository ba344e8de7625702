/- Product's two answers are the exact product. -/
import Derived.Test.YtkkikcfolinkfaaTwinE2
import Derived.Test.YtkkikcfolinkfaaTwinU
namespace TF
open Ieee Go Go.RowKit

theorem plain_prod (a b : Nat) : canonW (prodW a b).1 = (prodW a b).1 ∧ canonW (prodW a b).2 = (prodW a b).2 := by
  unfold prodW
  split
  · exact ⟨by decide, by decide⟩
  · split
    · exact ⟨canonW_canonW _, canon_rw _ _⟩
    · exact ⟨canonW_canonW _, show canonW 0 = 0 by decide⟩
theorem prod_first (a b : Nat) : (∃ r, floatBits .mul .f64 a b = some r ∧ (prodW a b).1 = canonW r) ∨ (floatBits .mul .f64 a b = none ∧ prodW a b = (9221120237041090561, 0)) := by
  cases h : floatBits .mul .f64 a b with
  | none => right; exact ⟨rfl, prodW_none h⟩
  | some p => left; refine ⟨p, rfl, ?_⟩; unfold prodW; rw [h]; simp only; split <;> rfl

theorem Q_int (k : Nat) (hk : T = k) : (Q : Int) = 2 ^ k := by unfold Q; rw [hk, Int.natCast_pow]; rfl
/-- what Product's answers are within the bounds. -/
structure ProdIs (a b p e : Nat) : Prop where
  fa : mg a < INF
  fb : mg b < INF
  fp : mg p < INF
  fe : mg e < INF
  all : iv a * iv b = (iv p + iv e) * 2 ^ 1074
theorem prod_is {a b p : Nat} (ha : W64 a) (hb : W64 b) (h : floatBits .mul .f64 a b = some p) (hin : prodIn a b p) : ProdIs a b (prodW a b).1 (prodW a b).2 := by
  have hI := INF_eq
  obtain ⟨i0, i1, i2, i3, i4⟩ := id hin
  obtain ⟨ah, al, bh, bl, q1, e1, q2, e2, q3, e3, q4, e, ca, cb, st, A, B, P, K, hK, ia, ib, ip, hsm, hc, hr, hm, hg, hbd⟩ := way_word ha hb (V_le996 i1) (V_le996 i2) h i3 i4
  have hpw : ((2 ^ E (mg a) : Nat) : Int) * (2 ^ E (mg b) : Nat) = Q * (2 ^ K : Nat) := by
    rw [← Int.natCast_mul, ← Nat.pow_add, hK, Nat.pow_add, Int.natCast_mul]; rfl
  have hab : iv a * iv b = Q * (A * B * (2 ^ K : Nat)) := by rw [ia, ib]; exact four hpw
  have hw := prodW_in h hin hab
  rw [hw]
  obtain ⟨g1, g2⟩ := fin_canon i0
  have hd : A * B * (2 ^ K : Nat) - iv p = (A * B - P) * (2 ^ K : Nat) := by rw [ip, Int.sub_mul]
  have hex : rI ((A * B - P) * (2 ^ K : Nat)) = (A * B - P) * (2 ^ K : Nat) := (fits_one (by omega)).rI K
  have hbest := rI_best (A * B * (2 ^ K : Nat)) 0 (by rw [show (0 : Int).natAbs = V 0 from by rw [V_zero]; rfl]; exact rep_V 0)
  rw [← hr] at hbest
  have hrf : rnd (A * B * (2 ^ K : Nat) - iv p).natAbs < INF := by
    refine rnd_fin ?_
    have hG := G_pos
    have : (A * B * (2 ^ K : Nat) - iv p).natAbs ≤ (A * B * (2 ^ K : Nat)).natAbs := by omega
    omega
  have hR : iv (rw' false (A * B * (2 ^ K : Nat) - iv p)) = A * B * (2 ^ K : Nat) - iv p := by rw [iv_rw hrf, hd, hex]
  refine ⟨by omega, by omega, g1, by rw [mg_rw]; omega, ?_⟩
  rw [hab, g2, hR]
  have hQ := Q_int 1074 rfl
  rw [hQ, Int.mul_comm]
  congr 1
  omega
theorem prod_not {a b : Nat} (h : ∀ p, floatBits .mul .f64 a b = some p → ¬ prodIn a b p) : (prodW a b).2 = 0 := by
  cases hm : floatBits .mul .f64 a b with
  | none => rw [prodW_none hm]
  | some p => rw [prodW_out hm (h p hm)]

/-- whether a float lies between -p and p. -/
theorem within_cases (x : Nat) {p : Nat} (hp : p < INF) : (mg x ≤ p ∧ (ltW x p || eqW x p) = true ∧ (ltW (op p) x || eqW x (op p)) = true) ∨ (p < mg x ∧ ((ltW x p || eqW x p) = false ∨ ((ltW x p || eqW x p) = true ∧ (ltW (op p) x || eqW x (op p)) = false))) := by
  have hI := INF_lt
  have hp64 : W64 p := show p < 2 ^ 64 by omega
  have hpm : mg p = p := Nat.mod_eq_of_lt (by omega)
  have hpn : ng p = false := by unfold ng; rw [Nat.div_eq_of_lt (by omega)]; rfl
  have hr : rk p = p := by unfold rk; rw [hpn, hpm]; rfl
  have hro : rk (op p) = -(p : Int) := by rw [rk_op hp64, hr]
  have n1 : isN p = false := isN_false.2 (by omega)
  have n2 : isN (op p) = false := by rw [isN_op hp64, n1]
  unfold ltW eqW
  rw [n1, n2, hr, hro]
  by_cases hn : INF < mg x
  · right
    rw [isN_true.2 hn]
    exact ⟨by omega, .inl (by simp)⟩
  · rw [isN_false.2 (by omega)]
    unfold rk
    cases ng x <;> simp <;> omega
/-- the magnitude, as the law takes it. -/
theorem size_cases {p : Nat} (hp : W64 p) (hc : canonW p = p) : ∃ m, W64 m ∧ ((ltW p 0 = true ∧ m = op p) ∨ (ltW p 0 = false ∧ m = p)) ∧
    ∀ q, q < INF → (ltW q m || eqW m q) = (decide (mg p ≤ INF) && decide (q ≤ mg p)) ∧ (ltW m q || eqW m q) = (decide (mg p ≤ INF) && decide (mg p ≤ q)) := by
  have hI := INF_lt
  have h0 : rk 0 = 0 := by decide
  have n0 : isN 0 = false := by decide
  have key : ∀ m, (INF < mg p → INF < mg m) → (mg p ≤ INF → mg m ≤ INF ∧ rk m = mg p) → ∀ q, q < INF → (ltW q m || eqW m q) = (decide (mg p ≤ INF) && decide (q ≤ mg p)) ∧ (ltW m q || eqW m q) = (decide (mg p ≤ INF) && decide (mg p ≤ q)) := by
    intro m h1 h2 q hq
    have hpm : mg q = q := Nat.mod_eq_of_lt (by omega)
    have hpn : ng q = false := by unfold ng; rw [Nat.div_eq_of_lt (by omega)]; rfl
    have hr : rk q = q := by unfold rk; rw [hpn, hpm]; rfl
    have n1 : isN q = false := isN_false.2 (by omega)
    unfold ltW eqW
    rw [n1, hr]
    by_cases hn : INF < mg p
    · rw [isN_true.2 (h1 hn), decide_eq_false (by omega : ¬ mg p ≤ INF)]; simp
    · obtain ⟨h3, h4⟩ := h2 (by omega)
      rw [isN_false.2 h3, h4, decide_eq_true (by omega : mg p ≤ INF)]
      refine ⟨?_, ?_⟩ <;> rw [Bool.eq_iff_iff] <;> simp <;> omega
  by_cases hn : INF < mg p
  · refine ⟨p, hp, .inr ⟨?_, rfl⟩, key p (fun _ => hn) (fun h => by omega)⟩
    unfold ltW; rw [isN_true.2 hn]; rfl
  · cases hs : ng p with
    | true =>
      have hm0 : mg p ≠ 0 := by
        intro h
        rw [canonW_zero h] at hc
        rw [← hc] at hs
        exact absurd hs (by decide)
      refine ⟨op p, hp.op, .inl ⟨?_, rfl⟩, key (op p) (fun h => by rw [mg_op hp]; exact h) (fun h => ⟨by rw [mg_op hp]; exact h, ?_⟩)⟩
      · unfold ltW; rw [isN_false.2 (by omega), n0, h0]; unfold rk; rw [hs]; simp; omega
      · rw [rk_op hp]; unfold rk; rw [hs]; simp
    | false =>
      refine ⟨p, hp, .inr ⟨?_, rfl⟩, key p (fun h => h) (fun h => ⟨h, ?_⟩)⟩
      · unfold ltW; rw [isN_false.2 (by omega), n0, h0]; unfold rk; rw [hs]; simp
      · unfold rk; rw [hs]; simp
theorem mg_canon (p : Nat) : (mg p ≤ INF ∧ mg (canonW p) = mg p) ∨ (INF < mg p ∧ INF < mg (canonW p)) := by
  by_cases h : INF < mg p
  · right; rw [canonW_nan h]; exact ⟨h, by decide⟩
  · left
    by_cases h0 : mg p = 0
    · rw [canonW_zero h0, h0]; exact ⟨by omega, by decide⟩
    · rw [canonW_word (isN_false.2 (by omega)) h0]; exact ⟨by omega, rfl⟩

/-- within the bounds, by the first answer. -/
def InW (a b : Nat) : Prop := mg a ≤ 9092767647661031424 ∧ mg b ≤ 9092767647661031424 ∧ 243194379878006784 ≤ mg (prodW a b).1 ∧ mg (prodW a b).1 ≤ 9200854038717923328
theorem in_prod {a b : Nat} (h : InW a b) : ∃ p, floatBits .mul .f64 a b = some p ∧ prodIn a b p := by
  have hI := INF_eq
  obtain ⟨h1, h2, h3, h4⟩ := h
  rcases prod_first a b with ⟨p, k1, k2⟩ | ⟨k1, k2⟩
  · rw [k2] at h3 h4
    rcases mg_canon p with ⟨c1, c2⟩ | ⟨c1, c2⟩
    · rw [c2] at h3 h4
      exact ⟨p, k1, by omega, h1, h2, h3, h4⟩
    · omega
  · rw [k2] at h4
    exact absurd h4 (by decide)
theorem not_in {a b : Nat} (h : ¬ InW a b) : ∀ p, floatBits .mul .f64 a b = some p → ¬ prodIn a b p := by
  intro p hp hin
  apply h
  obtain ⟨i0, i1, i2, i3, i4⟩ := hin
  rcases prod_first a b with ⟨r, k1, k2⟩ | ⟨k1, -⟩
  · rw [hp] at k1
    obtain rfl := Option.some.inj k1
    unfold InW
    rw [k2]
    rcases mg_canon p with ⟨c1, c2⟩ | ⟨c1, c2⟩
    · rw [c2]; exact ⟨i1, i2, i3, i4⟩
    · omega
  · rw [hp] at k1; cases k1
end TF
