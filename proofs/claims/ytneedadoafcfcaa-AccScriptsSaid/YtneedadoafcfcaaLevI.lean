/- A float's parts by its bits, whole numbers of them: the reference's Clamp. -/
import Derived.Test.YtneedadoafcfcaaLevE
namespace TF
open Ieee Go Go.RowKit

def partsM (b : Nat) : Int := if mg b < INF then (M (mg b) : Int) else 0
def partsE (b : Nat) : Int := if mg b < INF then (E (mg b) : Int) - 1074 else 0
def partsW (b : Nat) : Int := if mg b < INF then 0 else if mg b = INF then 1 else 2
/-- whether m · 2^e is above 2^63. -/
def greatB (m e : Int) : Bool := !decide (m = 0) && (decide (11 < e) || decide (9223372036854775808 / 2 ^ e.toNat < m))

theorem split_low {r : Nat} (h : E r < T) : V r / Q = M r / 2 ^ (T - E r) ∧ V r % Q = 2 ^ E r * (M r % 2 ^ (T - E r)) ∧ Q = 2 ^ E r * 2 ^ (T - E r) := by
  have hQ : Q = 2 ^ E r * 2 ^ (T - E r) := Q_split _ _ (by omega)
  refine ⟨?_, ?_, hQ⟩
  · rw [hQ]; unfold V; rw [Nat.mul_comm (M r), Nat.mul_div_mul_left _ _ (Nat.two_pow_pos _)]
  · rw [hQ]; unfold V; rw [Nat.mul_comm (M r), Nat.mul_mod_mul_left]
theorem nr_low {r : Nat} (h : E r < T) : nr (V r) = nrs (M r) (T - E r) := by
  obtain ⟨h1, h2, h3⟩ := split_low h
  have hp := Nat.two_pow_pos (E r)
  unfold nr nrs
  rw [h1, h2]
  generalize M r % 2 ^ (T - E r) = c at *
  generalize M r / 2 ^ (T - E r) = d at *
  generalize 2 ^ (T - E r) = b at *
  generalize 2 ^ E r = a at *
  have c1 : (Q < 2 * (a * c)) ↔ (b < 2 * c) := by
    rw [h3, Nat.mul_left_comm]; exact ⟨fun h => Nat.lt_of_mul_lt_mul_left h, fun h => Nat.mul_lt_mul_of_pos_left h hp⟩
  have c2 : (2 * (a * c) = Q) ↔ (2 * c = b) := by
    rw [h3, Nat.mul_left_comm]; exact ⟨fun h => Nat.eq_of_mul_eq_mul_left hp h, fun h => by rw [h]⟩
  simp only [c1, c2]
theorem split_high {r : Nat} (h : T ≤ E r) : V r / Q = M r * 2 ^ (E r - T) ∧ V r % Q = 0 := by
  have hV : V r = M r * 2 ^ (E r - T) * Q := by
    unfold V Q; rw [Nat.mul_assoc, ← Nat.pow_add, Nat.sub_add_cancel h]
  rw [hV]; exact ⟨Nat.mul_div_cancel _ Q_pos, Nat.mul_mod_left _ _⟩
theorem nr_whole {v : Nat} (h : v % Q = 0) : nr v = v / Q := by
  have := Q_pos
  unfold nr; rw [h, if_neg (by omega)]

theorem parts_ways (x : Nat) :
    (isN x = true ∧ partsM x = 0 ∧ partsE x = 0 ∧ partsW x = 2) ∨
    (isN x = false ∧ mg x = INF ∧ partsM x = 0 ∧ partsE x = 0 ∧ partsW x = 1) ∨
    (isN x = false ∧ mg x < INF ∧ partsW x = 0 ∧ -1074 ≤ partsE x ∧ partsE x < 0 ∧ 0 ≤ partsM x ∧ partsM x < 9007199254740992 ∧ nearI (partsM x) (-partsE x) = (nr (V (mg x)) : Int) ∧
      downQ (partsM x) (-partsE x) = ((V (mg x) / Q : Nat) : Int) ∧ (downC (partsM x) (-partsE x) = 0 ↔ V (mg x) % Q = 0)) ∨
    (isN x = false ∧ mg x < INF ∧ partsW x = 0 ∧ 0 ≤ partsE x ∧ partsE x ≤ 971 ∧ 0 ≤ partsM x ∧ partsM x < 9007199254740992 ∧ V (mg x) % Q = 0 ∧
      ((greatB (partsM x) (partsE x) = true ∧ 9223372036854775808 < V (mg x) / Q) ∨
       (greatB (partsM x) (partsE x) = false ∧ partsE x ≤ 11 ∧ partsM x * 2 ^ (partsE x).toNat = ((V (mg x) / Q : Nat) : Int) ∧ V (mg x) / Q ≤ 9223372036854775808))) := by
  have hI := INF_eq
  have hT : T = 1074 := rfl
  rcases Nat.lt_trichotomy (mg x) INF with h | h | h
  · have hN : isN x = false := isN_false.2 (by omega)
    have e1 : partsM x = (M (mg x) : Int) := if_pos h
    have e2 : partsE x = (E (mg x) : Int) - 1074 := if_pos h
    have e3 : partsW x = 0 := if_pos h
    have hM := M_lt (mg x)
    have hE : E (mg x) ≤ 2045 := by unfold E; omega
    rcases Nat.lt_or_ge (E (mg x)) T with hl | hl
    · refine .inr (.inr (.inl ⟨hN, h, e3, by omega, by omega, by omega, by omega, ?_⟩))
      have e4 : -partsE x = ((T - E (mg x) : Nat) : Int) := by omega
      obtain ⟨s1, s2, s3⟩ := split_low hl
      rw [e1, e4, nearI_nrs (by omega), nr_low hl]
      refine ⟨rfl, ?_, ?_⟩
      · unfold downQ
        rw [s1, Int.toNat_natCast, Int.natCast_ediv]
        simp
      · unfold downC
        rw [s2, Int.toNat_natCast]
        have hp := Nat.two_pow_pos (E (mg x))
        have e5 : ((M (mg x) : Nat) : Int) % 2 ^ (T - E (mg x)) = ((M (mg x) % 2 ^ (T - E (mg x)) : Nat) : Int) := by
          rw [Int.natCast_emod]; simp
        rw [e5]
        generalize M (mg x) % 2 ^ (T - E (mg x)) = c
        constructor
        · intro hc
          have : c = 0 := by
            by_cases h0 : (c : Int) = 0
            · omega
            · rw [if_neg h0] at hc
              repeat' split at hc
              all_goals omega
          rw [this, Nat.mul_zero]
        · intro hc
          have : c = 0 := by
            rcases Nat.mul_eq_zero.1 hc with h0 | h0
            · omega
            · exact h0
          rw [this]; exact if_pos rfl
    · obtain ⟨s1, s2⟩ := split_high hl
      have e4 : (partsE x).toNat = E (mg x) - T := by omega
      have hMg : 2 ^ 52 ≤ M (mg x) := by
        unfold M; unfold E at hl
        rw [if_neg (by omega)]; omega
      refine .inr (.inr (.inr ⟨hN, h, e3, by omega, by omega, by omega, by omega, s2, ?_⟩))
      have hp := Nat.two_pow_pos (E (mg x) - T)
      by_cases hg : greatB (partsM x) (partsE x) = true
      · refine .inl ⟨hg, ?_⟩
        rw [s1]
        unfold greatB at hg
        simp only [Bool.and_eq_true, Bool.or_eq_true, decide_eq_true_eq] at hg
        rcases hg.2 with h2 | h2
        · have : 2 ^ 12 ≤ 2 ^ (E (mg x) - T) := Nat.pow_le_pow_right (by omega) (by omega)
          have := Nat.mul_le_mul hMg this
          omega
        · rw [e4, e1] at h2
          have e5 : (9223372036854775808 : Int) / 2 ^ (E (mg x) - T) = ((9223372036854775808 / 2 ^ (E (mg x) - T) : Nat) : Int) := by
            rw [Int.natCast_ediv]; simp
          rw [e5] at h2
          exact (Nat.div_lt_iff_lt_mul hp).1 (by omega)
      · rw [Bool.not_eq_true] at hg
        refine .inr ⟨hg, ?_⟩
        unfold greatB at hg
        have hm0 : decide (partsM x = 0) = false := decide_eq_false (by omega)
        rw [hm0] at hg
        simp only [Bool.not_false, Bool.true_and, Bool.or_eq_false_iff, decide_eq_false_iff_not] at hg
        obtain ⟨g1, g2⟩ := hg
        rw [e4, e1] at g2
        have e5 : (9223372036854775808 : Int) / 2 ^ (E (mg x) - T) = ((9223372036854775808 / 2 ^ (E (mg x) - T) : Nat) : Int) := by
          rw [Int.natCast_ediv]; simp
        rw [e5] at g2
        refine ⟨by omega, ?_, ?_⟩
        · rw [s1, e1, e4]; simp
        · rw [s1]
          exact (Nat.le_div_iff_mul_le hp).1 (by omega)
  · refine .inr (.inl ⟨isN_false.2 (by omega), h, if_neg (by omega), if_neg (by omega), ?_⟩)
    unfold partsW; rw [if_neg (by omega), if_pos h]
  · refine .inl ⟨isN_true.2 h, if_neg (by omega), if_neg (by omega), ?_⟩
    unfold partsW; rw [if_neg (by omega), if_neg (by omega)]

theorem clampI_sign {x : Nat} (most : Int) (h : isN x = false) : clampI x most = if ng x then -(min (max most 0) (nr (V (mg x)) : Int)) else min (max most 0) (nr (V (mg x)) : Int) := by
  unfold clampI
  rw [h, ltW_nought, h, if_neg Bool.false_ne_true]
  by_cases h0 : mg x = 0
  · have : nr (V (mg x)) = 0 := by
      have := Q_pos
      rw [h0, V_zero]; unfold nr; simp
    rw [this]
    cases ng x <;> simp [h0] <;> omega
  · cases ng x <;> simp [h0]

theorem rclamp_ways (x : Nat) (most : Int) (hm : most ≤ 9223372036854775807) :
    (partsW x = 2 ∧ clampI x most = 0) ∨
    ∃ r : Int, 0 ≤ r ∧ r ≤ 9223372036854775808 ∧ clampI x most = (if ng x then -(min (max most 0) r) else min (max most 0) r) ∧
     ((partsW x = 1 ∧ partsM x = 0 ∧ partsE x = 0 ∧ r = 9223372036854775808) ∨
      (partsW x = 0 ∧ -1074 ≤ partsE x ∧ partsE x < 0 ∧ 0 ≤ partsM x ∧ partsM x < 9007199254740992 ∧ nearI (partsM x) (-partsE x) = r) ∨
      (partsW x = 0 ∧ 0 ≤ partsE x ∧ partsE x ≤ 971 ∧ 0 ≤ partsM x ∧ partsM x < 9007199254740992 ∧
       ((greatB (partsM x) (partsE x) = true ∧ r = 9223372036854775808) ∨
        (greatB (partsM x) (partsE x) = false ∧ partsE x ≤ 11 ∧ partsM x * 2 ^ (partsE x).toNat = r)))) := by
  rcases parts_ways x with ⟨hN, h1, h2, h3⟩ | ⟨hN, h, h1, h2, h3⟩ | ⟨hN, h, h1, h2, h3, h4, h5, h6, h7, h8⟩ | ⟨hN, h, h1, h2, h3, h4, h5, h6, h7⟩
  · refine .inl ⟨h3, ?_⟩
    unfold clampI; rw [hN]; rfl
  · refine .inr ⟨9223372036854775808, by omega, by omega, ?_, .inl ⟨h3, h1, h2, rfl⟩⟩
    have hI := INF_eq
    have := clamp_far (x := x) (by omega) hm
    rw [clampI_sign most hN, this]
    split <;> omega
  · have hE : E (mg x) < T := by
      have e2 : partsE x = (E (mg x) : Int) - 1074 := if_pos h
      have hT : T = 1074 := rfl
      omega
    refine .inr ⟨nr (V (mg x)), by omega, ?_, clampI_sign most hN, .inr (.inl ⟨h1, h2, h3, h4, h5, h6⟩)⟩
    have hb := down_bound (m := partsM x) (s := -partsE x) (by omega) h4 (by omega)
    rw [← h6]; unfold nearI; split <;> omega
  · have hnr := nr_whole h6
    rcases h7 with ⟨g1, g2⟩ | ⟨g1, g2, g3, g4⟩
    · refine .inr ⟨9223372036854775808, by omega, by omega, ?_, .inr (.inr ⟨h1, h2, h3, h4, h5, .inl ⟨g1, rfl⟩⟩)⟩
      rw [clampI_sign most hN, hnr]
      split <;> omega
    · refine .inr ⟨(V (mg x) / Q : Nat), by omega, by omega, ?_, .inr (.inr ⟨h1, h2, h3, h4, h5, .inr ⟨g1, g2, g3⟩⟩)⟩
      rw [clampI_sign most hN, hnr]
end TF
