/- Sum's two answers are the exact sum; put together again they stay. -/
import Derived.Test.YtkkikcfolinkfaaTwinS
namespace TF
open Ieee Go Go.RowKit

theorem plain_sum (a b : Nat) : canonW (sumW a b).1 = (sumW a b).1 ∧ canonW (sumW a b).2 = (sumW a b).2 := by
  unfold sumW
  split
  · exact ⟨by decide, by decide⟩
  · split
    · exact ⟨canonW_canonW _, canon_rw _ _⟩
    · exact ⟨canonW_canonW _, show canonW 0 = 0 by decide⟩

theorem fin_canon {s : Nat} (h : mg s < INF) : mg (canonW s) < INF ∧ iv (canonW s) = iv s := by
  have hI := INF_lt
  by_cases h0 : mg s = 0
  · rw [canonW_zero h0]
    refine ⟨by decide, ?_⟩
    unfold iv
    rw [h0]
    simp [V_zero, show mg 0 = 0 from by decide]
  · rw [canonW_word (isN_false.2 (by omega)) h0]; exact ⟨h, rfl⟩
theorem inf_canon {s : Nat} (h : ¬ mg s < INF) : ¬ mg (canonW s) < INF := by
  unfold canonW
  split
  · decide
  · split
    · have hI := INF_eq; omega
    · exact h

/-- what Sum's answers are where the first is finite. -/
structure SumIs (a b s e : Nat) : Prop where
  fa : mg a < INF
  fb : mg b < INF
  fs : mg s < INF
  fe : mg e < INF
  all : iv a + iv b = iv s + iv e
  again : sumW s e = (s, e)

theorem sum_is {a b : Nat} (h : mg (sumW a b).1 < INF) : SumIs a b (sumW a b).1 (sumW a b).2 := by
  have hI := INF_lt
  unfold sumW at h
  cases hadd : double.add a b with
  | none => rw [hadd] at h; simp only at h; exact absurd h (by decide)
  | some s =>
    rw [hadd] at h
    simp only at h
    by_cases hs : mg s < INF
    · have hsum : sumW a b = (canonW s, rw' false (iv a + iv b - iv s)) := by unfold sumW; rw [hadd]; simp only; rw [if_pos hs]
      obtain ⟨hfa, hfb, es, hr, hiv⟩ := add_fin_of hadd hs
      have hcs : canonW s = rw' false (iv a + iv b) := by rw [es, canon_rw]
      -- the rest is a float
      have hrest : Rep (iv a + iv b - iv s).natAbs ∧ rnd (iv a + iv b - iv s).natAbs < INF := by
        rcases Nat.le_total (mg b) (mg a) with hle | hle
        · obtain ⟨-, h2, -, h4⟩ := fast_two_sum (A := iv a) (B := iv b) (iv_natAbs a) (iv_natAbs b) hle
          rw [← hiv] at h2 h4
          rw [iv_natAbs b] at h4
          exact ⟨h2, Nat.lt_of_le_of_lt (rnd_le_of h4) hfb⟩
        · obtain ⟨-, h2, -, h4⟩ := fast_two_sum (A := iv b) (B := iv a) (iv_natAbs b) (iv_natAbs a) hle
          rw [Int.add_comm (iv b) (iv a), ← hiv] at h2 h4
          rw [iv_natAbs a] at h4
          exact ⟨h2, Nat.lt_of_le_of_lt (rnd_le_of h4) hfa⟩
      obtain ⟨hrep, hrf⟩ := hrest
      have hR : iv (rw' false (iv a + iv b - iv s)) = iv a + iv b - iv s := by rw [iv_rw hrf, rI_rep hrep]
      have hRf : mg (rw' false (iv a + iv b - iv s)) < INF := by rw [mg_rw]; omega
      obtain ⟨hSf, hS⟩ := fin_canon hs
      rw [hsum]
      refine ⟨hfa, hfb, hSf, hRf, by rw [hS, hR]; omega, ?_⟩
      have hn : iv (canonW s) + iv (rw' false (iv a + iv b - iv s)) = iv a + iv b := by rw [hS, hR]; omega
      have hadd2 := add_word hSf hRf
      rw [hn] at hadd2
      unfold sumW
      rw [hadd2]
      simp only
      rw [if_pos (by rw [mg_rw]; omega), canon_rw, ← hcs, iv_rw hr, hn, ← hiv]
    · rw [if_neg hs] at h
      exact absurd h (inf_canon hs)
theorem sum_infinite {a b : Nat} (h : ¬ mg (sumW a b).1 < INF) : (sumW a b).2 = 0 := by
  unfold sumW at h ⊢
  split
  · rfl
  · rename_i s hs
    rw [hs] at h
    simp only at h
    split
    · rename_i h2
      rw [if_pos h2] at h
      exact absurd (fin_canon h2).1 h
    · rfl
theorem sum_first (a b : Nat) : (∃ r, floatBits .add .f64 a b = some r ∧ (sumW a b).1 = canonW r) ∨ (floatBits .add .f64 a b = none ∧ (sumW a b).1 = 9221120237041090561) := by
  cases h : double.add a b with
  | none => right; exact ⟨h, by unfold sumW; rw [h]⟩
  | some s => left; exact ⟨s, h, by unfold sumW; rw [h]; simp only; split <;> rfl⟩
end TF
