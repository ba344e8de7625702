/- Slope on both sides. -/
import Derived.Test.YtjbiklkjcalmkaaLimA
namespace Go.Proofs.Ytjbiklkjcalmkaa
open Go.RowKit TF

attribute [local go_sem] cmp_eq cmp_ne cmp_lt cmp_gt cmp_le cmp_ge

theorem class_nan {n : Nat} (h : INF < mg n) : 3 ≤ classW n := by
  have hI := INF_eq
  unfold classW
  rw [if_neg (by omega), if_neg (by omega), if_neg (by omega), if_neg (by omega)]
  omega

theorem above_pos (k : Int) {a b : Nat} (ha : Pos a) (hb : Pos b) (w : World) :
    Calls Try.prog 20 #[.int .i64 k, .float .f64 a, .float .f64 b] w fun e w' => e = .returned (.float .f64 (aboveW k a b)) ∧ ∃ n, w' = w.drewN n := by
  by_cases h1 : k = 1
  · subst h1
    have e : aboveW 1 a b = min a b := by unfold aboveW; rw [if_pos rfl]
    rw [e]; clear e
    go_enter Try.func20, Try.ntmps20
    go_wp2_with (first | (go_at_call 33; refine (lesser_pos (by assumption) (by assumption) _).mono ?_; rintro e w' ⟨rfl, rfl⟩))
    go_ret
    exact ⟨rfl, 0, rfl⟩
  by_cases h2 : k = 2
  · subst h2
    have e : aboveW 2 a b = max (min (dbl a) b) (min a (dbl b)) := by unfold aboveW; rw [if_neg (by omega), if_pos rfl]
    rw [e]; clear e h1
    have k1 := run_valid (P := Try.prog) 25 (mul_two ha)
    have k2 := run_valid (P := Try.prog) 25 (mul_two hb)
    have h1 := dbl_pos ha
    have h2 := dbl_pos hb
    have h3 := h1.min hb
    have h4 := ha.min h2
    go_enter Try.func20, Try.ntmps20
    go_wp2_with (first | (go_at_call 33; refine (lesser_pos (by assumption) (by assumption) _).mono ?_; rintro e w' ⟨rfl, rfl⟩) | (go_at_call 34; refine (greater_pos (by assumption) (by assumption) _).mono ?_; rintro e w' ⟨rfl, rfl⟩))
    go_ret
    exact ⟨rfl, 0, rfl⟩
  by_cases h3 : k = 3
  · subst h3
    have e : aboveW 3 a b = leerW a b := by unfold aboveW; rw [if_neg (by omega), if_neg (by omega), if_pos rfl]
    rw [e]; clear e h1 h2
    obtain ⟨p, s, k1, k2, k3, ⟨k4, e⟩ | ⟨q, k4, hq, ⟨f, e, g0, g1, g2⟩ | ⟨f, e, g0, _⟩⟩⟩ := leer_ways ha hb
    · obtain ⟨n, n1, n2, k4⟩ := run_invalid (P := Try.prog) 25 (.inr (.inr (.inr rfl))) k4 w
      have k1 := run_valid (P := Try.prog) 25 k1
      have k2 := run_valid (P := Try.prog) 25 k2
      have k3 := run_valid (P := Try.prog) 25 k3
      have g0 := class_nan n2
      rw [e]; clear e n1 n2
      go_enter Try.func20, Try.ntmps20
      go_wp2_with (first | (go_at_call 35; refine (rclass_any _ _).mono ?_; rintro e w' ⟨rfl, rfl⟩))
      go_ret
      exact ⟨rfl, 1, rfl⟩
    all_goals
      have k1 := run_valid (P := Try.prog) 25 k1
      have k2 := run_valid (P := Try.prog) 25 k2
      have k3 := run_valid (P := Try.prog) 25 k3
      have k4 := run_valid (P := Try.prog) 25 k4
      rw [e]; clear e
      go_enter Try.func20, Try.ntmps20
      go_wp2_with (first | (go_at_call 35; refine (rclass_any _ _).mono ?_; rintro e w' ⟨rfl, rfl⟩))
      go_ret
      exact ⟨rfl, 0, rfl⟩
  · have e : aboveW k a b = 0 := by unfold aboveW; rw [if_neg h1, if_neg h2, if_neg h3]
    rw [e]; clear e
    go_enter Try.func20, Try.ntmps20
    go_wp2_with fail
    go_ret
    exact ⟨rfl, 0, rfl⟩

def validK (k : Int) : Bool := decide (0 ≤ k) && decide (k ≤ 3)
theorem valid_any (k : Int) (w : World) :
    Calls Try.prog 11 #[.int .i64 k] w fun e w' => e = .returned (.bool (validK k)) ∧ w = w' := by
  by_cases h1 : 0 ≤ k
  · by_cases h2 : k ≤ 3
    · rw [show validK k = true from by simp [validK, h1, h2]]
      go_enter Try.func11, Try.ntmps11
      go_wp2
      go_ret
      exact ⟨rfl, rfl⟩
    · rw [show validK k = false from by simp [validK, h2]]
      go_enter Try.func11, Try.ntmps11
      go_wp2
      go_ret
      exact ⟨rfl, rfl⟩
  · rw [show validK k = false from by simp [validK, h1]]
    go_enter Try.func11, Try.ntmps11
    go_wp2
    go_ret
    exact ⟨rfl, rfl⟩
theorem rvalid_any (k : Int) (w : World) :
    Calls Try.prog 12 #[.int .i64 k] w fun e w' => e = .returned (.bool (validK k)) ∧ w = w' := by
  by_cases h1 : 0 ≤ k
  · by_cases h2 : k ≤ 3
    · rw [show validK k = true from by simp [validK, h1, h2]]
      go_enter Try.func12, Try.ntmps12
      go_wp2
      go_ret
      exact ⟨rfl, rfl⟩
    · rw [show validK k = false from by simp [validK, h2]]
      go_enter Try.func12, Try.ntmps12
      go_wp2
      go_ret
      exact ⟨rfl, rfl⟩
  · rw [show validK k = false from by simp [validK, h1]]
    go_enter Try.func12, Try.ntmps12
    go_wp2
    go_ret
    exact ⟨rfl, rfl⟩

/-- Which way a slope goes. -/
theorem slope_ways (k : Int) {a b : Nat} (ha : W64 a) (hb : W64 b) :
    (ltW 0 a = true ∧ ltW 0 b = true ∧ Pos a ∧ Pos b ∧ (0 ≤ k ∧ k ≤ 3 → slopeW k a b = canonW (aboveW k a b))) ∨
    ((ltW 0 a = false ∨ (ltW 0 a = true ∧ ltW 0 b = false)) ∧ ltW a 0 = true ∧ ltW b 0 = true ∧ Pos (op a) ∧ Pos (op b) ∧ (0 ≤ k ∧ k ≤ 3 → slopeW k a b = canonW (op (aboveW k (op a) (op b))))) ∨
    ((ltW 0 a = false ∨ (ltW 0 a = true ∧ ltW 0 b = false)) ∧ (ltW a 0 = false ∨ (ltW a 0 = true ∧ ltW b 0 = false)) ∧ slopeW k a b = 0) := by
  unfold slopeW
  cases h1 : ltW 0 a <;> cases h2 : ltW 0 b <;> cases h3 : ltW a 0 <;> cases h4 : ltW b 0 <;> simp
  all_goals
    first
    | exact ⟨pos_of ha h1, pos_of hb h2⟩
    | exact ⟨(neg_of ha h3).1, (neg_of hb h4).1⟩
    | exact ⟨(neg_of ha h3).1, (neg_of hb h4).1, fun h h' h'' => by omega⟩
    | exact ⟨pos_of ha h1, pos_of hb h2, fun h h' => by omega⟩
    | (intro hk; omega)
    | skip

theorem plain_any (a b : Nat) (w : World) : Calls Try.prog 24 #[.float .f64 a, .float .f64 b] w fun e w' => e = .returned (.float .f64 0) ∧ w = w' := by
  go_enter Try.func24, Try.ntmps24
  go_wp2
  go_ret
  exact ⟨rfl, rfl⟩
theorem above0 (a b : Nat) : aboveW 0 a b = 0 := rfl
theorem above1 (a b : Nat) : aboveW 1 a b = min a b := rfl
theorem above2 (a b : Nat) : aboveW 2 a b = max (min (dbl a) b) (min a (dbl b)) := rfl
theorem above3 (a b : Nat) : aboveW 3 a b = leerW a b := rfl

theorem lim_cell (w : World) : (w.alloc limTable).cell? ⟨w.heap.size, 0, none⟩ = some (Value.func (Fn.func 24) #[] #[]) ∧ (w.alloc limTable).cell? ⟨w.heap.size, 1, none⟩ = some (Value.func (Fn.func 25) #[] #[]) ∧
    (w.alloc limTable).cell? ⟨w.heap.size, 2, none⟩ = some (Value.func (Fn.func 26) #[] #[]) ∧ (w.alloc limTable).cell? ⟨w.heap.size, 3, none⟩ = some (Value.func (Fn.func 27) #[] #[]) := by
  unfold limTable; simp

theorem leerW_lt {a b : Nat} (ha : Pos a) (hb : Pos b) : W64 (leerW a b) := by
  obtain ⟨p, s, _, _, _, ⟨_, e⟩ | ⟨q, _, hq, ⟨_, e, _⟩ | ⟨_, e, _⟩⟩⟩ := leer_ways ha hb
  · rw [e]; exact show (0 : Nat) < 2 ^ 64 by decide
  · rw [e]; exact hq
  · rw [e]; exact show (0 : Nat) < 2 ^ 64 by decide
set_option maxHeartbeats 2000000 in
theorem slope_k (k : Int) (hk : k = 0 ∨ k = 1 ∨ k = 2 ∨ k = 3) {a b : Nat} (ha : W64 a) (hb : W64 b) (w : World) :
    Calls Try.prog 9 #[.int .i64 k, .float .f64 a, .float .f64 b] w fun e w' => e = .returned (.float .f64 (slopeW k a b)) ∧ Below w.heap.size w w' := by
  have hv : validK k = true := by rcases hk with rfl | rfl | rfl | rfl <;> rfl
  have c1 := run_neg Try.prog ha
  have c2 := run_neg Try.prog hb
  obtain ⟨d0, d1, d2, d3⟩ := lim_cell w
  rcases slope_ways k ha hb with ⟨h1, h2, pa, pb, e⟩ | ⟨h0, h1, h2, pa, pb, e⟩ | ⟨h0, h1, e⟩
  · have e := e (by omega)
    rcases hk with rfl | rfl | rfl | rfl
    all_goals
      first | rw [above0] at e | rw [above1] at e | rw [above2] at e | rw [above3] at e
      go_enter Try.func9, Try.ntmps9
      go_wp2_with (first | (go_at_call 11; refine (valid_any _ _).mono ?_; rintro e w' ⟨rfl, rfl⟩) | (go_at_call 18; refine (limiters_any _).mono ?_; rintro e w' ⟨rfl, rfl⟩) | (go_at_call 24; refine (plain_any _ _ _).mono ?_; rintro e w' ⟨rfl, rfl⟩) | (go_at_call 25; refine (min_pos (by assumption) (by assumption) _).mono ?_; rintro e w' ⟨rfl, rfl⟩) | (go_at_call 26; refine (bee_pos (by assumption) (by assumption) _).mono ?_; rintro e w' ⟨rfl, rfl⟩) | (go_at_call 27; refine (leer_pos (by assumption) (by assumption) _).mono ?_; rintro e w' ⟨rfl, n, rfl⟩) | (go_at_call 13; refine (canon_any _ _).mono ?_; rintro e w' ⟨rfl, rfl⟩))
      go_ret
      exact ⟨ret_f64 e.symm, by first | exact (Below.refl _ _).alloc (Nat.le_refl _) _ | exact below_drewN ((Below.refl _ _).alloc (Nat.le_refl _) _) _⟩
  · have e := e (by omega)
    rcases hk with rfl | rfl | rfl | rfl
    · rw [above0] at e
      have k0 := run_neg Try.prog (b := 0) (by decide)
      rcases h0 with h0 | ⟨h0, h0'⟩
      all_goals
        go_enter Try.func9, Try.ntmps9
        go_wp2_with (first | (go_at_call 11; refine (valid_any _ _).mono ?_; rintro e w' ⟨rfl, rfl⟩) | (go_at_call 18; refine (limiters_any _).mono ?_; rintro e w' ⟨rfl, rfl⟩) | (go_at_call 24; refine (plain_any _ _ _).mono ?_; rintro e w' ⟨rfl, rfl⟩) | (go_at_call 25; refine (min_pos (by assumption) (by assumption) _).mono ?_; rintro e w' ⟨rfl, rfl⟩) | (go_at_call 26; refine (bee_pos (by assumption) (by assumption) _).mono ?_; rintro e w' ⟨rfl, rfl⟩) | (go_at_call 27; refine (leer_pos (by assumption) (by assumption) _).mono ?_; rintro e w' ⟨rfl, n, rfl⟩) | (go_at_call 13; refine (canon_any _ _).mono ?_; rintro e w' ⟨rfl, rfl⟩))
        go_ret
        exact ⟨ret_f64 e.symm, (Below.refl _ _).alloc (Nat.le_refl _) _⟩
    · rw [above1] at e
      have k0 := run_neg Try.prog (pa.min pb).w64
      rcases h0 with h0 | ⟨h0, h0'⟩
      all_goals
        go_enter Try.func9, Try.ntmps9
        go_wp2_with (first | (go_at_call 11; refine (valid_any _ _).mono ?_; rintro e w' ⟨rfl, rfl⟩) | (go_at_call 18; refine (limiters_any _).mono ?_; rintro e w' ⟨rfl, rfl⟩) | (go_at_call 24; refine (plain_any _ _ _).mono ?_; rintro e w' ⟨rfl, rfl⟩) | (go_at_call 25; refine (min_pos (by assumption) (by assumption) _).mono ?_; rintro e w' ⟨rfl, rfl⟩) | (go_at_call 26; refine (bee_pos (by assumption) (by assumption) _).mono ?_; rintro e w' ⟨rfl, rfl⟩) | (go_at_call 27; refine (leer_pos (by assumption) (by assumption) _).mono ?_; rintro e w' ⟨rfl, n, rfl⟩) | (go_at_call 13; refine (canon_any _ _).mono ?_; rintro e w' ⟨rfl, rfl⟩))
        go_ret
        exact ⟨ret_f64 e.symm, (Below.refl _ _).alloc (Nat.le_refl _) _⟩
    · rw [above2] at e
      have k0 := run_neg Try.prog (((dbl_pos pa).min pb).max (pa.min (dbl_pos pb))).w64
      rcases h0 with h0 | ⟨h0, h0'⟩
      all_goals
        go_enter Try.func9, Try.ntmps9
        go_wp2_with (first | (go_at_call 11; refine (valid_any _ _).mono ?_; rintro e w' ⟨rfl, rfl⟩) | (go_at_call 18; refine (limiters_any _).mono ?_; rintro e w' ⟨rfl, rfl⟩) | (go_at_call 24; refine (plain_any _ _ _).mono ?_; rintro e w' ⟨rfl, rfl⟩) | (go_at_call 25; refine (min_pos (by assumption) (by assumption) _).mono ?_; rintro e w' ⟨rfl, rfl⟩) | (go_at_call 26; refine (bee_pos (by assumption) (by assumption) _).mono ?_; rintro e w' ⟨rfl, rfl⟩) | (go_at_call 27; refine (leer_pos (by assumption) (by assumption) _).mono ?_; rintro e w' ⟨rfl, n, rfl⟩) | (go_at_call 13; refine (canon_any _ _).mono ?_; rintro e w' ⟨rfl, rfl⟩))
        go_ret
        exact ⟨ret_f64 e.symm, (Below.refl _ _).alloc (Nat.le_refl _) _⟩
    · rw [above3] at e
      have k0 := run_neg Try.prog (leerW_lt pa pb)
      rcases h0 with h0 | ⟨h0, h0'⟩
      all_goals
        go_enter Try.func9, Try.ntmps9
        go_wp2_with (first | (go_at_call 11; refine (valid_any _ _).mono ?_; rintro e w' ⟨rfl, rfl⟩) | (go_at_call 18; refine (limiters_any _).mono ?_; rintro e w' ⟨rfl, rfl⟩) | (go_at_call 24; refine (plain_any _ _ _).mono ?_; rintro e w' ⟨rfl, rfl⟩) | (go_at_call 25; refine (min_pos (by assumption) (by assumption) _).mono ?_; rintro e w' ⟨rfl, rfl⟩) | (go_at_call 26; refine (bee_pos (by assumption) (by assumption) _).mono ?_; rintro e w' ⟨rfl, rfl⟩) | (go_at_call 27; refine (leer_pos (by assumption) (by assumption) _).mono ?_; rintro e w' ⟨rfl, n, rfl⟩) | (go_at_call 13; refine (canon_any _ _).mono ?_; rintro e w' ⟨rfl, rfl⟩))
        go_ret
        exact ⟨ret_f64 e.symm, below_drewN ((Below.refl _ _).alloc (Nat.le_refl _) _) _⟩
  · rw [e]; clear e
    rcases h0 with h0 | ⟨h0, h0'⟩ <;> rcases h1 with h1 | ⟨h1, h1'⟩
    all_goals
      rcases hk with rfl | rfl | rfl | rfl
      all_goals
        go_enter Try.func9, Try.ntmps9
        go_wp2_with (first | (go_at_call 11; refine (valid_any _ _).mono ?_; rintro e w' ⟨rfl, rfl⟩) | (go_at_call 18; refine (limiters_any _).mono ?_; rintro e w' ⟨rfl, rfl⟩))
        go_ret
        exact ⟨rfl, (Below.refl _ _).alloc (Nat.le_refl _) _⟩
theorem slope_any (k : Int) {a b : Nat} (ha : W64 a) (hb : W64 b) (w : World) :
    Calls Try.prog 9 #[.int .i64 k, .float .f64 a, .float .f64 b] w fun e w' => e = .returned (.float .f64 (slopeW k a b)) ∧ Below w.heap.size w w' := by
  by_cases hk : 0 ≤ k ∧ k ≤ 3
  · exact slope_k k (by omega) ha hb w
  · have hv : validK k = false := by unfold validK; simp; omega
    have e : slopeW k a b = 0 := by unfold slopeW; rw [if_neg hk]
    rw [e]
    go_enter Try.func9, Try.ntmps9
    go_wp2_with (first | (go_at_call 11; refine (valid_any _ _).mono ?_; rintro e w' ⟨rfl, rfl⟩))
    go_ret
    exact ⟨rfl, Below.refl _ _⟩
theorem above_out {k : Int} (hk : ¬ (0 ≤ k ∧ k ≤ 3)) (a b : Nat) : aboveW k a b = 0 := by unfold aboveW; rw [if_neg (by omega), if_neg (by omega), if_neg (by omega)]
theorem aboveW_lt (k : Int) {a b : Nat} (ha : Pos a) (hb : Pos b) : W64 (aboveW k a b) := by
  unfold aboveW
  split
  · exact (ha.min hb).w64
  · split
    · exact (((dbl_pos ha).min hb).max (ha.min (dbl_pos hb))).w64
    · split
      · exact leerW_lt ha hb
      · exact show (0 : Nat) < 2 ^ 64 by decide
theorem rslope_any (k : Int) {a b : Nat} (ha : W64 a) (hb : W64 b) (w : World) :
    Calls Try.prog 10 #[.int .i64 k, .float .f64 a, .float .f64 b] w fun e w' => e = .returned (.float .f64 (slopeW k a b)) ∧ ∃ n, w' = w.drewN n := by
  have c1 := run_neg Try.prog ha
  have c2 := run_neg Try.prog hb
  rcases slope_ways k ha hb with ⟨h1, h2, pa, pb, e⟩ | ⟨h0, h1, h2, pa, pb, e⟩ | ⟨h0, h1, e⟩
  · have e : slopeW k a b = canonW (aboveW k a b) := by
      by_cases hk : 0 ≤ k ∧ k ≤ 3
      · exact e hk
      · rw [above_out hk]; unfold slopeW; rw [if_neg hk]; decide
    rw [e]; clear e
    go_enter Try.func10, Try.ntmps10
    go_wp2_with (first | (go_at_call 20; refine (above_pos _ (by assumption) (by assumption) _).mono ?_; rintro e w' ⟨rfl, n, rfl⟩) | (go_at_call 19; refine (rcanon_any _ _).mono ?_; rintro e w' ⟨rfl, rfl⟩))
    go_ret
    exact ⟨rfl, _, rfl⟩
  · have e : slopeW k a b = canonW (op (aboveW k (op a) (op b))) := by
      by_cases hk : 0 ≤ k ∧ k ≤ 3
      · exact e hk
      · rw [above_out hk]; unfold slopeW; rw [if_neg hk]; decide
    have k0 := run_neg Try.prog (aboveW_lt k pa pb)
    rw [e]; clear e
    rcases h0 with h0 | ⟨h0, h0'⟩
    all_goals
      go_enter Try.func10, Try.ntmps10
      go_wp2_with (first | (go_at_call 20; refine (above_pos _ (by assumption) (by assumption) _).mono ?_; rintro e w' ⟨rfl, n, rfl⟩) | (go_at_call 19; refine (rcanon_any _ _).mono ?_; rintro e w' ⟨rfl, rfl⟩))
      go_ret
      exact ⟨rfl, _, rfl⟩
  · rw [e]; clear e
    rcases h0 with h0 | ⟨h0, h0'⟩ <;> rcases h1 with h1 | ⟨h1, h1'⟩
    all_goals
      go_enter Try.func10, Try.ntmps10
      go_wp2_with (first | (go_at_call 20; refine (above_pos _ (by assumption) (by assumption) _).mono ?_; rintro e w' ⟨rfl, n, rfl⟩) | (go_at_call 19; refine (rcanon_any _ _).mono ?_; rintro e w' ⟨rfl, rfl⟩))
      go_ret
      exact ⟨rfl, 0, rfl⟩
end Go.Proofs.Ytjbiklkjcalmkaa
