/- The leaves of limit and of its reference. -/
import Derived.Test.YtjbiklkjcalmkaaRefA
import Derived.Test.YtjbiklkjcalmkaaBitsA
import Derived.Test.YtjbiklkjcalmkaaLimF
import Derived.Test.YtjbiklkjcalmkaaOpenS
import Derived.Laws.EntriesVeiled
namespace Go.Proofs.Ytjbiklkjcalmkaa
open Go.RowKit TF

attribute [local go_sem] cmp_eq cmp_ne cmp_lt cmp_gt cmp_le cmp_ge

theorem isinf0_any (b : Nat) (hb : W64 b) (w : World) :
    Calls Try.prog 28 #[.float .f64 b, .int .i64 0] w fun e w' => e = .returned (.bool (ltW 9218868437227405311 (mg b))) ∧ w = w' := by
  go_enter Try.func28, Try.ntmps28
  go_wp2_with (go_at_call 39; refine (abs_any _ (by assumption) _).mono ?_; rintro e w' ⟨rfl, rfl⟩)
  go_ret
  exact ⟨rfl, rfl⟩

/-- The table of limiters, laid anew. -/
def limTable : Obj := Obj.cells #[Value.func (Fn.func 24) #[] #[], Value.func (Fn.func 25) #[] #[], Value.func (Fn.func 26) #[] #[], Value.func (Fn.func 27) #[] #[]] 36

theorem limiters_any (w : World) :
    Calls Try.prog 18 #[] w fun e w' => e = .returned (.slice (some ⟨w.heap.size, 0, none⟩) 4 4) ∧ w.alloc limTable = w' := by
  go_enter Try.func18, Try.ntmps18
  go_wp2_with fail
  go_ret
  exact ⟨rfl, rfl⟩

theorem min_pos {a b : Nat} (ha : Pos a) (hb : Pos b) (w : World) :
    Calls Try.prog 25 #[.float .f64 a, .float .f64 b] w fun e w' => e = .returned (.float .f64 (min a b)) ∧ w = w' := by
  have := min_any a b ha.w64 hb.w64 w
  rwa [minW_pos ha hb] at this
theorem max_pos {a b : Nat} (ha : Pos a) (hb : Pos b) (w : World) :
    Calls Try.prog 16 #[.float .f64 a, .float .f64 b] w fun e w' => e = .returned (.float .f64 (max a b)) ∧ w = w' := by
  have := max_any a b ha.w64 hb.w64 w
  rwa [maxW_pos ha hb] at this
theorem lesser_pos {a b : Nat} (ha : Pos a) (hb : Pos b) (w : World) :
    Calls Try.prog 33 #[.float .f64 a, .float .f64 b] w fun e w' => e = .returned (.float .f64 (min a b)) ∧ w = w' := by
  have k := hb.ltW ha
  by_cases h : b < a
  · rw [decide_eq_true h] at k
    rw [show min a b = b from by omega]
    clear h
    go_enter Try.func33, Try.ntmps33
    go_wp2_with fail
    go_ret
    exact ⟨rfl, rfl⟩
  · rw [decide_eq_false h] at k
    rw [show min a b = a from by omega]
    clear h
    go_enter Try.func33, Try.ntmps33
    go_wp2_with fail
    go_ret
    exact ⟨rfl, rfl⟩
theorem greater_pos {a b : Nat} (ha : Pos a) (hb : Pos b) (w : World) :
    Calls Try.prog 34 #[.float .f64 a, .float .f64 b] w fun e w' => e = .returned (.float .f64 (max a b)) ∧ w = w' := by
  have k := ha.ltW hb
  by_cases h : a < b
  · rw [decide_eq_true h] at k
    rw [show max a b = b from by omega]
    clear h
    go_enter Try.func34, Try.ntmps34
    go_wp2_with fail
    go_ret
    exact ⟨rfl, rfl⟩
  · rw [decide_eq_false h] at k
    rw [show max a b = a from by omega]
    clear h
    go_enter Try.func34, Try.ntmps34
    go_wp2_with fail
    go_ret
    exact ⟨rfl, rfl⟩

theorem bee_pos {a b : Nat} (ha : Pos a) (hb : Pos b) (w : World) :
    Calls Try.prog 26 #[.float .f64 a, .float .f64 b] w fun e w' => e = .returned (.float .f64 (max (min (dbl a) b) (min a (dbl b)))) ∧ w = w' := by
  have k1 := run_valid (P := Try.prog) 25 (mul_two ha)
  have k2 := run_valid (P := Try.prog) 25 (mul_two hb)
  have h1 := dbl_pos ha
  have h2 := dbl_pos hb
  have h3 := h1.min hb
  have h4 := ha.min h2
  go_enter Try.func26, Try.ntmps26
  go_wp2_with (first | (go_at_call 25; refine (min_pos (by assumption) (by assumption) _).mono ?_; rintro e w' ⟨rfl, rfl⟩) | (go_at_call 16; refine (max_pos (by assumption) (by assumption) _).mono ?_; rintro e w' ⟨rfl, rfl⟩))
  go_ret
  exact ⟨rfl, rfl⟩
theorem leer_pos {a b : Nat} (ha : Pos a) (hb : Pos b) (w : World) :
    Calls Try.prog 27 #[.float .f64 a, .float .f64 b] w fun e w' => e = .returned (.float .f64 (leerW a b)) ∧ ∃ n, w' = w.drewN n := by
  obtain ⟨p, s, k1, k2, k3, ⟨k4, e⟩ | ⟨q, k4, hq, ⟨f, e, _, g1, g2⟩ | ⟨f, e, _, g1 | ⟨g1, g2⟩⟩⟩⟩ := leer_ways ha hb
  · obtain ⟨n, n1, n2, k4⟩ := run_invalid (P := Try.prog) 25 (.inr (.inr (.inr rfl))) k4 w
    have k1 := run_valid (P := Try.prog) 25 k1
    have k2 := run_valid (P := Try.prog) 25 k2
    have k3 := run_valid (P := Try.prog) 25 k3
    have g1 := eqW_nan n2 n
    rw [e]; clear e n1 n2
    go_enter Try.func27, Try.ntmps27
    go_wp2_with (first | (go_at_call 28; refine (isinf0_any _ (by assumption) _).mono ?_; rintro e w' ⟨rfl, rfl⟩))
    go_ret
    exact ⟨rfl, 1, rfl⟩
  all_goals
    have k1 := run_valid (P := Try.prog) 25 k1
    have k2 := run_valid (P := Try.prog) 25 k2
    have k3 := run_valid (P := Try.prog) 25 k3
    have k4 := run_valid (P := Try.prog) 25 k4
    rw [e]; clear e
    go_enter Try.func27, Try.ntmps27
    go_wp2_with (first | (go_at_call 28; refine (isinf0_any _ (by assumption) _).mono ?_; rintro e w' ⟨rfl, rfl⟩))
    go_ret
    exact ⟨rfl, 0, rfl⟩
end Go.Proofs.Ytjbiklkjcalmkaa
