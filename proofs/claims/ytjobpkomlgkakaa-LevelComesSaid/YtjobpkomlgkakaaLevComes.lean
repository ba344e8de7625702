/- The statement LevelComes: a filled cell comes near its level. -/
import Derived.Test.YtjobpkomlgkakaaLevA
import Derived.Test.YtjobpkomlgkakaaLevD
import Derived.Test.YtjobpkomlgkakaaOpenG
import Derived.Deep.RegionHeld3
import Derived.BigQuiet
namespace Go.Proofs.Ytjobpkomlgkakaa
open Go Go.RowKit TF

attribute [local go_sem] cmp_eq cmp_ne cmp_lt cmp_gt cmp_le cmp_ge

set_option maxHeartbeats 4000000 in
theorem levelComes_walk (bed : Nat) (water area : Int) (level : Nat) (w : World) (hb : W64 bed) (_ : (Lit.int .i64 water).wf = true) (hwa : (Lit.int .i64 area).wf = true) (hl : W64 level) :
    Calls Try.prog 6 #[.agg #[.float .f64 bed, .int .i64 water, .int .i64 area, .float .f64 level]] w fun e w' => e = .returned (.bool true) ∧ Below w.heap.size w w' := by
  have ha := int_hi hwa
  clear hwa
  cases c1 : (ltW 13920626448202203136 bed || eqW bed 13920626448202203136)
  · clear hb hl ha
    go_enter Try.func6, Try.ntmps6
    go_wp2_with (first | (go_at_call 7; ((with_reducible refine (awake_any _).mono ?_)); rintro e w' ⟨rfl, n0, rfl⟩))
    go_ret
    exact ⟨rfl, below_box _ _ _⟩
  cases c2 : (ltW bed 4697254411347427328 || eqW bed 4697254411347427328)
  · clear hb hl ha
    go_enter Try.func6, Try.ntmps6
    go_wp2_with (first | (go_at_call 7; ((with_reducible refine (awake_any _).mono ?_)); rintro e w' ⟨rfl, n0, rfl⟩))
    go_ret
    exact ⟨rfl, below_box _ _ _⟩
  cases c3 : (ltW 13920626448202203136 level || eqW level 13920626448202203136)
  · clear hb hl ha
    go_enter Try.func6, Try.ntmps6
    go_wp2_with (first | (go_at_call 7; ((with_reducible refine (awake_any _).mono ?_)); rintro e w' ⟨rfl, n0, rfl⟩))
    go_ret
    exact ⟨rfl, below_box _ _ _⟩
  cases c4 : (ltW level 4697254411347427328 || eqW level 4697254411347427328)
  · clear hb hl ha
    go_enter Try.func6, Try.ntmps6
    go_wp2_with (first | (go_at_call 7; ((with_reducible refine (awake_any _).mono ?_)); rintro e w' ⟨rfl, n0, rfl⟩))
    go_ret
    exact ⟨rfl, below_box _ _ _⟩
  by_cases c5 : area < 1
  · clear hb hl ha
    go_enter Try.func6, Try.ntmps6
    go_wp2_with (first | (go_at_call 7; ((with_reducible refine (awake_any _).mono ?_)); rintro e w' ⟨rfl, n0, rfl⟩))
    go_ret
    exact ⟨rfl, below_box _ _ _⟩
  by_cases c6 : 2147483648 < area
  · clear hb hl ha
    go_enter Try.func6, Try.ntmps6
    go_wp2_with (first | (go_at_call 7; ((with_reducible refine (awake_any _).mono ?_)); rintro e w' ⟨rfl, n0, rfl⟩))
    go_ret
    exact ⟨rfl, below_box _ _ _⟩
  obtain ⟨F, hF⟩ : ∃ F, F = fillW bed area level := ⟨_, rfl⟩
  have K1 := Lib.hid fun w => (by rw [hF]; exact fill_any bed area level hb ha w : Calls Try.prog 13 #[.float .f64 bed, .int .i64 area, .float .f64 level] w fun e w' => e = .returned (.int .i64 F) ∧ w = w')
  have hFb := fill_bound bed area level
  rw [← hF] at hFb
  by_cases c7 : F = 0
  · clear hb hl ha hF
    subst c7
    clear hFb
    go_enter Try.func6, Try.ntmps6
    go_wp2_with (first | (go_at_call 7; ((with_reducible refine (awake_any _).mono ?_)); rintro e w' ⟨rfl, n0, rfl⟩) | (go_at_call 13; ((with_reducible refine (K1.out _).mono ?_)); rintro e w' ⟨rfl, rfl⟩))
    go_ret
    exact ⟨rfl, below_box _ _ _⟩
  by_cases c8 : F = 4503599627370496
  · clear hb hl ha hF
    subst c8
    clear hFb c7
    go_enter Try.func6, Try.ntmps6
    go_wp2_with (first | (go_at_call 7; ((with_reducible refine (awake_any _).mono ?_)); rintro e w' ⟨rfl, n0, rfl⟩) | (go_at_call 13; ((with_reducible refine (K1.out _).mono ?_)); rintro e w' ⟨rfl, rfl⟩))
    go_ret
    exact ⟨rfl, below_box _ _ _⟩
  obtain ⟨l, hl'⟩ : ∃ F', F' = levelW bed F area := ⟨_, rfl⟩
  obtain ⟨r, i, s, s1, s2, s3, s4, s5, s6⟩ := comes_ways hl (height_is c1 c2) (height_is c3 c4) (by omega : 1 ≤ area) (by omega) (by rw [← hF]; exact c7) (by rw [← hF]; exact c8)
  rw [← hF, ← hl'] at s1
  have KB := box4 (.float .f64 bed) (.int .i64 water) (.int .i64 area) (.float .f64 level) 26 w
  have K2 := Lib.hid fun (x : World) (hx : Below (w.alloc (.cells #[.float .f64 bed, .int .i64 water, .int .i64 area, .float .f64 level] 26)).heap.size (w.alloc (.cells #[.float .f64 bed, .int .i64 water, .int .i64 area, .float .f64 level] 26)) x) =>
    (((by rw [hl']; exact level_any bed F area (by omega) ha x : Calls Try.prog 11 #[.float .f64 bed, .int .i64 F, .int .i64 area] x fun e w' => e = .returned (.float .f64 l) ∧ ∃ n, w' = x.drewN n)).mono (fun e w' ⟨h1, n, h2⟩ => ⟨h1, by rw [h2]; exact dn_below hx n⟩) :
      Calls Try.prog 11 #[.float .f64 bed, .int .i64 F, .int .i64 area] x fun e w' => e = .returned (.float .f64 l) ∧ Below (w.alloc (.cells #[.float .f64 bed, .int .i64 water, .int .i64 area, .float .f64 level] 26)).heap.size (w.alloc (.cells #[.float .f64 bed, .int .i64 water, .int .i64 area, .float .f64 level] 26)) w')
  have KEEP := Lib.hid fun (x : World) (hx : Below (w.alloc (.cells #[.float .f64 bed, .int .i64 water, .int .i64 area, .float .f64 level] 26)).heap.size (w.alloc (.cells #[.float .f64 bed, .int .i64 water, .int .i64 area, .float .f64 level] 26)) x) =>
    (⟨(KB x hx).1, (KB x hx).2.2.1, (KB x hx).2.2.2, hx⟩ : x.cell? ⟨w.heap.size, 0, none⟩ = some (.float .f64 bed) ∧ x.cell? ⟨w.heap.size, 2, none⟩ = some (.int .i64 area) ∧ x.cell? ⟨w.heap.size, 3, none⟩ = some (.float .f64 level) ∧ Below (w.alloc (.cells #[.float .f64 bed, .int .i64 water, .int .i64 area, .float .f64 level] 26)).heap.size (w.alloc (.cells #[.float .f64 bed, .int .i64 water, .int .i64 area, .float .f64 level] 26)) x)
  have KB := Lib.hid KB
  have k1 := run_valid (P := Try.prog) 24 s1
  have k2 := run_valid (P := Try.prog) 24 s2
  have k3 := run_valid (P := Try.prog) 24 s3
  have k4 := run_neg Try.prog s4
  have q7 : (F == 0) = false := by simpa using c7
  have q8 : (F == 4503599627370496) = false := by simpa using c8
  clear hb hl ha hF hl' s1 s2 s3 s4
  go_enter Try.func6, Try.ntmps6
  go_wp2_with (first | (go_at_call 7; ((with_reducible refine (awake_any _).mono ?_)); rintro e w' ⟨rfl, n0, rfl⟩) | (go_at_call 13; ((with_reducible refine (K1.out _).mono ?_)); rintro e w' ⟨rfl, rfl⟩))
  have hB0 := dn_below (Below.refl (w.alloc (.cells #[.float .f64 bed, .int .i64 water, .int .i64 area, .float .f64 level] 26)).heap.size (w.alloc (.cells #[.float .f64 bed, .int .i64 water, .int .i64 area, .float .f64 level] 26))) n0
  obtain ⟨w1, hw1⟩ : ∃ x : World, x = (w.alloc (.cells #[.float .f64 bed, .int .i64 water, .int .i64 area, .float .f64 level] 26)).drewN n0 := ⟨_, rfl⟩
  rw [← hw1] at hB0 ⊢
  clear hw1
  obtain ⟨z0, z1, z2, -⟩ := KEEP.out _ hB0
  go_region_held3 (fun x => x.cell? ⟨w.heap.size, 0, none⟩ = some (.float .f64 bed) ∧ x.cell? ⟨w.heap.size, 2, none⟩ = some (.int .i64 area) ∧ x.cell? ⟨w.heap.size, 3, none⟩ = some (.float .f64 level) ∧ Below (w.alloc (.cells #[.float .f64 bed, .int .i64 water, .int .i64 area, .float .f64 level] 26)).heap.size (w.alloc (.cells #[.float .f64 bed, .int .i64 water, .int .i64 area, .float .f64 level] 26)) x)
    (first | exact KEEP.out _ (by assumption) | exact KEEP.out _ (Below.drew (by assumption)) | go_keep)
    (first | (go_at_call 11; ((with_reducible refine (K2.out _ (by first | assumption | exact Below.drew (by assumption))).mono ?_)); rintro e w' ⟨rfl, hB⟩))
  go_wp2
  go_ret
  exact ⟨rfl, past_box (by assumption)⟩
end Go.Proofs.Ytjobpkomlgkakaa
