/- The statement LevelRises: order and signs of depths and levels. -/
import Derived.Test.YtjobpkomlgkakaaLevA
import Derived.Test.YtjobpkomlgkakaaOpenF
namespace Go.Proofs.Ytjobpkomlgkakaa
open Go Go.RowKit TF

attribute [local go_sem] cmp_eq cmp_ne cmp_lt cmp_gt cmp_le cmp_ge

/-- what the walk asks of the words. -/
structure RisesFacts (bed : Nat) (w1 a1 w2 a2 : Int) (d e f l m : Nat) : Prop where
  d0 : (ltW 0 d || eqW d 0) = true
  dgt : ltW 0 d = (decide (0 < w1) && decide (0 < a1))
  dm : ((d : Int) == 9223372036854775808) = false
  de : w1 ≤ w2 → (ltW d e || eqW d e) = true
  fd : 0 < a1 → a1 ≤ a2 → (ltW f d || eqW f d) = true
  nan : eqW bed bed = false → ((l : Int) == 9221120237041090561) = true
  lm : eqW bed bed = true → ((l : Int) != 9223372036854775808) = true
  lb : eqW bed bed = true → (ltW bed l || eqW l bed) = true
  lle : eqW bed bed = true → w1 ≤ w2 → (ltW l m || eqW l m) = true
  leq : eqW bed bed = true → ¬ (0 < w1 ∧ 0 < a1) → eqW l bed = true

theorem rises_facts {bed : Nat} {w1 a1 w2 a2 : Int} (h1 : w1 ≤ 9223372036854775807) (h2 : a1 ≤ 9223372036854775807) (h3 : w2 ≤ 9223372036854775807) (h4 : a2 ≤ 9223372036854775807) :
    RisesFacts bed w1 a1 w2 a2 (depthW w1 a1) (depthW w2 a1) (depthW w1 a2) (levelW bed w1 a1) (levelW bed w2 a1) := by
  have hI := INF_lt
  have hI' := INF_eq
  obtain ⟨d1, d2, d3, d4⟩ := depth_word w1 a1 h1 h2
  obtain ⟨e1, e2, e3, e4⟩ := depth_word w2 a1 h3 h2
  obtain ⟨f1, f2, f3, f4⟩ := depth_word w1 a2 h1 h4
  have rkp : ∀ {x : Nat}, ng x = false → mg x = x → rk x = x := fun hn hm => by unfold rk; rw [hn, hm]; rfl
  have nn : ∀ {x : Nat}, mg x < INF → isN x = false := fun h => isN_false.2 (by omega)
  have le_of : ∀ {x y : Nat}, isN x = false → isN y = false → rk x ≤ rk y → (ltW x y || eqW x y) = true := fun a b h => by
    rw [← le_or]; unfold leW; rw [a, b]; simpa using h
  have r0 : rk 0 = 0 := by decide
  have fin_e : ∀ {x y : Nat}, (ltW x y || eqW x y) = true → (ltW x y || eqW y x) = true := fun h => by rw [eq_comm' _ _]; exact h
  constructor
  · exact fin_e (le_of isN_zero (nn d1) (by rw [r0, rkp d2 d3]; omega))
  · rw [ltW_rk isN_zero (nn d1), r0, rkp d2 d3, ← Bool.decide_and, decide_eq_decide]; omega
  · have : depthW w1 a1 < 2 ^ 63 := by omega
    simp; omega
  · intro h; exact le_of (nn d1) (nn e1) (by rw [rkp d2 d3, rkp e2 e3]; have := depth_up (area := a1) h h3 h2; omega)
  · intro h5 h; exact le_of (nn f1) (nn d1) (by rw [rkp d2 d3, rkp f2 f3]; have := depth_down (water := w1) h h4 (by omega) h1; omega)
  · intro h
    rw [eqW_self] at h
    have hn : isN bed = true := by simpa using h
    rcases level_ways bed w1 a1 h1 h2 with ⟨-, -, e⟩ | ⟨g, -⟩
    · rw [e]; rfl
    · rw [g] at hn; exact absurd hn (by decide)
  all_goals
    intro h
    rw [eqW_self] at h
    have hn : isN bed = false := by simpa using h
    have L := lev_is hn h1 h2
  · have := L.notM; simp; omega
  · refine fin_e (le_of hn L.notN ?_)
    by_cases hb : mg bed < INF
    · rw [L.rkf hb, ← rkI_iv hb]; exact rkI_mono (by omega)
    · rw [L.rki hb]; exact Int.le_refl _
  · intro hw
    have L2 := lev_is hn h3 h2
    refine le_of L.notN L2.notN ?_
    by_cases hb : mg bed < INF
    · rw [L.rkf hb, L2.rkf hb]
      refine rkI_mono ?_
      have := V_le (depth_up (area := a1) hw h3 h2)
      omega
    · rw [L.rki hb, L2.rki hb]; exact Int.le_refl _
  · intro hz
    rw [eqW_rk L.notN hn]
    refine decide_eq_true ?_
    by_cases hb : mg bed < INF
    · rw [L.rkf hb, depth_zero (by omega), V_zero, ← rkI_iv hb]; simp
    · exact L.rki hb

set_option maxHeartbeats 4000000 in
theorem levelRises_walk (bed : Nat) (w1 a1 : Int) (level : Nat) (w2 a2 : Int) (w : World) (_ : W64 bed) (hw1 : (Lit.int .i64 w1).wf = true) (hwa1 : (Lit.int .i64 a1).wf = true) (_ : W64 level) (hw2 : (Lit.int .i64 w2).wf = true) (hwa2 : (Lit.int .i64 a2).wf = true) :
    Calls Try.prog 4 #[.agg #[.float .f64 bed, .int .i64 w1, .int .i64 a1, .float .f64 level], .int .i64 w2, .int .i64 a2] w fun e w' => e = .returned (.bool true) ∧ Below w.heap.size w w' := by
  have h1 := int_hi hw1
  have h2 := int_hi hwa1
  have h3 := int_hi hw2
  have h4 := int_hi hwa2
  have R := rises_facts (bed := bed) h1 h2 h3 h4
  clear hw1 hwa1 hw2 hwa2
  obtain ⟨d, hd⟩ : ∃ F, F = depthW w1 a1 := ⟨_, rfl⟩
  obtain ⟨e, he⟩ : ∃ F, F = depthW w2 a1 := ⟨_, rfl⟩
  obtain ⟨f, hf⟩ : ∃ F, F = depthW w1 a2 := ⟨_, rfl⟩
  obtain ⟨l, hl⟩ : ∃ F, F = levelW bed w1 a1 := ⟨_, rfl⟩
  obtain ⟨m, hm⟩ : ∃ F, F = levelW bed w2 a1 := ⟨_, rfl⟩
  rw [← hd, ← he, ← hf, ← hl, ← hm] at R
  have D1 := Lib.hid fun w => (by rw [hd]; exact depth_any w1 a1 h1 h2 w : Calls Try.prog 9 #[.int .i64 w1, .int .i64 a1] w fun e w' => e = .returned (.float .f64 d) ∧ w = w')
  have D2 := Lib.hid fun w => (by rw [he]; exact depth_any w2 a1 h3 h2 w : Calls Try.prog 9 #[.int .i64 w2, .int .i64 a1] w fun e' w' => e' = .returned (.float .f64 e) ∧ w = w')
  have D3 := Lib.hid fun w => (by rw [hf]; exact depth_any w1 a2 h1 h4 w : Calls Try.prog 9 #[.int .i64 w1, .int .i64 a2] w fun e w' => e = .returned (.float .f64 f) ∧ w = w')
  have L1 := Lib.hid fun w => (by rw [hl]; exact level_any bed w1 a1 h1 h2 w : Calls Try.prog 11 #[.float .f64 bed, .int .i64 w1, .int .i64 a1] w fun e w' => e = .returned (.float .f64 l) ∧ ∃ n, w' = w.drewN n)
  have L2 := Lib.hid fun w => (by rw [hm]; exact level_any bed w2 a1 h3 h2 w : Calls Try.prog 11 #[.float .f64 bed, .int .i64 w2, .int .i64 a1] w fun e w' => e = .returned (.float .f64 m) ∧ ∃ n, w' = w.drewN n)
  obtain ⟨dn, hdn⟩ : ∃ n : Int, n = d := ⟨_, rfl⟩
  obtain ⟨ln, hln⟩ : ∃ n : Int, n = l := ⟨_, rfl⟩
  have BD := Lib.hid fun w => rbits_any d dn hdn w
  have BL := Lib.hid fun w => rbits_any l ln hln w
  obtain ⟨r1, r2, r3, r4, r5, r6, r7, r8, r9, r10⟩ := R
  rw [← hdn] at r3
  rw [← hln] at r6 r7
  clear hd he hf hl hm h1 h2 h3 h4 hdn hln
  cases c1 : eqW bed bed
  · have q6 := r6 c1
    clear r6 r7 r8 r9 r10
    by_cases c3 : 0 < a1
    · by_cases c2 : 0 < w1 <;> by_cases c4 : w1 ≤ w2 <;> by_cases c5 : a1 ≤ a2
      all_goals
        simp only [c2, c3, decide_true, decide_false, Bool.and_self, Bool.and_true] at r2
        try (rw [r2, Bool.false_or] at r1)
        try (have q4 := r4 c4)
        try (have q5 := r5 c3 c5)
        clear r4 r5
        go_enter Try.func4, Try.ntmps4
        go_wp2_with (first | (go_at_call 7; ((with_reducible refine (awake_any _).mono ?_)); rintro e w' ⟨rfl, n0, rfl⟩) | (go_at_call 9; (first | ((with_reducible refine (D1.out _).mono ?_)) | ((with_reducible refine (D2.out _).mono ?_)) | ((with_reducible refine (D3.out _).mono ?_))); rintro e w' ⟨rfl, rfl⟩) | (go_at_call 11; (first | ((with_reducible refine (L1.out _).mono ?_)) | ((with_reducible refine (L2.out _).mono ?_))); rintro e w' ⟨rfl, n1, rfl⟩) | (go_at_call 15; ((with_reducible refine (BD.out _).mono ?_)); rintro e w' ⟨rfl, rfl⟩) | (go_at_call 15; ((with_reducible refine (BL.out _).mono ?_)); rintro e w' ⟨rfl, rfl⟩))
        go_ret
        exact ⟨rfl, below_box _ _ _⟩
    · clear r5
      by_cases c2 : 0 < w1 <;> by_cases c4 : w1 ≤ w2
      all_goals
        simp only [c3, decide_false, Bool.and_false] at r2
        rw [r2, Bool.false_or] at r1
        try (have q4 := r4 c4)
        clear r4
        go_enter Try.func4, Try.ntmps4
        go_wp2_with (first | (go_at_call 7; ((with_reducible refine (awake_any _).mono ?_)); rintro e w' ⟨rfl, n0, rfl⟩) | (go_at_call 9; (first | ((with_reducible refine (D1.out _).mono ?_)) | ((with_reducible refine (D2.out _).mono ?_)) | ((with_reducible refine (D3.out _).mono ?_))); rintro e w' ⟨rfl, rfl⟩) | (go_at_call 11; (first | ((with_reducible refine (L1.out _).mono ?_)) | ((with_reducible refine (L2.out _).mono ?_))); rintro e w' ⟨rfl, n1, rfl⟩) | (go_at_call 15; ((with_reducible refine (BD.out _).mono ?_)); rintro e w' ⟨rfl, rfl⟩) | (go_at_call 15; ((with_reducible refine (BL.out _).mono ?_)); rintro e w' ⟨rfl, rfl⟩))
        go_ret
        exact ⟨rfl, below_box _ _ _⟩
  · have q7 := r7 c1
    have q8 := r8 c1
    have r9' := r9 c1
    have r10' := r10 c1
    clear r6 r7 r8 r9 r10
    by_cases c3 : 0 < a1
    · by_cases c2 : 0 < w1 <;> by_cases c4 : w1 ≤ w2 <;> by_cases c5 : a1 ≤ a2
      all_goals
        simp only [c2, c3, decide_true, decide_false, Bool.and_self, Bool.and_true] at r2
        try (rw [r2, Bool.false_or] at r1)
        try (have q4 := r4 c4)
        try (have q9 := r9' c4)
        try (have q5 := r5 c3 c5)
        try (have q10 := r10' (fun h => c2 h.1))
        clear r4 r5 r9' r10'
        go_enter Try.func4, Try.ntmps4
        go_wp2_with (first | (go_at_call 7; ((with_reducible refine (awake_any _).mono ?_)); rintro e w' ⟨rfl, n0, rfl⟩) | (go_at_call 9; (first | ((with_reducible refine (D1.out _).mono ?_)) | ((with_reducible refine (D2.out _).mono ?_)) | ((with_reducible refine (D3.out _).mono ?_))); rintro e w' ⟨rfl, rfl⟩) | (go_at_call 11; (first | ((with_reducible refine (L1.out _).mono ?_)) | ((with_reducible refine (L2.out _).mono ?_))); rintro e w' ⟨rfl, n1, rfl⟩) | (go_at_call 15; ((with_reducible refine (BD.out _).mono ?_)); rintro e w' ⟨rfl, rfl⟩) | (go_at_call 15; ((with_reducible refine (BL.out _).mono ?_)); rintro e w' ⟨rfl, rfl⟩))
        go_ret
        exact ⟨rfl, below_box _ _ _⟩
    · clear r5
      have q10 := r10' (fun h => c3 h.2)
      clear r10'
      by_cases c2 : 0 < w1 <;> by_cases c4 : w1 ≤ w2
      all_goals
        simp only [c3, decide_false, Bool.and_false] at r2
        rw [r2, Bool.false_or] at r1
        try (have q4 := r4 c4)
        try (have q9 := r9' c4)
        clear r4 r9'
        go_enter Try.func4, Try.ntmps4
        go_wp2_with (first | (go_at_call 7; ((with_reducible refine (awake_any _).mono ?_)); rintro e w' ⟨rfl, n0, rfl⟩) | (go_at_call 9; (first | ((with_reducible refine (D1.out _).mono ?_)) | ((with_reducible refine (D2.out _).mono ?_)) | ((with_reducible refine (D3.out _).mono ?_))); rintro e w' ⟨rfl, rfl⟩) | (go_at_call 11; (first | ((with_reducible refine (L1.out _).mono ?_)) | ((with_reducible refine (L2.out _).mono ?_))); rintro e w' ⟨rfl, n1, rfl⟩) | (go_at_call 15; ((with_reducible refine (BD.out _).mono ?_)); rintro e w' ⟨rfl, rfl⟩) | (go_at_call 15; ((with_reducible refine (BL.out _).mono ?_)); rintro e w' ⟨rfl, rfl⟩))
        go_ret
        exact ⟨rfl, below_box _ _ _⟩
end Go.Proofs.Ytjobpkomlgkakaa
