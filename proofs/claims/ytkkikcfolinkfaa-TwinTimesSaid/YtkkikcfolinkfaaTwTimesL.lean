/- The statement TwinTimes: the exact product. -/
import Derived.Test.YtkkikcfolinkfaaTwTimes
namespace Go.Proofs.Ytkkikcfolinkfaa
open Go Go.RowKit TF

attribute [local go_sem] cmp_eq cmp_ne cmp_lt cmp_gt cmp_le cmp_ge

theorem join' {w w1 w2 : World} (h1 : Below w.heap.size w w1) (h2 : Below w1.heap.size w1 w2) : Below w.heap.size w w2 := h1.trans (h2.mono h1.size)

/-- the machine's product, valid or not, in whatever world. -/
theorem mul_run (a b : Nat) : ∃ (f : World → Nat) (g : World → World), (∀ x, sameB (prodW a b).1 (canonW (f x)) = true) ∧ (∀ w0 x, Below w0.heap.size w0 x → Below w0.heap.size w0 (g x)) ∧
    ∀ x, (binOp .mul 24 (.float .f64 a) (.float .f64 b)).run Try.prog x = .ok (.float .f64 (f x)) (g x) := by
  rcases prod_first a b with ⟨r, k1, k2⟩ | ⟨k1, k2⟩
  · exact ⟨fun _ => r, fun x => x, fun _ => by rw [k2]; exact sameB_self _, fun _ _ h => h, run_valid (P := Try.prog) 24 k1⟩
  · obtain ⟨f, f1, k⟩ := run_nan 24 (.inr (.inr (.inl rfl))) k1
    exact ⟨f, World.drew, fun x => by rw [k2, f1]; exact sameB_self _, fun _ _ h => h.drew, k⟩

set_option maxRecDepth 100000 in
set_option maxHeartbeats 4000000 in
theorem twinTimes_walk (a b : Nat) (w : World) (ha : W64 a) (hb : W64 b) :
    Calls Try.prog 7 #[.float .f64 a, .float .f64 b] w fun e w' => e = .returned (.bool true) ∧ Below w.heap.size w w' := by
  have hI := INF_eq
  have p1 : sameB (canonW (prodW a b).1) (prodW a b).1 = true := by rw [(plain_prod a b).1]; exact sameB_self _
  have p2 : sameB (canonW (prodW a b).2) (prodW a b).2 = true := by rw [(plain_prod a b).2]; exact sameB_self _
  have hp64 := (prodW_lt a b).1
  have c1 := run_neg Try.prog hp64
  have c2 := run_neg Try.prog (show (9092767647661031424 : Nat) < 2 ^ 64 by decide)
  obtain ⟨f, g, k1, k2, k3⟩ := mul_run a b
  have K2 := Lib.hid k2
  clear k2
  obtain ⟨m, hm64, hsgn, hmag⟩ := size_cases hp64 (plain_prod a b).1
  obtain ⟨m1, -⟩ := hmag 243194379878006784 (by omega)
  obtain ⟨-, m2⟩ := hmag 9200854038717923328 (by omega)
  have wa := within_cases a (p := 9092767647661031424) (by omega)
  have wb := within_cases b (p := 9092767647661031424) (by omega)
  clear hmag
  by_cases hin : InW a b
  · obtain ⟨i1, i2, i3, i4⟩ := id hin
    obtain ⟨p, q1, q2⟩ := in_prod hin
    have PI := prod_is ha hb q1 q2
    have HT := Lib.hid (fun x => times_any a b (prodW a b).1 (prodW a b).2 x ha hb (prodW_lt a b).1 (prodW_lt a b).2 PI.fa PI.fb PI.fp PI.fe PI.all)
    rw [decide_eq_true (by omega : mg (prodW a b).1 ≤ INF), decide_eq_true i3, Bool.and_true] at m1
    rw [decide_eq_true (by omega : mg (prodW a b).1 ≤ INF), decide_eq_true i4, Bool.and_true] at m2
    rcases wa with ⟨-, a1, a2⟩ | ⟨h, -⟩
    · rcases wb with ⟨-, b1, b2⟩ | ⟨h, -⟩
      · clear PI q1 q2 i1 i2 i3 i4 hin
        rcases hsgn with ⟨s1, rfl⟩ | ⟨s1, rfl⟩
        all_goals
          go_enter Try.func7, Try.ntmps7
          go_wp2_with (first | (go_at_call 11; refine (awake_any _).mono ?_; rintro e w' ⟨rfl, rfl⟩) | (go_at_call 15; ((with_reducible refine (product_any a b ha hb _).mono ?_)); rintro e1 w1 ⟨rfl, n1, rfl⟩) | (go_at_call 19; ((with_reducible refine (plain_any _ _).mono ?_)); rintro e1 w' ⟨rfl, rfl⟩) | (go_at_call 20; ((with_reducible refine (rsame_any _ _ _).mono ?_)); rintro e1 w' ⟨rfl, rfl⟩) | (go_at_call 23; ((with_reducible refine (rbits_any _ _ rfl _).mono ?_)); rintro e1 w' ⟨rfl, rfl⟩) | (go_at_call 25; ((with_reducible refine (from_any _ _).mono ?_)); rintro e1 w' ⟨rfl, rfl⟩) | (go_at_call 27; ((with_reducible refine (HT.out _).mono ?_)); rintro e1 w3 ⟨rfl, hB3⟩) | (go_at_call 21; refine (canon_any _ _).mono ?_; rintro e w' ⟨rfl, rfl⟩))
          go_ret
          exact ⟨rfl, join' (K2.out _ _ (below_drewN w _)) hB3⟩
      · omega
    · omega
  · have e0 := prod_not (not_in hin)
    have e1 : ((prodW a b).2 : Int) = 0 := by omega
    have ways : ((ltW a 9092767647661031424 || eqW a 9092767647661031424) = false ∨ ((ltW a 9092767647661031424 || eqW a 9092767647661031424) = true ∧ (ltW (op 9092767647661031424) a || eqW a (op 9092767647661031424)) = false)) ∨
        ((ltW a 9092767647661031424 || eqW a 9092767647661031424) = true ∧ (ltW (op 9092767647661031424) a || eqW a (op 9092767647661031424)) = true ∧ ((ltW b 9092767647661031424 || eqW b 9092767647661031424) = false ∨ ((ltW b 9092767647661031424 || eqW b 9092767647661031424) = true ∧ (ltW (op 9092767647661031424) b || eqW b (op 9092767647661031424)) = false))) ∨
        ((ltW a 9092767647661031424 || eqW a 9092767647661031424) = true ∧ (ltW (op 9092767647661031424) a || eqW a (op 9092767647661031424)) = true ∧ (ltW b 9092767647661031424 || eqW b 9092767647661031424) = true ∧ (ltW (op 9092767647661031424) b || eqW b (op 9092767647661031424)) = true ∧ ((ltW 243194379878006784 m || eqW m 243194379878006784) = false ∨ ((ltW 243194379878006784 m || eqW m 243194379878006784) = true ∧ (ltW m 9200854038717923328 || eqW m 9200854038717923328) = false))) := by
      rcases wa with ⟨g1, a1, a2⟩ | ⟨-, h⟩
      · rcases wb with ⟨g2, b1, b2⟩ | ⟨-, h⟩
        · refine .inr (.inr ⟨a1, a2, b1, b2, ?_⟩)
          rw [m1, m2]
          by_cases c1 : mg (prodW a b).1 ≤ INF
          · rw [decide_eq_true c1, Bool.true_and, Bool.true_and]
            by_cases c3 : 243194379878006784 ≤ mg (prodW a b).1
            · by_cases c4 : mg (prodW a b).1 ≤ 9200854038717923328
              · exact absurd ⟨g1, g2, c3, c4⟩ hin
              · exact .inr ⟨decide_eq_true c3, decide_eq_false c4⟩
            · exact .inl (decide_eq_false c3)
          · rw [decide_eq_false c1]; exact .inl rfl
        · exact .inr (.inl ⟨a1, a2, h⟩)
      · exact .inl h
    clear wa wb m1 m2 hin e0
    rcases hsgn with ⟨s1, rfl⟩ | ⟨s1, rfl⟩
    all_goals
      rcases ways with (a1 | ⟨a1, a2⟩) | ⟨a1, a2, b1 | ⟨b1, b2⟩⟩ | ⟨a1, a2, b1, b2, g1 | ⟨g1, g2⟩⟩
      all_goals
        go_enter Try.func7, Try.ntmps7
        go_wp2_with (first | (go_at_call 11; refine (awake_any _).mono ?_; rintro e w' ⟨rfl, rfl⟩) | (go_at_call 15; ((with_reducible refine (product_any a b ha hb _).mono ?_)); rintro e1 w1 ⟨rfl, n1, rfl⟩) | (go_at_call 19; ((with_reducible refine (plain_any _ _).mono ?_)); rintro e1 w' ⟨rfl, rfl⟩) | (go_at_call 20; ((with_reducible refine (rsame_any _ _ _).mono ?_)); rintro e1 w' ⟨rfl, rfl⟩) | (go_at_call 23; ((with_reducible refine (rbits_any _ _ rfl _).mono ?_)); rintro e1 w' ⟨rfl, rfl⟩) | (go_at_call 25; ((with_reducible refine (from_any _ _).mono ?_)); rintro e1 w' ⟨rfl, rfl⟩) | (go_at_call 21; refine (canon_any _ _).mono ?_; rintro e w' ⟨rfl, rfl⟩))
        go_ret
        exact ⟨rfl, K2.out _ _ (below_drewN w _)⟩
end Go.Proofs.Ytkkikcfolinkfaa
