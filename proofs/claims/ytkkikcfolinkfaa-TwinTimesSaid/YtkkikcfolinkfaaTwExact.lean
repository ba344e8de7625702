/- The statement TwinExact: the exact sum. -/
import Derived.Test.YtkkikcfolinkfaaTwP
import Derived.Test.YtkkikcfolinkfaaTwinE1
namespace Go.Proofs.Ytkkikcfolinkfaa
open Go Go.RowKit TF

attribute [local go_sem] cmp_eq cmp_ne cmp_lt cmp_gt cmp_le cmp_ge

theorem run_nan {o : BinOp} (t : TypeId) {x y : Nat} (ho : o = .add ∨ o = .sub ∨ o = .mul ∨ o = .quo) (h : floatBits o .f64 x y = none) :
    ∃ f : World → Nat, (∀ w, canonW (f w) = 9221120237041090561) ∧ ∀ w, (binOp o t (.float .f64 x) (.float .f64 y)).run Try.prog w = .ok (.float .f64 (f w)) w.drew := by
  have k := fun w => run_invalid (P := Try.prog) t ho h w
  exact ⟨fun w => Classical.choose (k w), fun w => canonW_nan (Classical.choose_spec (k w)).2.1, fun w => (Classical.choose_spec (k w)).2.2⟩
theorem below_drewN (w : World) (n : Nat) : Below w.heap.size w (w.drewN n) := by
  induction n with
  | zero => exact Below.refl _ _
  | succ n ih => exact ih.drew
theorem fin_dec (x : Nat) : decide (mg x < INF ∨ INF + 4503599627370496 ≤ mg x) = decide (mg x < INF) := by
  have hI := INF_eq
  have := mg_lt x
  rw [decide_eq_decide]
  omega

set_option maxRecDepth 100000 in
set_option maxHeartbeats 4000000 in
theorem twinExact_walk (a b : Nat) (w : World) (ha : W64 a) (hb : W64 b) :
    Calls Try.prog 5 #[.float .f64 a, .float .f64 b] w fun e w' => e = .returned (.bool true) ∧ Below w.heap.size w w' := by
  have p1 : sameB (canonW (sumW a b).1) (sumW a b).1 = true := by rw [(plain_sum a b).1]; exact sameB_self _
  have p2 : sameB (canonW (sumW a b).2) (sumW a b).2 = true := by rw [(plain_sum a b).2]; exact sameB_self _
  have hd := fin_dec (sumW a b).1
  by_cases hfin : mg (sumW a b).1 < INF
  · have hd2 : decide (mg (sumW a b).1 < INF) = true := by simp [hfin]
    have SI := sum_is hfin
    have HEQ := Lib.hid (fun x => equal_any a b (sumW a b).1 (sumW a b).2 x ha hb (sumW_lt a b).1 (sumW_lt a b).2 SI.fa SI.fb SI.fs SI.fe SI.all)
    have hs2 : ∀ x : World, Calls Try.prog 12 #[.float .f64 (sumW a b).1, .float .f64 (sumW a b).2] x fun e w' => e = .returned (.tuple #[.float .f64 (sumW a b).1, .float .f64 (sumW a b).2]) ∧ ∃ n, w' = x.drewN n := fun x => by
      have h := sum_any (sumW a b).1 (sumW a b).2 (sumW_lt a b).1 (sumW_lt a b).2 x
      rw [SI.again] at h
      exact h
    have HS2 := Lib.hid hs2
    have q1 := sameB_self (sumW a b).1
    have q2 := sameB_self (sumW a b).2
    clear hs2 SI
    rcases sum_first a b with ⟨r, k1, k2⟩ | ⟨k1, k2⟩
    · have k := run_valid (P := Try.prog) 24 k1
      have k3 : sameB (sumW a b).1 (canonW r) = true := by rw [k2]; exact sameB_self _
      clear k1 k2 hfin
      go_enter Try.func5, Try.ntmps5
      go_wp2_with (first | (go_at_call 11; refine (awake_any _).mono ?_; rintro e w' ⟨rfl, rfl⟩) | (go_at_call 12; ((with_reducible refine (sum_any a b ha hb _).mono ?_)); rintro e1 w1 ⟨rfl, n1, rfl⟩) | (go_at_call 12; ((with_reducible refine (HS2.out _).mono ?_)); rintro e1 w2 ⟨rfl, n2, rfl⟩) | (go_at_call 19; ((with_reducible refine (plain_any _ _).mono ?_)); rintro e1 w' ⟨rfl, rfl⟩) | (go_at_call 20; ((with_reducible refine (rsame_any _ _ _).mono ?_)); rintro e1 w' ⟨rfl, rfl⟩) | (go_at_call 22; ((with_reducible refine (wfin_any _ _).mono ?_)); rintro e1 w' ⟨rfl, rfl⟩) | (go_at_call 23; ((with_reducible refine (rbits_any _ _ rfl _).mono ?_)); rintro e1 w' ⟨rfl, rfl⟩) | (go_at_call 24; ((with_reducible refine (HEQ.out _).mono ?_)); rintro e1 w3 ⟨rfl, hB3⟩) | (go_at_call 14; ((with_reducible refine (same_any _ _ _ _ _).mono ?_)); rintro e1 w' ⟨rfl, rfl⟩) | (go_at_call 21; refine (canon_any _ _).mono ?_; rintro e w' ⟨rfl, rfl⟩))
      go_ret
      exact ⟨rfl, (below_drewN w _).trans hB3⟩
    · exact absurd hfin (by rw [k2]; decide)
  · have hd2 : decide (mg (sumW a b).1 < INF) = false := by simp [hfin]
    have h0 := sum_infinite hfin
    have h0' : ((sumW a b).2 : Int) = 0 := by omega
    have hp2 : sameB (canonW (sumW a b).2) (sumW a b).2 = true := p2
    rcases sum_first a b with ⟨r, k1, k2⟩ | ⟨k1, k2⟩
    · have k := run_valid (P := Try.prog) 24 k1
      have k3 : sameB (sumW a b).1 (canonW r) = true := by rw [k2]; exact sameB_self _
      clear k1 k2 hfin h0
      go_enter Try.func5, Try.ntmps5
      go_wp2_with (first | (go_at_call 11; refine (awake_any _).mono ?_; rintro e w' ⟨rfl, rfl⟩) | (go_at_call 12; ((with_reducible refine (sum_any a b ha hb _).mono ?_)); rintro e1 w1 ⟨rfl, n1, rfl⟩) | (go_at_call 19; ((with_reducible refine (plain_any _ _).mono ?_)); rintro e1 w' ⟨rfl, rfl⟩) | (go_at_call 20; ((with_reducible refine (rsame_any _ _ _).mono ?_)); rintro e1 w' ⟨rfl, rfl⟩) | (go_at_call 22; ((with_reducible refine (wfin_any _ _).mono ?_)); rintro e1 w' ⟨rfl, rfl⟩) | (go_at_call 23; ((with_reducible refine (rbits_any _ _ rfl _).mono ?_)); rintro e1 w' ⟨rfl, rfl⟩) | (go_at_call 21; refine (canon_any _ _).mono ?_; rintro e w' ⟨rfl, rfl⟩))
      go_ret
      exact ⟨rfl, below_drewN w _⟩
    · obtain ⟨f, f1, k⟩ := run_nan 24 (.inl rfl) k1
      have k3 : ∀ x, sameB (sumW a b).1 (canonW (f x)) = true := fun x => by rw [k2, f1]; exact sameB_self _
      clear k1 k2 hfin h0 f1
      go_enter Try.func5, Try.ntmps5
      go_wp2_with (first | (go_at_call 11; refine (awake_any _).mono ?_; rintro e w' ⟨rfl, rfl⟩) | (go_at_call 12; ((with_reducible refine (sum_any a b ha hb _).mono ?_)); rintro e1 w1 ⟨rfl, n1, rfl⟩) | (go_at_call 19; ((with_reducible refine (plain_any _ _).mono ?_)); rintro e1 w' ⟨rfl, rfl⟩) | (go_at_call 20; ((with_reducible refine (rsame_any _ _ _).mono ?_)); rintro e1 w' ⟨rfl, rfl⟩) | (go_at_call 22; ((with_reducible refine (wfin_any _ _).mono ?_)); rintro e1 w' ⟨rfl, rfl⟩) | (go_at_call 23; ((with_reducible refine (rbits_any _ _ rfl _).mono ?_)); rintro e1 w' ⟨rfl, rfl⟩) | (go_at_call 21; refine (canon_any _ _).mono ?_; rintro e w' ⟨rfl, rfl⟩))
      go_ret
      exact ⟨rfl, (below_drewN w _).drew⟩
end Go.Proofs.Ytkkikcfolinkfaa
