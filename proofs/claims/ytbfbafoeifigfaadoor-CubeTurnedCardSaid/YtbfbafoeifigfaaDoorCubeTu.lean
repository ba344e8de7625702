/- The statement CubeTurned: turns keep what lies beside. -/
import Derived.Test.YtbfbafoeifigfaaDoorCubeZ
namespace Go.Proofs.YtbfbafoeifigfaaDoor
open Go.RowKit TF

/-- Of a turned cell. -/
structure OtherAt (n t oc c x z : Int) : Prop where
  two : (oc = c ∧ z = x) ∨ (((oc : Int) == c) = false ∧ ((z : Int) == x) = false)

theorem turned_pack {n c so tn : Int} (h1 : 1 ≤ n) (h2 : n ≤ 32) (hc0 : 0 ≤ c) (hc1 : c < 6 * n * n) (hs0 : 0 ≤ so) (hs1 : so < 4) (ht0 : 0 ≤ tn) (ht1 : tn < 24) :
    ∃ d b x q y p : Int, BesideAt n c so d b ∧ TurnAt n tn c x q ∧ TurnAt n tn d y p ∧ BesideAt n x ((so + q) % 4) y ((b + p) % 4) ∧ TurnAt n 0 c c 0 ∧ 0 ≤ x ∧ x < 6 * n * n ∧ 0 ≤ q ∧ q ≤ 3 ∧ 0 ≤ b ∧ b ≤ 3 ∧ 0 ≤ p ∧ p ≤ 3 ∧
      Hid (∀ oc : Int, 0 ≤ oc → oc < 6 * n * n → ∃ z pz : Int, TurnAt n tn oc z pz ∧ OtherAt n tn oc c x z) := by
  obtain ⟨f, i, j, hO, rfl⟩ := on_of h1 h2 hc0 hc1
  obtain ⟨s, rfl⟩ : ∃ s : Nat, so = s := ⟨so.toNat, by omega⟩
  obtain ⟨t, rfl⟩ : ∃ t : Nat, tn = t := ⟨tn.toNat, by omega⟩
  have hs : s < 4 := by omega
  have ht : t < 24 := by omega
  obtain ⟨hB, hW, hS, -⟩ := b_on hO hs
  have hU := u_on hO ht
  have q1 := (turn_face t ht f hO.f6).2.1
  have q2 := (turn_face t ht _ hB.f6).2.1
  have hb : bS n f s i j < 4 := by rw [hS]; omega
  obtain ⟨e1, e2, e3, e4⟩ := beside_turned hO hs ht
  have z0 := turn_none' hO
  refine ⟨_, _, _, _, _, _, besideAt hO hs, turnAt hO ht, turnAt hB ht, ?_, ?_, hU.bound.1, hU.bound.2, by omega, by omega, by omega, by omega, by omega, by omega, Lib.hid ?_⟩
  · have := besideAt hU (show (s + tQ t f) % 4 < 4 by omega)
    rw [e1, e2, e3, e4] at this
    rw [show ((s : Int) + (tQ t f : Nat)) % 4 = (((s + tQ t f) % 4 : Nat) : Int) from by omega, show (((bS n f s i j : Nat) : Int) + (tQ t (bF n f s i j) : Nat)) % 4 = (((bS n f s i j + tQ t (bF n f s i j)) % 4 : Nat) : Int) from by omega]
    exact this
  · have := turnAt hO (t := 0) (by omega)
    rw [z0.1, z0.2] at this
    exact this
  · intro oc o0 o1
    obtain ⟨g, k, l, hG, rfl⟩ := on_of h1 h2 o0 o1
    refine ⟨_, _, turnAt hG ht, ⟨?_⟩⟩
    by_cases he : cellN n g k l = cellN n f i j
    · left
      obtain ⟨rfl, rfl, rfl⟩ := cellN_inj hG hO he
      exact ⟨rfl, rfl⟩
    · right
      have hne : cellN n (tF t g) (uX n t g k l) (uY n t g k l) ≠ cellN n (tF t f) (uX n t f i j) (uY n t f i j) := fun h => he (turned_inj hG hO ht h)
      exact ⟨by simpa using he, by simpa using hne⟩

set_option maxRecDepth 100000 in
set_option maxHeartbeats 4000000 in
theorem cubeTurned_walk (a0 a1 a2 a3 a4 a5 a6 a7 : Int) (w : World) (hF : Fr w) :
    Calls Tryd.prog 9 #[.agg #[.int .i64 a0, .int .i64 a1, .int .i64 a2, .int .i64 a3, .int .i64 a4, .int .i64 a5, .int .i64 a6, .int .i64 a7]] w fun e w' => e = .returned (.bool true) ∧ Below w.heap.size w w' := by
  have hsz := hF.size
  go_enter Tryd.func9, Tryd.ntmps9
  go_wp2_with (first | (go_at_call 11; ((with_reducible refine (belD (B := w.heap.size) (w := w) (awake_any _ (hF.below (bel1 _ _))) (bel1 _ _) (Nat.le_refl _)).mono ?_)); rintro e w1 ⟨rfl, hB0, hR⟩; obtain ⟨hc, hf⟩ := bcell hR; have hF1 := hF.below hB0; have hB := Below.refl w1.heap.size w1; have hlt : w.heap.size < w1.heap.size := (box_lt hR)) | (go_at_call 24; ((with_reducible refine (within_any _ 32 (by omega) (by omega) _).mono ?_)); rintro e w2 ⟨r, hr0, hr1, rfl, rfl⟩; obtain ⟨q1, q2⟩ := six_bd hr0 hr1) | (go_at_call 24; ((with_reducible refine (within_any _ (6 * (1 + r) * (1 + r)) q1 (by omega) _).mono ?_)); rintro e w2 ⟨c, hc0, hc1, rfl, rfl⟩) | (go_at_call 24; ((with_reducible refine (within_any _ 4 (by omega) (by omega) _).mono ?_)); rintro e w2 ⟨so, hs0, hs1, rfl, rfl⟩) | (go_at_call 24; ((with_reducible refine (within_any _ 24 (by omega) (by omega) _).mono ?_)); rintro e w2 ⟨tn, ht0, ht1, rfl, rfl⟩))
  obtain ⟨d, b, x, q, y, p, BE, T1, T2, BN, T4, x0, x1, q0, q3, b0, b3, p0, p3, HT⟩ := turned_pack (n := 1 + r) (c := c) (so := so) (tn := tn) (by omega) (by omega) hc0 hc1 hs0 hs1 ht0 ht1
  have q1' : 1 ≤ 6 * (1 + r) * (1 + r) := q1
  go_wp2_with (first | (go_at_call 20; ((with_reducible refine (belC (B := w1.heap.size) (w := w1) (BE.out _ (hF1.below (by with_reducible assumption))) (by with_reducible assumption) (Nat.le_refl _)).mono ?_)); rintro e w3 ⟨rfl, hB⟩; have hcx := (bcell hB).1) | (go_at_call 20; ((with_reducible refine (belC (B := w1.heap.size) (w := w1) (BN.out _ (hF1.below (by with_reducible assumption))) (by with_reducible assumption) (Nat.le_refl _)).mono ?_)); rintro e w3 ⟨rfl, hB⟩; have hcx := (bcell hB).1) | (go_at_call 22; ((with_reducible refine (belC (B := w1.heap.size) (w := w1) (T1.out _ (hF1.below (by with_reducible assumption))) (by with_reducible assumption) (Nat.le_refl _)).mono ?_)); rintro e w3 ⟨rfl, hB⟩; have hcx := (bcell hB).1) | (go_at_call 22; ((with_reducible refine (belC (B := w1.heap.size) (w := w1) (T2.out _ (hF1.below (by with_reducible assumption))) (by with_reducible assumption) (Nat.le_refl _)).mono ?_)); rintro e w3 ⟨rfl, hB⟩; have hcx := (bcell hB).1) | (go_at_call 24; ((with_reducible refine (within_any _ (6 * (1 + r) * (1 + r)) q1 (by omega) _).mono ?_)); rintro e w2 ⟨oc, ho0, ho1, rfl, rfl⟩))
  obtain ⟨z, pz, T3, hOt⟩ := HT.out oc ho0 ho1
  have hpb := Int.emod_emod_of_dvd (b + p) (show (4 : Int) ∣ 4 from ⟨1, rfl⟩)
  rcases hOt.two with ⟨rfl, rfl⟩ | ⟨o1, o2⟩
  · go_wp2_with (first | (go_at_call 22; ((with_reducible refine (belC (B := w1.heap.size) (w := w1) (T3.out _ (hF1.below (by with_reducible assumption))) (by with_reducible assumption) (Nat.le_refl _)).mono ?_)); rintro e w3 ⟨rfl, hB⟩; have hcx := (bcell hB).1) | (go_at_call 22; ((with_reducible refine (belC (B := w1.heap.size) (w := w1) (T4.out _ (hF1.below (by with_reducible assumption))) (by with_reducible assumption) (Nat.le_refl _)).mono ?_)); rintro e w3 ⟨rfl, hB⟩; have hcx := (bcell hB).1))
    go_ret
    refine ⟨ret_b (by simp [*]), bel_end hB0 (by with_reducible assumption)⟩
  · go_wp2_with (first | (go_at_call 22; ((with_reducible refine (belC (B := w1.heap.size) (w := w1) (T3.out _ (hF1.below (by with_reducible assumption))) (by with_reducible assumption) (Nat.le_refl _)).mono ?_)); rintro e w3 ⟨rfl, hB⟩; have hcx := (bcell hB).1) | (go_at_call 22; ((with_reducible refine (belC (B := w1.heap.size) (w := w1) (T4.out _ (hF1.below (by with_reducible assumption))) (by with_reducible assumption) (Nat.le_refl _)).mono ?_)); rintro e w3 ⟨rfl, hB⟩; have hcx := (bcell hB).1))
    go_ret
    refine ⟨ret_b (by simp [*]), bel_end hB0 (by with_reducible assumption)⟩
end Go.Proofs.YtbfbafoeifigfaaDoor
