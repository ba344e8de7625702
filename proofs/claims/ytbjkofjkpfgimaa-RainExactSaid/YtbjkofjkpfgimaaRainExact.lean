/- The statement RainExact: Fall and Valid as the reference. -/
import Derived.Test.YtbjkofjkpfgimaaRainF
namespace Go.Proofs.Ytbjkofjkpfgimaa
open Go Go.RowKit TF

theorem ints_none (w : World) (A : Option Addr) (Z : Nat → Int) : IntsAt w A 0 Z := fun _ hi => absurd hi (Nat.not_lt_zero _)
theorem valid_in (n c a f t : Int) (w0 w : World) (h : Below w0.heap.size w0 w) :
    Calls Try.prog 10 #[.int .i64 n, .agg #[.int .i64 c, .int .i64 a, .int .i64 f, .int .i64 t]] w fun e w' => e = .returned (.bool (validB n c a f t)) ∧ Below w0.heap.size w0 w' :=
  (valid_any n c a f t w).mono fun _ _ q => ⟨q.1, join h q.2⟩
theorem rvalid_in (n c a f t : Int) (w0 w : World) (h : Below w0.heap.size w0 w) :
    Calls Try.prog 11 #[.int .i64 n, .agg #[.int .i64 c, .int .i64 a, .int .i64 f, .int .i64 t]] w fun e w' => e = .returned (.bool (validB n c a f t)) ∧ Below w0.heap.size w0 w' :=
  (rvalid_any n c a f t w).mono fun _ _ q => ⟨q.1, join h q.2⟩

set_option maxRecDepth 100000 in
set_option maxHeartbeats 4000000 in
theorem rainExact_walk (A : Option Addr) (n cap : Nat) (Z : Nat → Int) (s : Int) (R : Option Addr) (m cap2 : Nat) (C Am F T : Nat → Int) (st : Int) (cells : Int) (w : World) (hW : WeatherAt w A n cap Z s R m cap2 C Am F T st) :
    Calls Try.prog 3 #[.agg #[.slice A n cap, .int .i64 s, .slice R m cap2, .int .i64 st], .int .i64 cells] w fun e w' => e = .returned (.bool true) ∧ Below w.heap.size w w' := by
  have KB := Lib.hid (box_cells A n cap s R m cap2 st 25 w)
  have hn9 := hW.n8
  have hm9 := hW.m9
  have H8 := Lib.hid (fun (x : World) (h : Below (w.alloc (.cells #[.slice A n cap, .int .i64 s, .slice R m cap2, .int .i64 st] 25)).heap.size (w.alloc (.cells #[.slice A n cap, .int .i64 s, .slice R m cap2, .int .i64 st] 25)) x) => hW.hz.below (past1 h))
  have H9 := Lib.hid (fun (x : World) (h : Below (w.alloc (.cells #[.slice A n cap, .int .i64 s, .slice R m cap2, .int .i64 st] 25)).heap.size (w.alloc (.cells #[.slice A n cap, .int .i64 s, .slice R m cap2, .int .i64 st] 25)) x) => hW.hr.below (past1 h))
  have FBx : Hid (refuseB n Z s m C Am F T st = true → ∀ x : World, Below (w.alloc (.cells #[.slice A n cap, .int .i64 s, .slice R m cap2, .int .i64 st] 25)).heap.size (w.alloc (.cells #[.slice A n cap, .int .i64 s, .slice R m cap2, .int .i64 st] 25)) x → Calls Try.prog 12 #[.slice A n cap, .int .i64 s, .slice R m cap2, .int .i64 st] x fun e w' => e = .returned (.tuple #[.slice none 0 0, .int .i64 0, .int .i64 1]) ∧ Below x.heap.size x w') :=
    Lib.hid (fun hq x h => fall_bad A n cap Z s R m cap2 C Am F T st x hW.n8 hW.m9 (H8.out x h) (H9.out x h) hq)
  have RBx : Hid (refuseB n Z s m C Am F T st = true → ∀ x : World, Below (w.alloc (.cells #[.slice A n cap, .int .i64 s, .slice R m cap2, .int .i64 st] 25)).heap.size (w.alloc (.cells #[.slice A n cap, .int .i64 s, .slice R m cap2, .int .i64 st] 25)) x → Calls Try.prog 13 #[.slice A n cap, .int .i64 s, .slice R m cap2, .int .i64 st] x fun e w' => e = .returned (.tuple #[.slice none 0 0, .int .i64 0, .int .i64 1]) ∧ Below x.heap.size x w') :=
    Lib.hid (fun hq x h => (rfall_any A n cap Z s R m cap2 C Am F T st x hW.n8 hW.m9 (H8.out x h) (H9.out x h)).mono (fun e w' q => by
      rcases q with ⟨-, h1, h2⟩ | ⟨h1, -⟩
      · exact ⟨h1, h2⟩
      · rw [hq] at h1; cases h1))
  have FOx : Hid (refuseB n Z s m C Am F T st = false → ∀ x : World, Below (w.alloc (.cells #[.slice A n cap, .int .i64 s, .slice R m cap2, .int .i64 st] 25)).heap.size (w.alloc (.cells #[.slice A n cap, .int .i64 s, .slice R m cap2, .int .i64 st] 25)) x → Calls Try.prog 12 #[.slice A n cap, .int .i64 s, .slice R m cap2, .int .i64 st] x fun e w' => FallP x n (rsZ st C Am F T Z s m) (rsS st C Am F T Z s m) e w') :=
    Lib.hid (fun hq x h => fall_ok A n cap Z s R m cap2 C Am F T st x hW.n8 (fun h => (hW.hnil h).1) (H8.out x h) (H9.out x h) hq)
  have ROx : Hid (refuseB n Z s m C Am F T st = false → ∀ x : World, Below (w.alloc (.cells #[.slice A n cap, .int .i64 s, .slice R m cap2, .int .i64 st] 25)).heap.size (w.alloc (.cells #[.slice A n cap, .int .i64 s, .slice R m cap2, .int .i64 st] 25)) x → Calls Try.prog 13 #[.slice A n cap, .int .i64 s, .slice R m cap2, .int .i64 st] x fun e w' => FallP x n (rsZ st C Am F T Z s m) (rsS st C Am F T Z s m) e w') :=
    Lib.hid (fun hq x h => (rfall_any A n cap Z s R m cap2 C Am F T st x hW.n8 hW.m9 (H8.out x h) (H9.out x h)).mono (fun e w' q => by
      rcases q with ⟨h1, -⟩ | ⟨-, h1⟩
      · rw [hq] at h1; cases h1
      · exact h1))
  clear hW
  go_enter Try.func3, Try.ntmps3
  go_wp2_with (first | (go_at_call 9; ((with_reducible refine (awake_any _).mono ?_)); rintro e wa ⟨rfl, hBa⟩; obtain ⟨a0, a1, a2, a3⟩ := KB.out _ hBa))
  go_loopw [5] (fun i wr => ∃ k : Nat, k ≤ m ∧ i = .int .i64 k ∧ Below wa.heap.size wa wr) (fun i _ => m - (intOf i).toNat)
  case atStart => exact ⟨0, Nat.zero_le _, rfl, Below.refl _ _⟩
  case round =>
    obtain ⟨k, hk, rfl, hB⟩ := hrel
    have hBe := join hBa hB
    obtain ⟨d0, d1, d2, d3⟩ := KB.out _ hBe
    by_cases hlt : k < m
    · have hl : (k : Int) < (m : Int) := by omega
      obtain ⟨b, off, rfl, hbl, -⟩ := (H9.out _ hBa) k hlt
      have KS : Hid (∀ x : World, Below wa.heap.size wa x → x.cell? ⟨w.heap.size, 0, none⟩ = some (.slice A n cap) ∧ x.cell? ⟨w.heap.size, 2, none⟩ = some (.slice (some ⟨b, off, none⟩) m cap2) ∧ x.cell? ⟨b, off + k * 4, none⟩ = some (.int .i64 (C k)) ∧ x.cell? ⟨b, off + k * 4 + 1, none⟩ = some (.int .i64 (Am k)) ∧ x.cell? ⟨b, off + k * 4 + 2, none⟩ = some (.int .i64 (F k)) ∧ x.cell? ⟨b, off + k * 4 + 3, none⟩ = some (.int .i64 (T k)) ∧ Below wa.heap.size wa x) := Lib.hid (fun x h => by
        obtain ⟨b', off', e, -, g0, g1, g2, g3⟩ := (H9.out _ (join hBa h)) k hlt
        obtain ⟨rfl, rfl⟩ : b = b' ∧ off = off' := by simpa using e
        exact ⟨(KB.out x (join hBa h)).1, (KB.out x (join hBa h)).2.2.1, g0, g1, g2, g3, h⟩)
      obtain ⟨-, -, g0, g1, g2, g3, -⟩ := KS.out _ hB
      go_wp2
      go_region_held3 (fun x => x.cell? ⟨w.heap.size, 0, none⟩ = some (.slice A n cap) ∧ x.cell? ⟨w.heap.size, 2, none⟩ = some (.slice (some ⟨b, off, none⟩) m cap2) ∧ x.cell? ⟨b, off + k * 4, none⟩ = some (.int .i64 (C k)) ∧ x.cell? ⟨b, off + k * 4 + 1, none⟩ = some (.int .i64 (Am k)) ∧ x.cell? ⟨b, off + k * 4 + 2, none⟩ = some (.int .i64 (F k)) ∧ x.cell? ⟨b, off + k * 4 + 3, none⟩ = some (.int .i64 (T k)) ∧ Below wa.heap.size wa x)
        (first | exact KS.out _ (by assumption) | exact KS.out _ (Below.drew (by assumption)))
        (first | (go_at_call 10; ((with_reducible refine (valid_in _ _ _ _ _ wa _ (by first | with_reducible assumption | with_reducible exact Below.drew (by with_reducible assumption))).mono ?_)); rintro e wv ⟨rfl, hBv⟩) | (go_at_call 11; ((with_reducible refine (rvalid_in _ _ _ _ _ wa _ (by first | with_reducible assumption | with_reducible exact Below.drew (by with_reducible assumption))).mono ?_)); rintro e wv ⟨rfl, hBv⟩))
      go_wp2
      go_roundw
      case rel => exact ⟨k + 1, by omega, by go_num, by first | assumption | (have h := ‹_ ∧ _ ∧ _ ∧ _ ∧ _ ∧ _ ∧ Below _ _ _›; exact h.2.2.2.2.2.2)⟩
      case measure => simp [intOf]; omega
    · have hkm : k = m := by omega
      subst hkm
      cases hq : refuseB n Z s k C Am F T st with
      | true =>
        have FB := Lib.hid (FBx.out hq)
        have RB := Lib.hid (RBx.out hq)
        clear FBx RBx FOx ROx hq
        go_wp2_with (first | (go_at_call 12; ((with_reducible refine (FB.out _ hBe).mono ?_)); rintro e wb ⟨rfl, hBb⟩; have hBeb := join hBe hBb; obtain ⟨b0, b1, b2, b3⟩ := KB.out _ hBeb) | (go_at_call 13; ((with_reducible refine (RB.out _ hBeb).mono ?_)); rintro e wc ⟨rfl, hBc⟩) | (go_at_call 14; ((with_reducible refine (same_yes none none 0 0 0 (con 0) (con 0) _ (by omega) (ints_none _ _ _) (ints_none _ _ _) (fun _ _ => rfl)).mono ?_)); rintro e wd ⟨rfl, hBd⟩))
        go_ret
        exact ⟨rfl, past1 (join hBeb (join hBc hBd))⟩
      | false =>
        have FO := Lib.hid (FOx.out hq)
        have RO := Lib.hid (ROx.out hq)
        clear FBx RBx FOx ROx hq
        go_wp2_with (first | (go_at_call 12; ((with_reducible refine (FO.out _ hBe).mono ?_)); rintro e wb ⟨L, capL, rfl, hcL, hO, hBb⟩; have hBeb := join hBe hBb; obtain ⟨b0, b1, b2, b3⟩ := KB.out _ hBeb) | (go_at_call 13; ((with_reducible refine (RO.out _ hBeb).mono ?_)); rintro e wc ⟨L2, capL2, rfl, hcL2, hO2, hBc⟩) | (go_at_call 14; ((with_reducible refine (same_yes L L2 n capL capL2 _ _ _ (by omega) (hO.ints.below hBc) hO2.ints (fun _ _ => rfl)).mono ?_)); rintro e wd ⟨rfl, hBd⟩))
        go_ret
        exact ⟨rfl, past1 (join hBeb (join hBc hBd))⟩
end Go.Proofs.Ytbjkofjkpfgimaa
