/- The reference's After. -/
import Derived.Test.YtbfbafoeifigfaaDoorRefT
import Derived.Test.YtbfbafoeifigfaaDoorCubeX
import Derived.Deep.RegionHeld
namespace Go.Proofs.YtbfbafoeifigfaaDoor
open Go.RowKit TF

theorem ax_two : ∀ s < 24, ∀ t < 24, (∀ k < 6, AX s k = AX t k) → s = t := by decide
theorem U_i3 {x y z : Int} (h : U3 x y z) : I3 1000 x y z := ⟨⟨by have := h.x.1; omega, by have := h.x.2; omega⟩, ⟨by have := h.y.1; omega, by have := h.y.2; omega⟩, ⟨by have := h.z.1; omega, by have := h.z.2; omega⟩⟩
set_option maxRecDepth 100000 in
set_option maxHeartbeats 4000000 in
theorem rafter_at (u t : Nat) (hu : u < 24) (ht : t < 24) (w : World) :
    Calls Tryd.prog 19 #[.int .i64 u, .int .i64 t] w fun e w' => e = .returned (.int .i64 (afF u t : Nat)) ∧ Below w.heap.size w w' := by
  have HE := Lib.hid (af_eqs hu ht)
  have ha24 := (af_fact u hu t ht).1
  have HI := Lib.hid (fun k hk => ax_two k hk (afF u t) ha24)
  have i0 : I3 1000 (AX t 0) (AX t 1) (AX t 2) := U_i3 (AX_u ht (by omega))
  have i3 : I3 1000 (AX t 3) (AX t 4) (AX t 5) := U_i3 (AX_u ht (by omega))
  go_enter Tryd.func19, Tryd.ntmps19
  go_wp2_with (first | (go_at_call 28; ((with_reducible refine (belD (B := w.heap.size) (w := w) (rimages_any _ ht _) (Below.refl _ _) (Nat.le_refl _)).mono ?_)); rintro e w1 ⟨rfl, hB, hR⟩))
  obtain ⟨W, hW⟩ : ∃ W : World, W = ((w1.alloc (.cells #[.int .i64 (AX t 0), .int .i64 (AX t 1), .int .i64 (AX t 2)] 45)).alloc (.cells #[.int .i64 (AX t 3), .int .i64 (AX t 4), .int .i64 (AX t 5)] 45)).alloc (.cells #[.int .i64 (AX t 6), .int .i64 (AX t 7), .int .i64 (AX t 8)] 45) := ⟨_, rfl⟩
  rw [← hW]
  have X0 : Three W w1.heap.size (AX t 0) (AX t 1) (AX t 2) := by rw [hW]; exact ⟨by simp [go_sem], by simp [go_sem], by simp [go_sem]⟩
  have Y0 : Three W (w1.heap.size + 1) (AX t 3) (AX t 4) (AX t 5) := by rw [hW]; exact ⟨by simp [go_sem], by simp [go_sem], by simp [go_sem]⟩
  have B0 : Below w.heap.size w W := by rw [hW]; exact hB.trans ((bel3 _ _ _ _).mono hB.size)
  clear hW hB hR
  go_loopw [8] (fun i wr => ∃ k : Nat, k ≤ afF u t ∧ i = .int .i64 k ∧ Below W.heap.size W wr) (fun i _ => 24 - (intOf i).toNat)
  case atStart => exact ⟨0, Nat.zero_le _, rfl, Below.refl _ _⟩
  case round =>
    obtain ⟨k, hk, rfl, hwr⟩ := hrel
    have hk24 : k < 24 := by omega
    have Xr := X0.below hwr
    have Yr := Y0.below hwr
    go_wp2_with (first | (go_at_call 28; ((with_reducible refine (belD (B := W.heap.size) (w := W) (rimages_any _ hk24 _) (by with_reducible assumption) (Nat.le_refl _)).mono ?_)); rintro e w3 ⟨rfl, hB3, hR3⟩; have Xq := Three.below Xr hR3; have Yq := Three.below Yr hR3))
    obtain ⟨V, hV⟩ : ∃ V : World, V = ((w3.alloc (.cells #[.int .i64 (AX k 0), .int .i64 (AX k 1), .int .i64 (AX k 2)] 45)).alloc (.cells #[.int .i64 (AX k 3), .int .i64 (AX k 4), .int .i64 (AX k 5)] 45)).alloc (.cells #[.int .i64 (AX k 6), .int .i64 (AX k 7), .int .i64 (AX k 8)] 45) := ⟨_, rfl⟩
    rw [← hV]
    have hVb : Below w3.heap.size w3 V := by rw [hV]; exact bel3 _ _ _ _
    have Xv := Xq.below hVb
    have Yv := Yq.below hVb
    have Av : Three V w3.heap.size (AX k 0) (AX k 1) (AX k 2) := by rw [hV]; exact ⟨by simp [go_sem], by simp [go_sem], by simp [go_sem]⟩
    have Bv : Three V (w3.heap.size + 1) (AX k 3) (AX k 4) (AX k 5) := by rw [hV]; exact ⟨by simp [go_sem], by simp [go_sem], by simp [go_sem]⟩
    have B3 : Below W.heap.size W V := hB3.trans (hVb.mono hB3.size)
    clear hV hR3
    have hV0 : Below V.heap.size V V := Below.refl _ _
    have KEEP : Hid (∀ x : World, Below V.heap.size V x → x.cell? ⟨w1.heap.size, 0, none⟩ = some (.int .i64 (AX t 0)) ∧ x.cell? ⟨w1.heap.size, 1, none⟩ = some (.int .i64 (AX t 1)) ∧ x.cell? ⟨w1.heap.size, 2, none⟩ = some (.int .i64 (AX t 2)) ∧ x.cell? ⟨w1.heap.size + 1, 0, none⟩ = some (.int .i64 (AX t 3)) ∧ x.cell? ⟨w1.heap.size + 1, 1, none⟩ = some (.int .i64 (AX t 4)) ∧ x.cell? ⟨w1.heap.size + 1, 2, none⟩ = some (.int .i64 (AX t 5)) ∧ x.cell? ⟨w3.heap.size, 0, none⟩ = some (.int .i64 (AX k 0)) ∧ x.cell? ⟨w3.heap.size, 1, none⟩ = some (.int .i64 (AX k 1)) ∧ x.cell? ⟨w3.heap.size, 2, none⟩ = some (.int .i64 (AX k 2)) ∧ x.cell? ⟨w3.heap.size + 1, 0, none⟩ = some (.int .i64 (AX k 3)) ∧ x.cell? ⟨w3.heap.size + 1, 1, none⟩ = some (.int .i64 (AX k 4)) ∧ x.cell? ⟨w3.heap.size + 1, 2, none⟩ = some (.int .i64 (AX k 5)) ∧ Below V.heap.size V x) := Lib.hid (fun x h => by
      have h1 := Xv.below h
      have h2 := Yv.below h
      have h3 := Av.below h
      have h4 := Bv.below h
      exact ⟨h1.c0, h1.c1, h1.c2, h2.c0, h2.c1, h2.c2, h3.c0, h3.c1, h3.c2, h4.c0, h4.c1, h4.c2, h⟩)
    by_cases hlt : k = afF u t
    · obtain ⟨e0, e1, e2, e3, e4, e5, -⟩ := HE.out
      rw [← hlt] at e0 e1 e2 e3 e4 e5
      have HK := Lib.hid hlt
      clear hlt
      go_region_held3 (fun x => x.cell? ⟨w1.heap.size, 0, none⟩ = some (.int .i64 (AX t 0)) ∧ x.cell? ⟨w1.heap.size, 1, none⟩ = some (.int .i64 (AX t 1)) ∧ x.cell? ⟨w1.heap.size, 2, none⟩ = some (.int .i64 (AX t 2)) ∧ x.cell? ⟨w1.heap.size + 1, 0, none⟩ = some (.int .i64 (AX t 3)) ∧ x.cell? ⟨w1.heap.size + 1, 1, none⟩ = some (.int .i64 (AX t 4)) ∧ x.cell? ⟨w1.heap.size + 1, 2, none⟩ = some (.int .i64 (AX t 5)) ∧ x.cell? ⟨w3.heap.size, 0, none⟩ = some (.int .i64 (AX k 0)) ∧ x.cell? ⟨w3.heap.size, 1, none⟩ = some (.int .i64 (AX k 1)) ∧ x.cell? ⟨w3.heap.size, 2, none⟩ = some (.int .i64 (AX k 2)) ∧ x.cell? ⟨w3.heap.size + 1, 0, none⟩ = some (.int .i64 (AX k 3)) ∧ x.cell? ⟨w3.heap.size + 1, 1, none⟩ = some (.int .i64 (AX k 4)) ∧ x.cell? ⟨w3.heap.size + 1, 2, none⟩ = some (.int .i64 (AX k 5)) ∧ Below V.heap.size V x)
        (first | exact KEEP.out _ (by assumption) | exact KEEP.out _ (Below.drew (by assumption)))
        (first | (go_at_call 29; ((with_reducible refine (belC (B := V.heap.size) (w := V) (rturned_any _ hu _ _ _ (by first | with_reducible exact i0 | with_reducible exact i3) _) (by first | with_reducible assumption | with_reducible exact Below.drew (by with_reducible assumption)) (Nat.le_refl _)).mono ?_)); rintro e w5 ⟨rfl, hB5⟩) | (fail))
      go_wp2
      go_ret
      exact ⟨ret_int (by rw [HK.out]), B0.trans ((B3.trans (hB5.mono B3.size)).mono B0.size)⟩
    · have hkl : k < afF u t := by omega
      have hcase : ((¬ AX k 0 = TV u (AX t 0) (AX t 1) (AX t 2) 0)) ∨ ((AX k 0 = TV u (AX t 0) (AX t 1) (AX t 2) 0) ∧ (¬ AX k 1 = TV u (AX t 0) (AX t 1) (AX t 2) 1)) ∨ ((AX k 0 = TV u (AX t 0) (AX t 1) (AX t 2) 0) ∧ (AX k 1 = TV u (AX t 0) (AX t 1) (AX t 2) 1) ∧ (¬ AX k 2 = TV u (AX t 0) (AX t 1) (AX t 2) 2)) ∨ ((AX k 0 = TV u (AX t 0) (AX t 1) (AX t 2) 0) ∧ (AX k 1 = TV u (AX t 0) (AX t 1) (AX t 2) 1) ∧ (AX k 2 = TV u (AX t 0) (AX t 1) (AX t 2) 2) ∧ (¬ AX k 3 = TV u (AX t 3) (AX t 4) (AX t 5) 0)) ∨ ((AX k 0 = TV u (AX t 0) (AX t 1) (AX t 2) 0) ∧ (AX k 1 = TV u (AX t 0) (AX t 1) (AX t 2) 1) ∧ (AX k 2 = TV u (AX t 0) (AX t 1) (AX t 2) 2) ∧ (AX k 3 = TV u (AX t 3) (AX t 4) (AX t 5) 0) ∧ (¬ AX k 4 = TV u (AX t 3) (AX t 4) (AX t 5) 1)) ∨ ((AX k 0 = TV u (AX t 0) (AX t 1) (AX t 2) 0) ∧ (AX k 1 = TV u (AX t 0) (AX t 1) (AX t 2) 1) ∧ (AX k 2 = TV u (AX t 0) (AX t 1) (AX t 2) 2) ∧ (AX k 3 = TV u (AX t 3) (AX t 4) (AX t 5) 0) ∧ (AX k 4 = TV u (AX t 3) (AX t 4) (AX t 5) 1) ∧ (¬ AX k 5 = TV u (AX t 3) (AX t 4) (AX t 5) 2)) := by
        obtain ⟨g0, g1, g2, g3, g4, g5, -⟩ := HE.out
        by_cases c0 : AX k 0 = TV u (AX t 0) (AX t 1) (AX t 2) 0
        · skip
          by_cases c1 : AX k 1 = TV u (AX t 0) (AX t 1) (AX t 2) 1
          · skip
            by_cases c2 : AX k 2 = TV u (AX t 0) (AX t 1) (AX t 2) 2
            · skip
              by_cases c3 : AX k 3 = TV u (AX t 3) (AX t 4) (AX t 5) 0
              · skip
                by_cases c4 : AX k 4 = TV u (AX t 3) (AX t 4) (AX t 5) 1
                · skip
                  by_cases c5 : AX k 5 = TV u (AX t 3) (AX t 4) (AX t 5) 2
                  · skip
                    exact absurd (HI.out k hk24 (fun j hj => by
                      obtain rfl | rfl | rfl | rfl | rfl | rfl : j = 0 ∨ j = 1 ∨ j = 2 ∨ j = 3 ∨ j = 4 ∨ j = 5 := by omega
                      · rw [g0]; exact c0
                      · rw [g1]; exact c1
                      · rw [g2]; exact c2
                      · rw [g3]; exact c3
                      · rw [g4]; exact c4
                      · rw [g5]; exact c5
                    )) hlt
                  · exact Or.inr (Or.inr (Or.inr (Or.inr (Or.inr (⟨c0, c1, c2, c3, c4, c5⟩)))))
                · exact Or.inr (Or.inr (Or.inr (Or.inr (Or.inl ⟨c0, c1, c2, c3, c4⟩))))
              · exact Or.inr (Or.inr (Or.inr (Or.inl ⟨c0, c1, c2, c3⟩)))
            · exact Or.inr (Or.inr (Or.inl ⟨c0, c1, c2⟩))
          · exact Or.inr (Or.inl ⟨c0, c1⟩)
        · exact Or.inl c0
      clear hlt
      rcases hcase with c0 | ⟨c0, c1⟩ | ⟨c0, c1, c2⟩ | ⟨c0, c1, c2, c3⟩ | ⟨c0, c1, c2, c3, c4⟩ | ⟨c0, c1, c2, c3, c4, c5⟩
      · have f0 : (AX k 0 == TV u (AX t 0) (AX t 1) (AX t 2) 0) = false := by simpa using c0
        refine wp_region_held_drew (S := (fun x => x.cell? ⟨w1.heap.size, 0, none⟩ = some (.int .i64 (AX t 0)) ∧ x.cell? ⟨w1.heap.size, 1, none⟩ = some (.int .i64 (AX t 1)) ∧ x.cell? ⟨w1.heap.size, 2, none⟩ = some (.int .i64 (AX t 2)) ∧ x.cell? ⟨w1.heap.size + 1, 0, none⟩ = some (.int .i64 (AX t 3)) ∧ x.cell? ⟨w1.heap.size + 1, 1, none⟩ = some (.int .i64 (AX t 4)) ∧ x.cell? ⟨w1.heap.size + 1, 2, none⟩ = some (.int .i64 (AX t 5)) ∧ x.cell? ⟨w3.heap.size, 0, none⟩ = some (.int .i64 (AX k 0)) ∧ x.cell? ⟨w3.heap.size, 1, none⟩ = some (.int .i64 (AX k 1)) ∧ x.cell? ⟨w3.heap.size, 2, none⟩ = some (.int .i64 (AX k 2)) ∧ x.cell? ⟨w3.heap.size + 1, 0, none⟩ = some (.int .i64 (AX k 3)) ∧ x.cell? ⟨w3.heap.size + 1, 1, none⟩ = some (.int .i64 (AX k 4)) ∧ x.cell? ⟨w3.heap.size + 1, 2, none⟩ = some (.int .i64 (AX k 5)) ∧ Below V.heap.size V x)) (by kernel_rfl) (KEEP.out _ (Below.drew (by assumption))) (fun hHeld => ?_)
        refine wpAnyH_take (i := 0) (v := ?v1) rfl (by kernel_rfl) (by kernel_rfl) (by kernel_rfl) (fun _ _ _ h => h) (Or.inl ⟨by rfl, ?hy1⟩) (by assumption) ?rest1
        case hy1 => (intro w hSw; (try dsimp only at hSw); go_simp; (try (with_reducible rfl)))
        try simp only [Act.put, List.getElem_toArray, List.getElem_cons_zero, List.setIfInBounds_toArray, List.set_cons_zero, List.set_cons_succ]
        refine wpAnyH_take (i := 1) (v := ?v2) rfl (by kernel_rfl) (by kernel_rfl) (by kernel_rfl) (fun _ _ _ h => h) (Or.inl ⟨by rfl, ?hy2⟩) (by assumption) ?rest2
        case hy2 => (intro w hSw; (try dsimp only at hSw); go_simp; (try (with_reducible rfl)))
        try simp only [Act.put, List.getElem_toArray, List.getElem_cons_succ, List.getElem_cons_zero, List.setIfInBounds_toArray, List.set_cons_zero, List.set_cons_succ]
        refine wpAnyH_take (i := 2) (v := ?v3) rfl (by kernel_rfl) (by kernel_rfl) (by kernel_rfl) (fun _ _ _ h => h) (Or.inl ⟨by rfl, ?hy3⟩) (by assumption) ?rest3
        case hy3 => (intro w hSw; (try dsimp only at hSw); go_simp; (try (with_reducible rfl)))
        try simp only [Act.put, List.getElem_toArray, List.getElem_cons_succ, List.getElem_cons_zero, List.setIfInBounds_toArray, List.set_cons_zero, List.set_cons_succ]
        refine wpAnyH_ready (rs := [3]) (by kernel_rfl) (by simp) (AllReadyH.cons rfl (fun K hK => ?_) AllReadyH.nil)
        go_simp
        (first | (go_at_call 29; ((with_reducible refine (belC (B := V.heap.size) (w := V) (rturned_any _ hu _ _ _ (by first | with_reducible exact i0 | with_reducible exact i3) _) (by first | with_reducible assumption | with_reducible exact Below.drew (by with_reducible assumption)) (Nat.le_refl _)).mono ?_)); rintro e w5 ⟨rfl, hB5⟩))
        refine hK.out _ _ (KEEP.out _ (by assumption)) (fun hHeld2 => ?_)
        clear hK K hHeld
        try simp only [Act.put, List.setIfInBounds_toArray, List.set_cons_zero, List.set_cons_succ]
        refine wpAnyH_take (i := 4) (v := ?v4) rfl (by kernel_rfl) (by kernel_rfl) (by kernel_rfl) (fun _ _ _ h => h) (Or.inl ⟨by rfl, ?hy4⟩) (by assumption) ?rest4
        case hy4 => (intro w hSw; (try dsimp only at hSw); go_simp; (try (with_reducible rfl)))
        try simp only [Act.put, List.getElem_toArray, List.getElem_cons_succ, List.getElem_cons_zero, List.setIfInBounds_toArray, List.set_cons_zero, List.set_cons_succ]
        refine wpAnyH_take (i := 5) (v := ?v5) rfl (by kernel_rfl) (by kernel_rfl) (by kernel_rfl) (fun _ _ _ h => h) (Or.inl ⟨by rfl, ?hy5⟩) (by assumption) ?rest5
        case hy5 => (intro w hSw; (try dsimp only at hSw); go_simp; (try (with_reducible rfl)))
        try simp only [Act.put, List.getElem_toArray, List.getElem_cons_succ, List.getElem_cons_zero, List.setIfInBounds_toArray, List.set_cons_zero, List.set_cons_succ]
        refine wpAnyH_take (i := 6) rfl (by kernel_rfl) (by kernel_rfl) (by kernel_rfl) (fun _ _ _ h => h) (Or.inr ⟨by rfl, rfl⟩) (by assumption) ?_
        try simp only [Act.put, List.getElem_toArray, List.getElem_cons_succ, List.getElem_cons_zero, List.setIfInBounds_toArray, List.set_cons_zero, List.set_cons_succ]
        refine wpAnyH_take (i := 7) rfl (by kernel_rfl) (by kernel_rfl) (by kernel_rfl) (fun _ _ _ h => h) (Or.inr ⟨by rfl, rfl⟩) (by assumption) ?_
        try simp only [Act.put, List.getElem_toArray, List.getElem_cons_succ, List.getElem_cons_zero, List.setIfInBounds_toArray, List.set_cons_zero, List.set_cons_succ]
        refine wpAnyH_take (i := 8) rfl (by kernel_rfl) (by kernel_rfl) (by kernel_rfl) (fun _ _ _ h => h) (Or.inr ⟨by rfl, rfl⟩) (by assumption) ?_
        try simp only [Act.put, List.getElem_toArray, List.getElem_cons_succ, List.getElem_cons_zero, List.setIfInBounds_toArray, List.set_cons_zero, List.set_cons_succ]
        refine wpAnyH_take (i := 9) rfl (by kernel_rfl) (by kernel_rfl) (by kernel_rfl) (fun _ _ _ h => h) (Or.inr ⟨by rfl, rfl⟩) (by assumption) ?_
        try simp only [Act.put, List.getElem_toArray, List.getElem_cons_succ, List.getElem_cons_zero, List.setIfInBounds_toArray, List.set_cons_zero, List.set_cons_succ]
        refine wpAnyH_take (i := 10) rfl (by kernel_rfl) (by kernel_rfl) (by kernel_rfl) (fun _ _ _ h => h) (Or.inr ⟨by rfl, rfl⟩) (by assumption) ?_
        try simp only [Act.put, List.getElem_toArray, List.getElem_cons_succ, List.getElem_cons_zero, List.setIfInBounds_toArray, List.set_cons_zero, List.set_cons_succ]
        refine wpAnyH_take (i := 11) (v := ?v6) rfl (by kernel_rfl) (by kernel_rfl) (by kernel_rfl) (fun _ _ _ h => h) (Or.inl ⟨by rfl, ?hy6⟩) (by assumption) ?rest6
        case hy6 => (intro w hSw; (try dsimp only at hSw); go_simp; (try (with_reducible rfl)))
        try simp only [Act.put, List.getElem_toArray, List.getElem_cons_succ, List.getElem_cons_zero, List.setIfInBounds_toArray, List.set_cons_zero, List.set_cons_succ]
        refine wpAnyH_done (by kernel_rfl) ?_ _
        go_wp2
        go_roundw
        case rel => exact ⟨k + 1, by omega, by go_num, B3.trans (hB5.mono B3.size)⟩
        case measure => simp [intOf]; omega
      · have f1 : (AX k 1 == TV u (AX t 0) (AX t 1) (AX t 2) 1) = false := by simpa using c1
        refine wp_region_held_drew (S := (fun x => x.cell? ⟨w1.heap.size, 0, none⟩ = some (.int .i64 (AX t 0)) ∧ x.cell? ⟨w1.heap.size, 1, none⟩ = some (.int .i64 (AX t 1)) ∧ x.cell? ⟨w1.heap.size, 2, none⟩ = some (.int .i64 (AX t 2)) ∧ x.cell? ⟨w1.heap.size + 1, 0, none⟩ = some (.int .i64 (AX t 3)) ∧ x.cell? ⟨w1.heap.size + 1, 1, none⟩ = some (.int .i64 (AX t 4)) ∧ x.cell? ⟨w1.heap.size + 1, 2, none⟩ = some (.int .i64 (AX t 5)) ∧ x.cell? ⟨w3.heap.size, 0, none⟩ = some (.int .i64 (AX k 0)) ∧ x.cell? ⟨w3.heap.size, 1, none⟩ = some (.int .i64 (AX k 1)) ∧ x.cell? ⟨w3.heap.size, 2, none⟩ = some (.int .i64 (AX k 2)) ∧ x.cell? ⟨w3.heap.size + 1, 0, none⟩ = some (.int .i64 (AX k 3)) ∧ x.cell? ⟨w3.heap.size + 1, 1, none⟩ = some (.int .i64 (AX k 4)) ∧ x.cell? ⟨w3.heap.size + 1, 2, none⟩ = some (.int .i64 (AX k 5)) ∧ Below V.heap.size V x)) (by kernel_rfl) (KEEP.out _ (Below.drew (by assumption))) (fun hHeld => ?_)
        refine wpAnyH_take (i := 0) (v := ?v7) rfl (by kernel_rfl) (by kernel_rfl) (by kernel_rfl) (fun _ _ _ h => h) (Or.inl ⟨by rfl, ?hy7⟩) (by assumption) ?rest7
        case hy7 => (intro w hSw; (try dsimp only at hSw); go_simp; (try (with_reducible rfl)))
        try simp only [Act.put, List.getElem_toArray, List.getElem_cons_zero, List.setIfInBounds_toArray, List.set_cons_zero, List.set_cons_succ]
        refine wpAnyH_take (i := 1) (v := ?v8) rfl (by kernel_rfl) (by kernel_rfl) (by kernel_rfl) (fun _ _ _ h => h) (Or.inl ⟨by rfl, ?hy8⟩) (by assumption) ?rest8
        case hy8 => (intro w hSw; (try dsimp only at hSw); go_simp; (try (with_reducible rfl)))
        try simp only [Act.put, List.getElem_toArray, List.getElem_cons_succ, List.getElem_cons_zero, List.setIfInBounds_toArray, List.set_cons_zero, List.set_cons_succ]
        refine wpAnyH_take (i := 2) (v := ?v9) rfl (by kernel_rfl) (by kernel_rfl) (by kernel_rfl) (fun _ _ _ h => h) (Or.inl ⟨by rfl, ?hy9⟩) (by assumption) ?rest9
        case hy9 => (intro w hSw; (try dsimp only at hSw); go_simp; (try (with_reducible rfl)))
        try simp only [Act.put, List.getElem_toArray, List.getElem_cons_succ, List.getElem_cons_zero, List.setIfInBounds_toArray, List.set_cons_zero, List.set_cons_succ]
        refine wpAnyH_ready (rs := [3]) (by kernel_rfl) (by simp) (AllReadyH.cons rfl (fun K hK => ?_) AllReadyH.nil)
        go_simp
        (first | (go_at_call 29; ((with_reducible refine (belC (B := V.heap.size) (w := V) (rturned_any _ hu _ _ _ (by first | with_reducible exact i0 | with_reducible exact i3) _) (by first | with_reducible assumption | with_reducible exact Below.drew (by with_reducible assumption)) (Nat.le_refl _)).mono ?_)); rintro e w5 ⟨rfl, hB5⟩))
        refine hK.out _ _ (KEEP.out _ (by assumption)) (fun hHeld2 => ?_)
        clear hK K hHeld
        try simp only [Act.put, List.setIfInBounds_toArray, List.set_cons_zero, List.set_cons_succ]
        refine wpAnyH_take (i := 4) (v := ?v10) rfl (by kernel_rfl) (by kernel_rfl) (by kernel_rfl) (fun _ _ _ h => h) (Or.inl ⟨by rfl, ?hy10⟩) (by assumption) ?rest10
        case hy10 => (intro w hSw; (try dsimp only at hSw); go_simp; (try (with_reducible rfl)))
        try simp only [Act.put, List.getElem_toArray, List.getElem_cons_succ, List.getElem_cons_zero, List.setIfInBounds_toArray, List.set_cons_zero, List.set_cons_succ]
        refine wpAnyH_take (i := 5) (v := ?v11) rfl (by kernel_rfl) (by kernel_rfl) (by kernel_rfl) (fun _ _ _ h => h) (Or.inl ⟨by rfl, ?hy11⟩) (by assumption) ?rest11
        case hy11 => (intro w hSw; (try dsimp only at hSw); go_simp; (try (with_reducible rfl)))
        try simp only [Act.put, List.getElem_toArray, List.getElem_cons_succ, List.getElem_cons_zero, List.setIfInBounds_toArray, List.set_cons_zero, List.set_cons_succ]
        refine wpAnyH_take (i := 6) rfl (by kernel_rfl) (by kernel_rfl) (by kernel_rfl) (fun _ _ _ h => h) (Or.inr ⟨by rfl, rfl⟩) (by assumption) ?_
        try simp only [Act.put, List.getElem_toArray, List.getElem_cons_succ, List.getElem_cons_zero, List.setIfInBounds_toArray, List.set_cons_zero, List.set_cons_succ]
        refine wpAnyH_take (i := 7) rfl (by kernel_rfl) (by kernel_rfl) (by kernel_rfl) (fun _ _ _ h => h) (Or.inr ⟨by rfl, rfl⟩) (by assumption) ?_
        try simp only [Act.put, List.getElem_toArray, List.getElem_cons_succ, List.getElem_cons_zero, List.setIfInBounds_toArray, List.set_cons_zero, List.set_cons_succ]
        refine wpAnyH_take (i := 8) rfl (by kernel_rfl) (by kernel_rfl) (by kernel_rfl) (fun _ _ _ h => h) (Or.inr ⟨by rfl, rfl⟩) (by assumption) ?_
        try simp only [Act.put, List.getElem_toArray, List.getElem_cons_succ, List.getElem_cons_zero, List.setIfInBounds_toArray, List.set_cons_zero, List.set_cons_succ]
        refine wpAnyH_take (i := 9) rfl (by kernel_rfl) (by kernel_rfl) (by kernel_rfl) (fun _ _ _ h => h) (Or.inr ⟨by rfl, rfl⟩) (by assumption) ?_
        try simp only [Act.put, List.getElem_toArray, List.getElem_cons_succ, List.getElem_cons_zero, List.setIfInBounds_toArray, List.set_cons_zero, List.set_cons_succ]
        refine wpAnyH_take (i := 10) rfl (by kernel_rfl) (by kernel_rfl) (by kernel_rfl) (fun _ _ _ h => h) (Or.inr ⟨by rfl, rfl⟩) (by assumption) ?_
        try simp only [Act.put, List.getElem_toArray, List.getElem_cons_succ, List.getElem_cons_zero, List.setIfInBounds_toArray, List.set_cons_zero, List.set_cons_succ]
        refine wpAnyH_take (i := 11) (v := ?v12) rfl (by kernel_rfl) (by kernel_rfl) (by kernel_rfl) (fun _ _ _ h => h) (Or.inl ⟨by rfl, ?hy12⟩) (by assumption) ?rest12
        case hy12 => (intro w hSw; (try dsimp only at hSw); go_simp; (try (with_reducible rfl)))
        try simp only [Act.put, List.getElem_toArray, List.getElem_cons_succ, List.getElem_cons_zero, List.setIfInBounds_toArray, List.set_cons_zero, List.set_cons_succ]
        refine wpAnyH_done (by kernel_rfl) ?_ _
        go_wp2
        go_roundw
        case rel => exact ⟨k + 1, by omega, by go_num, B3.trans (hB5.mono B3.size)⟩
        case measure => simp [intOf]; omega
      · have f2 : (AX k 2 == TV u (AX t 0) (AX t 1) (AX t 2) 2) = false := by simpa using c2
        refine wp_region_held_drew (S := (fun x => x.cell? ⟨w1.heap.size, 0, none⟩ = some (.int .i64 (AX t 0)) ∧ x.cell? ⟨w1.heap.size, 1, none⟩ = some (.int .i64 (AX t 1)) ∧ x.cell? ⟨w1.heap.size, 2, none⟩ = some (.int .i64 (AX t 2)) ∧ x.cell? ⟨w1.heap.size + 1, 0, none⟩ = some (.int .i64 (AX t 3)) ∧ x.cell? ⟨w1.heap.size + 1, 1, none⟩ = some (.int .i64 (AX t 4)) ∧ x.cell? ⟨w1.heap.size + 1, 2, none⟩ = some (.int .i64 (AX t 5)) ∧ x.cell? ⟨w3.heap.size, 0, none⟩ = some (.int .i64 (AX k 0)) ∧ x.cell? ⟨w3.heap.size, 1, none⟩ = some (.int .i64 (AX k 1)) ∧ x.cell? ⟨w3.heap.size, 2, none⟩ = some (.int .i64 (AX k 2)) ∧ x.cell? ⟨w3.heap.size + 1, 0, none⟩ = some (.int .i64 (AX k 3)) ∧ x.cell? ⟨w3.heap.size + 1, 1, none⟩ = some (.int .i64 (AX k 4)) ∧ x.cell? ⟨w3.heap.size + 1, 2, none⟩ = some (.int .i64 (AX k 5)) ∧ Below V.heap.size V x)) (by kernel_rfl) (KEEP.out _ (Below.drew (by assumption))) (fun hHeld => ?_)
        refine wpAnyH_take (i := 0) (v := ?v13) rfl (by kernel_rfl) (by kernel_rfl) (by kernel_rfl) (fun _ _ _ h => h) (Or.inl ⟨by rfl, ?hy13⟩) (by assumption) ?rest13
        case hy13 => (intro w hSw; (try dsimp only at hSw); go_simp; (try (with_reducible rfl)))
        try simp only [Act.put, List.getElem_toArray, List.getElem_cons_zero, List.setIfInBounds_toArray, List.set_cons_zero, List.set_cons_succ]
        refine wpAnyH_take (i := 1) (v := ?v14) rfl (by kernel_rfl) (by kernel_rfl) (by kernel_rfl) (fun _ _ _ h => h) (Or.inl ⟨by rfl, ?hy14⟩) (by assumption) ?rest14
        case hy14 => (intro w hSw; (try dsimp only at hSw); go_simp; (try (with_reducible rfl)))
        try simp only [Act.put, List.getElem_toArray, List.getElem_cons_succ, List.getElem_cons_zero, List.setIfInBounds_toArray, List.set_cons_zero, List.set_cons_succ]
        refine wpAnyH_take (i := 2) (v := ?v15) rfl (by kernel_rfl) (by kernel_rfl) (by kernel_rfl) (fun _ _ _ h => h) (Or.inl ⟨by rfl, ?hy15⟩) (by assumption) ?rest15
        case hy15 => (intro w hSw; (try dsimp only at hSw); go_simp; (try (with_reducible rfl)))
        try simp only [Act.put, List.getElem_toArray, List.getElem_cons_succ, List.getElem_cons_zero, List.setIfInBounds_toArray, List.set_cons_zero, List.set_cons_succ]
        refine wpAnyH_ready (rs := [3]) (by kernel_rfl) (by simp) (AllReadyH.cons rfl (fun K hK => ?_) AllReadyH.nil)
        go_simp
        (first | (go_at_call 29; ((with_reducible refine (belC (B := V.heap.size) (w := V) (rturned_any _ hu _ _ _ (by first | with_reducible exact i0 | with_reducible exact i3) _) (by first | with_reducible assumption | with_reducible exact Below.drew (by with_reducible assumption)) (Nat.le_refl _)).mono ?_)); rintro e w5 ⟨rfl, hB5⟩))
        refine hK.out _ _ (KEEP.out _ (by assumption)) (fun hHeld2 => ?_)
        clear hK K hHeld
        try simp only [Act.put, List.setIfInBounds_toArray, List.set_cons_zero, List.set_cons_succ]
        refine wpAnyH_take (i := 4) (v := ?v16) rfl (by kernel_rfl) (by kernel_rfl) (by kernel_rfl) (fun _ _ _ h => h) (Or.inl ⟨by rfl, ?hy16⟩) (by assumption) ?rest16
        case hy16 => (intro w hSw; (try dsimp only at hSw); go_simp; (try (with_reducible rfl)))
        try simp only [Act.put, List.getElem_toArray, List.getElem_cons_succ, List.getElem_cons_zero, List.setIfInBounds_toArray, List.set_cons_zero, List.set_cons_succ]
        refine wpAnyH_take (i := 5) (v := ?v17) rfl (by kernel_rfl) (by kernel_rfl) (by kernel_rfl) (fun _ _ _ h => h) (Or.inl ⟨by rfl, ?hy17⟩) (by assumption) ?rest17
        case hy17 => (intro w hSw; (try dsimp only at hSw); go_simp; (try (with_reducible rfl)))
        try simp only [Act.put, List.getElem_toArray, List.getElem_cons_succ, List.getElem_cons_zero, List.setIfInBounds_toArray, List.set_cons_zero, List.set_cons_succ]
        refine wpAnyH_take (i := 6) rfl (by kernel_rfl) (by kernel_rfl) (by kernel_rfl) (fun _ _ _ h => h) (Or.inr ⟨by rfl, rfl⟩) (by assumption) ?_
        try simp only [Act.put, List.getElem_toArray, List.getElem_cons_succ, List.getElem_cons_zero, List.setIfInBounds_toArray, List.set_cons_zero, List.set_cons_succ]
        refine wpAnyH_take (i := 7) rfl (by kernel_rfl) (by kernel_rfl) (by kernel_rfl) (fun _ _ _ h => h) (Or.inr ⟨by rfl, rfl⟩) (by assumption) ?_
        try simp only [Act.put, List.getElem_toArray, List.getElem_cons_succ, List.getElem_cons_zero, List.setIfInBounds_toArray, List.set_cons_zero, List.set_cons_succ]
        refine wpAnyH_take (i := 8) rfl (by kernel_rfl) (by kernel_rfl) (by kernel_rfl) (fun _ _ _ h => h) (Or.inr ⟨by rfl, rfl⟩) (by assumption) ?_
        try simp only [Act.put, List.getElem_toArray, List.getElem_cons_succ, List.getElem_cons_zero, List.setIfInBounds_toArray, List.set_cons_zero, List.set_cons_succ]
        refine wpAnyH_take (i := 9) rfl (by kernel_rfl) (by kernel_rfl) (by kernel_rfl) (fun _ _ _ h => h) (Or.inr ⟨by rfl, rfl⟩) (by assumption) ?_
        try simp only [Act.put, List.getElem_toArray, List.getElem_cons_succ, List.getElem_cons_zero, List.setIfInBounds_toArray, List.set_cons_zero, List.set_cons_succ]
        refine wpAnyH_take (i := 10) rfl (by kernel_rfl) (by kernel_rfl) (by kernel_rfl) (fun _ _ _ h => h) (Or.inr ⟨by rfl, rfl⟩) (by assumption) ?_
        try simp only [Act.put, List.getElem_toArray, List.getElem_cons_succ, List.getElem_cons_zero, List.setIfInBounds_toArray, List.set_cons_zero, List.set_cons_succ]
        refine wpAnyH_take (i := 11) (v := ?v18) rfl (by kernel_rfl) (by kernel_rfl) (by kernel_rfl) (fun _ _ _ h => h) (Or.inl ⟨by rfl, ?hy18⟩) (by assumption) ?rest18
        case hy18 => (intro w hSw; (try dsimp only at hSw); go_simp; (try (with_reducible rfl)))
        try simp only [Act.put, List.getElem_toArray, List.getElem_cons_succ, List.getElem_cons_zero, List.setIfInBounds_toArray, List.set_cons_zero, List.set_cons_succ]
        refine wpAnyH_done (by kernel_rfl) ?_ _
        go_wp2
        go_roundw
        case rel => exact ⟨k + 1, by omega, by go_num, B3.trans (hB5.mono B3.size)⟩
        case measure => simp [intOf]; omega
      · go_region_held3 (fun x => x.cell? ⟨w1.heap.size, 0, none⟩ = some (.int .i64 (AX t 0)) ∧ x.cell? ⟨w1.heap.size, 1, none⟩ = some (.int .i64 (AX t 1)) ∧ x.cell? ⟨w1.heap.size, 2, none⟩ = some (.int .i64 (AX t 2)) ∧ x.cell? ⟨w1.heap.size + 1, 0, none⟩ = some (.int .i64 (AX t 3)) ∧ x.cell? ⟨w1.heap.size + 1, 1, none⟩ = some (.int .i64 (AX t 4)) ∧ x.cell? ⟨w1.heap.size + 1, 2, none⟩ = some (.int .i64 (AX t 5)) ∧ x.cell? ⟨w3.heap.size, 0, none⟩ = some (.int .i64 (AX k 0)) ∧ x.cell? ⟨w3.heap.size, 1, none⟩ = some (.int .i64 (AX k 1)) ∧ x.cell? ⟨w3.heap.size, 2, none⟩ = some (.int .i64 (AX k 2)) ∧ x.cell? ⟨w3.heap.size + 1, 0, none⟩ = some (.int .i64 (AX k 3)) ∧ x.cell? ⟨w3.heap.size + 1, 1, none⟩ = some (.int .i64 (AX k 4)) ∧ x.cell? ⟨w3.heap.size + 1, 2, none⟩ = some (.int .i64 (AX k 5)) ∧ Below V.heap.size V x)
          (first | exact KEEP.out _ (by assumption) | exact KEEP.out _ (Below.drew (by assumption)))
          (first | (go_at_call 29; ((with_reducible refine (belC (B := V.heap.size) (w := V) (rturned_any _ hu _ _ _ (by first | with_reducible exact i0 | with_reducible exact i3) _) (by first | with_reducible assumption | with_reducible exact Below.drew (by with_reducible assumption)) (Nat.le_refl _)).mono ?_)); rintro e w5 ⟨rfl, hB5⟩) | (fail))
        go_wp2
        go_roundw
        case rel => exact ⟨k + 1, by omega, by go_num, B3.trans (hB5.mono B3.size)⟩
        case measure => simp [intOf]; omega
      · go_region_held3 (fun x => x.cell? ⟨w1.heap.size, 0, none⟩ = some (.int .i64 (AX t 0)) ∧ x.cell? ⟨w1.heap.size, 1, none⟩ = some (.int .i64 (AX t 1)) ∧ x.cell? ⟨w1.heap.size, 2, none⟩ = some (.int .i64 (AX t 2)) ∧ x.cell? ⟨w1.heap.size + 1, 0, none⟩ = some (.int .i64 (AX t 3)) ∧ x.cell? ⟨w1.heap.size + 1, 1, none⟩ = some (.int .i64 (AX t 4)) ∧ x.cell? ⟨w1.heap.size + 1, 2, none⟩ = some (.int .i64 (AX t 5)) ∧ x.cell? ⟨w3.heap.size, 0, none⟩ = some (.int .i64 (AX k 0)) ∧ x.cell? ⟨w3.heap.size, 1, none⟩ = some (.int .i64 (AX k 1)) ∧ x.cell? ⟨w3.heap.size, 2, none⟩ = some (.int .i64 (AX k 2)) ∧ x.cell? ⟨w3.heap.size + 1, 0, none⟩ = some (.int .i64 (AX k 3)) ∧ x.cell? ⟨w3.heap.size + 1, 1, none⟩ = some (.int .i64 (AX k 4)) ∧ x.cell? ⟨w3.heap.size + 1, 2, none⟩ = some (.int .i64 (AX k 5)) ∧ Below V.heap.size V x)
          (first | exact KEEP.out _ (by assumption) | exact KEEP.out _ (Below.drew (by assumption)))
          (first | (go_at_call 29; ((with_reducible refine (belC (B := V.heap.size) (w := V) (rturned_any _ hu _ _ _ (by first | with_reducible exact i0 | with_reducible exact i3) _) (by first | with_reducible assumption | with_reducible exact Below.drew (by with_reducible assumption)) (Nat.le_refl _)).mono ?_)); rintro e w5 ⟨rfl, hB5⟩) | (fail))
        go_wp2
        go_roundw
        case rel => exact ⟨k + 1, by omega, by go_num, B3.trans (hB5.mono B3.size)⟩
        case measure => simp [intOf]; omega
      · go_region_held3 (fun x => x.cell? ⟨w1.heap.size, 0, none⟩ = some (.int .i64 (AX t 0)) ∧ x.cell? ⟨w1.heap.size, 1, none⟩ = some (.int .i64 (AX t 1)) ∧ x.cell? ⟨w1.heap.size, 2, none⟩ = some (.int .i64 (AX t 2)) ∧ x.cell? ⟨w1.heap.size + 1, 0, none⟩ = some (.int .i64 (AX t 3)) ∧ x.cell? ⟨w1.heap.size + 1, 1, none⟩ = some (.int .i64 (AX t 4)) ∧ x.cell? ⟨w1.heap.size + 1, 2, none⟩ = some (.int .i64 (AX t 5)) ∧ x.cell? ⟨w3.heap.size, 0, none⟩ = some (.int .i64 (AX k 0)) ∧ x.cell? ⟨w3.heap.size, 1, none⟩ = some (.int .i64 (AX k 1)) ∧ x.cell? ⟨w3.heap.size, 2, none⟩ = some (.int .i64 (AX k 2)) ∧ x.cell? ⟨w3.heap.size + 1, 0, none⟩ = some (.int .i64 (AX k 3)) ∧ x.cell? ⟨w3.heap.size + 1, 1, none⟩ = some (.int .i64 (AX k 4)) ∧ x.cell? ⟨w3.heap.size + 1, 2, none⟩ = some (.int .i64 (AX k 5)) ∧ Below V.heap.size V x)
          (first | exact KEEP.out _ (by assumption) | exact KEEP.out _ (Below.drew (by assumption)))
          (first | (go_at_call 29; ((with_reducible refine (belC (B := V.heap.size) (w := V) (rturned_any _ hu _ _ _ (by first | with_reducible exact i0 | with_reducible exact i3) _) (by first | with_reducible assumption | with_reducible exact Below.drew (by with_reducible assumption)) (Nat.le_refl _)).mono ?_)); rintro e w5 ⟨rfl, hB5⟩) | (fail))
        go_wp2
        go_roundw
        case rel => exact ⟨k + 1, by omega, by go_num, B3.trans (hB5.mono B3.size)⟩
        case measure => simp [intOf]; omega
end Go.Proofs.YtbfbafoeifigfaaDoor
