/- The reference's Turn. -/
import Derived.Test.YtbfbafoeifigfaaDoorRefMi
import Derived.Test.YtbfbafoeifigfaaDoorCubeN
import Derived.Test.YtbfbafoeifigfaaDoorCubeV
import Derived.Deep.RegionHeld3
namespace Go.Proofs.YtbfbafoeifigfaaDoor
open Go.RowKit TF

theorem U_i2 {x y z : Int} (h : U3 x y z) : I3 20000 x y z := ⟨⟨by have := h.x.1; omega, by have := h.x.2; omega⟩, ⟨by have := h.y.1; omega, by have := h.y.2; omega⟩, ⟨by have := h.z.1; omega, by have := h.z.2; omega⟩⟩
theorem i3up {a b x y z : Int} (h : I3 a x y z) (hab : a ≤ b) : I3 b x y z := ⟨⟨by have := h.x.1; omega, by have := h.x.2; omega⟩, ⟨by have := h.y.1; omega, by have := h.y.2; omega⟩, ⟨by have := h.z.1; omega, by have := h.z.2; omega⟩⟩
theorem MI_i0 {n i j : Int} {f : Nat} (h : On n f i j) : I3 1000 (MI n f i j 0) (MI n f i j 1) (MI n f i j 2) := by
  have h1 := h.n1; have h2 := h.n32; have h3 := h.i0; have h4 := h.i1; have h5 := h.j0; have h6 := h.j1
  exact ⟨MI_in h.f6 h1 h2 (by omega) (by omega) (by omega) (by omega) 0 (by omega), MI_in h.f6 h1 h2 (by omega) (by omega) (by omega) (by omega) 1 (by omega), MI_in h.f6 h1 h2 (by omega) (by omega) (by omega) (by omega) 2 (by omega)⟩
theorem ret_tup2 {a b c d : Int} (h : a = c) (h2 : b = d) : Ending.returned (.tuple #[.int .i64 a, .int .i64 b]) = .returned (.tuple #[.int .i64 c, .int .i64 d]) := by rw [h, h2]
theorem three_ne {a b c d e f : Int} (h : ¬ (a = d ∧ b = e ∧ c = f)) : (a ≠ d) ∨ (a = d ∧ b ≠ e) ∨ (a = d ∧ b = e ∧ c ≠ f) := by omega

set_option maxRecDepth 100000 in
set_option maxHeartbeats 4000000 in
theorem rturn_on {n i j : Int} {f t : Nat} (hO : On n f i j) (ht : t < 24) (w : World) :
    Calls Tryd.prog 23 #[.int .i64 n, .int .i64 t, .int .i64 (cellN n f i j)] w fun e w' => e = .returned (.tuple #[.int .i64 (cellN n (tF t f) (uX n t f i j) (uY n t f i j)), .int .i64 (tQ t f : Nat)]) ∧ Below w.heap.size w w' := by
  obtain ⟨hc0, hc1⟩ := hO.bound
  have hcs : cellsI n = 6 * n * n := by unfold cellsI; rw [good_of hO.n1 hO.n32]; rfl
  rw [← hcs] at hc1
  have hM := MI_i0 hO
  have hT : I3 20000 (TV t (MI n f i j 0) (MI n f i j 1) (MI n f i j 2) 0) (TV t (MI n f i j 0) (MI n f i j 1) (MI n f i j 2) 1) (TV t (MI n f i j 0) (MI n f i j 1) (MI n f i j 2) 2) := i3up (TV_i3 ht (i3up hM (by omega))) (by omega)
  have HO := Lib.hid hO
  obtain ⟨T0, T1, T2, hT, MID, TUR, HR⟩ : ∃ T0 T1 T2 : Int, I3 20000 T0 T1 T2 ∧ (∃ M0 M1 M2, Hid (∀ x, Below w.heap.size w x → Calls Tryd.prog 37 #[.int .i64 n, .int .i64 (cellN n f i j)] x fun e w' => e = .returned (.agg #[.int .i64 M0, .int .i64 M1, .int .i64 M2]) ∧ Below w.heap.size w w') ∧ Hid (∀ x, Below w.heap.size w x → Calls Tryd.prog 29 #[.int .i64 t, .agg #[.int .i64 M0, .int .i64 M1, .int .i64 M2]] x fun e w' => e = .returned (.agg #[.int .i64 T0, .int .i64 T1, .int .i64 T2]) ∧ Below w.heap.size w w')) ∧ True ∧ Hid (∀ g k, T0 * FR g k + T1 * FR g (k + 1) + T2 * FR g (k + 2) = RJ n t f i j g k) := by
    refine ⟨_, _, _, hT, ⟨_, _, _, behind fun x _ => rmiddle_on hO x, behind fun x _ => rturned_any t ht _ _ _ hM x⟩, trivial, Lib.hid fun g k => ?_⟩
    rfl
  clear TUR
  obtain ⟨M0, M1, M2, MID, TUR⟩ := MID
  have CE : Hid (∀ x, Below w.heap.size w x → Calls Tryd.prog 15 #[.int .i64 n] x fun e w' => e = .returned (.int .i64 (cellsI n)) ∧ Below w.heap.size w w') := behind fun x _ => same_behind (rcells_any n x)
  have n1 := hO.n1; have n2 := hO.n32
  have HG := Lib.hid (turn_face t ht f hO.f6).1
  have HQ := Lib.hid (turn_face t ht f hO.f6).2.1
  clear hM hcs
  obtain ⟨cc, hcc⟩ : ∃ z, z = cellN n f i j := ⟨_, rfl⟩
  rw [← hcc] at hc0 hc1 MID
  rw [← hcc]
  have HCC := Lib.hid hcc
  generalize hss : cellsI n = ss at *
  have hB0 : Below w.heap.size w w := Below.refl _ _
  clear hcc hss hO
  go_enter Tryd.func23, Tryd.ntmps23
  go_upto_region 4 with (first | (go_at_call 15; ((with_reducible refine (CE.out _ (by first | with_reducible assumption | with_reducible exact Below.drew (by with_reducible assumption))).mono ?_)); rintro e x0 ⟨rfl, hBx0⟩) | (go_at_call 37; ((with_reducible refine (MID.out _ (by first | with_reducible assumption | with_reducible exact Below.drew (by with_reducible assumption))).mono ?_)); rintro e x1 ⟨rfl, hBx1⟩) | (go_at_call 29; ((with_reducible refine (TUR.out _ (by first | with_reducible assumption | with_reducible exact Below.drew (by with_reducible assumption))).mono ?_)); rintro e x2 ⟨rfl, hBx2⟩))
  obtain ⟨bT, hbT⟩ : ∃ z, z = x2.heap.size := ⟨_, rfl⟩
  obtain ⟨W1, hW1⟩ : ∃ W, W = x2.alloc (.cells #[.int .i64 T0, .int .i64 T1, .int .i64 T2] 45) := ⟨_, rfl⟩
  rw [← hW1, ← hbT]
  have B1 : Below w.heap.size w W1 := by rw [hW1]; exact hBx2.alloc hBx2.size _
  have lT1 : bT < W1.heap.size := by rw [hW1, hbT]; simp
  have T1c : Three W1 bT T0 T1 T2 := by rw [hW1, hbT]; exact ⟨by simp [go_sem], by simp [go_sem], by simp [go_sem]⟩
  have hW11 : Below W1.heap.size W1 W1 := Below.refl _ _
  clear hW1 hbT MID TUR CE hBx0 hBx1 hBx2

  obtain ⟨E0, E1, E2, ⟨N0, N1, N2, WAY, TUE⟩, HE⟩ : ∃ E0 E1 E2 : Int, (∃ N0 N1 N2, Hid (∀ x, Below W1.heap.size W1 x → Calls Tryd.prog 38 #[.int .i64 n, .int .i64 (cellN n f i j), .int .i64 0] x fun e w' => e = .returned (.agg #[.int .i64 N0, .int .i64 N1, .int .i64 N2]) ∧ Below W1.heap.size W1 w') ∧ Hid (∀ x, Below W1.heap.size W1 x → Calls Tryd.prog 29 #[.int .i64 t, .agg #[.int .i64 N0, .int .i64 N1, .int .i64 N2]] x fun e w' => e = .returned (.agg #[.int .i64 E0, .int .i64 E1, .int .i64 E2]) ∧ Below W1.heap.size W1 w')) ∧ Hid (∀ q, q < 4 → (q = tQ t f ∧ WO (tF t f) q 0 = E0 ∧ WO (tF t f) q 1 = E1 ∧ WO (tF t f) q 2 = E2) ∨ (q ≠ tQ t f ∧ ¬ (WO (tF t f) q 0 = E0 ∧ WO (tF t f) q 1 = E1 ∧ WO (tF t f) q 2 = E2))) := by
    have hu : U3 (FR f 3) (FR f 4) (FR f 5) := FR_u HO.out.f6 (by omega)
    refine ⟨_, _, _, ⟨_, _, _, behind fun x _ => rway_on HO.out (s := 0) (by omega) x, behind fun x _ => rturned_any t ht (FR f 3) (FR f 4) (FR f 5) (U_i3 hu) x⟩, Lib.hid fun q hq => ?_⟩
    obtain ⟨a, b, c⟩ := turn_east t ht f HO.out.f6
    by_cases e : q = tQ t f
    · subst e; exact .inl ⟨rfl, a, b, c⟩
    · exact .inr ⟨e, fun h => e (turn_only t ht f HO.out.f6 q hq h)⟩
  rw [← HCC.out] at WAY
  go_upto_region 5 with (first | (go_at_call 38; ((with_reducible refine (WAY.out _ (by first | with_reducible assumption | with_reducible exact Below.drew (by with_reducible assumption))).mono ?_)); rintro e x3 ⟨rfl, hBx3⟩) | (go_at_call 29; ((with_reducible refine (TUE.out _ (by first | with_reducible assumption | with_reducible exact Below.drew (by with_reducible assumption))).mono ?_)); rintro e x4 ⟨rfl, hBx4⟩))
  obtain ⟨bE, hbE⟩ : ∃ z, z = x4.heap.size := ⟨_, rfl⟩
  obtain ⟨W, hW⟩ : ∃ W, W = x4.alloc (.cells #[.int .i64 E0, .int .i64 E1, .int .i64 E2] 45) := ⟨_, rfl⟩
  rw [← hW, ← hbE]
  have B4 : Below W1.heap.size W1 W := by rw [hW]; exact hBx4.alloc hBx4.size _
  have lE : bE < W.heap.size := by rw [hW, hbE]; simp
  have lT : bT < W.heap.size := by have := B4.size; omega
  have Ec : Three W bE E0 E1 E2 := by rw [hW, hbE]; exact ⟨by simp [go_sem], by simp [go_sem], by simp [go_sem]⟩
  have Tc : Three W bT T0 T1 T2 := T1c.below B4
  have BW : Hid (Below w.heap.size w W) := Lib.hid (B1.trans (B4.mono B1.size))
  clear hW hbE WAY TUE B4 B1 lT1 T1c hW11 hBx3 hBx4
  go_wp2_with fail
  go_loopw [10] (fun i wr => ∃ g : Nat, g ≤ tF t f ∧ i = .int .i64 g ∧ Below W.heap.size W wr) (fun i _ => 6 - (intOf i).toNat)
  case atStart => exact ⟨0, Nat.zero_le _, rfl, Below.refl _ _⟩
  case round =>
    obtain ⟨g, hg, rfl, hwr⟩ := hrel
    have hg6 : g < 6 := by have := HG.out; omega
    have hg6' : (g : Int) < 6 := by omega
    have v0 : U3 (FR g 0) (FR g 1) (FR g 2) := FR_u hg6 (by omega)
    have v3 : U3 (FR g 3) (FR g 4) (FR g 5) := FR_u hg6 (by omega)
    have v6 : U3 (FR g 6) (FR g 7) (FR g 8) := FR_u hg6 (by omega)
    go_upto_region 9 with (first | (go_at_call 39; ((with_reducible refine (belC (B := W.heap.size) (w := W) (rframe_any g hg6 _) (by with_reducible assumption) (Nat.le_refl _)).mono ?_)); rintro e w3 ⟨rfl, hB3⟩))
    obtain ⟨bF, hbF⟩ : ∃ z, z = w3.heap.size := ⟨_, rfl⟩
    obtain ⟨V, hV⟩ : ∃ V : World, V = ((w3.alloc (.cells #[.int .i64 (FR g 0), .int .i64 (FR g 1), .int .i64 (FR g 2)] 45)).alloc (.cells #[.int .i64 (FR g 3), .int .i64 (FR g 4), .int .i64 (FR g 5)] 45)).alloc (.cells #[.int .i64 (FR g 6), .int .i64 (FR g 7), .int .i64 (FR g 8)] 45) := ⟨_, rfl⟩
    rw [← hV, ← hbF]
    have BV : Below W.heap.size W V := by rw [hV]; exact hB3.trans ((bel3 _ _ _ _).mono hB3.size)
    have Fa : Three V bF (FR g 0) (FR g 1) (FR g 2) := by rw [hV, hbF]; exact ⟨by simp [go_sem], by simp [go_sem], by simp [go_sem]⟩
    have Fb : Three V (bF + 1) (FR g 3) (FR g 4) (FR g 5) := by rw [hV, hbF]; exact ⟨by simp [go_sem], by simp [go_sem], by simp [go_sem]⟩
    have Fc : Three V (bF + 1 + 1) (FR g 6) (FR g 7) (FR g 8) := by rw [hV, hbF]; exact ⟨by simp [go_sem], by simp [go_sem], by simp [go_sem]⟩
    have Tv := Tc.below BV
    have Ev := Ec.below BV
    have hVV : Below V.heap.size V V := Below.refl _ _
    clear hV hbF hB3
    have R0 := HR.out g 0
    rcases turned_face HO.out ht hg6 with ⟨hgt, hrj⟩ | ⟨hgt, hrj⟩
    · rw [hrj] at R0
      obtain ⟨X, Y, hX, hY⟩ : ∃ X Y : Int, X = uX n t f i j ∧ Y = uY n t f i j := ⟨_, _, rfl, rfl⟩
      have hU := u_on HO.out ht
      obtain ⟨tx, ty⟩ := turned_at HO.out ht
      rw [← hgt, ← hX, ← hY] at hU
      rw [← hgt, ← hX] at tx
      rw [← hgt, ← hY] at ty
      have X0 := hU.i0; have X1 := hU.i1; have Y0 := hU.j0; have Y1 := hU.j1
      have R3 := HR.out g 3
      have R6 := HR.out g 6
      obtain ⟨D3, hD3⟩ : ∃ z, z = RJ n t f i j g 3 := ⟨_, rfl⟩
      obtain ⟨D6, hD6⟩ : ∃ z, z = RJ n t f i j g 6 := ⟨_, rfl⟩
      rw [← hD3] at tx R3
      rw [← hD6] at ty R6
      clear hD3 hD6
      obtain ⟨dd, hdd⟩ : ∃ z, z = cellI n g X Y := ⟨_, rfl⟩
      have hdn : dd = cellN n g X Y := hdd.trans hU.cell
      have DT0 : Hid (∀ x, Below V.heap.size V x → Calls Tryd.prog 40 #[.agg #[.int .i64 T0, .int .i64 T1, .int .i64 T2], .agg #[.int .i64 (FR g 0), .int .i64 (FR g 1), .int .i64 (FR g 2)]] x fun e w' => e = .returned (.int .i64 n) ∧ Below V.heap.size V w') := by
        have := fun x (_ : Below V.heap.size V x) => rdot_any T0 T1 T2 (FR g 0) (FR g 1) (FR g 2) hT v0 x
        rw [R0] at this
        exact behind this
      have DT3 : Hid (∀ x, Below V.heap.size V x → Calls Tryd.prog 40 #[.agg #[.int .i64 T0, .int .i64 T1, .int .i64 T2], .agg #[.int .i64 (FR g 3), .int .i64 (FR g 4), .int .i64 (FR g 5)]] x fun e w' => e = .returned (.int .i64 D3) ∧ Below V.heap.size V w') := by
        have := fun x (_ : Below V.heap.size V x) => rdot_any T0 T1 T2 (FR g 3) (FR g 4) (FR g 5) hT v3 x
        rw [R3] at this
        exact behind this
      have DT6 : Hid (∀ x, Below V.heap.size V x → Calls Tryd.prog 40 #[.agg #[.int .i64 T0, .int .i64 T1, .int .i64 T2], .agg #[.int .i64 (FR g 6), .int .i64 (FR g 7), .int .i64 (FR g 8)]] x fun e w' => e = .returned (.int .i64 D6) ∧ Below V.heap.size V w') := by
        have := fun x (_ : Below V.heap.size V x) => rdot_any T0 T1 T2 (FR g 6) (FR g 7) (FR g 8) hT v6 x
        rw [R6] at this
        exact behind this
      have CL : Hid (∀ x, Below V.heap.size V x → Calls Tryd.prog 17 #[.int .i64 n, .int .i64 g, .int .i64 X, .int .i64 Y] x fun e w' => e = .returned (.int .i64 dd) ∧ Below V.heap.size V w') := by
        have := fun x (_ : Below V.heap.size V x) => same_behind (rcell_any n g X Y x)
        rw [← hdd] at this
        exact behind this
      have HU := Lib.hid hU
      have HD := Lib.hid hdn
      have HXY := Lib.hid (And.intro hX hY)
      have HGT := Lib.hid hgt
      have e1 : IntKind.i64.wrap (D3 + n) = D3 + n := wrap_in (by omega) (by omega)
      have e2 : IntKind.i64.wrap (D3 + n - 1) = D3 + n - 1 := wrap_in (by omega) (by omega)
      have e3 : (D3 + n - 1).tdiv 2 = X := (even_half tx).2
      have e4 : IntKind.i64.wrap (D6 + n) = D6 + n := wrap_in (by omega) (by omega)
      have e5 : IntKind.i64.wrap (D6 + n - 1) = D6 + n - 1 := wrap_in (by omega) (by omega)
      have e6 : (D6 + n - 1).tdiv 2 = Y := (even_half ty).2
      have e7 : IntKind.i64.wrap X = X := wrap_in (by omega) (by omega)
      have e8 : IntKind.i64.wrap Y = Y := wrap_in (by omega) (by omega)
      have hh : (n != n) = false := by simp
      clear hdn hdd hU hX hY hgt tx ty R0 R3 R6 X0 X1 Y0 Y1 hrj
      obtain ⟨ta, tb, tc⟩ := id Tv
      obtain ⟨fa, fb, fc⟩ := id Fa
      go_upto_region 10 with (first | (go_at_call 40; ((with_reducible refine (DT0.out _ (by first | with_reducible assumption | with_reducible exact Below.drew (by with_reducible assumption))).mono ?_)); rintro e x5 ⟨rfl, hB5⟩))
      have KEEP : Hid (∀ x : World, Below V.heap.size V x → x.cell? ⟨bT, 0, none⟩ = some (.int .i64 T0) ∧ x.cell? ⟨bT, 1, none⟩ = some (.int .i64 T1) ∧ x.cell? ⟨bT, 2, none⟩ = some (.int .i64 T2) ∧ x.cell? ⟨bF + 1, 0, none⟩ = some (.int .i64 (FR g 3)) ∧ x.cell? ⟨bF + 1, 1, none⟩ = some (.int .i64 (FR g 4)) ∧ x.cell? ⟨bF + 1, 2, none⟩ = some (.int .i64 (FR g 5)) ∧ x.cell? ⟨bF + 1 + 1, 0, none⟩ = some (.int .i64 (FR g 6)) ∧ x.cell? ⟨bF + 1 + 1, 1, none⟩ = some (.int .i64 (FR g 7)) ∧ x.cell? ⟨bF + 1 + 1, 2, none⟩ = some (.int .i64 (FR g 8)) ∧ Below V.heap.size V x) := Lib.hid (fun x h => by
        have h1 := Tv.below h
        have h2 := Fb.below h
        have h3 := Fc.below h
        exact ⟨h1.c0, h1.c1, h1.c2, h2.c0, h2.c1, h2.c2, h3.c0, h3.c1, h3.c2, h⟩)
      clear ta tb tc fa fb fc
      go_region_held3 (fun x => x.cell? ⟨bT, 0, none⟩ = some (.int .i64 T0) ∧ x.cell? ⟨bT, 1, none⟩ = some (.int .i64 T1) ∧ x.cell? ⟨bT, 2, none⟩ = some (.int .i64 T2) ∧ x.cell? ⟨bF + 1, 0, none⟩ = some (.int .i64 (FR g 3)) ∧ x.cell? ⟨bF + 1, 1, none⟩ = some (.int .i64 (FR g 4)) ∧ x.cell? ⟨bF + 1, 2, none⟩ = some (.int .i64 (FR g 5)) ∧ x.cell? ⟨bF + 1 + 1, 0, none⟩ = some (.int .i64 (FR g 6)) ∧ x.cell? ⟨bF + 1 + 1, 1, none⟩ = some (.int .i64 (FR g 7)) ∧ x.cell? ⟨bF + 1 + 1, 2, none⟩ = some (.int .i64 (FR g 8)) ∧ Below V.heap.size V x)
        (first | exact KEEP.out _ (by with_reducible assumption) | exact KEEP.out _ (Below.drew (by with_reducible assumption)))
        (first | (go_at_call 40; ((with_reducible refine (DT3.out _ (by first | with_reducible assumption | with_reducible exact Below.drew (by with_reducible assumption))).mono ?_)); rintro e x6 ⟨rfl, hB6⟩) | (go_at_call 40; ((with_reducible refine (DT6.out _ (by first | with_reducible assumption | with_reducible exact Below.drew (by with_reducible assumption))).mono ?_)); rintro e x7 ⟨rfl, hB7⟩) | (go_at_call 17; ((with_reducible refine (CL.out _ (by first | with_reducible assumption | with_reducible exact Below.drew (by with_reducible assumption))).mono ?_)); rintro e x8 ⟨rfl, hB8⟩))
      clear e1 e2 e3 e4 e5 e6 e7 e8 hh DT0 DT3 DT6 CL KEEP
      go_wp2_with fail
      go_loopw [15] (fun i wr => ∃ q : Nat, q ≤ tQ t f ∧ i = .int .i64 q ∧ Below V.heap.size V wr) (fun i _ => 4 - (intOf i).toNat)
      case atStart => exact ⟨0, Nat.zero_le _, rfl, by with_reducible assumption⟩
      case round =>
        obtain ⟨q, hq, rfl, hwq⟩ := hrel
        have hq4 : q < 4 := by have := HQ.out; omega
        have hq4' : (q : Int) < 4 := by omega
        have Eq := Ev.below hwq
        have hqq : Below wr.heap.size wr wr := Below.refl _ _
        have HQE := HE.out q hq4
        rw [← HGT.out] at HQE
        obtain ⟨a0, a1, a2, WQ, HA⟩ : ∃ a0 a1 a2 : Int, Hid (∀ x, Below wr.heap.size wr x → Calls Tryd.prog 38 #[.int .i64 n, .int .i64 dd, .int .i64 q] x fun e w' => e = .returned (.agg #[.int .i64 a0, .int .i64 a1, .int .i64 a2]) ∧ Below wr.heap.size wr w') ∧ Hid ((q = tQ t f ∧ a0 = E0 ∧ a1 = E1 ∧ a2 = E2) ∨ (q ≠ tQ t f ∧ ¬ (a0 = E0 ∧ a1 = E1 ∧ a2 = E2))) :=
          ⟨_, _, _, behind fun x _ => by rw [HD.out]; exact rway_on HU.out hq4 x, Lib.hid HQE⟩
        clear HQE
        have KEEP : Hid (∀ x : World, Below wr.heap.size wr x → x.cell? ⟨bE, 0, none⟩ = some (.int .i64 E0) ∧ x.cell? ⟨bE, 1, none⟩ = some (.int .i64 E1) ∧ x.cell? ⟨bE, 2, none⟩ = some (.int .i64 E2) ∧ Below wr.heap.size wr x) := Lib.hid (fun x h => by
          have h1 := Eq.below h
          exact ⟨h1.c0, h1.c1, h1.c2, h⟩)
        rcases HA.out with ⟨hqt, rfl, rfl, rfl⟩ | ⟨hqt, hne⟩
        · have HQT := Lib.hid hqt
          clear hqt HA
          go_upto_region 14 with fail
          go_region_held3 (fun x => x.cell? ⟨bE, 0, none⟩ = some (.int .i64 a0) ∧ x.cell? ⟨bE, 1, none⟩ = some (.int .i64 a1) ∧ x.cell? ⟨bE, 2, none⟩ = some (.int .i64 a2) ∧ Below wr.heap.size wr x)
            (first | exact KEEP.out _ (by with_reducible assumption) | exact KEEP.out _ (Below.drew (by with_reducible assumption)))
            (first | (go_at_call 38; ((with_reducible refine (WQ.out _ (by first | with_reducible assumption | with_reducible exact Below.drew (by with_reducible assumption))).mono ?_)); rintro e x9 ⟨rfl, hB9⟩))
          go_wp2_with fail
          go_ret2
          exact ⟨ret_tup2 (by rw [HD.out, HXY.out.1, HXY.out.2, HGT.out]) (by rw [HQT.out]), BW.out.trans ((BV.trans ((hwq.trans (hB9.mono hwq.size)).mono BV.size)).mono BW.out.size)⟩
        · have hlt : q < tQ t f := by omega
          have hcases := three_ne hne
          clear hne HA hqt
          rcases hcases with n0 | ⟨m0, n0⟩ | ⟨m0, m1, n0⟩
          all_goals
            go_upto_region 14 with fail
            go_region_held3 (fun x => x.cell? ⟨bE, 0, none⟩ = some (.int .i64 E0) ∧ x.cell? ⟨bE, 1, none⟩ = some (.int .i64 E1) ∧ x.cell? ⟨bE, 2, none⟩ = some (.int .i64 E2) ∧ Below wr.heap.size wr x)
              (first | exact KEEP.out _ (by with_reducible assumption) | exact KEEP.out _ (Below.drew (by with_reducible assumption)))
              (first | (go_at_call 38; ((with_reducible refine (WQ.out _ (by first | with_reducible assumption | with_reducible exact Below.drew (by with_reducible assumption))).mono ?_)); rintro e x9 ⟨rfl, hB9⟩))
            go_wp2_with fail
            go_roundw
            case rel => exact ⟨q + 1, by omega, by go_num, hwq.trans (hB9.mono hwq.size)⟩
            case measure => simp [intOf]; omega
    · have hlt : g < tF t f := by omega
      have hd : (RJ n t f i j g 0 != n) = true := by simpa using hrj
      obtain ⟨D0, hD0⟩ : ∃ z, z = RJ n t f i j g 0 := ⟨_, rfl⟩
      rw [← hD0] at hd R0
      have DT0 : Hid (∀ x, Below V.heap.size V x → Calls Tryd.prog 40 #[.agg #[.int .i64 T0, .int .i64 T1, .int .i64 T2], .agg #[.int .i64 (FR g 0), .int .i64 (FR g 1), .int .i64 (FR g 2)]] x fun e w' => e = .returned (.int .i64 D0) ∧ Below V.heap.size V w') := by
        have := fun x (_ : Below V.heap.size V x) => rdot_any T0 T1 T2 (FR g 0) (FR g 1) (FR g 2) hT v0 x
        rw [R0] at this
        exact behind this
      obtain ⟨ta, tb, tc⟩ := id Tv
      obtain ⟨fa, fb, fc⟩ := id Fa
      clear hrj hD0 R0 hgt
      go_wp2_with (first | (go_at_call 40; ((with_reducible refine (DT0.out _ (by first | with_reducible assumption | with_reducible exact Below.drew (by with_reducible assumption))).mono ?_)); rintro e x5 ⟨rfl, hB5⟩))
      go_roundw
      case rel => exact ⟨g + 1, by omega, by go_num, BV.trans (hB5.mono BV.size)⟩
      case measure => simp [intOf]; omega

end Go.Proofs.YtbfbafoeifigfaaDoor
