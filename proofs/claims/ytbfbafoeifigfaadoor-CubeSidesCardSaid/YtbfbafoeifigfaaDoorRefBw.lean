/- The reference's Beside, walked. -/
import Derived.Test.YtbfbafoeifigfaaDoorRefBs
import Derived.Deep.RegionHeld3
namespace Go.Proofs.YtbfbafoeifigfaaDoor
open Go.RowKit TF

set_option maxRecDepth 100000 in
set_option maxHeartbeats 3000000 in
theorem rbeside_on {n i j : Int} {f s : Nat} (hO : On n f i j) (hs : s < 4) (w : World) :
    Calls Tryd.prog 21 #[.int .i64 n, .int .i64 (cellN n f i j), .int .i64 s] w fun e w' => e = .returned (.tuple #[.int .i64 (cellN n (bF n f s i j) (bX n f s i j) (bY n f s i j)), .int .i64 (bS n f s i j : Nat)]) ∧ Below w.heap.size w w' := by
  obtain ⟨hc0, hc1⟩ := hO.bound
  have hcs : cellsI n = 6 * n * n := by unfold cellsI; rw [good_of hO.n1 hO.n32]; rfl
  rw [← hcs] at hc1
  have hM := MI_i0 hO
  have hP := PI_i1 hO s
  have HO := Lib.hid hO
  have hB0 : Below w.heap.size w w := Below.refl _ _
  obtain ⟨cc, hcc⟩ : ∃ z, z = cellN n f i j := ⟨_, rfl⟩
  obtain ⟨P0, P1, P2, hPb, M0, M1, M2, N0, N1, N2, MID, WAY, PLE, HS⟩ : ∃ P0 P1 P2 : Int, I3 1001 P0 P1 P2 ∧ ∃ M0 M1 M2 N0 N1 N2 : Int, Hid (∀ x, Below w.heap.size w x → Calls Tryd.prog 37 #[.int .i64 n, .int .i64 cc] x fun e w' => e = .returned (.agg #[.int .i64 M0, .int .i64 M1, .int .i64 M2]) ∧ Below w.heap.size w w') ∧ Hid (∀ x, Below w.heap.size w x → Calls Tryd.prog 38 #[.int .i64 n, .int .i64 cc, .int .i64 s] x fun e w' => e = .returned (.agg #[.int .i64 N0, .int .i64 N1, .int .i64 N2]) ∧ Below w.heap.size w w') ∧ Hid (∀ x, Below w.heap.size w x → Calls Tryd.prog 36 #[.agg #[.int .i64 M0, .int .i64 M1, .int .i64 M2], .int .i64 1, .agg #[.int .i64 N0, .int .i64 N1, .int .i64 N2]] x fun e w' => e = .returned (.agg #[.int .i64 P0, .int .i64 P1, .int .i64 P2]) ∧ Below w.heap.size w w') ∧ Hid (∀ g k, P0 * FR g k + P1 * FR g (k + 1) + P2 * FR g (k + 2) = SI n f s i j g k) := by
    refine ⟨_, _, _, hP, _, _, _, _, _, _, behind fun x _ => by rw [hcc]; exact rmiddle_on hO x, behind fun x _ => by rw [hcc]; exact rway_on hO hs x, behind fun x _ => ?_, Lib.hid fun g k => rfl⟩
    have := rplus_any _ _ _ 1 _ _ _ (i3up hM (by omega)) (show In 4000 1 from ⟨by omega, by omega⟩) (WO_u hO.f6 s) x
    rw [Int.one_mul, Int.one_mul, Int.one_mul] at this
    exact this
  obtain ⟨G, K, hG6, hK4, hGe, hKe, HBef, hAt, hNo, hHit⟩ := search hO hs
  rw [← hcc] at hc0 hc1 HBef hNo hHit
  rw [← hcc]
  obtain ⟨dd, hdd⟩ : ∃ z, z = cellN n (bF n f s i j) (bX n f s i j) (bY n f s i j) := ⟨_, rfl⟩
  rw [← hdd] at hHit
  rw [← hdd, ← hKe]
  have CE : Hid (∀ x, Below w.heap.size w x → Calls Tryd.prog 15 #[.int .i64 n] x fun e w' => e = .returned (.int .i64 (cellsI n)) ∧ Below w.heap.size w w') := behind fun x _ => same_behind (rcells_any n x)
  have n1 := hO.n1; have n2 := hO.n32
  have HBF := Lib.hid HBef
  have HAT := Lib.hid hAt
  have HNO := Lib.hid hNo
  have HHIT := Lib.hid hHit
  have HG6 := Lib.hid hG6
  have HK4 := Lib.hid hK4
  generalize hss : cellsI n = ss at *
  clear hM hP hcs hcc hss hO hGe hKe hdd HBef hAt hNo hHit hG6 hK4
  go_enter Tryd.func21, Tryd.ntmps21
  go_upto_region 4 with (first | (go_at_call 15; ((with_reducible refine (CE.out _ (by first | with_reducible assumption | with_reducible exact Below.drew (by with_reducible assumption))).mono ?_)); rintro e x0 ⟨rfl, hBx0⟩) | (go_at_call 37; ((with_reducible refine (MID.out _ (by first | with_reducible assumption | with_reducible exact Below.drew (by with_reducible assumption))).mono ?_)); rintro e x1 ⟨rfl, hBx1⟩) | (go_at_call 38; ((with_reducible refine (WAY.out _ (by first | with_reducible assumption | with_reducible exact Below.drew (by with_reducible assumption))).mono ?_)); rintro e x2 ⟨rfl, hBx2⟩) | (go_at_call 36; ((with_reducible refine (PLE.out _ (by first | with_reducible assumption | with_reducible exact Below.drew (by with_reducible assumption))).mono ?_)); rintro e x3 ⟨rfl, hBx3⟩))
  obtain ⟨bE, hbE⟩ : ∃ z, z = x3.heap.size := ⟨_, rfl⟩
  obtain ⟨W, hW⟩ : ∃ W, W = x3.alloc (.cells #[.int .i64 P0, .int .i64 P1, .int .i64 P2] 45) := ⟨_, rfl⟩
  rw [← hW, ← hbE]
  have B1 : Below w.heap.size w W := by rw [hW]; exact hBx3.alloc hBx3.size _
  have Ec : Three W bE P0 P1 P2 := by rw [hW, hbE]; exact ⟨by simp [go_sem], by simp [go_sem], by simp [go_sem]⟩
  have BW : Hid (Below w.heap.size w W) := Lib.hid B1
  clear hW hbE MID WAY PLE CE hBx0 hBx1 hBx2 hBx3 B1
  go_wp2_with fail
  go_loopw [9] (fun i wr => ∃ g : Nat, g ≤ G ∧ i = .int .i64 g ∧ Below W.heap.size W wr) (fun i _ => 6 - (intOf i).toNat)
  case atStart => exact ⟨0, Nat.zero_le _, rfl, Below.refl _ _⟩
  case round =>
    obtain ⟨g, hg, rfl, hwr⟩ := hrel
    have hg6 : g < 6 := by have := HG6.out; omega
    have hg6' : (g : Int) < 6 := by omega
    have v0 : U3 (FR g 0) (FR g 1) (FR g 2) := FR_u hg6 (by omega)
    have v3 : U3 (FR g 3) (FR g 4) (FR g 5) := FR_u hg6 (by omega)
    have v6 : U3 (FR g 6) (FR g 7) (FR g 8) := FR_u hg6 (by omega)
    go_upto_region 8 with (first | (go_at_call 39; ((with_reducible refine (belC (B := W.heap.size) (w := W) (rframe_any g hg6 _) (by with_reducible assumption) (Nat.le_refl _)).mono ?_)); rintro e w3 ⟨rfl, hB3⟩))
    obtain ⟨bF, hbF⟩ : ∃ z, z = w3.heap.size := ⟨_, rfl⟩
    obtain ⟨V, hV⟩ : ∃ V : World, V = ((w3.alloc (.cells #[.int .i64 (FR g 0), .int .i64 (FR g 1), .int .i64 (FR g 2)] 45)).alloc (.cells #[.int .i64 (FR g 3), .int .i64 (FR g 4), .int .i64 (FR g 5)] 45)).alloc (.cells #[.int .i64 (FR g 6), .int .i64 (FR g 7), .int .i64 (FR g 8)] 45) := ⟨_, rfl⟩
    rw [← hV, ← hbF]
    have BV : Below W.heap.size W V := by rw [hV]; exact hB3.trans ((bel3 _ _ _ _).mono hB3.size)
    have Fa : Three V bF (FR g 0) (FR g 1) (FR g 2) := by rw [hV, hbF]; exact ⟨by simp [go_sem], by simp [go_sem], by simp [go_sem]⟩
    have Fb : Three V (bF + 1) (FR g 3) (FR g 4) (FR g 5) := by rw [hV, hbF]; exact ⟨by simp [go_sem], by simp [go_sem], by simp [go_sem]⟩
    have Fc : Three V (bF + 1 + 1) (FR g 6) (FR g 7) (FR g 8) := by rw [hV, hbF]; exact ⟨by simp [go_sem], by simp [go_sem], by simp [go_sem]⟩
    have Ev := Ec.below BV
    have hVV : Below V.heap.size V V := Below.refl _ _
    clear hV hbF hB3
    obtain ⟨D0, hD0, hcase⟩ : ∃ D0 : Int, P0 * FR g 0 + P1 * FR g 1 + P2 * FR g 2 = D0 ∧ (((D0 != n) = true ∧ g < G) ∨ (D0 = n ∧ Hid (∃ m, (m = K ∧ g = G ∨ m = 4 ∧ g < G) ∧ NoneOn n g cc (SI n f s i j g 3 + n - 1) (SI n f s i j g 6 + n - 1) m))) := by
      refine ⟨_, rfl, ?_⟩
      have := HS.out g 0
      rw [show P0 * FR g 0 + P1 * FR g 1 + P2 * FR g 2 = SI n f s i j g 0 from this]
      by_cases e : g = G
      · right; exact ⟨by rw [e]; exact HAT.out, Lib.hid ⟨K, .inl ⟨rfl, e⟩, by rw [e]; exact HNO.out⟩⟩
      · rcases HBF.out g hg6 (by omega) with h | ⟨h, h2⟩
        · left; exact ⟨by simpa using h, by omega⟩
        · right; exact ⟨h, Lib.hid ⟨4, .inr ⟨rfl, by omega⟩, h2⟩⟩
    have DT0 : Hid (∀ x, Below V.heap.size V x → Calls Tryd.prog 40 #[.agg #[.int .i64 P0, .int .i64 P1, .int .i64 P2], .agg #[.int .i64 (FR g 0), .int .i64 (FR g 1), .int .i64 (FR g 2)]] x fun e w' => e = .returned (.int .i64 D0) ∧ Below V.heap.size V w') := by
      have := fun x (_ : Below V.heap.size V x) => rdot_any P0 P1 P2 (FR g 0) (FR g 1) (FR g 2) (i3up hPb (by omega)) v0 x
      rw [hD0] at this
      exact behind this
    obtain ⟨ta, tb, tc⟩ := id Ev
    obtain ⟨fa, fb, fc⟩ := id Fa
    clear hD0
    rcases hcase with ⟨hd, hlt⟩ | ⟨hdn, HM⟩
    · go_wp2_with (first | (go_at_call 40; ((with_reducible refine (DT0.out _ (by first | with_reducible assumption | with_reducible exact Below.drew (by with_reducible assumption))).mono ?_)); rintro e x5 ⟨rfl, hBx5⟩))
      go_roundw
      case rel => exact ⟨g + 1, by omega, by go_num, BV.trans (hBx5.mono BV.size)⟩
      case measure => simp [intOf]; omega
    · obtain rfl := hdn.symm
      have hh : (n != n) = false := by simp
      go_upto_region 9 with (first | (go_at_call 40; ((with_reducible refine (DT0.out _ (by first | with_reducible assumption | with_reducible exact Below.drew (by with_reducible assumption))).mono ?_)); rintro e x5 ⟨rfl, hBx5⟩))
      clear ta tb tc fa fb fc DT0 hh
      go_wp2_with fail
      obtain ⟨m, hm, hno⟩ := HM.out
      have HNN := Lib.hid hno
      have HMM := Lib.hid hm
      have hm4 : m ≤ 4 := by have := HK4.out; omega
      have S3 : P0 * FR g 3 + P1 * FR g 4 + P2 * FR g 5 = SI n f s i j g 3 := HS.out g 3
      have S6 : P0 * FR g 6 + P1 * FR g 7 + P2 * FR g 8 = SI n f s i j g 6 := HS.out g 6
      obtain ⟨s3, hs3⟩ : ∃ z, z = SI n f s i j g 3 := ⟨_, rfl⟩
      obtain ⟨s6, hs6⟩ : ∃ z, z = SI n f s i j g 6 := ⟨_, rfl⟩
      rw [← hs3, ← hs6] at HNN
      rw [← hs3] at S3
      rw [← hs6] at S6
      have HS3 := Lib.hid (And.intro S3 S6)
      have HHI : Hid (m = K ∧ g = G → Hit n g cc (s3 + n - 1 - DX m) (s6 + n - 1 - DY m) dd) := Lib.hid (fun ⟨e1, e2⟩ => by rw [e1, e2, hs3, hs6, e2]; exact HHIT.out)
      clear hno hm HM S3 S6 hs3 hs6
      have hBv : Below V.heap.size V x5 := by with_reducible assumption
      go_loopw [13] (fun i wr => ∃ k : Nat, k ≤ m ∧ i = .int .i64 k ∧ Below V.heap.size V wr) (fun i _ => 4 - (intOf i).toNat)
      case atStart => exact ⟨0, Nat.zero_le _, rfl, by with_reducible assumption⟩
      case round =>
        obtain ⟨k, hk, rfl, hwr2⟩ := hrel
        clear hBx5 hBv
        by_cases hk4 : k < 4
        · have hki : (k : Int) < 4 := by omega
          obtain ⟨Q0, Q1, Q2, hQ⟩ : ∃ Q0 Q1 Q2 : Int, Q0 = P0 - WO g k 0 ∧ Q1 = P1 - WO g k 1 ∧ Q2 = P2 - WO g k 2 := ⟨_, _, _, rfl, rfl, rfl⟩
          obtain ⟨D3, D6, hD⟩ : ∃ D3 D6 : Int, Q0 * FR g 3 + Q1 * FR g 4 + Q2 * FR g 5 = D3 ∧ Q0 * FR g 6 + Q1 * FR g 7 + Q2 * FR g 8 = D6 := ⟨_, _, rfl, rfl⟩
          have hD3 : D3 = s3 - DX k := by rw [← hD.1, hQ.1, hQ.2.1, hQ.2.2, (seen_at hg6 hk4 P0 P1 P2).1]; have := HS3.out.1; omega
          have hD6 : D6 = s6 - DY k := by rw [← hD.2, hQ.1, hQ.2.1, hQ.2.2, (seen_at hg6 hk4 P0 P1 P2).2]; have := HS3.out.2; omega
          have hW := WO_u hg6 k
          have hQb : I3 20000 Q0 Q1 Q2 := by
            rw [hQ.1, hQ.2.1, hQ.2.2]
            exact ⟨⟨by have := hW.x.1; have := hW.x.2; have := hPb.x.1; omega, by have := hW.x.1; have := hW.x.2; have := hPb.x.2; omega⟩, ⟨by have := hW.y.1; have := hW.y.2; have := hPb.y.1; omega, by have := hW.y.1; have := hW.y.2; have := hPb.y.2; omega⟩, ⟨by have := hW.z.1; have := hW.z.2; have := hPb.z.1; omega, by have := hW.z.1; have := hW.z.2; have := hPb.z.2; omega⟩⟩
          have hDb : -8000 ≤ D3 + n ∧ D3 + n ≤ 8000 ∧ -8000 ≤ D6 + n ∧ D6 + n ≤ 8000 := by
            obtain ⟨a1, a2⟩ := (⟨by have := hQb.x; exact hPb.x.1, hPb.x.2⟩ : In 1001 P0)
            have q : ∀ (c a : Int), In 1002 c → In 1 a → In 1002 (c * a) := fun c a h1 h2 => h1.mul h2 (by omega)
            have b0 : In 1002 Q0 := by rw [hQ.1]; exact ⟨by have := hW.x.2; have := hPb.x.1; omega, by have := hW.x.1; have := hPb.x.2; omega⟩
            have b1 : In 1002 Q1 := by rw [hQ.2.1]; exact ⟨by have := hW.y.2; have := hPb.y.1; omega, by have := hW.y.1; have := hPb.y.2; omega⟩
            have b2 : In 1002 Q2 := by rw [hQ.2.2]; exact ⟨by have := hW.z.2; have := hPb.z.1; omega, by have := hW.z.1; have := hPb.z.2; omega⟩
            obtain ⟨c1, c2⟩ := q _ _ b0 v3.x
            obtain ⟨c3, c4⟩ := q _ _ b1 v3.y
            obtain ⟨c5, c6⟩ := q _ _ b2 v3.z
            obtain ⟨c7, c8⟩ := q _ _ b0 v6.x
            obtain ⟨c9, d1⟩ := q _ _ b1 v6.y
            obtain ⟨d2, d3⟩ := q _ _ b2 v6.z
            rw [← hD.1, ← hD.2]
            omega
          obtain ⟨A, hA⟩ : ∃ A, D3 + n - 1 = A := ⟨_, rfl⟩
          obtain ⟨B, hB⟩ : ∃ B, D6 + n - 1 = B := ⟨_, rfl⟩
          obtain ⟨A', hA'⟩ : ∃ z, A.tdiv 2 = z := ⟨_, rfl⟩
          obtain ⟨B', hB'⟩ : ∃ z, B.tdiv 2 = z := ⟨_, rfl⟩
          have e1 : IntKind.i64.wrap (D3 + n) = D3 + n := wrap_in (by omega) (by omega)
          have e2 : IntKind.i64.wrap (D3 + n - 1) = A := by rw [hA]; exact wrap_in (by omega) (by omega)
          have e4 : IntKind.i64.wrap (D6 + n) = D6 + n := wrap_in (by omega) (by omega)
          have e5 : IntKind.i64.wrap (D6 + n - 1) = B := by rw [hB]; exact wrap_in (by omega) (by omega)
          have hAb : -9000 ≤ A' ∧ A' ≤ 9000 := by have := Int.mul_tdiv_add_tmod A 2; have := Int.tmod_lt_of_pos A (b := 2) (by omega); have := Int.lt_tmod_of_pos A (b := 2) (by omega); omega
          have hBb : -9000 ≤ B' ∧ B' ≤ 9000 := by have := Int.mul_tdiv_add_tmod B 2; have := Int.tmod_lt_of_pos B (b := 2) (by omega); have := Int.lt_tmod_of_pos B (b := 2) (by omega); omega
          have e7 : IntKind.i64.wrap A' = A' := wrap_in hAb.1 hAb.2
          have e8 : IntKind.i64.wrap B' = B' := wrap_in hBb.1 hBb.2
          have hAe : A = s3 + n - 1 - DX k := by omega
          have hBe : B = s6 + n - 1 - DY k := by omega
          obtain ⟨z, hz⟩ : ∃ z, cellI n g A' B' = z := ⟨_, rfl⟩
          have hout : (k < m ∧ ((A.tmod 2 != 0) = true ∨ ((A.tmod 2 != 0) = false ∧ (B.tmod 2 != 0) = false ∧ (z = -1 ∨ z = cc)))) ∨ (k = K ∧ (A.tmod 2 != 0) = false ∧ (B.tmod 2 != 0) = false ∧ z = dd ∧ 0 ≤ dd ∧ (dd != cc) = true) := by
            by_cases hkm : k < m
            · left
              refine ⟨hkm, ?_⟩
              have := Skip.cases (HNN.out k hkm)
              rw [← hAe, ← hBe, hA', hB', hz] at this
              exact this
            · right
              have hmk : m = k := by omega
              rcases HMM.out with h | h
              · have hh := HHI.out h
                rw [hmk, ← hAe, ← hBe] at hh
                obtain ⟨r1, r2, r3, r4, r5⟩ := hh
                rw [hA', hB', hz] at r3
                exact ⟨by omega, by simpa using r1, by simpa using r2, r3, r4, by simpa using r5⟩
              · omega
          have PMr : ∀ x, Below V.heap.size V x → Calls Tryd.prog 36 #[.agg #[.int .i64 P0, .int .i64 P1, .int .i64 P2], .int .i64 (-1), .agg #[.int .i64 (FR g 3), .int .i64 (FR g 4), .int .i64 (FR g 5)]] x fun e w' => e = .returned (.agg #[.int .i64 (P0 + -1 * FR g 3), .int .i64 (P1 + -1 * FR g 4), .int .i64 (P2 + -1 * FR g 5)]) ∧ Below x.heap.size x w' := fun x _ => rplus_any P0 P1 P2 (-1) _ _ _ (i3up hPb (by omega)) (show In 4000 (-1) from ⟨by omega, by omega⟩) v3 x
          have HQ := Lib.hid hQ
          have HDD := Lib.hid hD
          have e3 := hA'
          have e6 := hB'
          clear hA hB hDb hAb hBb hAe hBe hD3 hD6 hQ hD hA' hB' hW
          have Pv := Ev.below hwr2
          have Rv := Fb.below hwr2
          have Uv := Fc.below hwr2
          have hvv : Below wr.heap.size wr wr := Below.refl _ _
          rcases four hk4 with hk0 | hk0 | hk0 | hk0
          · have HK0 := Lib.hid hk0
            have g1 : ((k : Int) == 1) = false := by simp; omega
            have g2 : ((k : Int) == 2) = false := by simp; omega
            have g3 : ((k : Int) == 3) = false := by simp; omega
            obtain ⟨R0, R1, R2, PM, hR⟩ : ∃ R0 R1 R2 : Int, Hid (∀ x, Below wr.heap.size wr x → Calls Tryd.prog 36 #[.agg #[.int .i64 P0, .int .i64 P1, .int .i64 P2], .int .i64 (-1), .agg #[.int .i64 (FR g 3), .int .i64 (FR g 4), .int .i64 (FR g 5)]] x fun e w' => e = .returned (.agg #[.int .i64 R0, .int .i64 R1, .int .i64 R2]) ∧ Below wr.heap.size wr w') ∧ Hid (R0 = Q0 ∧ R1 = Q1 ∧ R2 = Q2) := ⟨P0 + -1 * FR g 3, P1 + -1 * FR g 4, P2 + -1 * FR g 5, behind fun x hx => PMr x (hwr2.trans (hx.mono hwr2.size)), Lib.hid (by obtain ⟨a, b, c⟩ := HQ.out; rw [hk0] at a b c; simp [WO, OU] at a b c; omega)⟩
            clear PMr hk0
            obtain ⟨ta, tb, tc⟩ := id Pv
            obtain ⟨fa, fb, fc⟩ := id Rv
            go_upto_region 13 with (first | (go_at_call 36; ((with_reducible refine (PM.out _ (by first | with_reducible assumption | with_reducible exact Below.drew (by with_reducible assumption))).mono ?_)); rintro e x6 ⟨rfl, hBx6⟩))
            clear ta tb tc fa fb fc PM
            obtain ⟨bM, hbM⟩ : ∃ z, z = x6.heap.size := ⟨_, rfl⟩
            obtain ⟨V2, hV2⟩ : ∃ W, W = x6.alloc (.cells #[.int .i64 R0, .int .i64 R1, .int .i64 R2] 45) := ⟨_, rfl⟩
            rw [← hV2, ← hbM]
            have B2 : Below wr.heap.size wr V2 := by rw [hV2]; exact hBx6.alloc hBx6.size _
            have lM : wr.heap.size ≤ bM := by rw [hbM]; exact hBx6.size
            have Mc : Three V2 bM R0 R1 R2 := by rw [hV2, hbM]; exact ⟨by simp [go_sem], by simp [go_sem], by simp [go_sem]⟩
            clear hV2 hbM hBx6
            obtain ⟨rfl, rfl, rfl⟩ := hR.out
            clear hR
            go_upto_region 19 with fail
            have P3v := Pv.below B2
            have R3v := Rv.below B2
            have U3v := Uv.below B2
            have BB : Below V.heap.size V V2 := hwr2.trans (B2.mono hwr2.size)
            have lm3 : bM < V2.heap.size := lt_of_some Mc.c0
            have lr3 : bF + 1 < V2.heap.size := lt_of_some R3v.c0
            have lu3 : bF + 1 + 1 < V2.heap.size := lt_of_some U3v.c0
            have DT3 : Hid (∀ x, Below V2.heap.size V2 x → Calls Tryd.prog 40 #[.agg #[.int .i64 R0, .int .i64 R1, .int .i64 R2], .agg #[.int .i64 (FR g 3), .int .i64 (FR g 4), .int .i64 (FR g 5)]] x fun e w' => e = .returned (.int .i64 D3) ∧ Below V2.heap.size V2 w') := by
              have := fun x (_ : Below V2.heap.size V2 x) => rdot_any R0 R1 R2 (FR g 3) (FR g 4) (FR g 5) hQb v3 x
              rw [HDD.out.1] at this
              exact behind this
            have DT6 : Hid (∀ x, Below V2.heap.size V2 x → Calls Tryd.prog 40 #[.agg #[.int .i64 R0, .int .i64 R1, .int .i64 R2], .agg #[.int .i64 (FR g 6), .int .i64 (FR g 7), .int .i64 (FR g 8)]] x fun e w' => e = .returned (.int .i64 D6) ∧ Below V2.heap.size V2 w') := by
              have := fun x (_ : Below V2.heap.size V2 x) => rdot_any R0 R1 R2 (FR g 6) (FR g 7) (FR g 8) hQb v6 x
              rw [HDD.out.2] at this
              exact behind this
            have CL : Hid (∀ x, Below V2.heap.size V2 x → Calls Tryd.prog 17 #[.int .i64 n, .int .i64 g, .int .i64 A', .int .i64 B'] x fun e w' => e = .returned (.int .i64 z) ∧ Below V2.heap.size V2 w') := by
              have := fun x (_ : Below V2.heap.size V2 x) => same_behind (rcell_any n g A' B' x)
              rw [hz] at this
              exact behind this
            have h33 : Below V2.heap.size V2 V2 := Below.refl _ _
            obtain ⟨ta, tb, tc⟩ := id Mc
            obtain ⟨fa, fb, fc⟩ := id R3v
            obtain ⟨ua, ub, uc⟩ := id U3v
            go_upto_region 21 with (first | (go_at_call 40; ((with_reducible refine (DT3.out _ (by first | with_reducible assumption | with_reducible exact Below.drew (by with_reducible assumption))).mono ?_)); rintro e x8 ⟨rfl, hBx8⟩; have hcx8 := (bcell hBx8).1) | (go_at_call 40; ((with_reducible refine (DT6.out _ (by first | with_reducible assumption | with_reducible exact Below.drew (by with_reducible assumption))).mono ?_)); rintro e x9 ⟨rfl, hBx9⟩; have hcx9 := (bcell hBx9).1))
            clear ta tb tc fa fb fc ua ub uc e1 e2 e4 e5 g1 g2 g3 hz
            have BFIN : ∀ y, Below V2.heap.size V2 y → Below V.heap.size V y := fun y hy => BB.trans (hy.mono BB.size)
            have BFH := Lib.hid BFIN
            clear BFIN hcx8 hcx9
            rcases hout with ⟨hkm, t1 | ⟨t1, t2, rfl | rfl⟩⟩ | ⟨hkK, t1, t2, rfl, t3, t4⟩
            · go_wp2_with (first | (go_at_call 17; ((with_reducible refine (CL.out _ (by first | with_reducible assumption | with_reducible exact Below.drew (by with_reducible assumption))).mono ?_)); rintro e y1 ⟨rfl, hBy1⟩))
              go_roundw
              case rel => exact ⟨k + 1, by omega, by go_num, BFH.out _ (by with_reducible assumption)⟩
              case measure => simp [intOf]; omega
            · go_wp2_with (first | (go_at_call 17; ((with_reducible refine (CL.out _ (by first | with_reducible assumption | with_reducible exact Below.drew (by with_reducible assumption))).mono ?_)); rintro e y1 ⟨rfl, hBy1⟩))
              go_roundw
              case rel => exact ⟨k + 1, by omega, by go_num, BFH.out _ (by with_reducible assumption)⟩
              case measure => simp [intOf]; omega
            · go_wp2_with (first | (go_at_call 17; ((with_reducible refine (CL.out _ (by first | with_reducible assumption | with_reducible exact Below.drew (by with_reducible assumption))).mono ?_)); rintro e y1 ⟨rfl, hBy1⟩))
              go_roundw
              case rel => exact ⟨k + 1, by omega, by go_num, BFH.out _ (by with_reducible assumption)⟩
              case measure => simp [intOf]; omega
            · have HKK := Lib.hid hkK
              clear hkK
              go_wp2_with (first | (go_at_call 17; ((with_reducible refine (CL.out _ (by first | with_reducible assumption | with_reducible exact Below.drew (by with_reducible assumption))).mono ?_)); rintro e y1 ⟨rfl, hBy1⟩))
              go_ret2
              exact ⟨ret_tup2 rfl (by rw [HKK.out]), BW.out.trans ((BV.trans ((BFH.out _ (by with_reducible assumption)).mono BV.size)).mono BW.out.size)⟩
          · have HK0 := Lib.hid hk0
            have g1 : ((k : Int) == 1) = true := by simp; omega
            have g2 : ((k : Int) == 2) = false := by simp; omega
            have g3 : ((k : Int) == 3) = false := by simp; omega
            obtain ⟨R0, R1, R2, PM⟩ : ∃ R0 R1 R2 : Int, Hid (∀ x, Below wr.heap.size wr x → Calls Tryd.prog 36 #[.agg #[.int .i64 P0, .int .i64 P1, .int .i64 P2], .int .i64 (-1), .agg #[.int .i64 (FR g 3), .int .i64 (FR g 4), .int .i64 (FR g 5)]] x fun e w' => e = .returned (.agg #[.int .i64 R0, .int .i64 R1, .int .i64 R2]) ∧ Below wr.heap.size wr w') := ⟨P0 + -1 * FR g 3, P1 + -1 * FR g 4, P2 + -1 * FR g 5, behind fun x hx => PMr x (hwr2.trans (hx.mono hwr2.size))⟩
            clear PMr hk0
            obtain ⟨ta, tb, tc⟩ := id Pv
            obtain ⟨fa, fb, fc⟩ := id Rv
            go_upto_region 13 with (first | (go_at_call 36; ((with_reducible refine (PM.out _ (by first | with_reducible assumption | with_reducible exact Below.drew (by with_reducible assumption))).mono ?_)); rintro e x6 ⟨rfl, hBx6⟩))
            clear ta tb tc fa fb fc PM
            obtain ⟨bM, hbM⟩ : ∃ z, z = x6.heap.size := ⟨_, rfl⟩
            obtain ⟨V2, hV2⟩ : ∃ W, W = x6.alloc (.cells #[.int .i64 R0, .int .i64 R1, .int .i64 R2] 45) := ⟨_, rfl⟩
            rw [← hV2, ← hbM]
            have B2 : Below wr.heap.size wr V2 := by rw [hV2]; exact hBx6.alloc hBx6.size _
            have lM : wr.heap.size ≤ bM := by rw [hbM]; exact hBx6.size
            have Mc : Three V2 bM R0 R1 R2 := by rw [hV2, hbM]; exact ⟨by simp [go_sem], by simp [go_sem], by simp [go_sem]⟩
            have Mo : Own3 V2 bM := by rw [hV2, hbM]; exact ⟨by simp [cellOr, go_sem], by simp [cellOr, go_sem], by simp [cellOr, go_sem], by simp [go_sem], by simp [go_sem], by simp [go_sem]⟩
            clear hV2 hbM hBx6
            have PN : Hid (∀ x, Below V2.heap.size V2 x → Calls Tryd.prog 36 #[.agg #[.int .i64 P0, .int .i64 P1, .int .i64 P2], .int .i64 (-1), .agg #[.int .i64 (FR g 6), .int .i64 (FR g 7), .int .i64 (FR g 8)]] x fun e w' => e = .returned (.agg #[.int .i64 Q0, .int .i64 Q1, .int .i64 Q2]) ∧ Below V2.heap.size V2 w') := behind fun x _ => by
              have := rplus_any P0 P1 P2 (-1) _ _ _ (i3up hPb (by omega)) (show In 4000 (-1) from ⟨by omega, by omega⟩) v6 x
              obtain ⟨a, b, c⟩ := HQ.out
              have hk0 := HK0.out
              rw [hk0] at a b c
              have a' : P0 + (-1) * FR g 6 = Q0 := by rw [a]; simp [WO, OU] <;> omega
              have b' : P1 + (-1) * FR g 7 = Q1 := by rw [b]; simp [WO, OU] <;> omega
              have c' : P2 + (-1) * FR g 8 = Q2 := by rw [c]; simp [WO, OU] <;> omega
              rw [a', b', c'] at this
              exact this
            have P2v := Pv.below B2
            have U2v := Uv.below B2
            have h22 : Below V2.heap.size V2 V2 := Below.refl _ _
            obtain ⟨ta, tb, tc⟩ := id P2v
            obtain ⟨fa, fb, fc⟩ := id U2v
            go_upto_region 15 with (first | (go_at_call 36; ((with_reducible refine (PN.out _ (by first | with_reducible assumption | with_reducible exact Below.drew (by with_reducible assumption))).mono ?_)); rintro e x7 ⟨rfl, hBx7⟩; obtain ⟨r0, r1, r2, z0, z1, z2⟩ := id (Mo.below hBx7)))
            obtain ⟨V3, hV3⟩ : ∃ W, W = ((x7.setCell ⟨bM, 0, none⟩ (.int .i64 Q0)).setCell ⟨bM, 1, none⟩ (.int .i64 Q1)).setCell ⟨bM, 2, none⟩ (.int .i64 Q2) := ⟨_, rfl⟩
            rw [← hV3]
            have B7 : Below wr.heap.size wr V3 := by rw [hV3]; exact set3 (B2.trans (hBx7.mono B2.size)) lM _ _ _
            have M7 : Three V3 bM Q0 Q1 Q2 := by rw [hV3]; exact way_set (Mo.below hBx7) _ _ _
            clear hV3 ta tb tc fa fb fc P2v U2v PN h22 r0 r1 r2 z0 z1 z2 B2 Mc Mo hBx7
            go_upto_region 19 with fail
            have P3v := Pv.below B7
            have R3v := Rv.below B7
            have U3v := Uv.below B7
            have BB : Below V.heap.size V V3 := hwr2.trans (B7.mono hwr2.size)
            have lm3 : bM < V3.heap.size := lt_of_some M7.c0
            have lr3 : bF + 1 < V3.heap.size := lt_of_some R3v.c0
            have lu3 : bF + 1 + 1 < V3.heap.size := lt_of_some U3v.c0
            have DT3 : Hid (∀ x, Below V3.heap.size V3 x → Calls Tryd.prog 40 #[.agg #[.int .i64 Q0, .int .i64 Q1, .int .i64 Q2], .agg #[.int .i64 (FR g 3), .int .i64 (FR g 4), .int .i64 (FR g 5)]] x fun e w' => e = .returned (.int .i64 D3) ∧ Below V3.heap.size V3 w') := by
              have := fun x (_ : Below V3.heap.size V3 x) => rdot_any Q0 Q1 Q2 (FR g 3) (FR g 4) (FR g 5) hQb v3 x
              rw [HDD.out.1] at this
              exact behind this
            have DT6 : Hid (∀ x, Below V3.heap.size V3 x → Calls Tryd.prog 40 #[.agg #[.int .i64 Q0, .int .i64 Q1, .int .i64 Q2], .agg #[.int .i64 (FR g 6), .int .i64 (FR g 7), .int .i64 (FR g 8)]] x fun e w' => e = .returned (.int .i64 D6) ∧ Below V3.heap.size V3 w') := by
              have := fun x (_ : Below V3.heap.size V3 x) => rdot_any Q0 Q1 Q2 (FR g 6) (FR g 7) (FR g 8) hQb v6 x
              rw [HDD.out.2] at this
              exact behind this
            have CL : Hid (∀ x, Below V3.heap.size V3 x → Calls Tryd.prog 17 #[.int .i64 n, .int .i64 g, .int .i64 A', .int .i64 B'] x fun e w' => e = .returned (.int .i64 z) ∧ Below V3.heap.size V3 w') := by
              have := fun x (_ : Below V3.heap.size V3 x) => same_behind (rcell_any n g A' B' x)
              rw [hz] at this
              exact behind this
            have h33 : Below V3.heap.size V3 V3 := Below.refl _ _
            obtain ⟨ta, tb, tc⟩ := id M7
            obtain ⟨fa, fb, fc⟩ := id R3v
            obtain ⟨ua, ub, uc⟩ := id U3v
            go_upto_region 21 with (first | (go_at_call 40; ((with_reducible refine (DT3.out _ (by first | with_reducible assumption | with_reducible exact Below.drew (by with_reducible assumption))).mono ?_)); rintro e x8 ⟨rfl, hBx8⟩; have hcx8 := (bcell hBx8).1) | (go_at_call 40; ((with_reducible refine (DT6.out _ (by first | with_reducible assumption | with_reducible exact Below.drew (by with_reducible assumption))).mono ?_)); rintro e x9 ⟨rfl, hBx9⟩; have hcx9 := (bcell hBx9).1))
            clear ta tb tc fa fb fc ua ub uc e1 e2 e4 e5 g1 g2 g3 hz
            have BFIN : ∀ y, Below V3.heap.size V3 y → Below V.heap.size V y := fun y hy => BB.trans (hy.mono BB.size)
            have BFH := Lib.hid BFIN
            clear BFIN hcx8 hcx9
            rcases hout with ⟨hkm, t1 | ⟨t1, t2, rfl | rfl⟩⟩ | ⟨hkK, t1, t2, rfl, t3, t4⟩
            · go_wp2_with (first | (go_at_call 17; ((with_reducible refine (CL.out _ (by first | with_reducible assumption | with_reducible exact Below.drew (by with_reducible assumption))).mono ?_)); rintro e y1 ⟨rfl, hBy1⟩))
              go_roundw
              case rel => exact ⟨k + 1, by omega, by go_num, BFH.out _ (by with_reducible assumption)⟩
              case measure => simp [intOf]; omega
            · go_wp2_with (first | (go_at_call 17; ((with_reducible refine (CL.out _ (by first | with_reducible assumption | with_reducible exact Below.drew (by with_reducible assumption))).mono ?_)); rintro e y1 ⟨rfl, hBy1⟩))
              go_roundw
              case rel => exact ⟨k + 1, by omega, by go_num, BFH.out _ (by with_reducible assumption)⟩
              case measure => simp [intOf]; omega
            · go_wp2_with (first | (go_at_call 17; ((with_reducible refine (CL.out _ (by first | with_reducible assumption | with_reducible exact Below.drew (by with_reducible assumption))).mono ?_)); rintro e y1 ⟨rfl, hBy1⟩))
              go_roundw
              case rel => exact ⟨k + 1, by omega, by go_num, BFH.out _ (by with_reducible assumption)⟩
              case measure => simp [intOf]; omega
            · have HKK := Lib.hid hkK
              clear hkK
              go_wp2_with (first | (go_at_call 17; ((with_reducible refine (CL.out _ (by first | with_reducible assumption | with_reducible exact Below.drew (by with_reducible assumption))).mono ?_)); rintro e y1 ⟨rfl, hBy1⟩))
              go_ret2
              exact ⟨ret_tup2 rfl (by rw [HKK.out]), BW.out.trans ((BV.trans ((BFH.out _ (by with_reducible assumption)).mono BV.size)).mono BW.out.size)⟩
          · have HK0 := Lib.hid hk0
            have g1 : ((k : Int) == 1) = false := by simp; omega
            have g2 : ((k : Int) == 2) = true := by simp; omega
            have g3 : ((k : Int) == 3) = false := by simp; omega
            obtain ⟨R0, R1, R2, PM⟩ : ∃ R0 R1 R2 : Int, Hid (∀ x, Below wr.heap.size wr x → Calls Tryd.prog 36 #[.agg #[.int .i64 P0, .int .i64 P1, .int .i64 P2], .int .i64 (-1), .agg #[.int .i64 (FR g 3), .int .i64 (FR g 4), .int .i64 (FR g 5)]] x fun e w' => e = .returned (.agg #[.int .i64 R0, .int .i64 R1, .int .i64 R2]) ∧ Below wr.heap.size wr w') := ⟨P0 + -1 * FR g 3, P1 + -1 * FR g 4, P2 + -1 * FR g 5, behind fun x hx => PMr x (hwr2.trans (hx.mono hwr2.size))⟩
            clear PMr hk0
            obtain ⟨ta, tb, tc⟩ := id Pv
            obtain ⟨fa, fb, fc⟩ := id Rv
            go_upto_region 13 with (first | (go_at_call 36; ((with_reducible refine (PM.out _ (by first | with_reducible assumption | with_reducible exact Below.drew (by with_reducible assumption))).mono ?_)); rintro e x6 ⟨rfl, hBx6⟩))
            clear ta tb tc fa fb fc PM
            obtain ⟨bM, hbM⟩ : ∃ z, z = x6.heap.size := ⟨_, rfl⟩
            obtain ⟨V2, hV2⟩ : ∃ W, W = x6.alloc (.cells #[.int .i64 R0, .int .i64 R1, .int .i64 R2] 45) := ⟨_, rfl⟩
            rw [← hV2, ← hbM]
            have B2 : Below wr.heap.size wr V2 := by rw [hV2]; exact hBx6.alloc hBx6.size _
            have lM : wr.heap.size ≤ bM := by rw [hbM]; exact hBx6.size
            have Mc : Three V2 bM R0 R1 R2 := by rw [hV2, hbM]; exact ⟨by simp [go_sem], by simp [go_sem], by simp [go_sem]⟩
            have Mo : Own3 V2 bM := by rw [hV2, hbM]; exact ⟨by simp [cellOr, go_sem], by simp [cellOr, go_sem], by simp [cellOr, go_sem], by simp [go_sem], by simp [go_sem], by simp [go_sem]⟩
            clear hV2 hbM hBx6
            have PN : Hid (∀ x, Below V2.heap.size V2 x → Calls Tryd.prog 36 #[.agg #[.int .i64 P0, .int .i64 P1, .int .i64 P2], .int .i64 1, .agg #[.int .i64 (FR g 3), .int .i64 (FR g 4), .int .i64 (FR g 5)]] x fun e w' => e = .returned (.agg #[.int .i64 Q0, .int .i64 Q1, .int .i64 Q2]) ∧ Below V2.heap.size V2 w') := behind fun x _ => by
              have := rplus_any P0 P1 P2 1 _ _ _ (i3up hPb (by omega)) (show In 4000 1 from ⟨by omega, by omega⟩) v3 x
              obtain ⟨a, b, c⟩ := HQ.out
              have hk0 := HK0.out
              rw [hk0] at a b c
              have a' : P0 + 1 * FR g 3 = Q0 := by rw [a]; simp [WO, OU] <;> omega
              have b' : P1 + 1 * FR g 4 = Q1 := by rw [b]; simp [WO, OU] <;> omega
              have c' : P2 + 1 * FR g 5 = Q2 := by rw [c]; simp [WO, OU] <;> omega
              rw [a', b', c'] at this
              exact this
            have P2v := Pv.below B2
            have R2v := Rv.below B2
            have h22 : Below V2.heap.size V2 V2 := Below.refl _ _
            obtain ⟨ta, tb, tc⟩ := id P2v
            obtain ⟨fa, fb, fc⟩ := id R2v
            go_upto_region 17 with (first | (go_at_call 36; ((with_reducible refine (PN.out _ (by first | with_reducible assumption | with_reducible exact Below.drew (by with_reducible assumption))).mono ?_)); rintro e x7 ⟨rfl, hBx7⟩; obtain ⟨r0, r1, r2, z0, z1, z2⟩ := id (Mo.below hBx7)))
            obtain ⟨V3, hV3⟩ : ∃ W, W = ((x7.setCell ⟨bM, 0, none⟩ (.int .i64 Q0)).setCell ⟨bM, 1, none⟩ (.int .i64 Q1)).setCell ⟨bM, 2, none⟩ (.int .i64 Q2) := ⟨_, rfl⟩
            rw [← hV3]
            have B7 : Below wr.heap.size wr V3 := by rw [hV3]; exact set3 (B2.trans (hBx7.mono B2.size)) lM _ _ _
            have M7 : Three V3 bM Q0 Q1 Q2 := by rw [hV3]; exact way_set (Mo.below hBx7) _ _ _
            clear hV3 ta tb tc fa fb fc P2v R2v PN h22 r0 r1 r2 z0 z1 z2 B2 Mc Mo hBx7
            go_upto_region 19 with fail
            have P3v := Pv.below B7
            have R3v := Rv.below B7
            have U3v := Uv.below B7
            have BB : Below V.heap.size V V3 := hwr2.trans (B7.mono hwr2.size)
            have lm3 : bM < V3.heap.size := lt_of_some M7.c0
            have lr3 : bF + 1 < V3.heap.size := lt_of_some R3v.c0
            have lu3 : bF + 1 + 1 < V3.heap.size := lt_of_some U3v.c0
            have DT3 : Hid (∀ x, Below V3.heap.size V3 x → Calls Tryd.prog 40 #[.agg #[.int .i64 Q0, .int .i64 Q1, .int .i64 Q2], .agg #[.int .i64 (FR g 3), .int .i64 (FR g 4), .int .i64 (FR g 5)]] x fun e w' => e = .returned (.int .i64 D3) ∧ Below V3.heap.size V3 w') := by
              have := fun x (_ : Below V3.heap.size V3 x) => rdot_any Q0 Q1 Q2 (FR g 3) (FR g 4) (FR g 5) hQb v3 x
              rw [HDD.out.1] at this
              exact behind this
            have DT6 : Hid (∀ x, Below V3.heap.size V3 x → Calls Tryd.prog 40 #[.agg #[.int .i64 Q0, .int .i64 Q1, .int .i64 Q2], .agg #[.int .i64 (FR g 6), .int .i64 (FR g 7), .int .i64 (FR g 8)]] x fun e w' => e = .returned (.int .i64 D6) ∧ Below V3.heap.size V3 w') := by
              have := fun x (_ : Below V3.heap.size V3 x) => rdot_any Q0 Q1 Q2 (FR g 6) (FR g 7) (FR g 8) hQb v6 x
              rw [HDD.out.2] at this
              exact behind this
            have CL : Hid (∀ x, Below V3.heap.size V3 x → Calls Tryd.prog 17 #[.int .i64 n, .int .i64 g, .int .i64 A', .int .i64 B'] x fun e w' => e = .returned (.int .i64 z) ∧ Below V3.heap.size V3 w') := by
              have := fun x (_ : Below V3.heap.size V3 x) => same_behind (rcell_any n g A' B' x)
              rw [hz] at this
              exact behind this
            have h33 : Below V3.heap.size V3 V3 := Below.refl _ _
            obtain ⟨ta, tb, tc⟩ := id M7
            obtain ⟨fa, fb, fc⟩ := id R3v
            obtain ⟨ua, ub, uc⟩ := id U3v
            go_upto_region 21 with (first | (go_at_call 40; ((with_reducible refine (DT3.out _ (by first | with_reducible assumption | with_reducible exact Below.drew (by with_reducible assumption))).mono ?_)); rintro e x8 ⟨rfl, hBx8⟩; have hcx8 := (bcell hBx8).1) | (go_at_call 40; ((with_reducible refine (DT6.out _ (by first | with_reducible assumption | with_reducible exact Below.drew (by with_reducible assumption))).mono ?_)); rintro e x9 ⟨rfl, hBx9⟩; have hcx9 := (bcell hBx9).1))
            clear ta tb tc fa fb fc ua ub uc e1 e2 e4 e5 g1 g2 g3 hz
            have BFIN : ∀ y, Below V3.heap.size V3 y → Below V.heap.size V y := fun y hy => BB.trans (hy.mono BB.size)
            have BFH := Lib.hid BFIN
            clear BFIN hcx8 hcx9
            rcases hout with ⟨hkm, t1 | ⟨t1, t2, rfl | rfl⟩⟩ | ⟨hkK, t1, t2, rfl, t3, t4⟩
            · go_wp2_with (first | (go_at_call 17; ((with_reducible refine (CL.out _ (by first | with_reducible assumption | with_reducible exact Below.drew (by with_reducible assumption))).mono ?_)); rintro e y1 ⟨rfl, hBy1⟩))
              go_roundw
              case rel => exact ⟨k + 1, by omega, by go_num, BFH.out _ (by with_reducible assumption)⟩
              case measure => simp [intOf]; omega
            · go_wp2_with (first | (go_at_call 17; ((with_reducible refine (CL.out _ (by first | with_reducible assumption | with_reducible exact Below.drew (by with_reducible assumption))).mono ?_)); rintro e y1 ⟨rfl, hBy1⟩))
              go_roundw
              case rel => exact ⟨k + 1, by omega, by go_num, BFH.out _ (by with_reducible assumption)⟩
              case measure => simp [intOf]; omega
            · go_wp2_with (first | (go_at_call 17; ((with_reducible refine (CL.out _ (by first | with_reducible assumption | with_reducible exact Below.drew (by with_reducible assumption))).mono ?_)); rintro e y1 ⟨rfl, hBy1⟩))
              go_roundw
              case rel => exact ⟨k + 1, by omega, by go_num, BFH.out _ (by with_reducible assumption)⟩
              case measure => simp [intOf]; omega
            · have HKK := Lib.hid hkK
              clear hkK
              go_wp2_with (first | (go_at_call 17; ((with_reducible refine (CL.out _ (by first | with_reducible assumption | with_reducible exact Below.drew (by with_reducible assumption))).mono ?_)); rintro e y1 ⟨rfl, hBy1⟩))
              go_ret2
              exact ⟨ret_tup2 rfl (by rw [HKK.out]), BW.out.trans ((BV.trans ((BFH.out _ (by with_reducible assumption)).mono BV.size)).mono BW.out.size)⟩
          · have HK0 := Lib.hid hk0
            have g1 : ((k : Int) == 1) = false := by simp; omega
            have g2 : ((k : Int) == 2) = false := by simp; omega
            have g3 : ((k : Int) == 3) = true := by simp; omega
            obtain ⟨R0, R1, R2, PM⟩ : ∃ R0 R1 R2 : Int, Hid (∀ x, Below wr.heap.size wr x → Calls Tryd.prog 36 #[.agg #[.int .i64 P0, .int .i64 P1, .int .i64 P2], .int .i64 (-1), .agg #[.int .i64 (FR g 3), .int .i64 (FR g 4), .int .i64 (FR g 5)]] x fun e w' => e = .returned (.agg #[.int .i64 R0, .int .i64 R1, .int .i64 R2]) ∧ Below wr.heap.size wr w') := ⟨P0 + -1 * FR g 3, P1 + -1 * FR g 4, P2 + -1 * FR g 5, behind fun x hx => PMr x (hwr2.trans (hx.mono hwr2.size))⟩
            clear PMr hk0
            obtain ⟨ta, tb, tc⟩ := id Pv
            obtain ⟨fa, fb, fc⟩ := id Rv
            go_upto_region 13 with (first | (go_at_call 36; ((with_reducible refine (PM.out _ (by first | with_reducible assumption | with_reducible exact Below.drew (by with_reducible assumption))).mono ?_)); rintro e x6 ⟨rfl, hBx6⟩))
            clear ta tb tc fa fb fc PM
            obtain ⟨bM, hbM⟩ : ∃ z, z = x6.heap.size := ⟨_, rfl⟩
            obtain ⟨V2, hV2⟩ : ∃ W, W = x6.alloc (.cells #[.int .i64 R0, .int .i64 R1, .int .i64 R2] 45) := ⟨_, rfl⟩
            rw [← hV2, ← hbM]
            have B2 : Below wr.heap.size wr V2 := by rw [hV2]; exact hBx6.alloc hBx6.size _
            have lM : wr.heap.size ≤ bM := by rw [hbM]; exact hBx6.size
            have Mc : Three V2 bM R0 R1 R2 := by rw [hV2, hbM]; exact ⟨by simp [go_sem], by simp [go_sem], by simp [go_sem]⟩
            have Mo : Own3 V2 bM := by rw [hV2, hbM]; exact ⟨by simp [cellOr, go_sem], by simp [cellOr, go_sem], by simp [cellOr, go_sem], by simp [go_sem], by simp [go_sem], by simp [go_sem]⟩
            clear hV2 hbM hBx6
            have PN : Hid (∀ x, Below V2.heap.size V2 x → Calls Tryd.prog 36 #[.agg #[.int .i64 P0, .int .i64 P1, .int .i64 P2], .int .i64 1, .agg #[.int .i64 (FR g 6), .int .i64 (FR g 7), .int .i64 (FR g 8)]] x fun e w' => e = .returned (.agg #[.int .i64 Q0, .int .i64 Q1, .int .i64 Q2]) ∧ Below V2.heap.size V2 w') := behind fun x _ => by
              have := rplus_any P0 P1 P2 1 _ _ _ (i3up hPb (by omega)) (show In 4000 1 from ⟨by omega, by omega⟩) v6 x
              obtain ⟨a, b, c⟩ := HQ.out
              have hk0 := HK0.out
              rw [hk0] at a b c
              have a' : P0 + 1 * FR g 6 = Q0 := by rw [a]; simp [WO, OU] <;> omega
              have b' : P1 + 1 * FR g 7 = Q1 := by rw [b]; simp [WO, OU] <;> omega
              have c' : P2 + 1 * FR g 8 = Q2 := by rw [c]; simp [WO, OU] <;> omega
              rw [a', b', c'] at this
              exact this
            have P2v := Pv.below B2
            have U2v := Uv.below B2
            have h22 : Below V2.heap.size V2 V2 := Below.refl _ _
            obtain ⟨ta, tb, tc⟩ := id P2v
            obtain ⟨fa, fb, fc⟩ := id U2v
            go_upto_region 19 with (first | (go_at_call 36; ((with_reducible refine (PN.out _ (by first | with_reducible assumption | with_reducible exact Below.drew (by with_reducible assumption))).mono ?_)); rintro e x7 ⟨rfl, hBx7⟩; obtain ⟨r0, r1, r2, z0, z1, z2⟩ := id (Mo.below hBx7)))
            obtain ⟨V3, hV3⟩ : ∃ W, W = ((x7.setCell ⟨bM, 0, none⟩ (.int .i64 Q0)).setCell ⟨bM, 1, none⟩ (.int .i64 Q1)).setCell ⟨bM, 2, none⟩ (.int .i64 Q2) := ⟨_, rfl⟩
            rw [← hV3]
            have B7 : Below wr.heap.size wr V3 := by rw [hV3]; exact set3 (B2.trans (hBx7.mono B2.size)) lM _ _ _
            have M7 : Three V3 bM Q0 Q1 Q2 := by rw [hV3]; exact way_set (Mo.below hBx7) _ _ _
            clear hV3 ta tb tc fa fb fc P2v U2v PN h22 r0 r1 r2 z0 z1 z2 B2 Mc Mo hBx7
            have P3v := Pv.below B7
            have R3v := Rv.below B7
            have U3v := Uv.below B7
            have BB : Below V.heap.size V V3 := hwr2.trans (B7.mono hwr2.size)
            have lm3 : bM < V3.heap.size := lt_of_some M7.c0
            have lr3 : bF + 1 < V3.heap.size := lt_of_some R3v.c0
            have lu3 : bF + 1 + 1 < V3.heap.size := lt_of_some U3v.c0
            have DT3 : Hid (∀ x, Below V3.heap.size V3 x → Calls Tryd.prog 40 #[.agg #[.int .i64 Q0, .int .i64 Q1, .int .i64 Q2], .agg #[.int .i64 (FR g 3), .int .i64 (FR g 4), .int .i64 (FR g 5)]] x fun e w' => e = .returned (.int .i64 D3) ∧ Below V3.heap.size V3 w') := by
              have := fun x (_ : Below V3.heap.size V3 x) => rdot_any Q0 Q1 Q2 (FR g 3) (FR g 4) (FR g 5) hQb v3 x
              rw [HDD.out.1] at this
              exact behind this
            have DT6 : Hid (∀ x, Below V3.heap.size V3 x → Calls Tryd.prog 40 #[.agg #[.int .i64 Q0, .int .i64 Q1, .int .i64 Q2], .agg #[.int .i64 (FR g 6), .int .i64 (FR g 7), .int .i64 (FR g 8)]] x fun e w' => e = .returned (.int .i64 D6) ∧ Below V3.heap.size V3 w') := by
              have := fun x (_ : Below V3.heap.size V3 x) => rdot_any Q0 Q1 Q2 (FR g 6) (FR g 7) (FR g 8) hQb v6 x
              rw [HDD.out.2] at this
              exact behind this
            have CL : Hid (∀ x, Below V3.heap.size V3 x → Calls Tryd.prog 17 #[.int .i64 n, .int .i64 g, .int .i64 A', .int .i64 B'] x fun e w' => e = .returned (.int .i64 z) ∧ Below V3.heap.size V3 w') := by
              have := fun x (_ : Below V3.heap.size V3 x) => same_behind (rcell_any n g A' B' x)
              rw [hz] at this
              exact behind this
            have h33 : Below V3.heap.size V3 V3 := Below.refl _ _
            obtain ⟨ta, tb, tc⟩ := id M7
            obtain ⟨fa, fb, fc⟩ := id R3v
            obtain ⟨ua, ub, uc⟩ := id U3v
            go_upto_region 21 with (first | (go_at_call 40; ((with_reducible refine (DT3.out _ (by first | with_reducible assumption | with_reducible exact Below.drew (by with_reducible assumption))).mono ?_)); rintro e x8 ⟨rfl, hBx8⟩; have hcx8 := (bcell hBx8).1) | (go_at_call 40; ((with_reducible refine (DT6.out _ (by first | with_reducible assumption | with_reducible exact Below.drew (by with_reducible assumption))).mono ?_)); rintro e x9 ⟨rfl, hBx9⟩; have hcx9 := (bcell hBx9).1))
            clear ta tb tc fa fb fc ua ub uc e1 e2 e4 e5 g1 g2 g3 hz
            have BFIN : ∀ y, Below V3.heap.size V3 y → Below V.heap.size V y := fun y hy => BB.trans (hy.mono BB.size)
            have BFH := Lib.hid BFIN
            clear BFIN hcx8 hcx9
            rcases hout with ⟨hkm, t1 | ⟨t1, t2, rfl | rfl⟩⟩ | ⟨hkK, t1, t2, rfl, t3, t4⟩
            · go_wp2_with (first | (go_at_call 17; ((with_reducible refine (CL.out _ (by first | with_reducible assumption | with_reducible exact Below.drew (by with_reducible assumption))).mono ?_)); rintro e y1 ⟨rfl, hBy1⟩))
              go_roundw
              case rel => exact ⟨k + 1, by omega, by go_num, BFH.out _ (by with_reducible assumption)⟩
              case measure => simp [intOf]; omega
            · go_wp2_with (first | (go_at_call 17; ((with_reducible refine (CL.out _ (by first | with_reducible assumption | with_reducible exact Below.drew (by with_reducible assumption))).mono ?_)); rintro e y1 ⟨rfl, hBy1⟩))
              go_roundw
              case rel => exact ⟨k + 1, by omega, by go_num, BFH.out _ (by with_reducible assumption)⟩
              case measure => simp [intOf]; omega
            · go_wp2_with (first | (go_at_call 17; ((with_reducible refine (CL.out _ (by first | with_reducible assumption | with_reducible exact Below.drew (by with_reducible assumption))).mono ?_)); rintro e y1 ⟨rfl, hBy1⟩))
              go_roundw
              case rel => exact ⟨k + 1, by omega, by go_num, BFH.out _ (by with_reducible assumption)⟩
              case measure => simp [intOf]; omega
            · have HKK := Lib.hid hkK
              clear hkK
              go_wp2_with (first | (go_at_call 17; ((with_reducible refine (CL.out _ (by first | with_reducible assumption | with_reducible exact Below.drew (by with_reducible assumption))).mono ?_)); rintro e y1 ⟨rfl, hBy1⟩))
              go_ret2
              exact ⟨ret_tup2 rfl (by rw [HKK.out]), BW.out.trans ((BV.trans ((BFH.out _ (by with_reducible assumption)).mono BV.size)).mono BW.out.size)⟩
        · have hki : ¬ (k : Int) < 4 := by omega
          have hgG : g < G := by have := HK4.out; rcases HMM.out with h | h <;> omega
          go_wp2_with fail
          go_roundw
          case rel => exact ⟨g + 1, by omega, by go_num, BV.trans (hwr2.mono BV.size)⟩
          case measure => simp [intOf]; omega

end Go.Proofs.YtbfbafoeifigfaaDoor
