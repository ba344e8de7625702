/- The statement RainMemory: what is handed in stays. -/
import Derived.Test.YtbjkofjkpfgimaaRainM
import Derived.Test.YtbjkofjkpfgimaaRainTimes
import Derived.BigQuiet
namespace Go.Proofs.Ytbjkofjkpfgimaa
open Go Go.RowKit TF

set_option maxRecDepth 100000 in
set_option maxHeartbeats 4000000 in
theorem rainMemory_walk (A : Option Addr) (n cap : Nat) (Z : Nat → Int) (s : Int) (R : Option Addr) (m cap2 : Nat) (C Am F T : Nat → Int) (st : Int) (w : World) (hW : WeatherAt w A n cap Z s R m cap2 C Am F T st) :
    Calls Try.prog 8 #[.agg #[.slice A n cap, .int .i64 s, .slice R m cap2, .int .i64 st]] w fun e w' => e = .returned (.bool true) ∧ Below w.heap.size w w' := by
  have KB := Lib.hid (box_cells A n cap s R m cap2 st 25 w)
  have hn9 := hW.n8
  have hm9 := hW.m9
  have H8 := Lib.hid (fun (x : World) (h : Below (w.alloc (.cells #[.slice A n cap, .int .i64 s, .slice R m cap2, .int .i64 st] 25)).heap.size (w.alloc (.cells #[.slice A n cap, .int .i64 s, .slice R m cap2, .int .i64 st] 25)) x) => hW.hz.below (past1 h))
  have H9 := Lib.hid (fun (x : World) (h : Below (w.alloc (.cells #[.slice A n cap, .int .i64 s, .slice R m cap2, .int .i64 st] 25)).heap.size (w.alloc (.cells #[.slice A n cap, .int .i64 s, .slice R m cap2, .int .i64 st] 25)) x) => hW.hr.below (past1 h))
  by_cases hn : 65536 < n
  · clear hW
    go_enter Try.func8, Try.ntmps8
    go_wp2_with (first | (go_at_call 9; ((with_reducible refine (awake_any _).mono ?_)); rintro e wa ⟨rfl, hBa⟩; obtain ⟨a0, a1, a2, a3⟩ := KB.out _ hBa))
    go_ret
    exact ⟨rfl, past1 hBa⟩
  · by_cases hm : 65536 < m
    · clear hW
      go_enter Try.func8, Try.ntmps8
      go_wp2_with (first | (go_at_call 9; ((with_reducible refine (awake_any _).mono ?_)); rintro e wa ⟨rfl, hBa⟩; obtain ⟨a0, a1, a2, a3⟩ := KB.out _ hBa))
      go_ret
      exact ⟨rfl, past1 hBa⟩
    · have hn1 : n ≤ 65536 := by omega
      have hm1 : m ≤ 65536 := by omega
      obtain ⟨i0, hi, hz0, hz1, hz2⟩ := info_parts info_i64
      obtain ⟨r0, ri, rz0, rz1, rz2⟩ := info_parts info_rain
      obtain ⟨len, Y, S, E, hlen, hFV⟩ := fall_v n Z s m C Am F T st hn9 hm9
      have HFV := Lib.hid hFV
      have HNIL := Lib.hid (fun h => (hW.hnil h).1)
      clear hW hn hm hFV
      go_enter Try.func8, Try.ntmps8
      go_wp2_with (first | (go_at_call 9; ((with_reducible refine (awake_any _).mono ?_)); rintro e wa ⟨rfl, hBa⟩; obtain ⟨a0, a1, a2, a3⟩ := KB.out _ hBa) | (refine wpList_make_full _ rfl (.tmp 34) (.tmp 34) 22 rfl wa.heap.size 2 i0 (.int .i64 0) 1 Try.underlying22 hi hz0 hz1 .i64 .i64 (n + 3) (n + 3) (n + 3) rfl rfl (by omega) (by omega) (by rw [hz2]; omega) (by unfold maxLen; omega) (Nat.le_refl _) ?_; intro w1 hown1 hgrow1; have hb1 := (Below.refl wa.heap.size wa).grown hgrow1 (Nat.le_refl _) (by intro k hk; cases hk); have s1 := hb1.size; have hl1 := (hown1.lt _ rfl).2; obtain ⟨d0, d1, d2, d3⟩ := KB.out _ (join hBa hb1)) | (refine wpList_make_full _ rfl (.tmp 37) (.tmp 37) 23 rfl w1.heap.size 29 r0 (.agg #[.int .i64 0, .int .i64 0, .int .i64 0, .int .i64 0]) 4 Try.underlying23 ri rz0 rz1 .i64 .i64 (m + 3) (m + 3) (m + 3) rfl rfl (by omega) (by omega) (by rw [rz2]; omega) (by unfold maxLen; omega) (Nat.le_refl _) ?_; intro w2 hown2 hgrow2; have hb2 := (Below.refl w1.heap.size w1).grown hgrow2 (Nat.le_refl _) (by intro k hk; cases hk); have hB2 := join hBa (join hb1 hb2); obtain ⟨e0, e1, e2, e3⟩ := KB.out _ hB2; obtain ⟨cur1, hh1, hc1⟩ := own_heap hown1; obtain ⟨cur2, hh2, hc2⟩ := own_heap hown2; have HG1 := Lib.hid ((hb2.block _ hl1).trans hh1); have HG2 := Lib.hid hh2; have hbs := hBa.size) | (refine wpList_copy_rows rfl (.tmp 39) (.tmp 41) 22 22 rfl 2 Try.underlying22 1 size_i64 wa.heap.size (n + 3) (n + 3) A n cap rfl rfl cur1 _ HG1.out ((List.range n).map fun i => Value.int .i64 (Z i)) (by rw [List.length_map, List.length_range, Nat.mul_one]; exact (Nat.min_eq_left (by omega)).symm) (by omega) (src_ints (H8.out _ hB2)) (by rw [List.length_map, List.length_range]; omega) (one_ints n Z) ?_; intro w3 HG3 hb3 HO3; have hB3 := hB2.trans (hb3.mono hbs); obtain ⟨f0, f1, f2, f3⟩ := KB.out _ hB3) | (refine wpList_copy_rows rfl (.tmp 43) (.tmp 45) 23 23 rfl 29 Try.underlying23 4 size_rain w1.heap.size (m + 3) (m + 3) R m cap2 rfl rfl cur2 _ ((HO3.out _ (Nat.ne_of_gt hl1)).trans HG2.out) (rainCells C Am F T (List.range m)) (by rw [rainCells_len, List.length_range]; exact congrArg (· * 4) (Nat.min_eq_left (by omega)).symm) (by omega) (src_rains (H9.out _ hB3)) (by rw [rainCells_len, List.length_range]; omega) (one_rains C Am F T _) ?_; intro w4 HG4 hb4 HO4; have hB4 := hB3.trans (hb4.mono (Nat.le_trans hbs (Nat.le_of_lt hl1))); obtain ⟨g0, g1, g2, g3⟩ := KB.out _ hB4))
      have hne : wa.heap.size ≠ w1.heap.size := Nat.ne_of_lt hl1
      have hM0 : MemS w4 wa.heap.size w1.heap.size n m Z C Am F T 0 := mem_zero ((HO4.out _ hne).trans HG3.out) (by rw [List.length_drop, Array.length_toList, hc1, List.length_map, List.length_range]; omega) HG4.out (by rw [List.length_drop, Array.length_toList, hc2, rainCells_len, List.length_range]; omega) hne
      have hB40 : Below wa.heap.size wa w4 := hb1.trans ((hb2.mono s1).trans (hb3.trans (hb4.mono s1)))
      have hl2 : w1.heap.size < w4.heap.size := by
        have h5 : w1.heap.size < w2.heap.size := (hown2.lt _ rfl).2
        have := hb3.size
        have := hb4.size
        omega
      clear HG1 HG2 HG3 HG4 HO3 HO4 hh1 hh2 hc1 hc2 hown1 hown2 hgrow1 hgrow2 hb2 hb3 hb4 hB2 hB3 hB4
      go_loopw [7] (fun i wr => ∃ k : Nat, k ≤ 3 ∧ i = .int .i64 k ∧ MemS wr wa.heap.size w1.heap.size n m Z C Am F T k ∧ Below wa.heap.size wa wr ∧ w1.heap.size < wr.heap.size) (fun i _ => 3 - (intOf i).toNat)
      case atStart => exact ⟨0, Nat.zero_le _, rfl, hM0, hB40, hl2⟩
      case round =>
        obtain ⟨k, hk, rfl, hM, hBr, hl3⟩ := hrel
        by_cases hlt : k < 3
        · have hkk : (k : Int) < 3 := by omega
          obtain ⟨u0, hu0⟩ := Option.isSome_iff_exists.1 (hM.a (n + k) (by omega)).1
          have hf0 := (hM.a (n + k) (by omega)).2
          obtain ⟨v0, hv0⟩ := Option.isSome_iff_exists.1 (hM.b ((m + k) * 4) (by omega)).1
          obtain ⟨v1, hv1⟩ := Option.isSome_iff_exists.1 (hM.b ((m + k) * 4 + 1) (by omega)).1
          obtain ⟨v2, hv2⟩ := Option.isSome_iff_exists.1 (hM.b ((m + k) * 4 + 2) (by omega)).1
          obtain ⟨v3, hv3⟩ := Option.isSome_iff_exists.1 (hM.b ((m + k) * 4 + 3) (by omega)).1
          have q0 := (hM.b ((m + k) * 4) (by omega)).2
          have q1 := (hM.b ((m + k) * 4 + 1) (by omega)).2
          have q2 := (hM.b ((m + k) * 4 + 2) (by omega)).2
          have q3 := (hM.b ((m + k) * 4 + 3) (by omega)).2
          have y0 : ∀ a, (wr.setCell ⟨wa.heap.size, n + k, none⟩ a).cell? ⟨w1.heap.size, (m + k) * 4, none⟩ = some v0 := fun a => stored_off hv0 (.inl hne)
          have y1 : ∀ a b, ((wr.setCell ⟨wa.heap.size, n + k, none⟩ a).setCell ⟨w1.heap.size, (m + k) * 4, none⟩ b).cell? ⟨w1.heap.size, (m + k) * 4 + 1, none⟩ = some v1 := fun a b => stored_off (stored_off hv1 (.inl hne)) (.inr (by omega))
          have y2 : ∀ a b c, (((wr.setCell ⟨wa.heap.size, n + k, none⟩ a).setCell ⟨w1.heap.size, (m + k) * 4, none⟩ b).setCell ⟨w1.heap.size, (m + k) * 4 + 1, none⟩ c).cell? ⟨w1.heap.size, (m + k) * 4 + 2, none⟩ = some v2 := fun a b c => stored_off (stored_off (stored_off hv2 (.inl hne)) (.inr (by omega))) (.inr (by omega))
          have y3 : ∀ a b c d, ((((wr.setCell ⟨wa.heap.size, n + k, none⟩ a).setCell ⟨w1.heap.size, (m + k) * 4, none⟩ b).setCell ⟨w1.heap.size, (m + k) * 4 + 1, none⟩ c).setCell ⟨w1.heap.size, (m + k) * 4 + 2, none⟩ d).cell? ⟨w1.heap.size, (m + k) * 4 + 3, none⟩ = some v3 := fun a b c d => stored_off (stored_off (stored_off (stored_off hv3 (.inl hne)) (.inr (by omega))) (.inr (by omega))) (.inr (by omega))
          have HMS := Lib.hid (hM.step hlt)
          clear hM hM0
          go_wp2
          go_roundw
          case rel => exact ⟨k + 1, by omega, by go_num, HMS.out, ((((hBr.setCell (Nat.le_refl _) _).setCell s1 _).setCell s1 _).setCell s1 _).setCell s1 _, by simp [World.setCell]; exact hl3⟩
          case measure => simp [intOf]; omega
        · have hk3 : k = 3 := by omega
          subst hk3
          obtain ⟨wm, rfl⟩ : ∃ wm : World, wm = wr := ⟨_, rfl⟩
          clear hM0 hB40 hl2
          obtain ⟨N3, hN3⟩ : ∃ N, N = n + 3 := ⟨_, rfl⟩
          obtain ⟨M3, hM3⟩ : ∃ M, M = m + 3 := ⟨_, rfl⟩
          rw [← hN3, ← hM3]
          have hsl1 : (n : Int) ≤ (N3 : Int) := by omega
          have hsl2 : (m : Int) ≤ (M3 : Int) := by omega
          have hsl5 : N3 - n = 3 := by omega
          have hsl6 : ¬ N3 = n := by omega
          have HM3 := Lib.hid hM3
          clear hN3 hM3
          have hsl3 : (0 : Int) ≤ (n : Int) := by omega
          have hsl4 : (0 : Int) ≤ (m : Int) := by omega
          have hBw : Below (w.alloc (.cells #[.slice A n cap, .int .i64 s, .slice R m cap2, .int .i64 st] 25)).heap.size (w.alloc (.cells #[.slice A n cap, .int .i64 s, .slice R m cap2, .int .i64 st] 25)) wm := join hBa hBr
          have IW := Lib.hid (hM.ints (by omega))
          have IT := Lib.hid (hM.tail (by omega))
          have RW := Lib.hid (hM.rains hl3)
          have HM := Lib.hid hM
          clear hM
          go_wp2
          have K1 : Hid (∀ x : World, Below wm.heap.size wm x → x.cell? ⟨w.heap.size, 0, none⟩ = some (.slice A n cap) ∧ x.cell? ⟨w.heap.size, 1, none⟩ = some (.int .i64 s) ∧ x.cell? ⟨w.heap.size, 2, none⟩ = some (.slice R m cap2) ∧ x.cell? ⟨w.heap.size, 3, none⟩ = some (.int .i64 st) ∧ Below wm.heap.size wm x) := Lib.hid (fun x h => ⟨(KB.out x (join hBw h)).1, (KB.out x (join hBw h)).2.1, (KB.out x (join hBw h)).2.2.1, (KB.out x (join hBw h)).2.2.2, h⟩)
          have hK1 : Below wm.heap.size wm wm := Below.refl _ _
          go_region_held3 (fun x => x.cell? ⟨w.heap.size, 0, none⟩ = some (.slice A n cap) ∧ x.cell? ⟨w.heap.size, 1, none⟩ = some (.int .i64 s) ∧ x.cell? ⟨w.heap.size, 2, none⟩ = some (.slice R m cap2) ∧ x.cell? ⟨w.heap.size, 3, none⟩ = some (.int .i64 st) ∧ Below wm.heap.size wm x)
            (first | exact K1.out _ (by assumption) | exact K1.out _ (Below.drew (by assumption)) | exact K1.out _ (Below.alloc (by assumption) (by first | exact Below.size (by assumption)) _))
            (first | (go_at_call 12; ((with_reducible refine (HFV.out (some ⟨wa.heap.size, 0, none⟩) N3 (some ⟨w1.heap.size, 0, none⟩) M3 _ (IW.out.below (by first | with_reducible assumption | with_reducible exact Below.drew (by with_reducible assumption))) some_none (RW.out.below (by first | with_reducible assumption | with_reducible exact Below.drew (by with_reducible assumption)))).mono ?_)); rintro e x1 ⟨L1, k1, rfl, hO1, hb⟩; have hX1 : Below wm.heap.size wm x1 := join (by first | with_reducible assumption | with_reducible exact Below.drew (by with_reducible assumption)) hb))
          have IW1 := Lib.hid (IW.out.below hX1)
          have RW1 := Lib.hid (RW.out.below hX1)
          go_wp2
          have K2 : Hid (∀ x : World, Below x1.heap.size x1 x → x.cell? ⟨w.heap.size, 0, none⟩ = some (.slice A n cap) ∧ x.cell? ⟨w.heap.size, 1, none⟩ = some (.int .i64 s) ∧ x.cell? ⟨w.heap.size, 2, none⟩ = some (.slice R m cap2) ∧ x.cell? ⟨w.heap.size, 3, none⟩ = some (.int .i64 st) ∧ Below x1.heap.size x1 x) := Lib.hid (fun x h => ⟨(KB.out x (join hBw (join hX1 h))).1, (KB.out x (join hBw (join hX1 h))).2.1, (KB.out x (join hBw (join hX1 h))).2.2.1, (KB.out x (join hBw (join hX1 h))).2.2.2, h⟩)
          have hK2 : Below x1.heap.size x1 x1 := Below.refl _ _
          go_region_held3 (fun x => x.cell? ⟨w.heap.size, 0, none⟩ = some (.slice A n cap) ∧ x.cell? ⟨w.heap.size, 1, none⟩ = some (.int .i64 s) ∧ x.cell? ⟨w.heap.size, 2, none⟩ = some (.slice R m cap2) ∧ x.cell? ⟨w.heap.size, 3, none⟩ = some (.int .i64 st) ∧ Below x1.heap.size x1 x)
            (first | exact K2.out _ (by assumption) | exact K2.out _ (Below.drew (by assumption)) | exact K2.out _ (Below.alloc (by assumption) (by first | exact Below.size (by assumption)) _))
            (first | (go_at_call 12; ((with_reducible refine (HFV.out (some ⟨wa.heap.size, 0, none⟩) N3 (some ⟨w1.heap.size, 0, none⟩) M3 _ (IW1.out.below (by first | with_reducible assumption | with_reducible exact Below.drew (by with_reducible assumption))) some_none (RW1.out.below (by first | with_reducible assumption | with_reducible exact Below.drew (by with_reducible assumption)))).mono ?_)); rintro e x2 ⟨L2, k2, rfl, hO2, hb⟩; have hX2 : Below x1.heap.size x1 x2 := join (by first | with_reducible assumption | with_reducible exact Below.drew (by with_reducible assumption)) hb))
          have I1 := Lib.hid (hO1.ints.below hX2)
          have I2 := Lib.hid hO2.ints
          have IW2 := Lib.hid (IW.out.below (join hX1 hX2))
          have IT2 := Lib.hid (IT.out.below (join hX1 hX2))
          have IA2 := Lib.hid (H8.out _ (join hBw (join hX1 hX2)))
          go_wp2
          have K3 : Hid (∀ x : World, Below x2.heap.size x2 x → x.cell? ⟨w.heap.size, 0, none⟩ = some (.slice A n cap) ∧ x.cell? ⟨w.heap.size, 1, none⟩ = some (.int .i64 s) ∧ x.cell? ⟨w.heap.size, 2, none⟩ = some (.slice R m cap2) ∧ x.cell? ⟨w.heap.size, 3, none⟩ = some (.int .i64 st) ∧ Below x2.heap.size x2 x) := Lib.hid (fun x h => ⟨(KB.out x (join hBw (join hX1 (join hX2 h)))).1, (KB.out x (join hBw (join hX1 (join hX2 h)))).2.1, (KB.out x (join hBw (join hX1 (join hX2 h)))).2.2.1, (KB.out x (join hBw (join hX1 (join hX2 h)))).2.2.2, h⟩)
          have hK3 : Below x2.heap.size x2 x2 := Below.refl _ _
          go_region_held3 (fun x => x.cell? ⟨w.heap.size, 0, none⟩ = some (.slice A n cap) ∧ x.cell? ⟨w.heap.size, 1, none⟩ = some (.int .i64 s) ∧ x.cell? ⟨w.heap.size, 2, none⟩ = some (.slice R m cap2) ∧ x.cell? ⟨w.heap.size, 3, none⟩ = some (.int .i64 st) ∧ Below x2.heap.size x2 x)
            (first | exact K3.out _ (by assumption) | exact K3.out _ (Below.drew (by assumption)) | exact K3.out _ (Below.alloc (by assumption) (by first | exact Below.size (by assumption)) _))
            (first | (go_at_call 14; ((with_reducible refine (same_yes L1 L2 len k1 k2 Y Y _ (by omega) (I1.out.below (by first | with_reducible assumption | with_reducible exact Below.drew (by with_reducible assumption))) (I2.out.below (by first | with_reducible assumption | with_reducible exact Below.drew (by with_reducible assumption))) (fun _ _ => rfl)).mono ?_)); rintro e y1 ⟨rfl, hb⟩; have hY1 : Below x2.heap.size x2 y1 := join (by first | with_reducible assumption | with_reducible exact Below.drew (by with_reducible assumption)) hb) | (go_at_call 14; ((with_reducible refine (same_yes (some ⟨wa.heap.size, 0, none⟩) A n _ _ Z Z _ (by omega) (IW2.out.below (by first | with_reducible assumption | with_reducible exact Below.drew (by with_reducible assumption))) (IA2.out.below (by first | with_reducible assumption | with_reducible exact Below.drew (by with_reducible assumption))) (fun _ _ => rfl)).mono ?_)); rintro e y2 ⟨rfl, hb⟩; have hY2 : Below x2.heap.size x2 y2 := join (by first | with_reducible assumption | with_reducible exact Below.drew (by with_reducible assumption)) hb) | (go_at_call 14; ((with_reducible refine (same_yes (some ⟨wa.heap.size, n, none⟩) _ 3 _ _ (con (-7)) (con (-7)) _ (by omega) (IT2.out.below (hY2.alloc hY2.size _)) (lit_three _ _) (fun _ _ => rfl)).mono ?_)); rintro e y3 ⟨rfl, hb⟩; have hY3 : Below x2.heap.size x2 y3 := join (hY2.alloc hY2.size _) hb))
          have hBy := join hBw (join hX1 (join hX2 hY3))
          have hMy := HM.out.below (join hX1 (join hX2 hY3)) (by omega) hl3
          have HMY := Lib.hid hMy
          have hg2y : w1.heap.size < y3.heap.size := Nat.lt_of_lt_of_le hl3 (join hX1 (join hX2 hY3)).size
          have hg1y : wa.heap.size < y3.heap.size := Nat.lt_trans hl1 hg2y
          clear hMy
          go_wp2
          go_loopw [14] (fun i wz => ∃ k : Nat, k ≤ m + 3 ∧ i = .int .i64 k ∧ Below y3.heap.size y3 wz) (fun i _ => m + 3 - (intOf i).toNat)
          case atStart => exact ⟨0, Nat.zero_le _, rfl, Below.refl _ _⟩
          case round =>
            obtain ⟨k, hk, rfl, hBz⟩ := hrel
            obtain ⟨z0, z1, z2, z3⟩ := KB.out _ (join hBy hBz)
            have hMz := HMY.out.below hBz hg1y hg2y
            by_cases hlt : k < m
            · have t1 : decide ((k : Int) < (m : Int)) = true := by simp; omega
              have t2 : decide ((m : Int) ≤ (k : Int)) = false := by simp; omega
              have t2' : decide (m ≤ k) = false := by simp; omega
              have t3 : (k : Int) < (m : Int) + 3 := by omega
              have hl : (k : Int) < (m : Int) := by omega
              have hkM : (k : Int) < (M3 : Int) := by have := HM3.out; omega
              obtain ⟨r0', r1', r2', r3'⟩ := hMz.r k hlt
              obtain ⟨b, off, rfl, hbl, c0, c1, c2, c3⟩ := (H9.out _ (join hBy hBz)) k hlt
              have neq := neq_rain (C k) (Am k) (F k) (T k)
              clear hMz t1
              go_wp2
              go_quiet (fail)
              go_wp2
              go_roundw
              case rel => exact ⟨k + 1, by omega, by go_num, by first | exact hBz | exact bel_drewN hBz _⟩
              case measure => simp [intOf]; omega
            · by_cases hlt3 : k < m + 3
              · have t1 : decide ((k : Int) < (m : Int)) = false := by simp; omega
                have t2 : decide ((m : Int) ≤ (k : Int)) = true := by simp; omega
                have t1' : decide (k < m) = false := by simp; omega
                have t3 : (k : Int) < (m : Int) + 3 := by omega
                have hkM : (k : Int) < (M3 : Int) := by have := HM3.out; omega
                obtain ⟨q0, q1, q2, q3⟩ := hMz.q (k - m) (by omega)
                rw [show m + (k - m) = k by omega] at q0 q1 q2 q3
                have neq := neq_rain (-7) 0 0 0
                have t4 : (m : Int) ≤ (k : Int) := by omega
                clear hMz t2
                go_wp2
                go_quiet (fail)
                go_wp2
                go_roundw
                case rel => exact ⟨k + 1, by omega, by go_num, by first | exact hBz | exact bel_drewN hBz _⟩
                case measure => simp [intOf]; omega
              · have hk3 : k = m + 3 := by omega
                have t3 : ¬ (k : Int) < (m : Int) + 3 := by omega
                clear hMz
                have hO1z := hO1.below ((hX2.trans (hY3.mono hX2.size)).trans (hBz.mono (Nat.le_trans hX2.size hY3.size)))
                have hO2z := hO2.below (hY3.trans (hBz.mono hY3.size))
                have hBwz : Below wm.heap.size wm wr := join hX1 (join hX2 (join hY3 hBz))
                have hx1 := hX1.size
                go_wp2
                go_loopw [15] (fun i wq => ∃ (q : Nat) (Y' : Nat → Int), q ≤ len ∧ i = .int .i64 q ∧ OwnAt wq wm.heap.size x1.heap.size L1 len Y' ∧ OwnAt wq x1.heap.size x2.heap.size L2 len Y ∧ Below wm.heap.size wm wq) (fun i _ => len - (intOf i).toNat)
                case atStart => exact ⟨0, Y, Nat.zero_le _, rfl, hO1z, hO2z, hBwz⟩
                case round =>
                  obtain ⟨q, Y', hq, rfl, hOa, hOb, hBq'⟩ := hrel
                  have hlen9 : len ≤ 9223372036854775807 := by omega
                  by_cases hlq : q < len
                  · have hl : (q : Int) < (len : Int) := by omega
                    obtain ⟨bl, ol, e, o1, o2, o3, o4, o5⟩ := hOa q hlq
                    have HS := Lib.hid (hOa.stored e hlq 99)
                    have HF := Lib.hid (hOb.far bl (ol + q) (.int .i64 99) (.inl o2))
                    have HB := Lib.hid (hBq'.setCell (p := ⟨bl, ol + q, none⟩) o1 (.int .i64 99))
                    subst e
                    clear hOa hOb
                    go_wp2
                    go_roundw
                    case rel => exact ⟨q + 1, _, by omega, by go_num, HS.out, HF.out, HB.out⟩
                    case measure => simp [intOf]; omega
                  · have hql : q = len := by omega
                    have hlq' : ¬ (q : Int) < (len : Int) := by omega
                    have hBq := join hBw hBq'
                    obtain ⟨p0, p1, p2, p3⟩ := KB.out _ hBq
                    have I2q := Lib.hid hOb.ints
                    have IWq := Lib.hid ((HM.out.below hBq' (by omega) hl3).ints (by have := hBq'.size; omega))
                    clear hOa hOb hBwz hO1z hO2z
                    go_wp2_with (first | (go_at_call 12; ((with_reducible refine (HFV.out A cap R cap2 _ (H8.out _ hBq) HNIL.out (H9.out _ hBq)).mono ?_)); rintro e x3 ⟨L3, k3, rfl, hO3, hb3⟩))
                    have I3 := Lib.hid hO3.ints
                    have I4 := Lib.hid (I2q.out.below hb3)
                    have I5 := Lib.hid (IWq.out.below hb3)
                    have I6 := Lib.hid (H8.out _ (join hBq hb3))
                    have K4 : Hid (∀ x : World, Below x3.heap.size x3 x → x.cell? ⟨w.heap.size, 0, none⟩ = some (.slice A n cap) ∧ x.cell? ⟨w.heap.size, 1, none⟩ = some (.int .i64 s) ∧ x.cell? ⟨w.heap.size, 2, none⟩ = some (.slice R m cap2) ∧ x.cell? ⟨w.heap.size, 3, none⟩ = some (.int .i64 st) ∧ Below x3.heap.size x3 x) := Lib.hid (fun x h => ⟨(KB.out x (join hBq (join hb3 h))).1, (KB.out x (join hBq (join hb3 h))).2.1, (KB.out x (join hBq (join hb3 h))).2.2.1, (KB.out x (join hBq (join hb3 h))).2.2.2, h⟩)
                    have hK4 : Below x3.heap.size x3 x3 := Below.refl _ _
                    go_region_held3 (fun x => x.cell? ⟨w.heap.size, 0, none⟩ = some (.slice A n cap) ∧ x.cell? ⟨w.heap.size, 1, none⟩ = some (.int .i64 s) ∧ x.cell? ⟨w.heap.size, 2, none⟩ = some (.slice R m cap2) ∧ x.cell? ⟨w.heap.size, 3, none⟩ = some (.int .i64 st) ∧ Below x3.heap.size x3 x)
                      (first | exact K4.out _ (by assumption) | exact K4.out _ (Below.drew (by assumption)))
                      (first | (go_at_call 14; ((with_reducible refine (same_yes L3 L2 len k3 k2 Y Y _ (by omega) (I3.out.below (by first | with_reducible assumption | with_reducible exact Below.drew (by with_reducible assumption))) (I4.out.below (by first | with_reducible assumption | with_reducible exact Below.drew (by with_reducible assumption))) (fun _ _ => rfl)).mono ?_)); rintro e y5 ⟨rfl, hb⟩; have hY5 : Below x3.heap.size x3 y5 := join (by first | with_reducible assumption | with_reducible exact Below.drew (by with_reducible assumption)) hb) | (go_at_call 14; ((with_reducible refine (same_yes (some ⟨wa.heap.size, 0, none⟩) A n _ _ Z Z _ (by omega) (I5.out.below (by first | with_reducible assumption | with_reducible exact Below.drew (by with_reducible assumption))) (I6.out.below (by first | with_reducible assumption | with_reducible exact Below.drew (by with_reducible assumption))) (fun _ _ => rfl)).mono ?_)); rintro e y6 ⟨rfl, hb⟩; have hY6 : Below x3.heap.size x3 y6 := join (by first | with_reducible assumption | with_reducible exact Below.drew (by with_reducible assumption)) hb))
                    go_wp2
                    go_ret
                    exact ⟨rfl, past1 (join hBq (join hb3 hY6))⟩
end Go.Proofs.Ytbjkofjkpfgimaa
