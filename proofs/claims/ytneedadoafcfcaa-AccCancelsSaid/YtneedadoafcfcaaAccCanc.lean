/- AccCancels. -/
import Derived.Test.YtneedadoafcfcaaAccTwo
import Derived.Test.YtneedadoafcfcaaAccCn
namespace Go.Proofs.Ytneedadoafcfcaa
open Go Go.RowKit TF

attribute [local go_sem] cmp_eq cmp_ne cmp_lt cmp_gt cmp_le cmp_ge

/-- the sum at block b comes to X, of n numbers. -/
def CanAt (w : World) (b : Nat) (X n : Int) : Prop := ∃ g, AccIs w b g ∧ CanG g X n
def CanP (w : World) (b : Nat) (X n : Int) (e : Ending) (w' : World) : Prop := e = .returned (.int .i64 0) ∧ CanAt w' b X n ∧ Chg b w w'
theorem CanAt.heap {w w' : World} {b : Nat} {X n : Int} (h : CanAt w b X n) (e : w'.heap = w.heap) : CanAt w' b X n := by
  obtain ⟨g, h1, h2⟩ := h
  exact ⟨g, h1.cong (by rw [e]), h2⟩
theorem can_add {w : World} {b : Nat} {X n : Int} (h : CanAt w b X n) {x : Nat} (hx : W64 x) (hf : mg x < INF) (hn : n < 1048576) :
    Calls Try.prog 17 #[.pointer (some ⟨b, 0, none⟩), .float .f64 x] w (CanP w b (X + iv x * KA) (n + 1)) := by
  obtain ⟨g, h1, h2⟩ := h
  refine (add_some b g w h1 h2.ok x hx (by rw [h2.cnt]; exact hn)).mono ?_
  rintro e w' ⟨rfl, k1, k2⟩
  exact ⟨rfl, ⟨_, k1, h2.add hf hn⟩, k2⟩
theorem can_mul {w : World} {b : Nat} {X n : Int} (h : CanAt w b X n) {x y : Nat} (hx : W64 x) (hy : W64 y) (hf : mg x < INF) (hg : mg y < INF) (hn : n < 1048576) :
    Calls Try.prog 12 #[.pointer (some ⟨b, 0, none⟩), .float .f64 x, .float .f64 y] w (CanP w b (X + iv x * iv y * 268435456) (n + 1)) := by
  obtain ⟨g, h1, h2⟩ := h
  refine (mul_some b g w h1 h2.ok x y hx hy (by rw [h2.cnt]; exact hn)).mono ?_
  rintro e w' ⟨rfl, k1, k2⟩
  exact ⟨rfl, ⟨_, k1, h2.mul hf hg hn⟩, k2⟩
/-- x - x: 0, or a NaN off the tape. -/
theorem run_less (x : Nat) (hx : W64 x) :
    (¬ mg x < INF ∧ ∃ f : World → Nat, (∀ w, eqW (f w) 0 = false) ∧ ∀ w, (binOp .sub 22 (.float .f64 x) (.float .f64 x)).run Try.prog w = .ok (.float .f64 (f w)) w.drew) ∨
    (mg x < INF ∧ ∀ w, (binOp .sub 22 (.float .f64 x) (.float .f64 x)).run Try.prog w = .ok (.float .f64 0) w) := by
  rcases fin_see hx with ⟨h1, h2⟩ | ⟨h1, h2⟩
  · obtain ⟨f, f1, f2⟩ := run_nan 22 (.inr (.inl rfl)) h2
    exact .inl ⟨h1, f, fun w => eqW_nan (f1 w).2 0, f2⟩
  · exact .inr ⟨h1, run_valid 22 h2⟩
def cAt (xs Y : Nat → Nat) (X0 : Int) (T L k : Nat) : Int := if T = 0 then X0 + cP xs Y k else if T = 1 then X0 + cP xs Y L - cP xs Y k else X0
def cCnt (xs Y : Nat → Nat) (T L k : Nat) : Int := 1 + 2 * ((T * cN xs Y L + cN xs Y k : Nat) : Int)
theorem cAt_next (xs Y : Nat → Nat) (X0 : Int) (T L : Nat) (hT : T < 2) : cAt xs Y X0 T L L = cAt xs Y X0 (T + 1) L 0 := by
  unfold cAt
  match T, hT with
  | 0, _ => simp [cP]
  | 1, _ => simp
theorem cCnt_next (xs Y : Nat → Nat) (T L : Nat) : cCnt xs Y T L L = cCnt xs Y (T + 1) L 0 := by
  unfold cCnt
  have : (T + 1) * cN xs Y L = T * cN xs Y L + cN xs Y L := Nat.succ_mul _ _
  rw [this]; simp [cN]
theorem cCnt_le (xs Y : Nat → Nat) {T L k : Nat} (hT : T < 2) (hL : L ≤ 16384) (hk : k ≤ L) : 0 ≤ cCnt xs Y T L k ∧ cCnt xs Y T L k < 1000000 := by
  unfold cCnt
  have h1 := cN_le xs Y L
  have h2 := cN_le xs Y k
  have h3 : T * cN xs Y L ≤ 16384 := by
    match T, hT with
    | 0, _ => omega
    | 1, _ => omega
  omega
theorem cCnt_succ (xs Y : Nat → Nat) (T L k : Nat) : cCnt xs Y T L (k + 1) = cCnt xs Y T L k + if cT xs Y k then 2 else 0 := by
  unfold cCnt
  have : cN xs Y (k + 1) = cN xs Y k + if cT xs Y k then 1 else 0 := rfl
  rw [this]; split <;> omega
theorem cAt_succ0 (xs Y : Nat → Nat) (X0 : Int) (L k : Nat) : cAt xs Y X0 0 L (k + 1) = cAt xs Y X0 0 L k + if cT xs Y k then iv (xs k) * KA + iv (xs k) * iv (Y k) * 268435456 else 0 := by
  unfold cAt
  have : cP xs Y (k + 1) = cP xs Y k + if cT xs Y k then iv (xs k) * KA + iv (xs k) * iv (Y k) * 268435456 else 0 := rfl
  rw [if_pos rfl, if_pos rfl, this, Int.add_assoc]
theorem cAt_succ1 (xs Y : Nat → Nat) (X0 : Int) (L k : Nat) : cAt xs Y X0 1 L (k + 1) = cAt xs Y X0 1 L k - if cT xs Y k then iv (xs k) * KA + iv (xs k) * iv (Y k) * 268435456 else 0 := by
  unfold cAt
  have : cP xs Y (k + 1) = cP xs Y k + if cT xs Y k then iv (xs k) * KA + iv (xs k) * iv (Y k) * 268435456 else 0 := rfl
  rw [if_neg (by omega), if_pos rfl, if_neg (by omega), if_pos rfl, this]; omega

theorem CanAt.eq {w : World} {b : Nat} {X n X' n' : Int} (h : CanAt w b X n) (e : X = X') (e2 : n = n') : CanAt w b X' n' := by subst e; subst e2; exact h
theorem can_skip {w : World} {b : Nat} {xs Y : Nat → Nat} {X0 n : Int} {T L k : Nat} (hT : T < 2) (h : CanAt w b (cAt xs Y X0 T L k) n) (hn : n = cCnt xs Y T L k) (hc : cT xs Y k = false) : CanAt w b (cAt xs Y X0 T L (k + 1)) (cCnt xs Y T L (k + 1)) := by
  refine h.eq ?_ (by rw [cCnt_succ, hc, hn]; simp)
  rcases (show T = 0 ∨ T = 1 by omega) with e | e
  · rw [e, cAt_succ0, hc, if_neg (by decide), Int.add_zero]
  · rw [e, cAt_succ1, hc, if_neg (by decide), Int.sub_zero]
def CanRel (w : World) (b : Nat) (xs Y : Nat → Nat) (X0 : Int) (T L : Nat) (n i : Value) (wr : World) : Prop :=
  ∃ k : Nat, k ≤ L ∧ n = .int .i64 (cCnt xs Y T L k) ∧ i = .int .i64 k ∧ CanAt wr b (cAt xs Y X0 T L k) (cCnt xs Y T L k) ∧ Below w.heap.size w wr

set_option maxHeartbeats 4000000 in
set_option maxRecDepth 100000 in
theorem accCancels_any (x : Nat) (A : Option Addr) (len cap : Nat) (xs : Nat → Nat) (A2 : Option Addr) (len2 cap2 : Nat) (ys : Nat → Nat) (w : World) (hx : W64 x)
    (hl : len ≤ 9223372036854775807) (hF : Floats w A len xs) (_hl2 : len2 ≤ 9223372036854775807) (hF2 : Floats w A2 len2 ys) :
    Calls Try.prog 4 #[.float .f64 x, .slice A len cap, .slice A2 len2 cap2] w fun e w' => e = .returned (.bool true) ∧ Below w.heap.size w w' := by
  have KN := Lib.hid new_any
  have KAw := Lib.hid (awake_any w)
  have HX := Lib.hid hx
  have HF := Lib.hid hF
  have HF2 := Lib.hid hF2
  have RX := run_less x hx
  have e00 : eqW 0 0 = true := by kernel_rfl
  have z2 : (eqW x 0 = true) ∨ (eqW x 0 = false ∧ mg x ≠ 0 ∨ ¬ mg x < INF) := by
    rw [eqW_zero]
    by_cases h : mg x = 0
    · left; rw [decide_eq_true h, isN_false.2 (by rw [h]; exact Nat.zero_le _)]; rfl
    · by_cases h2 : mg x < INF
      · right; left; exact ⟨by rw [decide_eq_false h, Bool.and_false], h⟩
      · right; right; exact h2
  have z3 : ¬ mg x < INF → eqW x 0 = false := fun h => by rw [eqW_zero, decide_eq_false (fun k => h (by rw [k]; decide)), Bool.and_false]
  clear hx hF hF2
  by_cases hbig : 16384 < len
  · have hb2 : (16384 : Int) < len := by omega
    clear RX z2 z3 e00
    go_enter Try.func4, Try.ntmps4
    go_wp2_with fail
    refine (KAw.out).mono ?_
    rintro e w1 ⟨rfl, hb1⟩
    have HB1 := Lib.hid hb1
    clear hb1
    go_wp2_with fail
    go_ret
    exact ⟨rfl, HB1.out⟩
  have hb2 : ¬ (16384 : Int) < len := by omega
  rcases z2 with z2 | z2
  · clear RX z3 e00
    go_enter Try.func4, Try.ntmps4
    go_wp2_with fail
    refine (KAw.out).mono ?_
    rintro e w1 ⟨rfl, hb1⟩
    have HB1 := Lib.hid hb1
    clear hb1
    go_wp2_with fail
    go_ret
    exact ⟨rfl, HB1.out⟩
  rcases RX with ⟨h1, f, f1, f2⟩ | ⟨h1, h2⟩
  · have z4 := z3 h1
    clear z2 z3 e00 h1
    go_enter Try.func4, Try.ntmps4
    go_wp2_with fail
    refine (KAw.out).mono ?_
    rintro e w1 ⟨rfl, hb1⟩
    have HB1 := Lib.hid hb1
    clear hb1
    go_wp2_with fail
    go_ret
    exact ⟨rfl, HB1.out.drew⟩
  have z4 : eqW x 0 = false ∧ mg x ≠ 0 := by
    rcases z2 with h | h
    · exact h
    · exact absurd h1 h
  obtain ⟨z5, z6⟩ := z4
  obtain ⟨Y, hY⟩ : ∃ Y, Y = orOne ys len2 := ⟨_, rfl⟩
  have KY := Lib.hid hY
  have HZ := Lib.hid (⟨h1, z6⟩ : _ ∧ _)
  clear z2 z3 h1 z6 hY
  go_enter Try.func4, Try.ntmps4
  go_wp2_with fail
  refine (KAw.out).mono ?_
  rintro e w1 ⟨rfl, hb1⟩
  have HB1 := Lib.hid hb1
  clear hb1
  go_wp2_with (go_at_call 11; ((with_reducible refine (KN.out _).mono ?_)); rintro e w' ⟨rfl, rfl⟩)
  refine (add_some w1.heap.size newG _ (new_is w1) new_ok _ HX.out (by decide)).mono ?_
  rintro e w2 ⟨rfl, a2, c2⟩
  have hb2 := c2.below (w0 := w) (lim := w.heap.size) ((HB1.out).alloc HB1.out.size _) HB1.out.size (by have := HB1.out.size; simp; omega)
  obtain ⟨B, hB⟩ : ∃ B, B = w1.heap.size := ⟨_, rfl⟩
  rw [← hB] at a2 ⊢
  have hBw : w.heap.size ≤ B := by rw [hB]; exact HB1.out.size
  obtain ⟨X0, hX0⟩ : ∃ z, z = iv x * KA := ⟨_, rfl⟩
  have START := Lib.hid (⟨⟨_, a2, by rw [hX0]; exact can_start HZ.out.1 HZ.out.2⟩, hb2, hBw⟩ : CanAt w2 B X0 1 ∧ Below w.heap.size w w2 ∧ w.heap.size ≤ B)
  have KX := Lib.hid hX0
  clear hb2 c2 a2 hBw hB HB1 hX0
  go_wp2_with fail
  go_loopw [9, 10] (fun n t wr => ∃ T : Nat, T ≤ 2 ∧ n = .int .i64 (cCnt xs Y T len 0) ∧ t = .int .i64 T ∧ CanAt wr B (cAt xs Y X0 T len 0) (cCnt xs Y T len 0) ∧ Below w.heap.size w wr) (fun _ t _ => 2 - (intOf t).toNat)
  case atStart =>
    exact ⟨0, by omega, by show _ = Value.int .i64 (1 + 2 * (((0 * cN xs Y len + 0 : Nat)) : Int)); rw [Nat.zero_mul]; rfl, rfl, by
      have e1 : cAt xs Y X0 0 len 0 = X0 := by unfold cAt; rw [if_pos rfl]; show X0 + 0 = X0; omega
      have e2 : cCnt xs Y 0 len 0 = 1 := by unfold cCnt; rw [Nat.zero_mul]; rfl
      rw [e1, e2]; exact START.out.1, START.out.2.1⟩
  case round =>
    obtain ⟨T, hT, rfl, rfl, hacc, hbel⟩ := hrel
    obtain ⟨wo, hwo⟩ : ∃ wo : World, wo = wr := ⟨_, rfl⟩
    rw [← hwo] at hacc hbel ⊢
    clear hwo
    by_cases hlt : T < 2
    · have hl2 : (T : Int) < 2 := by omega
      have HO := Lib.hid (⟨hacc, hbel⟩ : _ ∧ _)
      clear hacc hbel
      obtain ⟨c0, hc0⟩ : ∃ c, c = cCnt xs Y T len 0 := ⟨_, rfl⟩
      rw [← hc0]
      have KC0 := Lib.hid hc0
      clear hc0
      go_wp2_with fail
      go_loopw [9, 11] (fun n i wx => CanRel w B xs Y X0 T len n i wx) (fun _ i _ => len - (intOf i).toNat)
      case atStart => exact ⟨0, by omega, by rw [KC0.out], rfl, HO.out.1, HO.out.2⟩
      case round =>
        obtain ⟨k, hk, rfl, rfl, hacc, hbel⟩ := hrel
        have hcl := cCnt_le xs Y (T := T) (L := len) (k := k) hlt (by omega) hk
        have nx := cCnt_succ xs Y T len k
        obtain ⟨c1, hc1⟩ : ∃ c, c = cCnt xs Y T len k := ⟨_, rfl⟩
        rw [← hc1] at hacc hcl nx ⊢
        by_cases hkl : k < len
        · have hkl2 : (k : Int) < len := by omega
          obtain ⟨b1, off, rfl, hb1, hc, hxk⟩ := HF.out k hkl
          have hc2 : wr.cell? ⟨b1, off + k, none⟩ = some (.float .f64 (xs k)) := by rw [hbel.cell (p := ⟨b1, off + k, none⟩) hb1]; exact hc
          have hyk : W64 (Y k) := by
            rw [KY.out]; unfold orOne; split
            · rename_i h; obtain ⟨_, _, _, _, _, h⟩ := HF2.out k h; exact h
            · show _ < 2 ^ 64; decide
          have RX := run_less (xs k) hxk
          have RY := run_less (Y k) hyk
          have kn := run_neg Try.prog hxk
          have KZ := Lib.hid (⟨hacc, hbel, hcl, nx, hc1, hxk, hyk⟩ : _ ∧ _ ∧ _ ∧ _ ∧ _ ∧ _ ∧ _)
          have hnx : c1 + 2 < 9223372036854775807 ∧ 0 ≤ c1 := by omega
          obtain ⟨n1, n2⟩ := hnx
          have YY : (k < len2 ∧ Y k = ys k) ∨ (¬ k < len2 ∧ Y k = 4607182418800017408) := by
            rw [KY.out]; unfold orOne
            by_cases h : k < len2
            · exact .inl ⟨h, if_pos h⟩
            · exact .inr ⟨h, if_neg h⟩
          clear hacc hbel hcl nx hc1 hc
          have CT : cT xs Y k = decide (mg (xs k) < INF ∧ mg (Y k) < INF) := rfl
          have hTT : T = 0 ∨ T = 1 := by omega
          obtain ⟨X, hX⟩ : ∃ X, X = xs k := ⟨_, rfl⟩
          obtain ⟨Z, hZ⟩ : ∃ X, X = Y k := ⟨_, rfl⟩
          have KXZ := Lib.hid (⟨hX, hZ⟩ : _ ∧ _)
          rw [← hX] at hc2 RX CT kn hxk
          rw [← hZ] at RY CT YY hyk
          clear hX
          have hy2 : (k < len2 ∧ ∃ (b2 off2 : Nat), A2 = some ⟨b2, off2, none⟩ ∧ wr.cell? ⟨b2, off2 + k, none⟩ = some (.float .f64 Z)) ∨ (¬ k < len2 ∧ Z = 4607182418800017408) := by
            rcases YY with ⟨h1, h2⟩ | h
            · obtain ⟨b2, off2, h3, h4, h5, h6⟩ := HF2.out k h1
              exact .inl ⟨h1, b2, off2, h3, by rw [KZ.out.2.1.cell (p := ⟨b2, off2 + k, none⟩) h4, h2]; exact h5⟩
            · exact .inr h
          clear YY hZ
          have HL := Lib.hid (⟨hlt, hk, hkl⟩ : _ ∧ _ ∧ _)
          have NX : Hid (cCnt xs Y T len (k + 1) = c1 + if cT xs Y k then 2 else 0) := Lib.hid KZ.out.2.2.2.1
          have SKIP : Hid (cT xs Y k = false → ∀ w', w'.heap = wr.heap → CanAt w' B (cAt xs Y X0 T len (k + 1)) (cCnt xs Y T len (k + 1))) := Lib.hid fun h w' e => (can_skip hlt KZ.out.1 KZ.out.2.2.2.2.1 h).heap e
          rcases hy2 with ⟨q1, b2, off2, rfl, q2⟩ | ⟨q1, rfl⟩
          all_goals
            first | (have q3 : (k : Int) < len2 := by omega) | (have q3 : ¬ (k : Int) < len2 := by omega)
            rcases RX with ⟨r1, f, f1, f2⟩ | ⟨r1, r2⟩
            · have ct : Hid (cT xs Y k = false) := Lib.hid (by rw [CT]; exact decide_eq_false (fun h => r1 h.1))
              clear CT r1 RY hTT hlt hkl hk q1 h2
              go_wp2_with fail
              go_roundw
              case rel => exact ⟨k + 1, by have := HL.out.2.2; omega, by rw [NX.out, ct.out]; simp, by go_num, SKIP.out ct.out _ rfl, KZ.out.2.1.drew⟩
              case measure => have := HL.out.2.2; simp [intOf]; omega
            · rcases RY with ⟨s1, f, f1, f2⟩ | ⟨s1, s2⟩
              · have ct : Hid (cT xs Y k = false) := Lib.hid (by rw [CT]; exact decide_eq_false (fun h => s1 h.2))
                clear CT r1 s1 hTT hlt hkl hk q1 h2
                go_wp2_with fail
                go_roundw
                case rel => exact ⟨k + 1, by have := HL.out.2.2; omega, by rw [NX.out, ct.out]; simp, by go_num, SKIP.out ct.out _ rfl, KZ.out.2.1.drew⟩
                case measure => have := HL.out.2.2; simp [intOf]; omega
              · have ct : Hid (cT xs Y k = true) := Lib.hid (by rw [CT]; exact decide_eq_true ⟨r1, s1⟩)
                have KF := Lib.hid (⟨hxk, hyk, r1, s1⟩ : _ ∧ _ ∧ _ ∧ _)
                clear CT r1 s1 hlt hkl hk q1 hxk hyk h2
                rcases hTT with hT0 | hT1
                · subst hT0
                  go_wp2_with fail
                  refine (can_add KZ.out.1 KF.out.1 KF.out.2.2.1 (by have := KZ.out.2.2.1; omega)).mono ?_
                  rintro e wa ⟨rfl, ha, hca⟩
                  have HA := Lib.hid (⟨ha, hca⟩ : _ ∧ _)
                  clear ha hca
                  go_wp2_with fail
                  refine (can_mul HA.out.1 KF.out.1 KF.out.2.1 KF.out.2.2.1 KF.out.2.2.2 (by have := KZ.out.2.2.1; omega)).mono ?_
                  rintro e wb ⟨rfl, hb, hcb⟩
                  have HBB := Lib.hid (⟨hb, hcb⟩ : _ ∧ _)
                  clear hb hcb
                  go_wp2_with fail
                  go_roundw
                  case rel =>
                    have REL : CanRel w B xs Y X0 _ len (.int .i64 (c1 + 2)) (.int .i64 ((k : Int) + 1)) wb := ⟨k + 1, by have := HL.out.2.2; omega, by rw [NX.out, ct.out, if_pos rfl], by go_num, HBB.out.1.eq (by rw [cAt_succ0, ct.out, if_pos rfl, ← KXZ.out.1, ← KXZ.out.2]; omega) (by rw [NX.out, ct.out, if_pos rfl]; omega), (HA.out.2.trans HBB.out.2).below KZ.out.2.1 START.out.2.2 KZ.out.2.1.size⟩
                    first | exact REL | ((repeat apply Exists.intro); exact ⟨REL, rfl⟩)
                  case measure => have := HL.out.2.2; simp [intOf]; omega
                · subst hT1
                  have fo : mg (op X) < INF := by rw [mg_op KF.out.1]; exact KF.out.2.2.1
                  have KO := Lib.hid (⟨fo, (W64.op KF.out.1 : W64 (op X))⟩ : _ ∧ _)
                  clear fo
                  go_wp2_with fail
                  refine (can_mul KZ.out.1 KF.out.2.1 KO.out.2 KF.out.2.2.2 KO.out.1 (by have := KZ.out.2.2.1; omega)).mono ?_
                  rintro e wa ⟨rfl, ha, hca⟩
                  have HA := Lib.hid (⟨ha, hca⟩ : _ ∧ _)
                  clear ha hca
                  go_wp2_with fail
                  refine (can_add HA.out.1 KO.out.2 KO.out.1 (by have := KZ.out.2.2.1; omega)).mono ?_
                  rintro e wb ⟨rfl, hb, hcb⟩
                  have HBB := Lib.hid (⟨hb, hcb⟩ : _ ∧ _)
                  clear hb hcb
                  go_wp2_with fail
                  go_roundw
                  case rel =>
                    have REL : CanRel w B xs Y X0 _ len (.int .i64 (c1 + 2)) (.int .i64 ((k : Int) + 1)) wb := ⟨k + 1, by have := HL.out.2.2; omega, by rw [NX.out, ct.out, if_pos rfl], by go_num, HBB.out.1.eq (by rw [cAt_succ1, ct.out, if_pos rfl, ← KXZ.out.1, ← KXZ.out.2, iv_op KF.out.1, Int.mul_neg, Int.neg_mul, Int.neg_mul, Int.mul_comm (iv X) (iv _)]; omega) (by rw [NX.out, ct.out, if_pos rfl]; omega), (HA.out.2.trans HBB.out.2).below KZ.out.2.1 START.out.2.2 KZ.out.2.1.size⟩
                    first | exact REL | ((repeat apply Exists.intro); exact ⟨REL, rfl⟩)
                  case measure => have := HL.out.2.2; simp [intOf]; omega
        · have hn : k = len := by omega
          subst hn
          go_wp2_with fail
          go_roundw
          case rel => exact ⟨T + 1, by omega, by rw [hc1, cCnt_next], by go_num, by rw [← cAt_next _ _ _ _ _ hlt, ← cCnt_next, ← hc1]; exact hacc, hbel⟩
          case measure => simp [intOf]; omega
    · have hn : T = 2 := by omega
      subst hn
      obtain ⟨g, h3, h4⟩ := hacc
      have ev : valG g = x := by
        have e1 : cAt xs Y X0 2 len 0 = iv x * KA := by unfold cAt; rw [if_neg (by omega), if_neg (by omega)]; exact KX.out
        rw [e1] at h4
        exact h4.val HX.out HZ.out.1 HZ.out.2
      have KV := Lib.hid (value_any B g wo h3 h4.ok)
      have KCt := Lib.hid (count_any B g wo h3)
      rw [h4.cnt] at KCt
      rw [ev] at KV
      have KSm := Lib.hid same_self
      have KB := Lib.hid hbel
      clear h3 h4 hbel ev
      obtain ⟨c0, hc0⟩ : ∃ c, c = cCnt xs Y 2 len 0 := ⟨_, rfl⟩
      rw [← hc0] at KCt ⊢
      clear hc0
      go_wp2_with fail
      refine (KCt.out).mono ?_
      rintro e w5 ⟨rfl, rfl⟩
      go_wp2_with fail
      refine (KV.out).mono ?_
      rintro e w6 ⟨rfl, hb6⟩
      have K6 := Lib.hid hb6
      clear hb6
      go_wp2_with (go_at_call 16; ((with_reducible refine (KSm.out _ _).mono ?_)); rintro e w' ⟨rfl, rfl⟩)
      go_ret
      exact ⟨rfl, KB.out.trans (K6.out.mono KB.out.size)⟩
end Go.Proofs.Ytneedadoafcfcaa
