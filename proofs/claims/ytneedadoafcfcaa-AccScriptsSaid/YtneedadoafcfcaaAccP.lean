/- A number put to a sum. -/
import Derived.Test.YtneedadoafcfcaaAccA
namespace Go.Proofs.Ytneedadoafcfcaa
open Go Go.RowKit TF

attribute [local go_sem] cmp_eq cmp_ne cmp_lt cmp_gt cmp_le cmp_ge

theorem other {w w0 : World} {b k j : Nat} {v u : Value} (hb : b < w0.heap.size) (h : w.cell? ⟨w0.heap.size, j, none⟩ = some u) : (w.setCell ⟨b, k, none⟩ v).drew.cell? ⟨w0.heap.size, j, none⟩ = some u := by
  show (w.setCell ⟨b, k, none⟩ v).cell? _ = _
  rw [World.cell?_setCell_other _ _ _ _ (by intro e; injection e; omega)]; exact h
/-- what put is given: the words that it adds. -/
structure PutOk (hi lo e : Int) (at' : Nat) (Aw : Nat → Int) (l0 h0 l1 h1 m : Int) : Prop where
  e0 : -2176 ≤ e
  e9 : e ≤ 2000
  ha : (e + 2176) / 64 = at'
  a9 : at' < 67
  ok : WOk Aw
  w0 : Aw at' = l0
  w1 : Aw (at' + 1) = m
  w2 : Aw (at' + 2) = h1
  off : ∀ i, i ≠ at' → i ≠ at' + 1 → i ≠ at' + 2 → Aw i = 0
  f1 : IntKind.u64.wrap (lo * 2 ^ ((e + 2176) % 64).toNat) = l0
  f2 : IntKind.u64.wrap (hi * 2 ^ ((e + 2176) % 64).toNat) = h0
  f3 : lo / 2 ^ (64 - (e + 2176) % 64).toNat = l1
  f4 : hi / 2 ^ (64 - (e + 2176) % 64).toNat = h1
  f5 : bits .or .u64 h0 l1 = m

/-- what holds at the head of the loop. -/
def PutAddRel (w : World) (b : Nat) (s : AccS) (at' : Nat) (Aw : Nat → Int) (l0 m h1 : Int) (c i : Value) (wr : World) : Prop :=
  ∃ k : Nat, at' ≤ k ∧ k ≤ 70 ∧ c = .int .u64 (ca s.d Aw k) ∧ i = .int .i64 k ∧ AccAt wr b { s with d := partW s.d (ad s.d Aw) k } ∧ Chg b w wr ∧
    wr.cell? ⟨w.heap.size, 0, none⟩ = some (.int .u64 l0) ∧ wr.cell? ⟨w.heap.size, 1, none⟩ = some (.int .u64 m) ∧ wr.cell? ⟨w.heap.size, 2, none⟩ = some (.int .u64 h1)
set_option maxRecDepth 100000 in
set_option maxHeartbeats 4000000 in
theorem put_add (b : Nat) (s : AccS) (w : World) (h : AccAt w b s) (hd : WOk s.d) (hi lo e : Int) (at' : Nat) (Aw : Nat → Int) (l0 h0 l1 h1 m : Int) (P : PutOk hi lo e at' Aw l0 h0 l1 h1 m) :
    Calls Try.prog 33 #[.pointer (some ⟨b, 0, none⟩), .bool false, .int .u64 hi, .int .u64 lo, .int .i64 e] w fun x w' => x = .returned (.tuple #[]) ∧ AccAt w' b { s with d := ad s.d Aw } ∧ Chg b w w' := by
  have hb := h.lt
  obtain ⟨e0, e9, ha, a9, ok, w0, w1, w2, off, f1, f2, f3, f4, f5⟩ := P
  obtain ⟨A, hA⟩ : ∃ A, A = (e + 2176) / 64 := ⟨_, rfl⟩
  have start : AccAt (w.alloc (.cells #[.int .u64 l0, .int .u64 m, .int .u64 h1] 80)).drew b { s with d := partW s.d (ad s.d Aw) at' } :=
    (((Chg.refl b w).alloc _).drew.acc' h |>.ext (fun i _ => by
      show s.d i = partW s.d (ad s.d Aw) at' i
      unfold partW
      split
      · rename_i hi
        exact (ad_same hd (off i (by omega) (by omega) (by omega)) (ca_low hd (n := at') (fun j hj => off j (by omega) (by omega) (by omega)) i (by omega))).symm
      · rfl) rfl rfl rfl rfl rfl)
  have c0 := ca_low hd (n := at') (fun j hj => off j (by omega) (by omega) (by omega)) at' (Nat.le_refl _)
  have START := Lib.hid (⟨start, c0⟩ : _ ∧ _)
  have FIN : Hid (∀ k, at' + 2 < k → ca s.d Aw k = 0 → ∀ i, i < 70 → partW s.d (ad s.d Aw) k i = ad s.d Aw i) := Lib.hid fun k hk hc i _ => by
    unfold partW
    split
    · rfl
    · rename_i hki
      have hz : ∀ i, k ≤ i → Aw i = 0 := fun i hi => off i (by omega) (by omega) (by omega)
      exact (ad_same hd (hz i (by omega)) (ca_rest hd hc hz i (by omega))).symm
  have HW := Lib.hid (⟨w0, w1, w2, off, ok, hd⟩ : _ ∧ _ ∧ _ ∧ _ ∧ _ ∧ _)
  have HA := Lib.hid ha
  clear w0 w1 w2 off ok hd start c0 ha h hA
  go_enter Try.func33, Try.ntmps33
  go_wp2_with fail
  go_region
  go_wp2_with fail
  go_loopw [13, 14] (fun c i wr => PutAddRel w b s at' Aw l0 m h1 c i wr) (fun _ i _ => 70 - (intOf i).toNat)
  case atStart =>
    obtain ⟨start, c0⟩ := START.out
    exact ⟨at', Nat.le_refl _, by omega, by rw [c0], by rw [HA.out], start, ((Chg.refl b w).alloc _).drew, by simp, by simp, by simp⟩
  case round =>
    obtain ⟨k, hk, hk9, rfl, rfl, hacc, hchg, g0, g1, g2⟩ := hrel
    have hle1 : (e + 2176) / 64 ≤ (at' : Int) := by rw [HA.out]; exact Int.le_refl _
    have hle2 : (at' : Int) ≤ (e + 2176) / 64 := by rw [HA.out]; exact Int.le_refl _
    have hbl : b < w.heap.size := hb
    obtain ⟨w0, w1, w2, off, ok, hd⟩ := HW.out
    have hcb := ca_bit hd ok k
    by_cases hlt : k < 70
    · have hl : (k : Int) < 70 := by omega
      obtain ⟨cw, fw⟩ := hacc.word k hlt
      have hpart : partW s.d (ad s.d Aw) k k = s.d k := by unfold partW; rw [if_neg (by omega)]
      have cw2 : wr.cell? ⟨b, k, none⟩ = some (.int .u64 (s.d k)) := by rw [← hpart]; exact cw
      clear cw hpart
      have hdk := hd k
      have hok := ok k
      have hnext := hacc.next hlt
      have hcn : ca s.d Aw (k + 1) = (s.d k + Aw k + ca s.d Aw k) / 18446744073709551616 := rfl
      have hadk : ad s.d Aw k = (s.d k + Aw k + ca s.d Aw k) % 18446744073709551616 := rfl
      have hfin := FIN.out k
      have hx : (k = at' ∧ Aw k = l0) ∨ (k = at' + 1 ∧ Aw k = m) ∨ (k = at' + 2 ∧ Aw k = h1) ∨ (at' + 2 < k ∧ Aw k = 0) := by
        rcases Nat.lt_or_ge (at' + 2) k with h | h
        · exact .inr (.inr (.inr ⟨h, off k (by omega) (by omega) (by omega)⟩))
        · rcases (show k = at' ∨ k = at' + 1 ∨ k = at' + 2 by omega) with h | h | h
          · exact .inl ⟨h, by rw [h]; exact w0⟩
          · exact .inr (.inl ⟨h, by rw [h]; exact w1⟩)
          · exact .inr (.inr (.inl ⟨h, by rw [h]; exact w2⟩))
      clear w0 w1 w2 off ok hd
      obtain ⟨D, hD⟩ : ∃ D, D = ad s.d Aw k := ⟨_, rfl⟩
      obtain ⟨C', hC'⟩ : ∃ D, D = ca s.d Aw (k + 1) := ⟨_, rfl⟩
      obtain ⟨U, hU⟩ : ∃ U, U = s.d k := ⟨_, rfl⟩
      obtain ⟨X, hX⟩ : ∃ X, X = Aw k := ⟨_, rfl⟩
      rw [← hD] at hnext hadk
      rw [← hU] at cw2 hcn hadk hdk
      rw [← hX] at hcn hadk hok hx
      rw [← hC'] at hcn
      generalize hC : ca s.d Aw k = C at *
      have kr := fun w => run_add64 U X C hdk.1 hok.1 hcb w
      rw [← hadk, ← hcn] at kr
      have KEEP := Lib.hid (⟨hnext, hchg, hC', g0, g1, g2, hbl, hacc, hfin⟩ : _ ∧ _ ∧ _ ∧ _ ∧ _ ∧ _ ∧ _ ∧ _ ∧ _)
      clear hnext hchg hC' hD hU hX hC hcn hadk hok hdk hacc hfin
      rcases hx with ⟨h, rfl⟩ | ⟨h, rfl⟩ | ⟨h, rfl⟩ | ⟨h, rfl⟩
      · have gl : wr.cell? ⟨w.heap.size, ((k : Int) - (e + 2176) / 64).toNat, none⟩ = some (.int .u64 X) := by rw [show ((k : Int) - (e + 2176) / 64).toNat = 0 by omega]; exact g0
        clear g0 g1 g2
        have i0 : 0 ≤ (k : Int) - (e + 2176) / 64 := by omega
        have i1 : (k : Int) - (e + 2176) / 64 < 3 := by omega
        clear h
        go_wp2_with fail
        go_region
        go_wp2_with fail
        go_roundw
        case rel =>
          obtain ⟨q1, q2, q3, q4, q5, q6, q7, q8, q9⟩ := KEEP.out
          exact ⟨k + 1, by omega, by omega, by rw [q3], by go_num, q1.drew, (q2.set k _).drew, other q7 q4, other q7 q5, other q7 q6⟩
        case measure => simp [intOf]; omega
      · have gl : wr.cell? ⟨w.heap.size, ((k : Int) - (e + 2176) / 64).toNat, none⟩ = some (.int .u64 X) := by rw [show ((k : Int) - (e + 2176) / 64).toNat = 1 by omega]; exact g1
        clear g0 g1 g2
        have i0 : 0 ≤ (k : Int) - (e + 2176) / 64 := by omega
        have i1 : (k : Int) - (e + 2176) / 64 < 3 := by omega
        clear h
        go_wp2_with fail
        go_region
        go_wp2_with fail
        go_roundw
        case rel =>
          obtain ⟨q1, q2, q3, q4, q5, q6, q7, q8, q9⟩ := KEEP.out
          exact ⟨k + 1, by omega, by omega, by rw [q3], by go_num, q1.drew, (q2.set k _).drew, other q7 q4, other q7 q5, other q7 q6⟩
        case measure => simp [intOf]; omega
      · have gl : wr.cell? ⟨w.heap.size, ((k : Int) - (e + 2176) / 64).toNat, none⟩ = some (.int .u64 X) := by rw [show ((k : Int) - (e + 2176) / 64).toNat = 2 by omega]; exact g2
        clear g0 g1 g2
        have i0 : 0 ≤ (k : Int) - (e + 2176) / 64 := by omega
        have i1 : (k : Int) - (e + 2176) / 64 < 3 := by omega
        clear h
        go_wp2_with fail
        go_region
        go_wp2_with fail
        go_roundw
        case rel =>
          obtain ⟨q1, q2, q3, q4, q5, q6, q7, q8, q9⟩ := KEEP.out
          exact ⟨k + 1, by omega, by omega, by rw [q3], by go_num, q1.drew, (q2.set k _).drew, other q7 q4, other q7 q5, other q7 q6⟩
        case measure => simp [intOf]; omega
      · have i1 : 3 ≤ (k : Int) - (e + 2176) / 64 := by omega
        clear g0 g1 g2
        rcases hcb with rfl | rfl
        · clear kr
          go_wp2_with fail
          refine bodyPost_ret (results_none rfl _ _ _) rfl ?_
          obtain ⟨q1, q2, q3, q4, q5, q6, q7, q8, q9⟩ := KEEP.out
          exact ⟨rfl, q8.ext (q9 h (by first | rfl | trivial)) rfl rfl rfl rfl rfl, q2⟩
        · clear h
          go_wp2_with fail
          go_region
          go_wp2_with fail
          go_roundw
          case rel =>
            obtain ⟨q1, q2, q3, q4, q5, q6, q7, q8, q9⟩ := KEEP.out
            exact ⟨k + 1, by omega, by omega, by rw [q3], by go_num, q1.drew, (q2.set k _).drew, other q7 q4, other q7 q5, other q7 q6⟩
          case measure => simp [intOf]; omega
    · have hk70 : k = 70 := by omega
      subst hk70
      have KEEP := Lib.hid (⟨hacc, hchg⟩ : _ ∧ _)
      clear hacc hchg g0 g1 g2 w0 w1 w2 off ok hd hcb
      go_wp2_with fail
      go_end0
      obtain ⟨q1, q2⟩ := KEEP.out
      exact ⟨rfl, q1.ext (fun i hi => by show partW s.d (ad s.d Aw) 70 i = _; unfold partW; rw [if_pos hi]) rfl rfl rfl rfl rfl, q2⟩

/-- what holds at the head of the loop. -/
def PutSubRel (w : World) (b : Nat) (s : AccS) (at' : Nat) (Aw : Nat → Int) (l0 m h1 : Int) (c i : Value) (wr : World) : Prop :=
  ∃ k : Nat, at' ≤ k ∧ k ≤ 70 ∧ c = .int .u64 (br s.d Aw k) ∧ i = .int .i64 k ∧ AccAt wr b { s with d := partW s.d (sb s.d Aw) k } ∧ Chg b w wr ∧
    wr.cell? ⟨w.heap.size, 0, none⟩ = some (.int .u64 l0) ∧ wr.cell? ⟨w.heap.size, 1, none⟩ = some (.int .u64 m) ∧ wr.cell? ⟨w.heap.size, 2, none⟩ = some (.int .u64 h1)
set_option maxRecDepth 100000 in
set_option maxHeartbeats 4000000 in
theorem put_sub (b : Nat) (s : AccS) (w : World) (h : AccAt w b s) (hd : WOk s.d) (hi lo e : Int) (at' : Nat) (Aw : Nat → Int) (l0 h0 l1 h1 m : Int) (P : PutOk hi lo e at' Aw l0 h0 l1 h1 m) :
    Calls Try.prog 33 #[.pointer (some ⟨b, 0, none⟩), .bool true, .int .u64 hi, .int .u64 lo, .int .i64 e] w fun x w' => x = .returned (.tuple #[]) ∧ AccAt w' b { s with d := sb s.d Aw } ∧ Chg b w w' := by
  have hb := h.lt
  obtain ⟨e0, e9, ha, a9, ok, w0, w1, w2, off, f1, f2, f3, f4, f5⟩ := P
  obtain ⟨A, hA⟩ : ∃ A, A = (e + 2176) / 64 := ⟨_, rfl⟩
  have start : AccAt (w.alloc (.cells #[.int .u64 l0, .int .u64 m, .int .u64 h1] 80)).drew b { s with d := partW s.d (sb s.d Aw) at' } :=
    (((Chg.refl b w).alloc _).drew.acc' h |>.ext (fun i _ => by
      show s.d i = partW s.d (sb s.d Aw) at' i
      unfold partW
      split
      · rename_i hi
        exact (sb_same hd (off i (by omega) (by omega) (by omega)) (br_low hd (n := at') (fun j hj => off j (by omega) (by omega) (by omega)) i (by omega))).symm
      · rfl) rfl rfl rfl rfl rfl)
  have c0 := br_low hd (n := at') (fun j hj => off j (by omega) (by omega) (by omega)) at' (Nat.le_refl _)
  have START := Lib.hid (⟨start, c0⟩ : _ ∧ _)
  have FIN : Hid (∀ k, at' + 2 < k → br s.d Aw k = 0 → ∀ i, i < 70 → partW s.d (sb s.d Aw) k i = sb s.d Aw i) := Lib.hid fun k hk hc i _ => by
    unfold partW
    split
    · rfl
    · rename_i hki
      have hz : ∀ i, k ≤ i → Aw i = 0 := fun i hi => off i (by omega) (by omega) (by omega)
      exact (sb_same hd (hz i (by omega)) (br_rest hd hc hz i (by omega))).symm
  have HW := Lib.hid (⟨w0, w1, w2, off, ok, hd⟩ : _ ∧ _ ∧ _ ∧ _ ∧ _ ∧ _)
  have HA := Lib.hid ha
  clear w0 w1 w2 off ok hd start c0 ha h hA
  go_enter Try.func33, Try.ntmps33
  go_wp2_with fail
  go_region
  go_wp2_with fail
  go_loopw [13, 14] (fun c i wr => PutSubRel w b s at' Aw l0 m h1 c i wr) (fun _ i _ => 70 - (intOf i).toNat)
  case atStart =>
    obtain ⟨start, c0⟩ := START.out
    exact ⟨at', Nat.le_refl _, by omega, by rw [c0], by rw [HA.out], start, ((Chg.refl b w).alloc _).drew, by simp, by simp, by simp⟩
  case round =>
    obtain ⟨k, hk, hk9, rfl, rfl, hacc, hchg, g0, g1, g2⟩ := hrel
    have hle1 : (e + 2176) / 64 ≤ (at' : Int) := by rw [HA.out]; exact Int.le_refl _
    have hle2 : (at' : Int) ≤ (e + 2176) / 64 := by rw [HA.out]; exact Int.le_refl _
    have hbl : b < w.heap.size := hb
    obtain ⟨w0, w1, w2, off, ok, hd⟩ := HW.out
    have hcb := br_bit s.d Aw k
    by_cases hlt : k < 70
    · have hl : (k : Int) < 70 := by omega
      obtain ⟨cw, fw⟩ := hacc.word k hlt
      have hpart : partW s.d (sb s.d Aw) k k = s.d k := by unfold partW; rw [if_neg (by omega)]
      have cw2 : wr.cell? ⟨b, k, none⟩ = some (.int .u64 (s.d k)) := by rw [← hpart]; exact cw
      clear cw hpart
      have hdk := hd k
      have hok := ok k
      have hnext := hacc.next hlt
      have hcn : br s.d Aw (k + 1) = if s.d k < Aw k + br s.d Aw k then 1 else 0 := rfl
      have hadk : sb s.d Aw k = (s.d k + 18446744073709551616 - Aw k - br s.d Aw k) % 18446744073709551616 := rfl
      have hfin := FIN.out k
      have hx : (k = at' ∧ Aw k = l0) ∨ (k = at' + 1 ∧ Aw k = m) ∨ (k = at' + 2 ∧ Aw k = h1) ∨ (at' + 2 < k ∧ Aw k = 0) := by
        rcases Nat.lt_or_ge (at' + 2) k with h | h
        · exact .inr (.inr (.inr ⟨h, off k (by omega) (by omega) (by omega)⟩))
        · rcases (show k = at' ∨ k = at' + 1 ∨ k = at' + 2 by omega) with h | h | h
          · exact .inl ⟨h, by rw [h]; exact w0⟩
          · exact .inr (.inl ⟨h, by rw [h]; exact w1⟩)
          · exact .inr (.inr (.inl ⟨h, by rw [h]; exact w2⟩))
      clear w0 w1 w2 off ok hd
      obtain ⟨D, hD⟩ : ∃ D, D = sb s.d Aw k := ⟨_, rfl⟩
      obtain ⟨C', hC'⟩ : ∃ D, D = br s.d Aw (k + 1) := ⟨_, rfl⟩
      obtain ⟨U, hU⟩ : ∃ U, U = s.d k := ⟨_, rfl⟩
      obtain ⟨X, hX⟩ : ∃ X, X = Aw k := ⟨_, rfl⟩
      rw [← hD] at hnext hadk
      rw [← hU] at cw2 hcn hadk hdk
      rw [← hX] at hcn hadk hok hx
      rw [← hC'] at hcn
      generalize hC : br s.d Aw k = C at *
      have kr := fun w => run_sub64 U X C hdk.1 hok.1 hok.2 hcb w
      rw [← hadk, ← hcn] at kr
      have KEEP := Lib.hid (⟨hnext, hchg, hC', g0, g1, g2, hbl, hacc, hfin⟩ : _ ∧ _ ∧ _ ∧ _ ∧ _ ∧ _ ∧ _ ∧ _ ∧ _)
      clear hnext hchg hC' hD hU hX hC hcn hadk hok hdk hacc hfin
      rcases hx with ⟨h, rfl⟩ | ⟨h, rfl⟩ | ⟨h, rfl⟩ | ⟨h, rfl⟩
      · have gl : wr.cell? ⟨w.heap.size, ((k : Int) - (e + 2176) / 64).toNat, none⟩ = some (.int .u64 X) := by rw [show ((k : Int) - (e + 2176) / 64).toNat = 0 by omega]; exact g0
        clear g0 g1 g2
        have i0 : 0 ≤ (k : Int) - (e + 2176) / 64 := by omega
        have i1 : (k : Int) - (e + 2176) / 64 < 3 := by omega
        clear h
        go_wp2_with fail
        go_region
        go_wp2_with fail
        go_roundw
        case rel =>
          obtain ⟨q1, q2, q3, q4, q5, q6, q7, q8, q9⟩ := KEEP.out
          exact ⟨k + 1, by omega, by omega, by rw [q3], by go_num, q1.drew, (q2.set k _).drew, other q7 q4, other q7 q5, other q7 q6⟩
        case measure => simp [intOf]; omega
      · have gl : wr.cell? ⟨w.heap.size, ((k : Int) - (e + 2176) / 64).toNat, none⟩ = some (.int .u64 X) := by rw [show ((k : Int) - (e + 2176) / 64).toNat = 1 by omega]; exact g1
        clear g0 g1 g2
        have i0 : 0 ≤ (k : Int) - (e + 2176) / 64 := by omega
        have i1 : (k : Int) - (e + 2176) / 64 < 3 := by omega
        clear h
        go_wp2_with fail
        go_region
        go_wp2_with fail
        go_roundw
        case rel =>
          obtain ⟨q1, q2, q3, q4, q5, q6, q7, q8, q9⟩ := KEEP.out
          exact ⟨k + 1, by omega, by omega, by rw [q3], by go_num, q1.drew, (q2.set k _).drew, other q7 q4, other q7 q5, other q7 q6⟩
        case measure => simp [intOf]; omega
      · have gl : wr.cell? ⟨w.heap.size, ((k : Int) - (e + 2176) / 64).toNat, none⟩ = some (.int .u64 X) := by rw [show ((k : Int) - (e + 2176) / 64).toNat = 2 by omega]; exact g2
        clear g0 g1 g2
        have i0 : 0 ≤ (k : Int) - (e + 2176) / 64 := by omega
        have i1 : (k : Int) - (e + 2176) / 64 < 3 := by omega
        clear h
        go_wp2_with fail
        go_region
        go_wp2_with fail
        go_roundw
        case rel =>
          obtain ⟨q1, q2, q3, q4, q5, q6, q7, q8, q9⟩ := KEEP.out
          exact ⟨k + 1, by omega, by omega, by rw [q3], by go_num, q1.drew, (q2.set k _).drew, other q7 q4, other q7 q5, other q7 q6⟩
        case measure => simp [intOf]; omega
      · have i1 : 3 ≤ (k : Int) - (e + 2176) / 64 := by omega
        clear g0 g1 g2
        rcases hcb with rfl | rfl
        · clear kr
          go_wp2_with fail
          refine bodyPost_ret (results_none rfl _ _ _) rfl ?_
          obtain ⟨q1, q2, q3, q4, q5, q6, q7, q8, q9⟩ := KEEP.out
          exact ⟨rfl, q8.ext (q9 h (by first | rfl | trivial)) rfl rfl rfl rfl rfl, q2⟩
        · clear h
          go_wp2_with fail
          go_region
          go_wp2_with fail
          go_roundw
          case rel =>
            obtain ⟨q1, q2, q3, q4, q5, q6, q7, q8, q9⟩ := KEEP.out
            exact ⟨k + 1, by omega, by omega, by rw [q3], by go_num, q1.drew, (q2.set k _).drew, other q7 q4, other q7 q5, other q7 q6⟩
          case measure => simp [intOf]; omega
    · have hk70 : k = 70 := by omega
      subst hk70
      have KEEP := Lib.hid (⟨hacc, hchg⟩ : _ ∧ _)
      clear hacc hchg g0 g1 g2 w0 w1 w2 off ok hd hcb
      go_wp2_with fail
      go_end0
      obtain ⟨q1, q2⟩ := KEEP.out
      exact ⟨rfl, q1.ext (fun i hi => by show partW s.d (sb s.d Aw) 70 i = _; unfold partW; rw [if_pos hi]) rfl rfl rfl rfl rfl, q2⟩
end Go.Proofs.Ytneedadoafcfcaa
