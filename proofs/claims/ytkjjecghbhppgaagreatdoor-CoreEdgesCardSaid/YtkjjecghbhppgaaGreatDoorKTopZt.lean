/- Shares: the flows over all edges, cut for all cells. -/
import Derived.Test.YtkjjecghbhppgaaGreatDoorK27
namespace Go.Proofs.YtkjjecghbhppgaaGreatDoor
open Go Go.RowKit Go.Maps TF

set_option maxRecDepth 100000
set_option maxHeartbeats 8000000
theorem around_1 {T : NetT} (c o : Nat) (hc : c < 6) (ho : o < 4) (w : World) (h : Net 1 T w) :
    Calls Tryz.prog 10 #[.pointer (some ⟨T.g, 0, none⟩), .int .i64 c, .int .i64 o] w fun e w' => e = .returned (.tuple #[.int .i64 (aE (4 * c + o) : Nat), .int .i64 (aS (4 * c + o))]) ∧ w = w' := by
  have h := around_net ⟨by decide, by decide⟩ (t := 4 * c + o) (by unfold N4; omega) w h
  rw [(ar1 (4 * c + o) (by omega)).1, (ar1 (4 * c + o) (by omega)).2, show (4 * c + o) / 4 = c by omega, show (4 * c + o) % 4 = o by omega] at h
  exact h
/-- what flows out of a cell over each of its sides -/
def outO (c : Nat) : Int := if c = 0 then 214249 else 0
theorem outs_are : ∀ t < 24, (flo (aE t) = 214249 ∧ aS t = 1 ∧ outO (t / 4) = 214249) ∨ (flo (aE t) = 214249 ∧ aS t = -1 ∧ outO (t / 4) = 0) ∨ (flo (aE t) = 0 ∧ aS t = 1 ∧ outO (t / 4) = 0) ∨ (flo (aE t) = 0 ∧ aS t = -1 ∧ outO (t / 4) = 0) := by decide
theorem out_in : ∀ c < 6, 0 ≤ outO c ∧ outO c ≤ 214249 ∧ 4 * outO c ≤ wat c ∧ wat c ≤ 1433053866 := by decide
theorem edges_0 : ∀ o < 4, ((aE (4 * 0 + o) : Nat) : Int) = (o : Int) ∧ aS (4 * 0 + o) = 1 ∧ flo o = 214249 := by decide
/-- the three rows of four that a cell's round lays -/
structure Arr (wr : World) (n c o : Nat) (v : World) : Prop where
  bel : Below wr.heap.size wr v
  nn : n = wr.heap.size
  sz : n + 2 < v.heap.size
  outs : IW v n 4 (fun j => if j < o then outO c else 0)
  edges : IW v (n + 1) 4 (fun j => if j < o then (aE (4 * c + j) : Nat) else 0)
  signs : IW v (n + 1 + 1) 4 (fun j => if j < o then aS (4 * c + j) else 0)
  f0 : ∀ j, v.frozen? ⟨n, j, none⟩ = false
  f1 : ∀ j, v.frozen? ⟨n + 1, j, none⟩ = false
  f2 : ∀ j, v.frozen? ⟨n + 1 + 1, j, none⟩ = false
theorem upto_step {α : Type} {f : Nat → α} {z : α} {o i : Nat} : (if i = o then f o else if i < o then f i else z) = if i < o + 1 then f i else z := by
  by_cases e : i = o
  · subst e; rw [if_pos rfl, if_pos (by omega)]
  · rw [if_neg e]; by_cases e2 : i < o
    · rw [if_pos e2, if_pos (by omega)]
    · rw [if_neg e2, if_neg (by omega)]
theorem Arr.step {wr v : World} {n c o : Nat} (h : Arr wr n c o v) : Arr wr n c (o + 1) (((v.setCell ⟨n + 1, o, none⟩ (.int .i64 (aE (4 * c + o) : Nat))).setCell ⟨n + 1 + 1, o, none⟩ (.int .i64 (aS (4 * c + o)))).setCell ⟨n, o, none⟩ (.int .i64 (outO c))) := by
  have hn := h.nn
  exact ⟨((h.bel.setCell (by show _ ≤ n + 1; omega) _).setCell (by show _ ≤ n + 1 + 1; omega) _).setCell (by show _ ≤ n; omega) _, hn, by simpa using h.sz,
    (((h.outs.far _ _ (by show n + 1 ≠ n; omega)).far _ _ (by show n + 1 + 1 ≠ n; omega)).set o _).same fun i _ => upto_step (f := fun _ => outO c),
    (((h.edges.set o _).far _ _ (by show n + 1 + 1 ≠ n + 1; omega)).far _ _ (by show n ≠ n + 1; omega)).same fun i _ => upto_step (f := fun j => ((aE (4 * c + j) : Nat) : Int)),
    (((h.signs.far _ _ (by show n + 1 ≠ n + 1 + 1; omega)).set o _).far _ _ (by show n ≠ n + 1 + 1; omega)).same fun i _ => upto_step (f := fun j => aS (4 * c + j)),
    fun j => by simp [h.f0 j], fun j => by simp [h.f1 j], fun j => by simp [h.f2 j]⟩
theorem arr_start (wr : World) (c : Nat) : Arr wr wr.heap.size c 0 (((wr.alloc (Obj.cells #[Value.int IntKind.i64 0, Value.int IntKind.i64 0, Value.int IntKind.i64 0, Value.int IntKind.i64 0] 159)).alloc (Obj.cells #[Value.int IntKind.i64 0, Value.int IntKind.i64 0, Value.int IntKind.i64 0, Value.int IntKind.i64 0] 151)).alloc (Obj.cells #[Value.int IntKind.i64 0, Value.int IntKind.i64 0, Value.int IntKind.i64 0, Value.int IntKind.i64 0] 151)) := by
  refine ⟨by (repeat' (first | with_reducible assumption | with_reducible exact Nat.le_refl _ | with_reducible refine Below.setCell ?_ ?_ _ | with_reducible refine Below.drew ?_ | with_reducible refine Below.alloc ?_ ?_ _ | with_reducible exact Below.refl _ _ | omega | (simp; done) | (simp; omega))), rfl, by simp, fun i hi => ?_, fun i hi => ?_, fun i hi => ?_, fun j => by simp [go_sem], fun j => by simp [go_sem], fun j => by simp [go_sem]⟩
  all_goals
    obtain rfl | rfl | rfl | rfl : i = 0 ∨ i = 1 ∨ i = 2 ∨ i = 3 := by omega
    all_goals simp [go_sem]
theorem share_ok {T : NetT} (bW bF : Nat) (w : World) (hN : Net 1 T w) (lW : bW < w.heap.size) (lF : bF < w.heap.size) (hW : IW w bW 6 wat) (hF : IW w bF 12 flo) :
    Calls Tryz.prog 61 #[.pointer (some ⟨T.g, 0, none⟩), .slice (some ⟨bW, 0, none⟩) 6 6, .slice (some ⟨bF, 0, none⟩) 12 12] w fun e w' => ∃ b, e = .returned (.tuple #[.slice (some ⟨b, 0, none⟩) 12 12, .int .i64 0]) ∧ Below w.heap.size w w' ∧ w.heap.size ≤ b ∧ b < w'.heap.size ∧ IW w' b 12 flo := by
  have KG := Lib.hid (good_ok bW bF w hN hW hF)
  have HW := Lib.hid hW
  have HF := Lib.hid hF
  have HN := Lib.hid hN
  have hmk := make_i12
  clear hN hW hF
  go_enter Tryz.func61, Tryz.ntmps61
  go_wp2_with (first | (go_at_call 101; ((with_reducible refine (KG.out).mono ?_)); rintro e w' ⟨rfl, rfl⟩))
  clear hmk KG
  have h0 : Below w.heap.size w (w.alloc (Obj.cells #[Value.int IntKind.i64 0, Value.int IntKind.i64 0, Value.int IntKind.i64 0, Value.int IntKind.i64 0, Value.int IntKind.i64 0, Value.int IntKind.i64 0, Value.int IntKind.i64 0, Value.int IntKind.i64 0, Value.int IntKind.i64 0, Value.int IntKind.i64 0, Value.int IntKind.i64 0, Value.int IntKind.i64 0] 2)) ∧ w.heap.size < (w.alloc (Obj.cells #[Value.int IntKind.i64 0, Value.int IntKind.i64 0, Value.int IntKind.i64 0, Value.int IntKind.i64 0, Value.int IntKind.i64 0, Value.int IntKind.i64 0, Value.int IntKind.i64 0, Value.int IntKind.i64 0, Value.int IntKind.i64 0, Value.int IntKind.i64 0, Value.int IntKind.i64 0, Value.int IntKind.i64 0] 2)).heap.size ∧ (∀ o, (w.alloc (Obj.cells #[Value.int IntKind.i64 0, Value.int IntKind.i64 0, Value.int IntKind.i64 0, Value.int IntKind.i64 0, Value.int IntKind.i64 0, Value.int IntKind.i64 0, Value.int IntKind.i64 0, Value.int IntKind.i64 0, Value.int IntKind.i64 0, Value.int IntKind.i64 0, Value.int IntKind.i64 0, Value.int IntKind.i64 0] 2)).frozen? ⟨w.heap.size, o, none⟩ = false) ∧ IW (w.alloc (Obj.cells #[Value.int IntKind.i64 0, Value.int IntKind.i64 0, Value.int IntKind.i64 0, Value.int IntKind.i64 0, Value.int IntKind.i64 0, Value.int IntKind.i64 0, Value.int IntKind.i64 0, Value.int IntKind.i64 0, Value.int IntKind.i64 0, Value.int IntKind.i64 0, Value.int IntKind.i64 0, Value.int IntKind.i64 0] 2)) w.heap.size 12 (fun k => if (0 : Nat) = 0 then 0 else flo k) := by
    refine ⟨by (repeat' (first | with_reducible assumption | with_reducible exact Nat.le_refl _ | with_reducible refine Below.setCell ?_ ?_ _ | with_reducible refine Below.drew ?_ | with_reducible refine Below.alloc ?_ ?_ _ | with_reducible exact Below.refl _ _ | omega | (simp; done) | (simp; omega))), by simp, fun o => by simp [go_sem], fun i hi => ?_⟩
    obtain rfl | rfl | rfl | rfl | rfl | rfl | rfl | rfl | rfl | rfl | rfl | rfl : i = 0 ∨ i = 1 ∨ i = 2 ∨ i = 3 ∨ i = 4 ∨ i = 5 ∨ i = 6 ∨ i = 7 ∨ i = 8 ∨ i = 9 ∨ i = 10 ∨ i = 11 := by omega
    all_goals simp [go_sem]
  generalize w.alloc (Obj.cells #[Value.int IntKind.i64 0, Value.int IntKind.i64 0, Value.int IntKind.i64 0, Value.int IntKind.i64 0, Value.int IntKind.i64 0, Value.int IntKind.i64 0, Value.int IntKind.i64 0, Value.int IntKind.i64 0, Value.int IntKind.i64 0, Value.int IntKind.i64 0, Value.int IntKind.i64 0, Value.int IntKind.i64 0] 2) = W at h0 ⊢
  have H0 := Lib.hid h0
  clear h0
  obtain ⟨A, hA⟩ : ∃ A, A = w.heap.size := ⟨_, rfl⟩
  rw [← hA] at H0 ⊢
  have HA := Lib.hid hA
  clear hA
  go_loopw [32] (fun i wr => ∃ c : Nat, c ≤ 6 ∧ i = .int .i64 c ∧ Below w.heap.size w wr ∧ A < wr.heap.size ∧ (∀ o, wr.frozen? ⟨A, o, none⟩ = false) ∧ IW wr A 12 (fun k => if c = 0 then 0 else flo k)) (fun i _ => 6 - (intOf i).toNat)
  case atStart => exact ⟨0, by omega, rfl, by rw [HA.out] at H0; exact H0.out.1, by rw [HA.out] at H0 ⊢; exact H0.out.2.1, by rw [HA.out] at H0 ⊢; exact H0.out.2.2.1, by rw [HA.out] at H0 ⊢; exact H0.out.2.2.2⟩
  case round =>
    clear H0
    obtain ⟨c, hc, rfl, hB, hl, hf, hI⟩ := hrel
    by_cases hlt : c < 6
    · obtain ⟨wq, h⟩ : ∃ wq, wq = wr := ⟨_, rfl⟩
      subst h
      have c0 := (hB.cell (p := ⟨bW, c, none⟩) lW).trans (HW.out c hlt)
      have ha := arr_start wq c
      have kar := fun o (ho : o < 4) (v : World) (h : Below w.heap.size w v) => around_1 c o hlt ho v (HN.out.below h)
      have KAR := Lib.hid kar
      obtain ⟨x, hx⟩ : ∃ x, x = wat c := ⟨_, rfl⟩
      rw [← hx] at c0
      have HX := Lib.hid hx
      have HR := Lib.hid (⟨hB, hl, hf, hI⟩ : _ ∧ _ ∧ _ ∧ _)
      clear hx hB hl hf hI kar
      have hcd : decide ((c : Int) < 6) = true := decide_eq_true (by omega)
      go_upto_region 11 with fail
      generalize (((wq.alloc (Obj.cells #[Value.int IntKind.i64 0, Value.int IntKind.i64 0, Value.int IntKind.i64 0, Value.int IntKind.i64 0] 159)).alloc (Obj.cells #[Value.int IntKind.i64 0, Value.int IntKind.i64 0, Value.int IntKind.i64 0, Value.int IntKind.i64 0] 151)).alloc (Obj.cells #[Value.int IntKind.i64 0, Value.int IntKind.i64 0, Value.int IntKind.i64 0, Value.int IntKind.i64 0] 151)) = W3 at ha ⊢
      obtain ⟨n, hn⟩ : ∃ n, n = wq.heap.size := ⟨_, rfl⟩
      rw [← hn] at ha ⊢
      obtain ⟨n1, h1⟩ : ∃ n1, n1 = n + 1 := ⟨_, rfl⟩
      obtain ⟨n2, h2⟩ : ∃ n2, n2 = n + 1 + 1 := ⟨_, rfl⟩
      rw [← h2, ← h1]
      have H1 := Lib.hid h1
      have H2 := Lib.hid h2
      clear hn h1 h2
      have HA3 := Lib.hid ha
      clear ha c0
      go_wp2_with fail
      go_loopw [37] (fun i v => ∃ o : Nat, o ≤ 4 ∧ i = .int .i64 o ∧ Arr wq n c o v) (fun i _ => 4 - (intOf i).toNat)
      case atStart => exact ⟨0, by omega, rfl, HA3.out⟩
      case round =>
        clear HA3
        obtain ⟨o, ho, rfl, hr⟩ := hrel
        by_cases hlo : o < 4
        · have hb := HR.out.1.trans (hr.bel.mono HR.out.1.size)
          have KA := Lib.hid (KAR.out o hlo wr hb)
          have he := around1 (4 * c + o) (by omega)
          have c0 := (hb.cell (p := ⟨bF, aE (4 * c + o), none⟩) lF).trans (HF.out _ he)
          have oc := outs_are (4 * c + o) (by omega)
          rw [show (4 * c + o) / 4 = c by omega] at oc
          have hst := hr.step
          have c1 : wr.cell? ⟨n, o, none⟩ = some (.int .i64 (if o < o then outO c else 0)) := hr.outs o hlo
          have c2 : wr.cell? ⟨n + 1, o, none⟩ = some (.int .i64 (if o < o then (aE (4 * c + o) : Nat) else 0)) := hr.edges o hlo
          have c3 : wr.cell? ⟨n + 1 + 1, o, none⟩ = some (.int .i64 (if o < o then aS (4 * c + o) else 0)) := hr.signs o hlo
          have f1 := hr.f0 o
          have f2 := hr.f1 o
          have f3 := hr.f2 o
          have hnn : n ≠ bF := by have := HR.out.1.size; have := hr.nn; omega
          have hn1 : n + 1 ≠ bF := by have := HR.out.1.size; have := hr.nn; omega
          have hn2 : n + 1 + 1 ≠ bF := by have := HR.out.1.size; have := hr.nn; omega
          obtain ⟨x1, hx1⟩ : ∃ x, x = (if o < o then outO c else 0) := ⟨_, rfl⟩
          obtain ⟨x2, hx2⟩ : ∃ x : Int, x = (if o < o then ((aE (4 * c + o) : Nat) : Int) else 0) := ⟨_, rfl⟩
          obtain ⟨x3, hx3⟩ : ∃ x, x = (if o < o then aS (4 * c + o) else 0) := ⟨_, rfl⟩
          rw [← hx1] at c1
          rw [← hx2] at c2
          rw [← hx3] at c3
          clear hx1 hx2 hx3 hr
          generalize aE (4 * c + o) = E at KA he c0 oc hst
          generalize aS (4 * c + o) = S at KA oc hst
          generalize flo E = F at c0 oc
          generalize outO c = P at oc hst
          have HST := Lib.hid hst
          have h1 := H1.out
          have h2 := H2.out
          have g0 : ∀ u1 u2, ((wr.setCell ⟨n1, o, none⟩ u1).setCell ⟨n2, o, none⟩ u2).cell? ⟨bF, E, none⟩ = some (.int .i64 F) := fun u1 u2 => by
            rw [World.cell?_setCell_other _ _ _ _ (by intro e; injection e; omega), World.cell?_setCell_other _ _ _ _ (by intro e; injection e; omega)]; exact c0
          have g1 : ∀ u1, (wr.setCell ⟨n1, o, none⟩ u1).cell? ⟨n2, o, none⟩ = some (.int .i64 x3) := fun u1 => by
            rw [World.cell?_setCell_other _ _ _ _ (by intro e; injection e; omega)]; rw [h2]; exact c3
          have g2 : ∀ u1 u2, ((wr.setCell ⟨n1, o, none⟩ u1).setCell ⟨n2, o, none⟩ u2).cell? ⟨n, o, none⟩ = some (.int .i64 x1) := fun u1 u2 => by
            rw [World.cell?_setCell_other _ _ _ _ (by intro e; injection e; omega), World.cell?_setCell_other _ _ _ _ (by intro e; injection e; omega)]; exact c1
          rw [← h2] at c3 f3 HST
          rw [← h1] at c2 f2 HST
          clear hst h1 h2 hnn hn1 hn2 hb
          have hE1 : (0 : Int) ≤ (E : Int) := by omega
          have hE2 : (E : Int) < 12 := by omega
          have hE3 : (E : Int).toNat = E := by omega
          have hO1 : (0 : Int) ≤ (o : Int) := by omega
          have hO2 : (o : Int) < 4 := by omega
          have hO3 : (o : Int).toNat = o := by omega
          rcases oc with ⟨rfl, rfl, rfl⟩ | ⟨rfl, rfl, rfl⟩ | ⟨rfl, rfl, rfl⟩ | ⟨rfl, rfl, rfl⟩
          all_goals
            go_wp2_with (first | (go_at_call 10; ((with_reducible refine (KA.out).mono ?_)); rintro e w' ⟨rfl, rfl⟩))
            go_roundw
            case rel => exact ⟨o + 1, by omega, by go_num, HST.out⟩
            case measure => simp [intOf]; omega
        · have hE : ((o : Nat) : Int) = 4 := by omega
          have ho4 : o = 4 := by omega
          have hr4 : Arr wq n c 4 wr := ho4 ▸ hr
          rw [hE]
          clear hr ho hlo hE ho4
          obtain ⟨w5, h⟩ : ∃ w5, w5 = wr := ⟨_, rfl⟩
          subst h
          have hq : IW w5 n 4 (fun _ => outO c) := hr4.outs.same fun i hi => if_pos hi
          have hed : IW w5 n1 4 (fun j => (aE (4 * c + j) : Nat)) := by rw [H1.out]; exact hr4.edges.same fun i hi => if_pos hi
          have hsg : IW w5 n2 4 (fun j => aS (4 * c + j)) := by rw [H2.out]; exact hr4.signs.same fun i hi => if_pos hi
          obtain ⟨q1, q2, q3, q4⟩ := out_in c hlt
          rw [← HX.out] at q3 q4
          have hsz := hr4.sz
          have hsz1 : n1 < w5.heap.size := by have := H1.out; omega
          have hsz2 : n2 < w5.heap.size := by have := H2.out; omega
          have KU := Lib.hid (cut_ok n (outO c) x q1 q2 q3 q4 w5 (by omega) hq)
          have HQ := Lib.hid (⟨hr4, hq, hed, hsg⟩ : _ ∧ _ ∧ _ ∧ _)
          have HR5 := Lib.hid (⟨HR.out.1.trans (hr4.bel.mono HR.out.1.size), Nat.lt_of_lt_of_le HR.out.2.1 hr4.bel.size, fun o => (hr4.bel.frozen (p := ⟨A, o, none⟩) HR.out.2.1).trans (HR.out.2.2.1 o), HR.out.2.2.2.below HR.out.2.1 hr4.bel⟩ : _ ∧ _ ∧ _ ∧ _)
          have hAn : A ≠ n ∧ A ≠ n1 ∧ A ≠ n2 := by have := HR.out.2.1; have := hr4.nn; have := H1.out; have := H2.out; omega
          clear hr4 hq hed hsg q1 q2 q3 q4 HR KAR
          go_wp2_with (first | (go_at_call 102; ((with_reducible refine (KU.out).mono ?_)); rintro e w4 ⟨b4, rfl, hB4, hb4, hl4, hc4⟩))
          have HB5 := Lib.hid (⟨HR5.out.1.trans (hB4.mono HR5.out.1.size), Nat.lt_of_lt_of_le HR5.out.2.1 hB4.size, fun o => (hB4.frozen (p := ⟨A, o, none⟩) HR5.out.2.1).trans (HR5.out.2.2.1 o), HR5.out.2.2.2.below HR5.out.2.1 hB4⟩ : _ ∧ _ ∧ _ ∧ _)
          have ho4 : IW w4 n 4 (fun _ => outO c) := HQ.out.2.1.below (by omega) hB4
          have he4 : IW w4 n1 4 (fun j => (aE (4 * c + j) : Nat)) := HQ.out.2.2.1.below (by omega) hB4
          have hs4 : IW w4 n2 4 (fun j => aS (4 * c + j)) := HQ.out.2.2.2.below (by omega) hB4
          have hs5 := hB4.size
          have HO4 := Lib.hid (⟨ho4, he4, hs4, hc4⟩ : _ ∧ _ ∧ _ ∧ _)
          have hAb : A ≠ b4 := by have := HR5.out.2.1; omega
          clear ho4 he4 hs4 hB4 hc4 KU HQ HR5
          by_cases hc0 : c = 0
          · have hP : outO c = 214249 := if_pos hc0
            have hcc : ((c : Nat) : Int) = 0 := by omega
            have h00 : Held w w4 (fun b => b == A) w4 := Held.start _ HB5.out.1
            have hI0 : IW w4 A 12 (fun k => if k < 0 then flo k else 0) := HB5.out.2.2.2.same fun i _ => by rw [if_pos hc0, if_neg (by omega)]
            have H00 := Lib.hid (⟨h00, hI0⟩ : _ ∧ _)
            clear h00 hI0
            go_loopw [72] (fun i wz => ∃ o : Nat, o ≤ 4 ∧ i = .int .i64 o ∧ Held w w4 (fun b => b == A) wz ∧ IW wz A 12 (fun k => if k < o then flo k else 0)) (fun i _ => 4 - (intOf i).toNat)
            case atStart => exact ⟨0, by omega, rfl, H00.out⟩
            case round =>
              clear H00
              obtain ⟨o, ho, rfl, hh, hi⟩ := hrel
              by_cases hlo : o < 4
              · have c0 := (hh.cell n o (by omega) (by simp; omega)).trans (HO4.out.1 o hlo)
                have c1 := (hh.cell n1 o (by omega) (by simp; omega)).trans (HO4.out.2.1 o hlo)
                have c2 := (hh.cell n2 o (by omega) (by simp; omega)).trans (HO4.out.2.2.1 o hlo)
                have c3 := (hh.cell b4 o (by omega) (by simp; omega)).trans (HO4.out.2.2.2 o hlo)
                have c4 : wr.cell? ⟨A, o, none⟩ = some (.int .i64 (if o < o then flo o else 0)) := hi o (by omega)
                obtain ⟨z, hz⟩ : ∃ z, z = (if o < o then flo o else 0) := ⟨_, rfl⟩
                rw [← hz] at c4
                have f4 := (hh.froz A o HB5.out.2.1).trans (HB5.out.2.2.1 o)
                obtain ⟨e1, e2, e3⟩ := edges_0 o hlo
                dsimp only at c0 c1 c2 c3
                rw [hc0] at c1 c2
                rw [e1] at c1
                rw [e2] at c2
                rw [hP] at c0 c3
                have hst : IW (wr.drew.setCell ⟨A, o, none⟩ (.int .i64 214249)) A 12 (fun k => if k < o + 1 then flo k else 0) := by
                  rw [← e3]
                  exact (IW.set (w := wr.drew) hi o (flo o)).same fun i _ => upto_step (f := flo)
                have hst2 : Held w w4 (fun b => b == A) (wr.drew.setCell ⟨A, o, none⟩ (.int .i64 214249)) := hh.draw.store _ _ _ (by rw [HA.out]; exact Nat.le_refl _) (fun _ => by simp)
                have HST := Lib.hid (⟨hst2, hst⟩ : _ ∧ _)
                clear hst hst2 hh hi e1 e2 e3 hz
                have hO1 : (0 : Int) ≤ (o : Int) := by omega
                have hO2 : (o : Int) < 4 := by omega
                have hO3 : (o : Int).toNat = o := by omega
                have hO4 : (o : Int) < 12 := by omega
                go_upto_region 25 with fail
                go_still_tail 13, (by kernel_rfl)
                change wpList _ _ _ _ _ (World.drew wr)
                go_wp2
                go_roundw
                case rel => exact ⟨o + 1, by omega, by go_num, HST.out⟩
                case measure => simp [intOf]; omega
              · have ho4 : o = 4 := by omega
                have h1 := hh.bel
                have h2 := Nat.lt_of_lt_of_le HB5.out.2.1 hh.size
                have h3 := fun o => (hh.froz A o HB5.out.2.1).trans (HB5.out.2.2.1 o)
                have h4 : IW wr A 12 (fun k => if c + 1 = 0 then 0 else flo k) := hi.same fun i hi => by
                  rw [show (if c + 1 = 0 then (0 : Int) else flo i) = flo i from if_neg (by omega)]
                  by_cases e : i < o
                  · rw [if_pos e]
                  · rw [if_neg e]; exact (if_neg (by omega)).symm
                have HZ := Lib.hid (⟨h1, h2, h3, h4⟩ : _ ∧ _ ∧ _ ∧ _)
                clear h1 h2 h3 h4 hh hi
                go_wp2_with fail
                go_roundw
                case rel => exact ⟨c + 1, by omega, by go_num, HZ.out⟩
                case measure => simp [intOf]; omega
          · have hP : outO c = 0 := if_neg hc0
            go_loopw [72] (fun i wz => ∃ o : Nat, o ≤ 4 ∧ i = .int .i64 o ∧ wz = w4) (fun i _ => 4 - (intOf i).toNat)
            case atStart => exact ⟨0, by omega, rfl, rfl⟩
            case round =>
              obtain ⟨o, ho, rfl, hw⟩ := hrel
              subst hw
              by_cases hlo : o < 4
              · have c0 := HO4.out.1 o hlo
                dsimp only at c0
                rw [hP] at c0
                clear hP
                have hO1 : (0 : Int) ≤ (o : Int) := by omega
                have hO2 : (o : Int) < 4 := by omega
                have hO3 : (o : Int).toNat = o := by omega
                go_wp2_with fail
                go_roundw
                case rel => exact ⟨o + 1, by omega, by go_num, by trivial⟩
                case measure => simp [intOf]; omega
              · have h4 : IW wr A 12 (fun k => if c + 1 = 0 then 0 else flo k) := HB5.out.2.2.2.same fun i hi => by rw [if_neg hc0, if_neg (by omega)]
                have HZ := Lib.hid (⟨HB5.out.1, HB5.out.2.1, HB5.out.2.2.1, h4⟩ : _ ∧ _ ∧ _ ∧ _)
                clear h4
                go_wp2_with fail
                go_roundw
                case rel => exact ⟨c + 1, by omega, by go_num, HZ.out⟩
                case measure => simp [intOf]; omega
    · have hE : c = 6 := by omega
      subst hE
      go_wp2_with fail
      refine bodyPost_ret (results_tmp2 rfl _ _ _) rfl ?_
      exact ⟨A, rfl, hB, by rw [HA.out]; exact Nat.le_refl _, hl, hI.same fun i _ => if_neg (by omega)⟩
end Go.Proofs.YtkjjecghbhppgaaGreatDoor
