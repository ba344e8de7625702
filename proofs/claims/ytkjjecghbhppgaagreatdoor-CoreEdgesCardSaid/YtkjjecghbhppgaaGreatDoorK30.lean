/- Laid together: TopZv, TopZx, TopZm. -/
import Derived.Test.YtkjjecghbhppgaaGreatDoorKTopZu
import Derived.Test.YtkjjecghbhppgaaGreatDoorKTopZt
import Derived.Test.YtkjjecghbhppgaaGreatDoorK27
import Derived.Test.YtkjjecghbhppgaaGreatDoorK19
import Derived.Test.YtkjjecghbhppgaaGreatDoorK07
import Derived.BigQuiet
/- Tracers: over all edges of the pond. -/
namespace Go.Proofs.YtkjjecghbhppgaaGreatDoor
open Go Go.RowKit Go.Maps TF

set_option maxRecDepth 100000
set_option maxHeartbeats 8000000
/-- the row of four that a cell's round lays -/
structure Arr1 (wr : World) (n c o : Nat) (v : World) : Prop where
  bel : Below wr.heap.size wr v
  nn : n = wr.heap.size
  sz : n < v.heap.size
  outs : IW v n 4 (fun j => if j < o then outO c else 0)
  f0 : ∀ j, v.frozen? ⟨n, j, none⟩ = false
theorem Arr1.step {wr v : World} {n c o : Nat} (h : Arr1 wr n c o v) : Arr1 wr n c (o + 1) (v.setCell ⟨n, o, none⟩ (.int .i64 (outO c))) := by
  have hn := h.nn
  exact ⟨h.bel.setCell (by show _ ≤ n; omega) _, hn, by simpa using h.sz, (h.outs.set o _).same fun i _ => upto_step (f := fun _ => outO c), fun j => by simp [h.f0 j]⟩
theorem arr1_start (wr : World) (c : Nat) : Arr1 wr wr.heap.size c 0 (wr.alloc (Obj.cells #[Value.int IntKind.i64 0, Value.int IntKind.i64 0, Value.int IntKind.i64 0, Value.int IntKind.i64 0] 159)) := by
  refine ⟨by (repeat' (first | with_reducible assumption | with_reducible exact Nat.le_refl _ | with_reducible refine Below.setCell ?_ ?_ _ | with_reducible refine Below.drew ?_ | with_reducible refine Below.alloc ?_ ?_ _ | with_reducible exact Below.refl _ _ | omega | (simp; done) | (simp; omega))), rfl, by simp, fun i hi => ?_, fun j => by simp [go_sem]⟩
  obtain rfl | rfl | rfl | rfl : i = 0 ∨ i = 1 ∨ i = 2 ∨ i = 3 := by omega
  all_goals simp [go_sem]
theorem wat_pos (c : Nat) : 1 ≤ wat c := by unfold wat; split <;> omega
theorem tflows_ok {T : NetT} (bW bT bF : Nat) (w : World) (hN : Net 1 T w) (lW : bW < w.heap.size) (lT : bT < w.heap.size) (lF : bF < w.heap.size) (hW : IW w bW 6 wat) (hT : IW w bT 6 (fun _ => 0)) (hF : IW w bF 12 flo) :
    Calls Tryz.prog 62 #[.pointer (some ⟨T.g, 0, none⟩), .slice (some ⟨bW, 0, none⟩) 6 6, .slice (some ⟨bT, 0, none⟩) 6 6, .slice (some ⟨bF, 0, none⟩) 12 12] w fun e w' => ∃ b, e = .returned (.tuple #[.slice (some ⟨b, 0, none⟩) 12 12, .int .i64 0]) ∧ Below w.heap.size w w' ∧ w.heap.size ≤ b ∧ b < w'.heap.size ∧ IW w' b 12 (fun _ => 0) := by
  have KG := Lib.hid (tgood_ok bW bT bF w hN hW hT hF)
  have HW := Lib.hid hW
  have HT := Lib.hid hT
  have HF := Lib.hid hF
  have HN := Lib.hid hN
  have hmk := make_i12
  clear hN hW hF hT
  go_enter Tryz.func62, Tryz.ntmps62
  go_wp2_with (first | (go_at_call 103; ((with_reducible refine (KG.out).mono ?_)); rintro e w' ⟨rfl, rfl⟩))
  clear hmk KG
  have h0 : Below w.heap.size w (w.alloc (Obj.cells #[Value.int IntKind.i64 0, Value.int IntKind.i64 0, Value.int IntKind.i64 0, Value.int IntKind.i64 0, Value.int IntKind.i64 0, Value.int IntKind.i64 0, Value.int IntKind.i64 0, Value.int IntKind.i64 0, Value.int IntKind.i64 0, Value.int IntKind.i64 0, Value.int IntKind.i64 0, Value.int IntKind.i64 0] 2)) ∧ w.heap.size < (w.alloc (Obj.cells #[Value.int IntKind.i64 0, Value.int IntKind.i64 0, Value.int IntKind.i64 0, Value.int IntKind.i64 0, Value.int IntKind.i64 0, Value.int IntKind.i64 0, Value.int IntKind.i64 0, Value.int IntKind.i64 0, Value.int IntKind.i64 0, Value.int IntKind.i64 0, Value.int IntKind.i64 0, Value.int IntKind.i64 0] 2)).heap.size ∧ (∀ o, (w.alloc (Obj.cells #[Value.int IntKind.i64 0, Value.int IntKind.i64 0, Value.int IntKind.i64 0, Value.int IntKind.i64 0, Value.int IntKind.i64 0, Value.int IntKind.i64 0, Value.int IntKind.i64 0, Value.int IntKind.i64 0, Value.int IntKind.i64 0, Value.int IntKind.i64 0, Value.int IntKind.i64 0, Value.int IntKind.i64 0] 2)).frozen? ⟨w.heap.size, o, none⟩ = false) ∧ IW (w.alloc (Obj.cells #[Value.int IntKind.i64 0, Value.int IntKind.i64 0, Value.int IntKind.i64 0, Value.int IntKind.i64 0, Value.int IntKind.i64 0, Value.int IntKind.i64 0, Value.int IntKind.i64 0, Value.int IntKind.i64 0, Value.int IntKind.i64 0, Value.int IntKind.i64 0, Value.int IntKind.i64 0, Value.int IntKind.i64 0] 2)) w.heap.size 12 (fun _ => 0) := by
    refine ⟨by (repeat' (first | with_reducible assumption | with_reducible exact Nat.le_refl _ | with_reducible refine Below.setCell ?_ ?_ _ | with_reducible refine Below.drew ?_ | with_reducible refine Below.alloc ?_ ?_ _ | with_reducible exact Below.refl _ _ | omega | (simp; done) | (simp; omega))), by simp, fun o => by simp [go_sem], fun i hi => ?_⟩
    obtain rfl | rfl | rfl | rfl | rfl | rfl | rfl | rfl | rfl | rfl | rfl | rfl : i = 0 ∨ i = 1 ∨ i = 2 ∨ i = 3 ∨ i = 4 ∨ i = 5 ∨ i = 6 ∨ i = 7 ∨ i = 8 ∨ i = 9 ∨ i = 10 ∨ i = 11 := by omega
    all_goals simp [go_sem]
  generalize w.alloc (Obj.cells #[Value.int IntKind.i64 0, Value.int IntKind.i64 0, Value.int IntKind.i64 0, Value.int IntKind.i64 0, Value.int IntKind.i64 0, Value.int IntKind.i64 0, Value.int IntKind.i64 0, Value.int IntKind.i64 0, Value.int IntKind.i64 0, Value.int IntKind.i64 0, Value.int IntKind.i64 0, Value.int IntKind.i64 0] 2) = W at h0 ⊢
  have H0 := Lib.hid h0
  clear h0
  obtain ⟨A, hA⟩ : ∃ A, A = w.heap.size := ⟨_, rfl⟩
  rw [← hA] at H0 ⊢
  have HA := Lib.hid hA
  clear hA
  go_loopw [35] (fun i wr => ∃ c : Nat, c ≤ 6 ∧ i = .int .i64 c ∧ Below w.heap.size w wr ∧ A < wr.heap.size ∧ (∀ o, wr.frozen? ⟨A, o, none⟩ = false) ∧ IW wr A 12 (fun _ => 0)) (fun i _ => 6 - (intOf i).toNat)
  case atStart => exact ⟨0, by omega, rfl, by rw [HA.out] at H0; exact H0.out.1, by rw [HA.out] at H0 ⊢; exact H0.out.2.1, by rw [HA.out] at H0 ⊢; exact H0.out.2.2.1, by rw [HA.out] at H0 ⊢; exact H0.out.2.2.2⟩
  case round =>
    clear H0
    obtain ⟨c, hc, rfl, hB, hl, hf, hI⟩ := hrel
    by_cases hlt : c < 6
    · obtain ⟨wq, h⟩ : ∃ wq, wq = wr := ⟨_, rfl⟩
      subst h
      have c0 := (hB.cell (p := ⟨bW, c, none⟩) lW).trans (HW.out c hlt)
      have ha := arr1_start wq c
      have kar := fun o (ho : o < 4) (v : World) (h : Below w.heap.size w v) => around_1 c o hlt ho v (HN.out.below h)
      have KAR := Lib.hid kar
      obtain ⟨x, hx⟩ : ∃ x, x = wat c := ⟨_, rfl⟩
      rw [← hx] at c0
      have HX := Lib.hid hx
      have HR := Lib.hid (⟨hB, hl, hf, hI⟩ : _ ∧ _ ∧ _ ∧ _)
      clear hx hB hl hf hI kar
      have hcd : decide ((c : Int) < 6) = true := decide_eq_true (by omega)
      go_upto_region 10 with fail
      generalize wq.alloc (Obj.cells #[Value.int IntKind.i64 0, Value.int IntKind.i64 0, Value.int IntKind.i64 0, Value.int IntKind.i64 0] 159) = W3 at ha ⊢
      obtain ⟨n, hn⟩ : ∃ n, n = wq.heap.size := ⟨_, rfl⟩
      rw [← hn] at ha ⊢
      clear hn
      have HA3 := Lib.hid ha
      clear ha c0
      go_wp2_with fail
      go_loopw [40] (fun i v => ∃ o : Nat, o ≤ 4 ∧ i = .int .i64 o ∧ Arr1 wq n c o v) (fun i _ => 4 - (intOf i).toNat)
      case atStart => exact ⟨0, by omega, rfl, HA3.out⟩
      case round =>
        clear HA3
        obtain ⟨o, ho, rfl, hr⟩ := hrel
        by_cases hlo : o < 4
        · have hb := HR.out.1.trans (hr.bel.mono HR.out.1.size)
          have KA := Lib.hid (KAR.out o hlo wr hb)
          have he := around1 (4 * c + o) (by omega)
          have c0 := (hb.cell (p := ⟨bF, aE (4 * c + o), none⟩) lF).trans (HF.out _ he)
          have oc := outs_are (4 * c + o) (by omega)
          rw [show (4 * c + o) / 4 = c by omega] at oc
          have hst := hr.step
          have c1 : wr.cell? ⟨n, o, none⟩ = some (.int .i64 (if o < o then outO c else 0)) := hr.outs o hlo
          have f1 := hr.f0 o
          obtain ⟨x1, hx1⟩ : ∃ x, x = (if o < o then outO c else 0) := ⟨_, rfl⟩
          rw [← hx1] at c1
          clear hx1 hr
          generalize aE (4 * c + o) = E at KA he c0 oc
          generalize aS (4 * c + o) = S at KA oc
          generalize flo E = F at c0 oc
          generalize outO c = P at oc hst
          have HST := Lib.hid hst
          clear hst hb
          have hE1 : (0 : Int) ≤ (E : Int) := by omega
          have hE2 : (E : Int) < 12 := by omega
          have hE3 : (E : Int).toNat = E := by omega
          have hO1 : (0 : Int) ≤ (o : Int) := by omega
          have hO2 : (o : Int) < 4 := by omega
          have hO3 : (o : Int).toNat = o := by omega
          rcases oc with ⟨rfl, rfl, rfl⟩ | ⟨rfl, rfl, rfl⟩ | ⟨rfl, rfl, rfl⟩ | ⟨rfl, rfl, rfl⟩
          all_goals
            go_wp2_with (first | (go_at_call 10; ((with_reducible refine (KA.out).mono ?_)); rintro e w' ⟨rfl, rfl⟩))
            go_roundw
            case rel => exact ⟨o + 1, by omega, by go_num, HST.out⟩
            case measure => simp [intOf]; omega
        · have hE : ((o : Nat) : Int) = 4 := by omega
          have ho4 : o = 4 := by omega
          have hr4 : Arr1 wq n c 4 wr := ho4 ▸ hr
          rw [hE]
          clear hr ho hlo hE ho4
          obtain ⟨w5, h⟩ : ∃ w5, w5 = wr := ⟨_, rfl⟩
          subst h
          have hq : IW w5 n 4 (fun _ => outO c) := hr4.outs.same fun i hi => if_pos hi
          obtain ⟨q1, q2, q3, q4⟩ := out_in c hlt
          have q5 := wat_pos c
          rw [← HX.out] at q3 q4 q5
          have hsz := hr4.sz
          have hd : Below w5.heap.size w5 w5.drew := (Below.refl _ _).drew
          have hb5 : Below w.heap.size w w5 := HR.out.1.trans (hr4.bel.mono HR.out.1.size)
          have KU := Lib.hid (takes_ok n (outO c) x q1 q2 q3 q4 q5 w5.drew hsz (hq.below hsz hd))
          have hAn : A ≠ n := by have := HR.out.2.1; have := hr4.nn; omega
          have HQ := Lib.hid hq
          have HR5 := Lib.hid (⟨hb5, Nat.lt_of_lt_of_le HR.out.2.1 hr4.bel.size, fun o => (hr4.bel.frozen (p := ⟨A, o, none⟩) HR.out.2.1).trans (HR.out.2.2.1 o), HR.out.2.2.2.below HR.out.2.1 hr4.bel⟩ : _ ∧ _ ∧ _ ∧ _)
          have c9 := (hb5.cell (p := ⟨bT, c, none⟩) lT).trans (HT.out c hlt)
          dsimp only at c9
          clear hr4 hq q1 q2 q3 q4 q5 HR hd hb5
          go_upto_region 16 with fail
          have hC1 : (0 : Int) ≤ (c : Int) := by omega
          have hC2 : (c : Int) < 6 := by omega
          have hC3 : (c : Int).toNat = c := by omega
          go_region_law (first
            | (go_simp; go_at_call 104; ((with_reducible refine (KU.out).mono ?_)); rintro e w4 ⟨b4, rfl, hB4, hb4, hl4, hc4⟩; have HC4 := Lib.hid (⟨hB4, hb4, hl4, hc4⟩ : _ ∧ _ ∧ _ ∧ _); clear hB4 hb4 hl4 hc4))
          all_goals
            have hB4 : Below w5.heap.size w5 w4 := (Below.refl w5.heap.size w5).drew.trans HC4.out.1
            have hb4 : w5.heap.size ≤ b4 := HC4.out.2.1
            have hl4 : b4 < w4.heap.size := HC4.out.2.2.1
            have HB5 := Lib.hid (⟨HR5.out.1.trans (hB4.mono HR5.out.1.size), Nat.lt_of_lt_of_le HR5.out.2.1 hB4.size, fun o => (hB4.frozen (p := ⟨A, o, none⟩) HR5.out.2.1).trans (HR5.out.2.2.1 o), HR5.out.2.2.2.below HR5.out.2.1 hB4⟩ : _ ∧ _ ∧ _ ∧ _)
            have HO4 := Lib.hid (⟨HQ.out.below hsz hB4, HC4.out.2.2.2⟩ : _ ∧ _)
            have hs4 : n < w4.heap.size := Nat.lt_of_lt_of_le hsz hB4.size
            have hAb : A ≠ b4 := by have := HR5.out.2.1; omega
            clear hB4 KU HQ HR5 HC4 c9
            have hP : outO c = 214249 ∨ outO c = 0 := by unfold outO; split <;> omega
            go_wp2_with fail
            go_loopw [73] (fun i wz => ∃ o : Nat, o ≤ 4 ∧ i = .int .i64 o ∧ Held w w4 (fun b => b == A) wz ∧ IW wz A 12 (fun _ => 0)) (fun i _ => 4 - (intOf i).toNat)
            case atStart => exact ⟨0, by omega, rfl, Held.start _ HB5.out.1, HB5.out.2.2.2⟩
            case round =>
              obtain ⟨o, ho, rfl, hh, hi⟩ := hrel
              by_cases hlo : o < 4
              · have c0 := (hh.cell n o hs4 (by simp; omega)).trans (HO4.out.1 o hlo)
                have c3 := (hh.cell b4 o hl4 (by simp; omega)).trans (HO4.out.2 o hlo)
                dsimp only at c0 c3
                have KA := Lib.hid (KAR.out o hlo wr hh.bel)
                have he := around1 (4 * c + o) (by omega)
                have oc := outs_are (4 * c + o) (by omega)
                generalize aE (4 * c + o) = E at KA he oc
                generalize aS (4 * c + o) = S at KA oc
                have c4 : wr.cell? ⟨A, E, none⟩ = some (.int .i64 0) := hi E he
                have f4 := (hh.froz A E HB5.out.2.1).trans (HB5.out.2.2.1 E)
                have hS : S = 1 ∨ S = -1 := by omega
                have HST := Lib.hid (⟨hh.store A E (.int .i64 0) (by rw [HA.out]; exact Nat.le_refl _) (fun _ => by simp), (hi.set E 0).same fun i _ => by split <;> rfl⟩ : Held w w4 (fun b => b == A) (wr.setCell ⟨A, E, none⟩ (.int .i64 0)) ∧ IW (wr.setCell ⟨A, E, none⟩ (.int .i64 0)) A 12 (fun _ => 0))
                have HS0 := Lib.hid (⟨hh, hi⟩ : _ ∧ _)
                clear hh hi oc
                generalize outO c = P at c0 hP
                have hO1 : (0 : Int) ≤ (o : Int) := by omega
                have hO2 : (o : Int) < 4 := by omega
                have hO3 : (o : Int).toNat = o := by omega
                have hE1 : (0 : Int) ≤ (E : Int) := by omega
                have hE2 : (E : Int) < 12 := by omega
                have hE3 : (E : Int).toNat = E := by omega
                rcases hP with rfl | rfl
                · rcases hS with rfl | rfl
                  all_goals
                    go_wp2_with (first | (go_at_call 10; ((with_reducible refine (KA.out).mono ?_)); rintro e w' ⟨rfl, rfl⟩))
                    go_roundw
                    case rel => exact ⟨o + 1, by omega, by go_num, HST.out⟩
                    case measure => simp [intOf]; omega
                · rcases hS with rfl | rfl
                  all_goals
                    go_wp2_with (first | (go_at_call 10; ((with_reducible refine (KA.out).mono ?_)); rintro e w' ⟨rfl, rfl⟩))
                    go_roundw
                    case rel => exact ⟨o + 1, by omega, by go_num, HS0.out⟩
                    case measure => simp [intOf]; omega
              · have HZ := Lib.hid (⟨hh.bel, Nat.lt_of_lt_of_le HB5.out.2.1 hh.size, fun o => (hh.froz A o HB5.out.2.1).trans (HB5.out.2.2.1 o), hi⟩ : _ ∧ _ ∧ _ ∧ _)
                clear hh hi
                go_wp2_with fail
                go_roundw
                case rel => exact ⟨c + 1, by omega, by go_num, HZ.out⟩
                case measure => simp [intOf]; omega
    · have hE : c = 6 := by omega
      subst hE
      go_wp2_with fail
      refine bodyPost_ret (results_tmp2 rfl _ _ _) rfl ?_
      exact ⟨A, rfl, hB, by rw [HA.out]; exact Nat.le_refl _, hl, hI⟩
end Go.Proofs.YtkjjecghbhppgaaGreatDoor
/- The flows of a step. -/
namespace Go.Proofs.YtkjjecghbhppgaaGreatDoor
open Go Go.RowKit Go.Maps TF

set_option maxRecDepth 100000
set_option maxHeartbeats 8000000
structure Flw (w : World) (bB bW bT b1 : Nat) (v : World) : Prop where
  bel : Below w.heap.size w v
  sz : w.heap.size + 2 < v.heap.size
  pond : Pond bB bW bT b1 spd v
  p : ∀ j u, #[Value.int IntKind.i64 1, Value.float FloatKind.f64 4602678819172646912, Value.float FloatKind.f64 4607182418800017408, Value.float FloatKind.f64 0, Value.int IntKind.i64 0, Value.bool false, Value.slice none 0 0][j]? = some u → v.cell? ⟨w.heap.size, j, none⟩ = some u
  s : ∀ j u, #[Value.slice (some { block := bB, off := 0 }) 6 6, Value.slice (some { block := bW, off := 0 }) 6 6, Value.slice (some { block := bT, off := 0 }) 6 6, Value.slice (some { block := b1, off := 0 }) 12 12, Value.int IntKind.i64 0, Value.int IntKind.i64 0][j]? = some u → v.cell? ⟨w.heap.size + 1, j, none⟩ = some u
  f : ∀ j < 2, v.cell? ⟨w.heap.size + 1 + 1, j, none⟩ = some (.slice none 0 0)
  fz : ∀ j, v.frozen? ⟨w.heap.size + 1 + 1, j, none⟩ = false
theorem Flw.call {w v v' : World} {bB bW bT b1 : Nat} (h : Flw w bB bW bT b1 v) (hB : Below v.heap.size v v') : Flw w bB bW bT b1 v' := by
  have hl := h.sz
  exact ⟨h.bel.trans (hB.mono h.bel.size), Nat.lt_of_lt_of_le hl hB.size, h.pond.below hB, fun j u e => (hB.cell (p := ⟨w.heap.size, j, none⟩) (by show w.heap.size < _; omega)).trans (h.p j u e), fun j u e => (hB.cell (p := ⟨w.heap.size + 1, j, none⟩) (by show w.heap.size + 1 < _; omega)).trans (h.s j u e),
    fun j e => (hB.cell (p := ⟨w.heap.size + 1 + 1, j, none⟩) (by show w.heap.size + 1 + 1 < _; omega)).trans (h.f j e), fun j => (hB.frozen (p := ⟨w.heap.size + 1 + 1, j, none⟩) (by show w.heap.size + 1 + 1 < _; omega)).trans (h.fz j)⟩
/-- the pond behind a store into a box -/
theorem Pond.set {bB bW bT bS b1 : Nat} {sp sp' : Nat → Nat} {w w0 : World} (h : Pond bB bW bT bS sp w) (_ : w0.heap.size ≤ w.heap.size) (hb : ∀ b, b = bB ∨ b = bW ∨ b = bT → b < w0.heap.size) (l1 : b1 < w.heap.size) (c1 : FW w b1 12 sp') (x o : Nat) (hx : w0.heap.size ≤ x) (hx1 : x ≠ b1) (u : Value) : Pond bB bW bT b1 sp' (w.setCell ⟨x, o, none⟩ u) := by
  have k : ∀ b, b = bB ∨ b = bW ∨ b = bT → ∀ j, (w.setCell ⟨x, o, none⟩ u).cell? ⟨b, j, none⟩ = w.cell? ⟨b, j, none⟩ := fun b h j => World.cell?_setCell_other _ _ _ _ (by intro e; injection e with e1; have := hb b h; omega)
  exact ⟨by simpa using h.lB, by simpa using h.lW, by simpa using h.lT, by simpa using l1, fun i hi => (k _ (.inl rfl) i).trans (h.bed i hi), fun i hi => (k _ (.inr (.inl rfl)) i).trans (h.wat i hi), fun i hi => (k _ (.inr (.inr rfl)) i).trans (h.tr i hi),
    fun i hi => (World.cell?_setCell_other _ _ _ _ (by intro e; injection e with e1; omega)).trans (c1 i hi)⟩
theorem flow_ok {bB bW bT bS : Nat} {T : NetT} (w : World) (hN : Net 1 T w) (hP : Pond bB bW bT bS (fun _ => 0) w) :
    Calls Tryz.prog 34 #[.pointer (some ⟨T.g, 0, none⟩), planV, seaV bB bW bT bS] w fun e w' => ∃ b1 b3 b4, e = .returned (.tuple #[.slice (some ⟨b1, 0, none⟩) 12 12, .agg #[.slice (some ⟨b3, 0, none⟩) 12 12, .slice (some ⟨b4, 0, none⟩) 12 12], .int .i64 0]) ∧ Below w.heap.size w w' ∧
      (w.heap.size ≤ b1 ∧ b1 < w'.heap.size ∧ FW w' b1 12 spd) ∧ (w.heap.size ≤ b3 ∧ b3 < w'.heap.size ∧ IW w' b3 12 flo) ∧ (w.heap.size ≤ b4 ∧ b4 < w'.heap.size ∧ IW w' b4 12 (fun _ => 0)) := by
  have HN := Lib.hid hN
  have HP := Lib.hid hP
  clear hN hP
  go_enter Tryz.func34, Tryz.ntmps34
  go_upto_region 5 with (first | (go_at_call 59; ((with_reducible refine (speeds_ok _ (HN.out.below (by (repeat' (first | with_reducible assumption | with_reducible exact Nat.le_refl _ | with_reducible refine Below.setCell ?_ ?_ _ | with_reducible refine Below.drew ?_ | with_reducible refine Below.alloc ?_ ?_ _ | with_reducible exact Below.refl _ _ | omega | (simp; done) | (simp; omega))))) (HP.out.below (by (repeat' (first | with_reducible assumption | with_reducible exact Nat.le_refl _ | with_reducible refine Below.setCell ?_ ?_ _ | with_reducible refine Below.drew ?_ | with_reducible refine Below.alloc ?_ ?_ _ | with_reducible exact Below.refl _ _ | omega | (simp; done) | (simp; omega)))))).mono ?_)); rintro e w1 ⟨b1, rfl, hB1, g1, g2, g3⟩; obtain ⟨hd1, hf1⟩ := bcell hB1; have hz1 : w.heap.size + 1 < w1.heap.size := (by have := hB1.size; simp at this; omega); have hz1c : w.heap.size < w1.heap.size := (by omega)))
  obtain ⟨W, hW⟩ : ∃ W, W = w1.setCell { block := w.heap.size + 1, off := 3 } (Value.slice (some { block := b1, off := 0 }) 12 12) := ⟨_, rfl⟩
  have hA := (Held.start (w0 := w) (fun _ => false) (by (repeat' (first | with_reducible assumption | with_reducible exact Nat.le_refl _ | with_reducible refine Below.setCell ?_ ?_ _ | with_reducible refine Below.drew ?_ | with_reducible refine Below.alloc ?_ ?_ _ | with_reducible exact Below.refl _ _ | omega | (simp; done) | (simp; omega))) : Below w.heap.size w (((w.alloc (Obj.cells #[Value.int IntKind.i64 1, Value.float FloatKind.f64 4602678819172646912, Value.float FloatKind.f64 4607182418800017408, Value.float FloatKind.f64 0, Value.int IntKind.i64 0, Value.bool false, Value.slice none 0 0] 45)).alloc (Obj.cells #[Value.slice (some { block := bB, off := 0 }) 6 6, Value.slice (some { block := bW, off := 0 }) 6 6, Value.slice (some { block := bT, off := 0 }) 6 6, Value.slice (some { block := bS, off := 0 }) 12 12, Value.int IntKind.i64 0, Value.int IntKind.i64 0] 48)).alloc (Obj.cells #[Value.slice none 0 0, Value.slice none 0 0] 84)))).call hB1
  have hsz : w.heap.size + 2 < w1.heap.size := by have := hB1.size; simp at this; omega
  have g1' : w.heap.size + 2 < b1 := by simp at g1; omega
  have hW1 : Flw w bB bW bT b1 W := by
    rw [hW]
    have hP1 := HP.out.below hA.bel
    have hq := HP.out
    refine ⟨hA.bel.setCell (by show _ ≤ w.heap.size + 1; omega) _, by simpa using hsz, hP1.set (w0 := w) hA.bel.size (fun b e => by rcases e with rfl | rfl | rfl; exact hq.lB; exact hq.lW; exact hq.lT) g2 g3 _ _ (by omega) (by omega) _, fun j u e => ?_, fun j u e => ?_, fun j hj => ?_, fun j => ?_⟩
    · rw [World.cell?_setCell_other _ _ _ _ (by intro e; injection e; omega)]
      refine (hA.cell _ j (by simp; omega) rfl).trans ?_
      rw [World.cell?_alloc_lt _ _ _ (by simp; omega), World.cell?_alloc_lt _ _ _ (by simp)]; simpa [World.cell?_alloc_new] using e
    · have e3 : ∀ j u, #[Value.slice (some { block := bB, off := 0 }) 6 6, Value.slice (some { block := bW, off := 0 }) 6 6, Value.slice (some { block := bT, off := 0 }) 6 6, Value.slice (some { block := bS, off := 0 }) 12 12, Value.int IntKind.i64 0, Value.int IntKind.i64 0][j]? = some u → w1.cell? ⟨w.heap.size + 1, j, none⟩ = some u := fun j u e => by
        refine (hA.cell _ j (by simp) rfl).trans ?_
        rw [World.cell?_alloc_lt _ _ _ (by simp)]
        have e2 : w.heap.size + 1 = (w.alloc (Obj.cells #[Value.int IntKind.i64 1, Value.float FloatKind.f64 4602678819172646912, Value.float FloatKind.f64 4607182418800017408, Value.float FloatKind.f64 0, Value.int IntKind.i64 0, Value.bool false, Value.slice none 0 0] 45)).heap.size := by simp
        rw [e2]; simpa [World.cell?_alloc_new] using e
      by_cases hj : j = 3
      · subst hj
        have : u = Value.slice (some { block := b1, off := 0 }) 12 12 := (Option.some.inj e).symm
        subst this
        exact World.cell?_setCell_same _ _ _ (e3 3 _ rfl)
      · rw [World.cell?_setCell_other _ _ _ _ (by intro e; injection e; omega)]
        refine e3 j u ?_
        rcases j with _ | _ | _ | _ | _ | _ | j
        · exact e
        · exact e
        · exact e
        · exact absurd rfl hj
        · exact e
        · exact e
        · simp at e
    · rw [World.cell?_setCell_other _ _ _ _ (by intro e; injection e; omega)]
      refine (hA.cell _ j (by simp) rfl).trans ?_
      obtain rfl | rfl : j = 0 ∨ j = 1 := by omega
      all_goals simp [go_sem]
    · rw [World.frozen?_setCell]
      exact (hA.froz _ j (by simp)).trans (by simp [go_sem])
  have hF1 : FW W b1 12 spd := hW1.pond.spd
  have HX := Lib.hid hW1
  rw [← hW]
  clear hW hA hW1 hB1 hd1 hf1 hz1 hz1c g3 g1
  have hwl : b1 < W.heap.size := HX.out.pond.lS
  have p0 := HX.out.p 0 _ rfl; have p1 := HX.out.p 1 _ rfl; have p2 := HX.out.p 2 _ rfl; have p3 := HX.out.p 3 _ rfl; have p4 := HX.out.p 4 _ rfl; have p5 := HX.out.p 5 _ rfl; have p6 := HX.out.p 6 _ rfl
  have s0 := HX.out.s 0 _ rfl; have s1 := HX.out.s 1 _ rfl; have s2 := HX.out.s 2 _ rfl; have s3 := HX.out.s 3 _ rfl; have s4 := HX.out.s 4 _ rfl; have s5 := HX.out.s 5 _ rfl
  go_upto_region 8 with (first | (go_at_call 60; ((with_reducible refine (fluxall_ok _ (HN.out.below HX.out.bel) HX.out.pond).mono ?_)); rintro e w2 ⟨b2, rfl, hB2, g4, g5, g6⟩; have hX2 := HX.out.call hB2))
  clear p0 p1 p2 p3 p4 p5 p6 s0 s1 s2 s3 s4 s5
  have t1 := hX2.s 1 _ rfl
  have t2 := hX2.s 2 _ rfl
  have t3 := hX2.s 3 _ rfl
  go_upto_region 11 with (first | (go_at_call 61; have ks := share_ok bW b2 w2 (HN.out.below hX2.bel) hX2.pond.lW g5 hX2.pond.wat g6; ((with_reducible refine (ks).mono ?_)); clear ks; rintro e w3 ⟨b3, rfl, hB3, g7, g8, g9⟩; have hX3 := hX2.call hB3))
  clear t1 t2 t3
  have t1 := hX3.s 1 _ rfl
  have t2 := hX3.s 2 _ rfl
  have t3 := hX3.s 3 _ rfl
  go_upto_region 14 with (first | (go_at_call 62; have ks := tflows_ok bW bT b3 w3 (HN.out.below hX3.bel) hX3.pond.lW hX3.pond.lT g8 hX3.pond.wat hX3.pond.tr g9; ((with_reducible refine (ks).mono ?_)); clear ks; rintro e w4 ⟨b4, rfl, hB4, g10, g11, g12⟩; have hX4 := hX3.call hB4))
  clear t1 t2 t3
  have f0 := hX4.f 0 (by omega)
  have f1 := hX4.f 1 (by omega)
  have z0 := hX4.fz 0
  have z1 := hX4.fz 1
  have HE := Lib.hid (⟨hX4, hwl, hF1, hB2, hB3, hB4, g1', g4, g5, g7, g8, g9, g10, g11, g12⟩ : _ ∧ _ ∧ _ ∧ _ ∧ _ ∧ _ ∧ _ ∧ _ ∧ _ ∧ _ ∧ _ ∧ _ ∧ _ ∧ _ ∧ _)
  have hsX := HX.out.bel.size
  clear hX2 hX3 hX4 hwl hF1 hB2 hB3 hB4 g1' g4 g5 g6 g7 g8 g9 g10 g11 g12 g2 hsz
  go_wp2
  refine bodyPost_ret (v := .tuple #[.slice (some ⟨b1, 0, none⟩) 12 12, .agg #[.slice (some ⟨b3, 0, none⟩) 12 12, .slice (some ⟨b4, 0, none⟩) 12 12], .int .i64 0]) (by simp [results, Tryz.results34, go_sem, f0, f1]) rfl ?_
  obtain ⟨hX4, hwl, hF1, hB2, hB3, hB4, g1', g4, g5, g7, g8, g9, g10, g11, g12⟩ := HE.out
  have k2 := hB2.size
  have k3 := hB3.size
  have k4 := hB4.size
  have far : ∀ x o u, x ≠ w.heap.size + 1 + 1 → ∀ v : World, (v.setCell ⟨w.heap.size + 1 + 1, o, none⟩ u).cell? ⟨x, 0, none⟩ = v.cell? ⟨x, 0, none⟩ := fun x o u h v => World.cell?_setCell_other _ _ _ _ (by intro e; injection e; omega)
  have hF4 : FW w4 b1 12 spd := ((hF1.below hwl hB2).below (by omega) hB3).below (by omega) hB4
  have hI4 : IW w4 b3 12 flo := g9.below g8 hB4
  have hq := HX.out.sz
  refine ⟨b1, b3, b4, rfl, (hX4.bel.setCell (by show _ ≤ w.heap.size + 1 + 1; omega) _).setCell (by show _ ≤ w.heap.size + 1 + 1; omega) _, ⟨by omega, by simp; omega, fun i hi => ?_⟩, ⟨by omega, by simp; omega, (hI4.far _ _ (by show w.heap.size + 1 + 1 ≠ b3; omega)).far _ _ (by show w.heap.size + 1 + 1 ≠ b3; omega)⟩, ⟨by omega, by simp; omega, (g12.far _ _ (by show w.heap.size + 1 + 1 ≠ b4; omega)).far _ _ (by show w.heap.size + 1 + 1 ≠ b4; omega)⟩⟩
  rw [World.cell?_setCell_other _ _ _ _ (by intro e; injection e; omega), World.cell?_setCell_other _ _ _ _ (by intro e; injection e; omega)]
  exact hF4 i hi
end Go.Proofs.YtkjjecghbhppgaaGreatDoor
/- Water that goes from cell to cell: sums of 128 bits. -/
namespace Go.Proofs.YtkjjecghbhppgaaGreatDoor
open Go Go.RowKit Go.Maps TF

set_option maxRecDepth 100000
set_option maxHeartbeats 4000000
theorem add64_low (x y : Int) (x0 : 0 ≤ x) (y0 : 0 ≤ y) (h : x + y < 18446744073709551616) (w : World) :
    (callFunc 105 #[.int .u64 x, .int .u64 y, .int .u64 0]).run Tryz.prog w = .ok (.value (.tuple #[.int .u64 (x + y), .int .u64 0])) w := by
  obtain ⟨X, rfl⟩ := Int.eq_ofNat_of_zero_le x0
  obtain ⟨Y, rfl⟩ := Int.eq_ofNat_of_zero_le y0
  rw [run_callFunc_extern Tryz.func105 (by kernel_rfl) (by kernel_rfl) (by kernel_rfl) (e := (Extern.MathBitsCarry.rows[0]'(by decide)).2) (by kernel_rfl)]
  have e1 : ((X : Int) + Y + 0) % 18446744073709551616 = (X : Int) + Y := by omega
  have e2 : ((X : Int) + Y + 0) / 18446744073709551616 = 0 := by omega
  exact Eq.trans (show _ = Result.ok (Next.value (.tuple #[.int .u64 (((X : Int) + Y + 0) % 18446744073709551616), .int .u64 (((X : Int) + Y + 0) / 18446744073709551616)])) w from rfl) (by rw [e1, e2])
theorem sub64_low (x y : Int) (y0 : 0 ≤ y) (h : y ≤ x) (x9 : x < 18446744073709551616) (w : World) :
    (callFunc 106 #[.int .u64 x, .int .u64 y, .int .u64 0]).run Tryz.prog w = .ok (.value (.tuple #[.int .u64 (x - y), .int .u64 0])) w := by
  obtain ⟨X, rfl⟩ := Int.eq_ofNat_of_zero_le (Int.le_trans y0 h)
  obtain ⟨Y, rfl⟩ := Int.eq_ofNat_of_zero_le y0
  rw [run_callFunc_extern Tryz.func106 (by kernel_rfl) (by kernel_rfl) (by kernel_rfl) (e := (Extern.MathBitsCarry.rows[1]'(by decide)).2) (by kernel_rfl)]
  have e1 : (((X + 18446744073709551616 - Y - 0) % 18446744073709551616 : Nat) : Int) = (X : Int) - Y := by omega
  have e2 : (((if X < Y + 0 then 1 else 0 : Nat) : Nat) : Int) = 0 := by rw [if_neg (by omega)]; rfl
  exact Eq.trans (show _ = Result.ok (Next.value (.tuple #[.int .u64 (((X + 18446744073709551616 - Y - 0) % 18446744073709551616 : Nat) : Int), .int .u64 (((if X < Y + 0 then 1 else 0 : Nat) : Nat) : Int)])) w from rfl) (by rw [e1, e2])
theorem plus_ok (l x : Int) (l0 : 0 ≤ l) (l1 : l ≤ 4000000000) (x0 : 0 ≤ x) (x1 : x ≤ 4000000000) (w : World) :
    Calls Tryz.prog 63 #[.agg #[.int .u64 0, .int .u64 l], .int .i64 x] w fun e w' => e = .returned (.agg #[.int .u64 0, .int .u64 (l + x)]) ∧ Below w.heap.size w w' := by
  have k1 := add64_low l x l0 x0 (by omega)
  have k2 := add64_low 0 0 (by omega) (by omega) (by omega)
  have hx : x / 9223372036854775808 = 0 := by omega
  go_enter Tryz.func63, Tryz.ntmps63
  go_wp2
  exact bodyPost_ret (v := .agg #[.int .u64 0, .int .u64 (l + x)]) (by simp [results, Tryz.results63, go_sem]) rfl ⟨rfl, by (repeat' (first | with_reducible assumption | with_reducible exact Nat.le_refl _ | with_reducible refine Below.setCell ?_ ?_ _ | with_reducible refine Below.drew ?_ | with_reducible refine Below.alloc ?_ ?_ _ | with_reducible exact Below.refl _ _ | omega | (simp; done) | (simp; omega)))⟩
theorem minus_ok (l x : Int) (l1 : l ≤ 4000000000) (x0 : 0 ≤ x) (x1 : x ≤ l) (w : World) :
    Calls Tryz.prog 64 #[.agg #[.int .u64 0, .int .u64 l], .int .i64 x] w fun e w' => e = .returned (.agg #[.int .u64 0, .int .u64 (l - x)]) ∧ Below w.heap.size w w' := by
  have k1 := sub64_low l x x0 x1 (by omega)
  have k2 := sub64_low 0 0 (by omega) (by omega) (by omega)
  have hx : x / 9223372036854775808 = 0 := by omega
  go_enter Tryz.func64, Tryz.ntmps64
  go_wp2
  exact bodyPost_ret (v := .agg #[.int .u64 0, .int .u64 (l - x)]) (by simp [results, Tryz.results64, go_sem]) rfl ⟨rfl, by (repeat' (first | with_reducible assumption | with_reducible exact Nat.le_refl _ | with_reducible refine Below.setCell ?_ ?_ _ | with_reducible refine Below.drew ?_ | with_reducible refine Below.alloc ?_ ?_ _ | with_reducible exact Below.refl _ _ | omega | (simp; done) | (simp; omega)))⟩
theorem narrow_ok (l : Int) (l0 : 0 ≤ l) (l1 : l ≤ 4000000000) (w : World) :
    Calls Tryz.prog 65 #[.agg #[.int .u64 0, .int .u64 l]] w fun e w' => e = .returned (.tuple #[.int .i64 l, .bool true]) ∧ Below w.heap.size w w' := by
  have hx : l / 9223372036854775808 = 0 := by omega
  go_enter Tryz.func65, Tryz.ntmps65
  go_wp2
  go_quiet (fail)
  go_wp2
  refine bodyPost_ret (results_tmp2 rfl _ _ _) rfl ?_
  exact ⟨rfl, below_drewN (by (repeat' (first | with_reducible assumption | with_reducible exact Nat.le_refl _ | with_reducible refine Below.setCell ?_ ?_ _ | with_reducible refine Below.drew ?_ | with_reducible refine Below.alloc ?_ ?_ _ | with_reducible exact Below.refl _ _ | omega | (simp; done) | (simp; omega)))) _⟩
end Go.Proofs.YtkjjecghbhppgaaGreatDoor
