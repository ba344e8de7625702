/- Edges: the law's loops. -/
import Derived.Test.YtkjjecghbhppgaaGreatDoorKTopXe
import Derived.Test.YtkjjecghbhppgaaGreatDoorKTopW
import Derived.Deep.CutRange
namespace Go.Proofs.YtkjjecghbhppgaaGreatDoor
open Go Go.RowKit Go.Maps TF

attribute [local go_sem] cmp_eq cmp_ne cmp_lt cmp_gt cmp_le cmp_ge run_store_float
set_option maxRecDepth 100000
set_option maxHeartbeats 8000000
/-- what the second loop keeps -/
structure UseS (wN : World) (S C : Nat) (v : World) : Prop where
  bel : Below wN.heap.size wN v
  lt : S < v.heap.size
  row : IW v S C (fun _ => 4)
theorem UseS.call {wN v v' : World} {S C : Nat} (h : UseS wN S C v) (hB : Below v.heap.size v v') : UseS wN S C v' :=
  ⟨h.bel.trans (hB.mono h.bel.size), Nat.lt_of_lt_of_le h.lt hB.size, h.row.below h.lt hB⟩
theorem edges_good {n : Nat} (hS : Side n) (hMV : ∀ w, Fr w → FrG w → Calls Tryz.prog 4 #[] w fun e w' => e = .returned (.bool true) ∧ Below w.heap.size w w') (w : World) (hF : Fr w) (hG : FrG w) :
    Calls Tryz.prog 3 #[.int .i64 n] w fun e w' => e = .returned (.bool true) ∧ Below w.heap.size w w' := by
  obtain ⟨C, hC⟩ : ∃ C, C = 6 * n * n := ⟨_, rfl⟩
  have hN := N4_le hS
  have hC6 : C ≤ 6144 := by unfold N4 at hN; omega
  have hC1 : 1 ≤ C := by rw [hC]; have := Nat.mul_le_mul hS.n1 hS.n1; rw [Nat.mul_assoc]; omega
  have hn1 := hS.n1
  have hn2 := hS.n2
  have hm1 : IntKind.i64.wrap (6 * (n : Int)) = 6 * n := by rw [IntKind.wrap_i64] <;> omega
  have hm2 : IntKind.i64.wrap (6 * (n : Int) * (n : Int)) = (C : Int) := by
    have e : 6 * (n : Int) * n = C := by rw [hC]; push_cast; rfl
    rw [e, IntKind.wrap_i64] <;> omega
  have kc : ∀ (T : NetT) v, Net n T v → Calls Tryz.prog 6 #[.pointer (some ⟨T.g, 0, none⟩)] v fun e w' => e = .returned (.int .i64 (C : Int)) ∧ v = w' := fun T v h => by rw [hC]; exact cells_net hS v h
  have kes : ∀ (T : NetT) v, Net n T v → Calls Tryz.prog 7 #[.pointer (some ⟨T.g, 0, none⟩)] v fun e w' => e = .returned (.int .i64 (2 * (C : Int))) ∧ v = w' := fun T v h => (edges_net hS v h).mono fun _ _ h => ⟨by rw [h.1, EL_length hS, ← hC]; push_cast; rfl, h.2⟩
  have KC := Lib.hid kc
  have KES := Lib.hid kes
  have HC := Lib.hid hC
  have HF := Lib.hid hF
  have HG := Lib.hid hG
  have KMV := Lib.hid hMV
  have hmk := make_n C hC6
  clear kc kes hC hF hG hMV hN
  go_enter Tryz.func3, Tryz.ntmps3
  go_upto_region 7 with (first | (go_at_call 4; ((with_reducible refine (KMV.out _ HF.out HG.out).mono ?_)); rintro e w1 ⟨rfl, hB1⟩) | (go_at_call 5; ((with_reducible refine (new_any hS w1 (HF.out.below hB1) (HG.out.below hB1)).mono ?_)); rintro e w2 ⟨T, rfl, hB2, hN2⟩))
  have HN2 := Lib.hid hN2
  have hV2 : Below w.heap.size w w2 := hB1.trans (hB2.mono hB1.size)
  have HV2 := Lib.hid hV2
  clear hN2 hV2 hB1 hB2 hm1 hm2
  go_wp2_with (first | (go_at_call 6; ((with_reducible refine (KC.out _ _ HN2.out).mono ?_)); rintro e w' ⟨rfl, rfl⟩) | (go_at_call 7; ((with_reducible refine (KES.out _ _ HN2.out).mono ?_)); rintro e w' ⟨rfl, rfl⟩) | (go_at_call 8; ((with_reducible refine (side_net _ HN2.out).mono ?_)); rintro e w' ⟨rfl, rfl⟩))
  have h0 : SeeS w2 w2.heap.size C n 0 (w2.alloc (.cells (madeCells #[.int .i64 0] C) 3)) := by
    exact ⟨by (repeat' (first | with_reducible assumption | with_reducible exact Nat.le_refl _ | with_reducible refine Below.setCell ?_ ?_ _ | with_reducible refine Below.drew ?_ | with_reducible refine Below.alloc ?_ ?_ _ | with_reducible exact Below.refl _ _ | omega | (simp; done) | (simp; omega))), Nat.le_refl _, by simp, made_zero C w2, fun o => by simp [go_sem]⟩
  generalize w2.alloc (.cells (madeCells #[.int .i64 0] C) 3) = W3 at h0 ⊢
  obtain ⟨S, hSd⟩ : ∃ S, S = w2.heap.size := ⟨_, rfl⟩
  rw [← hSd] at h0 ⊢
  have H0 := Lib.hid h0
  clear h0 hmk hSd KC KES
  go_loopw [7] (fun i wr => ∃ k : Nat, k ≤ 2 * C ∧ i = .int .i64 k ∧ SeeS w2 S C n k wr) (fun i _ => 2 * C - (intOf i).toNat)
  case atStart => exact ⟨0, by omega, rfl, H0.out⟩
  case round =>
    clear H0
    obtain ⟨k, hk, rfl, hSee⟩ := hrel
    by_cases hlt : k < 2 * C
    · have hkd : decide ((k : Int) < 2 * (C : Int)) = true := decide_eq_true (by omega)
      have hkl : k < (EL n).length := by rw [EL_length hS, ← HC.out]; exact hlt
      obtain ⟨t, ht⟩ : ∃ t, (EL n)[k]? = some t := ⟨_, List.getElem?_eq_getElem hkl⟩
      obtain ⟨hpr, htN, hidx⟩ := E4_mem ht
      have hsg := sg_facts hS htN
      obtain ⟨gp1, gl0, gp2, gg0, gl2, gg2⟩ := g_facts hS htN
      have hlo : lo n t = t := by unfold lo; rw [if_pos hpr]
      have hlo2 := (lo_facts hS htN).2.2
      have hx6 : t / 4 < C := by rw [HC.out]; unfold N4 at htN; omega
      have hy6 : sg n t / 4 < C := by rw [HC.out]; have := hsg.1; unfold N4 at this; omega
      have hxy : t / 4 < sg n t / 4 := by rw [hsg.2.1]; unfold prim at hpr; simpa using hpr
      have hg1 := lt_pos gp1 gl0
      have hg2 := lt_pos gp2 gg0
      have ke := edge_net hS ht wr (HN2.out.below hSee.bel)
      have ka1 := fun v (h : Net n T v) => around_net hS htN v h
      rw [hlo, hidx, hpr] at ka1
      have ka2 := fun v (h : Net n T v) => around_net hS hsg.1 v h
      rw [hlo2, hlo, hidx, hsg.2.2.2.2.1, hpr] at ka2
      have kl1 := fun v h => length_call hS htN v h
      have kg1 := fun v hf hg => gap_call hS htN v hf hg
      have kl2 := fun v h => length_call hS hsg.1 v h
      have kg2 := fun v hf hg => gap_call hS hsg.1 v hf hg
      rw [gl2] at kl2
      rw [gg2] at kg2
      have kgl := fun v (h : Net n T v) => length_net hS ht v h
      have kgg := fun v (h : Net n T v) => gap_net hS ht v h
      have hcn := fun v eb (h : EdgX w2 S C n k eb (t / 4) (t % 4) (sg n t / 4) (sg n t % 4) v) => h.count ht (by omega)
      have hmx := met_le n k (t / 4)
      have hmy := met_le n k (sg n t / 4)
      have hrx := hSee.row (t / 4) hx6
      have hry := hSee.row (sg n t / 4) hy6
      dsimp only at hrx hry
      generalize t / 4 = x at ke ka1 kl1 kg1 hcn hx6 hxy hmx hrx
      generalize t % 4 = o at ke ka1 kl1 kg1 hcn
      generalize sg n t / 4 = y at ke ka2 kl2 kg2 hcn hy6 hxy hmy hry
      generalize sg n t % 4 = p at ke ka2 kl2 kg2 hcn
      generalize gL n t = ln at kl1 kl2 kgl hg1
      generalize gG n t = gp at kg1 kg2 kgg hg2
      generalize met n k x = mx at hcn hmx hrx
      generalize met n k y = my at hcn hmy hry
      have KE := Lib.hid ke
      have HCN := Lib.hid hcn
      have HK := Lib.hid (⟨ka1, ka2, kl1, kg1, kl2, kg2, kgl, kgg⟩ : _ ∧ _ ∧ _ ∧ _ ∧ _ ∧ _ ∧ _ ∧ _)
      have HSee := Lib.hid hSee
      have HRX := Lib.hid (⟨hrx, hry⟩ : _ ∧ _)
      clear ht hpr htN hidx hsg gp1 gl0 gp2 gg0 gl2 gg2 hlo hlo2 ke ka1 ka2 kl1 kg1 kl2 kg2 kgl kgg hcn hrx hry hSee hkl
      have b1 : decide ((x : Int) < 0) = false := decide_eq_false (by omega)
      have b2 : decide ((y : Int) ≤ (x : Int)) = false := decide_eq_false (by omega)
      have b2' : decide (y ≤ x) = false := decide_eq_false (by omega)
      have b3 : decide ((C : Int) ≤ (y : Int)) = false := decide_eq_false (by omega)
      have b3' : decide (C ≤ y) = false := decide_eq_false (by omega)
      go_upto_region 16 with (first | (go_at_call 9; ((with_reducible refine (KE.out).mono ?_)); rintro e w7 ⟨rfl, hB7⟩))
      have hs7 := hB7.size
      have hE0 : EdgX w2 S C n k w7.heap.size x o y p (w7.alloc (Obj.cells #[Value.int IntKind.i64 ↑x, Value.int IntKind.i64 ↑o, Value.int IntKind.i64 ↑y, Value.int IntKind.i64 ↑p] 30)) :=
        ⟨(HSee.out.call hB7).call ((Below.refl _ _).alloc (Nat.le_refl _) _), Nat.lt_of_lt_of_le HSee.out.lt hs7, by simp, by simp [go_sem], by simp [go_sem], by simp [go_sem], by simp [go_sem]⟩
      have hrx : (w7.alloc (Obj.cells #[Value.int IntKind.i64 ↑x, Value.int IntKind.i64 ↑o, Value.int IntKind.i64 ↑y, Value.int IntKind.i64 ↑p] 30)).cell? ⟨S, x, none⟩ = some (.int .i64 (mx : Int)) := by
        rw [World.cell?_alloc_lt _ _ _ (by show S < _; exact Nat.lt_of_lt_of_le HSee.out.lt hs7)]; exact (hB7.cell (p := ⟨S, x, none⟩) HSee.out.lt).trans HRX.out.1
      have hry : (w7.alloc (Obj.cells #[Value.int IntKind.i64 ↑x, Value.int IntKind.i64 ↑o, Value.int IntKind.i64 ↑y, Value.int IntKind.i64 ↑p] 30)).cell? ⟨S, y, none⟩ = some (.int .i64 (my : Int)) := by
        rw [World.cell?_alloc_lt _ _ _ (by show S < _; exact Nat.lt_of_lt_of_le HSee.out.lt hs7)]; exact (hB7.cell (p := ⟨S, y, none⟩) HSee.out.lt).trans HRX.out.2
      generalize w7.alloc (Obj.cells #[Value.int IntKind.i64 ↑x, Value.int IntKind.i64 ↑o, Value.int IntKind.i64 ↑y, Value.int IntKind.i64 ↑p] 30) = WE at hE0 hrx hry ⊢
      generalize w7.heap.size = eb at hE0 ⊢
      clear hB7 hs7 KE HSee b1 b2 b2' b3 b3' HRX
      have e0 := hE0.e0
      have e2 := hE0.e2
      have hbe := hE0.be
      have fx := hE0.s.fz x
      have fy := hE0.s.fz y
      have g2 : ∀ u, (WE.setCell ⟨S, x, none⟩ u).cell? ⟨eb, 2, none⟩ = some (.int .i64 y) := fun u => (World.cell?_setCell_other _ _ _ _ (by intro e; injection e; omega)).trans e2
      have gy : ∀ u, (WE.setCell ⟨S, x, none⟩ u).cell? ⟨S, y, none⟩ = some (.int .i64 (my : Int)) := fun u => (World.cell?_setCell_other _ _ _ _ (by intro e; injection e; omega)).trans hry
      have hx1 : (0 : Int) ≤ (x : Int) := by omega
      have hx2 : (x : Int) < (C : Int) := by omega
      have hx3 : (x : Int).toNat = x := by omega
      have hy1 : (0 : Int) ≤ (y : Int) := by omega
      have hy2 : (y : Int) < (C : Int) := by omega
      have hy3 : (y : Int).toNat = y := by omega
      have hm1' : (mx : Int) ≤ 100000 := by omega
      have hm2' : (my : Int) ≤ 100000 := by omega
      have hE1 := HCN.out _ _ hE0
      clear HCN hE0
      go_upto_region 18 with fail
      generalize (WE.setCell { block := S, off := x } (Value.int IntKind.i64 ((mx : Int) + 1))).setCell { block := S, off := y } (Value.int IntKind.i64 ((my : Int) + 1)) = V2 at hE1 ⊢
      clear e0 e2 g2 gy fx fy hrx hry hbe
      have e0 := hE1.e0
      have e1 := hE1.e1
      have e2 := hE1.e2
      have e3 := hE1.e3
      have KA1 := Lib.hid (HK.out.1 V2 (HN2.out.below hE1.s.bel))
      have KA2 := Lib.hid (HK.out.2.1 V2 (HN2.out.below hE1.s.bel))
      have KL1 : Hid (∀ v, EdgX w2 S C n (k + 1) eb x o y p v → Calls Tryz.prog 11 #[.int .i64 n, .int .i64 x, .int .i64 o] v fun e w' => e = .returned (.float .f64 ln) ∧ EdgX w2 S C n (k + 1) eb x o y p w' ∧ True) := Lib.hid fun v h =>
        (HK.out.2.2.1 v (HG.out.below (HV2.out.trans (h.s.bel.mono HV2.out.size)))).mono fun _ _ ⟨q, b⟩ => ⟨q, h.call b, trivial⟩
      have KG1 : Hid (∀ v, EdgX w2 S C n (k + 1) eb x o y p v → Calls Tryz.prog 12 #[.int .i64 n, .int .i64 x, .int .i64 o] v fun e w' => e = .returned (.float .f64 gp) ∧ EdgX w2 S C n (k + 1) eb x o y p w' ∧ True) := Lib.hid fun v h =>
        (HK.out.2.2.2.1 v (HF.out.below (HV2.out.trans (h.s.bel.mono HV2.out.size))) (HG.out.below (HV2.out.trans (h.s.bel.mono HV2.out.size)))).mono fun _ _ ⟨q, b⟩ => ⟨q, h.call b, trivial⟩
      have hE8 := hE1
      clear hE1
      go_upto_region 23 with (first | (go_at_call 10; ((with_reducible refine (KA1.out).mono ?_)); rintro e w' ⟨rfl, rfl⟩) | (go_at_call 10; ((with_reducible refine (KA2.out).mono ?_)); rintro e w' ⟨rfl, rfl⟩) | (go_at_call 11; ((with_reducible refine (KL1.out _ hE8).mono ?_)); rintro e w9 ⟨rfl, hE9, -⟩; have e90 := hE9.e0; have e91 := hE9.e1))
      go_cut [15] from 60 to 193 (fun s15 wx => s15 = .float .f64 gp ∧ EdgX w2 S C n (k + 1) eb x o y p wx)
      case first =>
        go_wp2_with (first | (go_at_call 12; ((with_reducible refine (KG1.out _ hE9).mono ?_)); rintro e w10 ⟨rfl, hE10, -⟩))
        go_meet
        exact ⟨rfl, hE10⟩
      case rest =>
        obtain ⟨rfl, hE10⟩ := hcut
        clear e0 e1 e2 e3 e90 e91 hE8 hE9 KA1 KA2 KL1 KG1
        go_upto_region 24 with fail
        have KL2 : Hid (∀ v, EdgX w2 S C n (k + 1) eb x o y p v → Calls Tryz.prog 11 #[.int .i64 n, .int .i64 y, .int .i64 p] v fun e w' => e = .returned (.float .f64 ln) ∧ EdgX w2 S C n (k + 1) eb x o y p w' ∧ ∀ z, FA ln gp v z → FA ln gp w' z) := Lib.hid fun v h =>
          (HK.out.2.2.2.2.1 v (HG.out.below (HV2.out.trans (h.s.bel.mono HV2.out.size)))).mono fun _ _ ⟨q, b⟩ => ⟨q, h.call b, fun _ hz => hz.call b⟩
        have KG2 : Hid (∀ v, EdgX w2 S C n (k + 1) eb x o y p v → Calls Tryz.prog 12 #[.int .i64 n, .int .i64 y, .int .i64 p] v fun e w' => e = .returned (.float .f64 gp) ∧ EdgX w2 S C n (k + 1) eb x o y p w' ∧ ∀ z, FA ln gp v z → FA ln gp w' z) := Lib.hid fun v h =>
          (HK.out.2.2.2.2.2.1 v (HF.out.below (HV2.out.trans (h.s.bel.mono HV2.out.size))) (HG.out.below (HV2.out.trans (h.s.bel.mono HV2.out.size)))).mono fun _ _ ⟨q, b⟩ => ⟨q, h.call b, fun _ hz => hz.call b⟩
        have KGL : Hid (∀ v, EdgX w2 S C n (k + 1) eb x o y p v → Calls Tryz.prog 14 #[.pointer (some ⟨T.g, 0, none⟩), .int .i64 k] v fun e w' => e = .returned (.float .f64 ln) ∧ EdgX w2 S C n (k + 1) eb x o y p w' ∧ ∀ z, FA ln gp v z → FA ln gp w' z) := Lib.hid fun v h =>
          (HK.out.2.2.2.2.2.2.1 v (HN2.out.below h.s.bel)).mono fun _ _ ⟨q, b⟩ => ⟨q, b ▸ h, fun _ hz => b ▸ hz⟩
        have KGG : Hid (∀ v, EdgX w2 S C n (k + 1) eb x o y p v → Calls Tryz.prog 15 #[.pointer (some ⟨T.g, 0, none⟩), .int .i64 k] v fun e w' => e = .returned (.float .f64 gp) ∧ EdgX w2 S C n (k + 1) eb x o y p w' ∧ ∀ z, FA ln gp v z → FA ln gp w' z) := Lib.hid fun v h =>
          (HK.out.2.2.2.2.2.2.2 v (HN2.out.below h.s.bel)).mono fun _ _ ⟨q, b⟩ => ⟨q, b ▸ h, fun _ hz => b ▸ hz⟩
        have KS : Hid (∀ z1 z2 v, EdgX w2 S C n (k + 1) eb x o y p v → FA ln gp v z1 → FA ln gp v z2 → Calls Tryz.prog 13 #[.slice (some ⟨z1, 0, none⟩) 2 2, .slice (some ⟨z2, 0, none⟩) 2 2] v fun e w' => e = .returned (.bool true) ∧ EdgX w2 S C n (k + 1) eb x o y p w' ∧ ∀ z, FA ln gp v z → FA ln gp w' z) := Lib.hid fun z1 z2 v h h1 h2 =>
          (same_ok ln gp z1 z2 v h1 h2).mono fun _ _ ⟨q, b⟩ => ⟨q, h.call b, fun _ hz => hz.call b⟩
        have KEEP : Hid (∀ v, EdgX w2 S C n (k + 1) eb x o y p v → v.cell? ⟨eb, 2, none⟩ = some (.int .i64 y) ∧ v.cell? ⟨eb, 3, none⟩ = some (.int .i64 p) ∧ EdgX w2 S C n (k + 1) eb x o y p v) := Lib.hid fun v h => ⟨h.e2, h.e3, h⟩
        clear HK
        go_cut [193] from 60 to 193 (fun s193 wx => s193 = .bool false ∧ EdgX w2 S C n (k + 1) eb x o y p wx)
        case first =>
          as_aux_lemma =>
            go_region_held3 (fun v => v.cell? ⟨eb, 2, none⟩ = some (.int .i64 y) ∧ v.cell? ⟨eb, 3, none⟩ = some (.int .i64 p) ∧ EdgX w2 S C n (k + 1) eb x o y p v)
              ((refine KEEP.out _ ?_; repeat (first | with_reducible assumption | with_reducible refine EdgX.draw ?_ | with_reducible refine EdgX.alloc ?_ _)))
              (first | (go_at_call 11; ((with_reducible refine (KL2.out _ (by repeat (first | with_reducible assumption | with_reducible refine EdgX.draw ?_ | with_reducible refine EdgX.alloc ?_ _))).mono ?_)); rintro e w3 ⟨rfl, hX3, hF3⟩) | (go_at_call 12; ((with_reducible refine (KG2.out _ (by repeat (first | with_reducible assumption | with_reducible refine EdgX.draw ?_ | with_reducible refine EdgX.alloc ?_ _))).mono ?_)); rintro e w3 ⟨rfl, hX3, hF3⟩) | (go_at_call 13; ((with_reducible refine (KS.out _ _ _ (by repeat (first | with_reducible assumption | with_reducible refine EdgX.draw ?_ | with_reducible refine EdgX.alloc ?_ _)) (by (repeat (first | with_reducible assumption | (with_reducible refine fa_new ?_; (first | rfl | (simp; done))) | with_reducible refine fa_alloc ?_ | with_reducible refine fa_draw ?_ | with_reducible refine fa_step (by with_reducible assumption) ?_))) (by (repeat (first | with_reducible assumption | (with_reducible refine fa_new ?_; (first | rfl | (simp; done))) | with_reducible refine fa_alloc ?_ | with_reducible refine fa_draw ?_ | with_reducible refine fa_step (by with_reducible assumption) ?_)))).mono ?_)); rintro e w3 ⟨rfl, hX3, hF3⟩) | (go_at_call 14; ((with_reducible refine (KGL.out _ (by repeat (first | with_reducible assumption | with_reducible refine EdgX.draw ?_ | with_reducible refine EdgX.alloc ?_ _))).mono ?_)); rintro e w3 ⟨rfl, hX3, hF3⟩) | (go_at_call 15; ((with_reducible refine (KGG.out _ (by repeat (first | with_reducible assumption | with_reducible refine EdgX.draw ?_ | with_reducible refine EdgX.alloc ?_ _))).mono ?_)); rintro e w3 ⟨rfl, hX3, hF3⟩))
            all_goals
              go_wp2_with fail
              go_meet
              exact ⟨rfl, hX3⟩
        case rest =>
          obtain ⟨rfl, hX9⟩ := hcut
          have HX3 := Lib.hid hX9.s
          clear hX9 KEEP KL2 KG2 KGL KGG KS hE10
          go_wp2_with fail
          go_roundw
          case rel => exact ⟨k + 1, by omega, by go_num, HX3.out⟩
          case measure => simp [intOf]; omega
    · have hkd : decide ((k : Int) < 2 * (C : Int)) = false := decide_eq_false (by omega)
      have hk2 : k = 2 * C := by omega
      have h4 : ∀ c < C, met n k c = 4 := fun c hc => by rw [hk2, HC.out]; exact met_all hS (by rw [← HC.out]; exact hc)
      have hrow : IW wr S C (fun _ => 4) := hSee.row.same fun c hc => by rw [h4 c hc]; rfl
      have hU : UseS w2 S C wr := ⟨hSee.bel, hSee.lt, hrow⟩
      have HU := Lib.hid hU
      obtain ⟨w5, h⟩ : ∃ w5, w5 = wr := ⟨_, rfl⟩
      subst h
      clear hk2 h4 hrow hSee hU
      have KGA : Hid (∀ c, c < C → ∀ v, UseS w2 S C v → Calls Tryz.prog 16 #[.pointer (some ⟨T.g, 0, none⟩), .int .i64 c] v fun e w' => e = .returned (.int .i64 (gA n c)) ∧ v = w') := Lib.hid fun c hc v h => area_net hS (by rw [← HC.out]; exact hc) v (HN2.out.below h.bel)
      have KTA : Hid (∀ c, c < C → ∀ v, UseS w2 S C v → Calls Tryz.prog 17 #[.int .i64 n, .int .i64 c] v fun e w' => e = .returned (.int .i64 (gA n c)) ∧ UseS w2 S C w') := Lib.hid fun c hc v h =>
        (area_call hS (by rw [← HC.out]; exact hc) v (HG.out.below (HV2.out.trans (h.bel.mono HV2.out.size)))).mono fun _ _ ⟨q, b⟩ => ⟨q, h.call b⟩
      go_wp2_with fail
      go_loopw [196] (fun i wr => ∃ c : Nat, c ≤ C ∧ i = .int .i64 c ∧ UseS w2 S C wr) (fun i _ => C - (intOf i).toNat)
      case atStart => exact ⟨0, by omega, rfl, HU.out⟩
      case round =>
        clear HU
        obtain ⟨c, hc, rfl, hX⟩ := hrel
        by_cases hcl : c < C
        · have c0 : wr.cell? ⟨S, c, none⟩ = some (.int .i64 4) := hX.row c hcl
          have k1 := Lib.hid (KGA.out c hcl)
          have k2 := Lib.hid (KTA.out c hcl)
          have hpos := gA_pos n c
          generalize gA n c = a at k1 k2 hpos
          have hlt1 : decide (a < 1) = false := decide_eq_false (by omega)
          have hcd : decide ((c : Int) < (C : Int)) = true := decide_eq_true (by omega)
          go_wp2_with (first | (go_at_call 16; ((with_reducible refine (k1.out _ (by with_reducible assumption)).mono ?_)); rintro e w' ⟨rfl, rfl⟩) | (go_at_call 17; ((with_reducible refine (k2.out _ (by with_reducible assumption)).mono ?_)); rintro e w9 ⟨rfl, hX9⟩))
          go_roundw
          case rel => exact ⟨c + 1, by omega, by go_num, hX9⟩
          case measure => simp [intOf]; omega
        · have hcd : decide ((c : Int) < (C : Int)) = false := decide_eq_false (by omega)
          have hE := HV2.out.trans (hX.bel.mono HV2.out.size)
          have HE := Lib.hid hE
          clear hX hE
          go_wp2_with fail
          go_ret
          exact ⟨rfl, HE.out⟩
end Go.Proofs.YtkjjecghbhppgaaGreatDoor
