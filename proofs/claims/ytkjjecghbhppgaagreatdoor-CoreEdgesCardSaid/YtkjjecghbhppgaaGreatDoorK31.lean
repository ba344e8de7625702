/- Laid together: TopZn, TopZr. -/
import Derived.Test.YtkjjecghbhppgaaGreatDoorK30
import Derived.Test.YtkjjecghbhppgaaGreatDoorK19
import Derived.Test.YtkjjecghbhppgaaGreatDoorK25
import Derived.Deep.RegionLaw
import Derived.Deep.CutRange
import Derived.Test.YtkjjecghbhppgaaGreatDoorK07
import Derived.WalkKit
import Derived.WalkSpells
import Derived.WalkLawsBesides
import Derived.Lib.Hide
/- Water that goes from cell to cell. -/
namespace Go.Proofs.YtkjjecghbhppgaaGreatDoor
open Go Go.RowKit Go.Maps TF

set_option maxRecDepth 100000
set_option maxHeartbeats 8000000
/-- sums of 128 bits that lie in a row, none above 64 bits -/
def WW (w : World) (b : Nat) (f : Nat → Int) : Prop := ∀ i < 6, w.cell? ⟨b, i * 2, none⟩ = some (.int .u64 0) ∧ w.cell? ⟨b, i * 2 + 1, none⟩ = some (.int .u64 (f i))
theorem WW.below {w w' : World} {b : Nat} {f : Nat → Int} (h : WW w b f) (hl : b < w.heap.size) (hB : Below w.heap.size w w') : WW w' b f :=
  fun i hi => ⟨(hB.cell (p := ⟨b, i * 2, none⟩) hl).trans (h i hi).1, (hB.cell (p := ⟨b, i * 2 + 1, none⟩) hl).trans (h i hi).2⟩
theorem WW.set {w : World} {b : Nat} {f : Nat → Int} (h : WW w b f) (j : Nat) (x : Int) : WW ((w.setCell ⟨b, j * 2, none⟩ (.int .u64 0)).setCell ⟨b, j * 2 + 1, none⟩ (.int .u64 x)) b (fun i => if i = j then x else f i) := fun i hi => by
  dsimp only
  have ne : (⟨b, j * 2 + 1, none⟩ : Addr) ≠ ⟨b, i * 2, none⟩ := by intro e; injection e; omega
  have ne2 : (⟨b, j * 2, none⟩ : Addr) ≠ ⟨b, i * 2 + 1, none⟩ := by intro e; injection e; omega
  by_cases e : i = j
  · subst e
    refine ⟨?_, ?_⟩
    · rw [World.cell?_setCell_other _ _ _ _ ne]; exact World.cell?_setCell_same w _ _ (h i hi).1
    · rw [if_pos rfl]; exact World.cell?_setCell_same _ _ _ ((World.cell?_setCell_other _ _ _ _ ne2).trans (h i hi).2)
  · have n1 : (⟨b, j * 2, none⟩ : Addr) ≠ ⟨b, i * 2, none⟩ := by intro e; injection e; omega
    have n2 : (⟨b, j * 2 + 1, none⟩ : Addr) ≠ ⟨b, i * 2 + 1, none⟩ := by intro e; injection e; omega
    rw [if_neg e, World.cell?_setCell_other _ _ _ _ ne, World.cell?_setCell_other _ _ _ _ n1, World.cell?_setCell_other _ _ _ _ n2, World.cell?_setCell_other _ _ _ _ ne2]
    exact h i hi
theorem WW.same {w : World} {b : Nat} {f g : Nat → Int} (h : WW w b f) (e : ∀ i < 6, f i = g i) : WW w b g := fun i hi => by rw [← e i hi]; exact h i hi
/-- the lower words, behind the first k edges -/
def lw (base fl : Nat → Int) : Nat → Nat → Int
  | 0, c => base c
  | k + 1, c => if c = tS k / 4 then lw base fl k c + fl k else if c = tE k / 4 then lw base fl k c - fl k else lw base fl k c
structure MovS (w : World) (b : Nat) (f : Nat → Int) (v : World) : Prop where
  bel : Below w.heap.size w v
  ge : w.heap.size ≤ b
  lt : b < v.heap.size
  row : WW v b f
  fz : ∀ o, v.frozen? ⟨b, o, none⟩ = false
theorem MovS.call {w v v' : World} {b : Nat} {f : Nat → Int} (h : MovS w b f v) (hB : Below v.heap.size v v') : MovS w b f v' :=
  ⟨h.bel.trans (hB.mono h.bel.size), h.ge, Nat.lt_of_lt_of_le h.lt hB.size, h.row.below h.lt hB, fun o => (hB.frozen (p := ⟨b, o, none⟩) h.lt).trans (h.fz o)⟩
theorem MovS.set {w v : World} {b : Nat} {f : Nat → Int} (h : MovS w b f v) (j : Nat) (x : Int) : MovS w b (fun i => if i = j then x else f i) ((v.setCell ⟨b, j * 2, none⟩ (.int .u64 0)).setCell ⟨b, j * 2 + 1, none⟩ (.int .u64 x)) :=
  ⟨(h.bel.setCell h.ge _).setCell h.ge _, h.ge, by simpa using h.lt, h.row.set j x, fun o => by simp [h.fz o]⟩
theorem MovS.same {w v : World} {b : Nat} {f g : Nat → Int} (h : MovS w b f v) (e : ∀ i < 6, f i = g i) : MovS w b g v := ⟨h.bel, h.ge, h.lt, h.row.same e, h.fz⟩
/-- .. beside an edge's box -/
structure MovE (w : World) (b : Nat) (f : Nat → Int) (eb x y : Nat) (v : World) : Prop where
  mov : MovS w b f v
  be : b < eb
  el : eb < v.heap.size
  e0 : v.cell? ⟨eb, 0, none⟩ = some (.int .i64 x)
  e2 : v.cell? ⟨eb, 2, none⟩ = some (.int .i64 y)
theorem MovE.call {w v v' : World} {b : Nat} {f : Nat → Int} {eb x y : Nat} (h : MovE w b f eb x y v) (hB : Below v.heap.size v v') : MovE w b f eb x y v' :=
  ⟨h.mov.call hB, h.be, Nat.lt_of_lt_of_le h.el hB.size, (hB.cell (p := ⟨eb, 0, none⟩) h.el).trans h.e0, (hB.cell (p := ⟨eb, 2, none⟩) h.el).trans h.e2⟩
theorem MovE.draw {w v : World} {b : Nat} {f : Nat → Int} {eb x y : Nat} (h : MovE w b f eb x y v) : MovE w b f eb x y v.drew := h.call (Below.refl _ _).drew
theorem MovE.set {w v : World} {b : Nat} {f : Nat → Int} {eb x y : Nat} (h : MovE w b f eb x y v) (j : Nat) (z : Int) : MovE w b (fun i => if i = j then z else f i) eb x y ((v.setCell ⟨b, j * 2, none⟩ (.int .u64 0)).setCell ⟨b, j * 2 + 1, none⟩ (.int .u64 z)) := by
  have hb := h.be
  refine ⟨h.mov.set j z, hb, by simpa using h.el, ?_, ?_⟩
  · rw [World.cell?_setCell_other _ _ _ _ (by intro e; injection e; omega), World.cell?_setCell_other _ _ _ _ (by intro e; injection e; omega)]; exact h.e0
  · rw [World.cell?_setCell_other _ _ _ _ (by intro e; injection e; omega), World.cell?_setCell_other _ _ _ _ (by intro e; injection e; omega)]; exact h.e2
theorem ends_ne : ∀ k < 12, tE k / 4 ≠ tS k / 4 := by decide
theorem upto_stepI {f : Nat → Int} {o i : Nat} : (if i = o then f o else if i < o then f i else 0) = if i < o + 1 then f i else 0 := by
  by_cases e : i = o
  · subst e; rw [if_pos rfl, if_pos (by omega)]
  · rw [if_neg e]; by_cases e2 : i < o
    · rw [if_pos e2, if_pos (by omega)]
    · rw [if_neg e2, if_neg (by omega)]
/-- flows that can go -/
structure Goes (base fl : Nat → Int) : Prop where
  b0 : ∀ c < 6, 0 ≤ base c ∧ base c ≤ 4000000000
  l0 : ∀ k < 13, ∀ c < 6, 0 ≤ lw base fl k c ∧ lw base fl k c ≤ 4000000000
  f0 : ∀ k < 12, 0 ≤ fl k ∧ fl k ≤ lw base fl k (tE k / 4)
theorem move_ok {T : NetT} (bW bF : Nat) (base fl : Nat → Int) (hG : Goes base fl) (w : World) (hN : Net 1 T w) (lW : bW < w.heap.size) (lF : bF < w.heap.size) (hW : IW w bW 6 base) (hF : IW w bF 12 fl) :
    Calls Tryz.prog 36 #[.pointer (some ⟨T.g, 0, none⟩), .slice (some ⟨bW, 0, none⟩) 6 6, .slice (some ⟨bF, 0, none⟩) 12 12] w fun e w' => ∃ b, e = .returned (.tuple #[.slice (some ⟨b, 0, none⟩) 6 6, .int .i64 0]) ∧ Below w.heap.size w w' ∧ w.heap.size ≤ b ∧ b < w'.heap.size ∧ IW w' b 6 (lw base fl 12) := by
  have KC := Lib.hid ((cells_1 w hN).mono fun _ _ h => (⟨h.1, h.2.symm⟩ : _ ∧ w = _))
  have KE := Lib.hid ((edges_1 w hN).mono fun _ _ h => (⟨h.1, h.2.symm⟩ : _ ∧ w = _))
  have HW := Lib.hid hW
  have HF := Lib.hid hF
  have HN := Lib.hid hN
  have HG := Lib.hid hG
  have hmk := make_w6
  clear hN hW hF hG
  go_enter Tryz.func36, Tryz.ntmps36
  go_wp2_with (first | (go_at_call 6; ((with_reducible refine (KC.out).mono ?_)); rintro e w' ⟨rfl, rfl⟩) | (go_at_call 7; ((with_reducible refine (KE.out).mono ?_)); rintro e w' ⟨rfl, rfl⟩))
  clear hmk KC KE
  have h0 : MovS w w.heap.size (fun i => if i < 0 then base i else 0) (w.alloc (Obj.cells #[Value.int IntKind.u64 0, Value.int IntKind.u64 0, Value.int IntKind.u64 0, Value.int IntKind.u64 0, Value.int IntKind.u64 0, Value.int IntKind.u64 0, Value.int IntKind.u64 0, Value.int IntKind.u64 0, Value.int IntKind.u64 0, Value.int IntKind.u64 0, Value.int IntKind.u64 0, Value.int IntKind.u64 0] 122)) := by
    refine ⟨by (repeat' (first | with_reducible assumption | with_reducible exact Nat.le_refl _ | with_reducible refine Below.setCell ?_ ?_ _ | with_reducible refine Below.drew ?_ | with_reducible refine Below.alloc ?_ ?_ _ | with_reducible exact Below.refl _ _ | omega | (simp; done) | (simp; omega))), Nat.le_refl _, by simp, fun i hi => ?_, fun o => by simp [go_sem]⟩
    obtain rfl | rfl | rfl | rfl | rfl | rfl : i = 0 ∨ i = 1 ∨ i = 2 ∨ i = 3 ∨ i = 4 ∨ i = 5 := by omega
    all_goals simp [go_sem]
  generalize w.alloc (Obj.cells #[Value.int IntKind.u64 0, Value.int IntKind.u64 0, Value.int IntKind.u64 0, Value.int IntKind.u64 0, Value.int IntKind.u64 0, Value.int IntKind.u64 0, Value.int IntKind.u64 0, Value.int IntKind.u64 0, Value.int IntKind.u64 0, Value.int IntKind.u64 0, Value.int IntKind.u64 0, Value.int IntKind.u64 0] 122) = W at h0 ⊢
  obtain ⟨B, hB⟩ : ∃ B, B = w.heap.size := ⟨_, rfl⟩
  rw [← hB] at h0 ⊢
  have H0 := Lib.hid h0
  clear h0 hB
  go_loopw [39] (fun i wr => ∃ k : Nat, k ≤ 6 ∧ i = .int .i64 k ∧ MovS w B (fun i => if i < k then base i else 0) wr) (fun i _ => 6 - (intOf i).toNat)
  case atStart => exact ⟨0, by omega, rfl, H0.out⟩
  case round =>
    clear H0
    obtain ⟨k, hk, rfl, hS⟩ := hrel
    by_cases hlt : k < 6
    · have c0 := (hS.bel.cell (p := ⟨bW, k, none⟩) lW).trans (HW.out k hlt)
      obtain ⟨q1, q2⟩ := HG.out.b0 k hlt
      obtain ⟨c1, c2⟩ := hS.row k hlt
      dsimp only at c2
      rw [if_neg (by omega)] at c2
      have hst := fun v (h : MovS w B (fun i => if i < k then base i else 0) v) => (h.set k (base k)).same (fun i _ => upto_stepI (f := base) (o := k))
      have HST := Lib.hid hst
      have HS := Lib.hid hS
      generalize base k = x at c0 q1 q2 HST
      have KP := Lib.hid (fun v => (show (0 : Int) + x = x from Int.zero_add x) ▸ plus_ok 0 x (by omega) (by omega) q1 q2 v)
      clear hS hst
      go_wp2_with (first | (go_at_call 63; ((with_reducible refine (KP.out _).mono ?_)); rintro e w4 ⟨rfl, hB4⟩; have hS4 := HS.out.call hB4; obtain ⟨c4, d4⟩ := hS4.row k hlt; have f4 := hS4.fz (k * 2); have g4 := hS4.fz (k * 2 + 1); have HS4 := Lib.hid hS4; clear hS4 hB4))
      go_roundw
      case rel => exact ⟨k + 1, by omega, by go_num, HST.out _ HS4.out⟩
      case measure => simp [intOf]; omega
    · have hE : ((k : Nat) : Int) = 6 := by omega
      rw [hE]
      have hS0 : MovS w B (lw base fl 0) wr := hS.same fun i hi => if_pos (by omega)
      obtain ⟨w5, h⟩ : ∃ w5, w5 = wr := ⟨_, rfl⟩
      subst h
      have HS0 := Lib.hid hS0
      clear hE hlt hk hS hS0
      go_wp2_with fail
      go_loopw [56] (fun i wr => ∃ k : Nat, k ≤ 12 ∧ i = .int .i64 k ∧ MovS w B (lw base fl k) wr) (fun i _ => 12 - (intOf i).toNat)
      case atStart => exact ⟨0, by omega, rfl, HS0.out⟩
      case round =>
        clear HS0
        obtain ⟨k, hk, rfl, hS⟩ := hrel
        by_cases hlt : k < 12
        · have c0 := (hS.bel.cell (p := ⟨bF, k, none⟩) lF).trans (HF.out k hlt)
          obtain ⟨l1, l2, -, -, l5, l6⟩ := cells1 k hlt
          obtain ⟨q1, q2⟩ := HG.out.f0 k hlt
          have b1 := HG.out.l0 k (by omega) _ l1
          have b2 := HG.out.l0 k (by omega) _ l2
          have hne := ends_ne k hlt
          have hlw : lw base fl (k + 1) = fun c => if c = tS k / 4 then lw base fl k c + fl k else if c = tE k / 4 then lw base fl k c - fl k else lw base fl k c := rfl
          have ke := edge_1 k hlt wr (HN.out.below hS.bel)
          generalize tE k / 4 = x at ke l1 q2 b1 hne hlw
          generalize tS k / 4 = y at ke l2 b2 hne hlw
          generalize tE k % 4 = o at ke
          generalize tS k % 4 = p at ke
          have HLW := Lib.hid hlw
          generalize lw base fl k = f at hS q2 b1 b2 HLW
          generalize fl k = g at c0 q1 q2 HLW
          have KE := Lib.hid ke
          have HS := Lib.hid hS
          clear ke hS hlw l5 l6
          go_upto_region 15 with (first | (go_at_call 9; ((with_reducible refine (KE.out).mono ?_)); rintro e w3 ⟨rfl, hB3⟩))
          clear KE c0
          have hE3 : MovE w B f w3.heap.size x y (w3.alloc (Obj.cells #[Value.int IntKind.i64 ↑x, Value.int IntKind.i64 ↑o, Value.int IntKind.i64 ↑y, Value.int IntKind.i64 ↑p] 30)) :=
            ⟨(HS.out.call hB3).call ((Below.refl _ _).alloc (Nat.le_refl _) _), Nat.lt_of_lt_of_le HS.out.lt hB3.size, by simp, by simp [go_sem], by simp [go_sem]⟩
          generalize w3.alloc (Obj.cells #[Value.int IntKind.i64 ↑x, Value.int IntKind.i64 ↑o, Value.int IntKind.i64 ↑y, Value.int IntKind.i64 ↑p] 30) = WE at hE3 ⊢
          generalize w3.heap.size = eb at hE3 ⊢
          clear hB3 HS
          have hx1 : (0 : Int) ≤ (x : Int) := by omega
          have hx2 : (x : Int) < 6 := by omega
          have hx3 : (x : Int).toNat = x := by omega
          have hy1 : (0 : Int) ≤ (y : Int) := by omega
          have hy2 : (y : Int) < 6 := by omega
          have hy3 : (y : Int).toNat = y := by omega
          have e0 := hE3.e0
          have e2 := hE3.e2
          obtain ⟨r0, r1⟩ := hE3.mov.row x l1
          have HE := Lib.hid hE3
          clear hE3
          go_cut [56] from 56 to 89 (fun s56 wx => s56 = .int .i64 k ∧ MovE w B (fun i => if i = x then f x - g else f i) eb x y wx)
          case first =>
            have KM := Lib.hid (fun v => minus_ok (f x) g b1.2 q1 q2 v)
            go_region_law (first
              | (go_simp; go_at_call 64; ((with_reducible refine (KM.out _).mono ?_)); rintro e w4 ⟨rfl, hB4⟩; have hM4 := HE.out.draw.call hB4; have e04 := hM4.e0; have e24 := hM4.e2; have r4 := hM4.mov.row x l1; have r04 := r4.1; have r14 := r4.2; have f04 := hM4.mov.fz (x * 2); have f14 := hM4.mov.fz (x * 2 + 1); have HM4 := Lib.hid hM4; clear hM4 hB4 r4))
            all_goals (go_wp2_with fail; go_meet; exact ⟨rfl, HM4.out.set x (f x - g)⟩)
          case rest =>
            obtain ⟨rfl, h6⟩ := hcut
            clear HE e0 e2 r0 r1
            have e0 := h6.e0
            have e2 := h6.e2
            obtain ⟨r0, r1⟩ := h6.mov.row y l2
            dsimp only at r1
            rw [if_neg (fun e => hne e.symm)] at r1
            have HE := Lib.hid h6
            clear h6
            go_upto_region 16 with fail
            have KP := Lib.hid (fun v => plus_ok (f y) g b2.1 b2.2 q1 (by omega) v)
            go_region_law (first
              | (go_simp; go_at_call 63; ((with_reducible refine (KP.out _).mono ?_)); rintro e w4 ⟨rfl, hB4⟩; have hM4 := HE.out.draw.call hB4; have e04 := hM4.e0; have e24 := hM4.e2; have r4 := hM4.mov.row y l2; have r04 := r4.1; have r14 := r4.2; have f04 := hM4.mov.fz (y * 2); have f14 := hM4.mov.fz (y * 2 + 1); have HM4 := Lib.hid hM4; clear hM4 hB4 r4))
            all_goals
              go_wp2_with fail
              go_roundw
              case rel => exact ⟨k + 1, by omega, by go_num, by
                rw [HLW.out]
                exact (HM4.out.set y (f y + g)).mov.same fun i _ => by
                  by_cases e : i = y
                  · subst e; first | rw [if_pos rfl, if_pos rfl] | rw [if_pos rfl]
                  · rw [if_neg e, if_neg e]
                    by_cases e2 : i = x
                    · subst e2; first | rw [if_pos rfl, if_pos rfl] | rw [if_pos rfl]
                    · rw [if_neg e2, if_neg e2]⟩
              case measure => simp [intOf]; omega
        · have hE : ((k : Nat) : Int) = 12 := by omega
          have h12 : MovS w B (lw base fl 12) wr := by rw [show 12 = k by omega]; exact hS
          rw [hE]
          obtain ⟨w6, h⟩ : ∃ w6, w6 = wr := ⟨_, rfl⟩
          subst h
          have b12 := HG.out.l0 12 (by omega)
          generalize hlf : lw base fl 12 = f at h12 b12
          have HLF := Lib.hid hlf
          clear hlf
          have HM := Lib.hid h12
          have HB12 := Lib.hid b12
          have hmk2 := make_i6
          clear hE hlt hk hS h12 b12
          go_wp2_with fail
          have h0 : Held w w6 (fun _ => false) (w6.alloc (Obj.cells #[Value.int IntKind.i64 0, Value.int IntKind.i64 0, Value.int IntKind.i64 0, Value.int IntKind.i64 0, Value.int IntKind.i64 0, Value.int IntKind.i64 0] 2)) ∧ w6.heap.size < (w6.alloc (Obj.cells #[Value.int IntKind.i64 0, Value.int IntKind.i64 0, Value.int IntKind.i64 0, Value.int IntKind.i64 0, Value.int IntKind.i64 0, Value.int IntKind.i64 0] 2)).heap.size ∧ (∀ o, (w6.alloc (Obj.cells #[Value.int IntKind.i64 0, Value.int IntKind.i64 0, Value.int IntKind.i64 0, Value.int IntKind.i64 0, Value.int IntKind.i64 0, Value.int IntKind.i64 0] 2)).frozen? ⟨w6.heap.size, o, none⟩ = false) ∧ IW (w6.alloc (Obj.cells #[Value.int IntKind.i64 0, Value.int IntKind.i64 0, Value.int IntKind.i64 0, Value.int IntKind.i64 0, Value.int IntKind.i64 0, Value.int IntKind.i64 0] 2)) w6.heap.size 6 (fun i => if i < 0 then f i else 0) := by
            refine ⟨(Held.start _ HM.out.bel).alloc _, by simp, fun o => by simp [go_sem], fun i hi => ?_⟩
            obtain rfl | rfl | rfl | rfl | rfl | rfl : i = 0 ∨ i = 1 ∨ i = 2 ∨ i = 3 ∨ i = 4 ∨ i = 5 := by omega
            all_goals simp [go_sem]
          generalize w6.alloc (Obj.cells #[Value.int IntKind.i64 0, Value.int IntKind.i64 0, Value.int IntKind.i64 0, Value.int IntKind.i64 0, Value.int IntKind.i64 0, Value.int IntKind.i64 0] 2) = W6 at h0 ⊢
          obtain ⟨O, hO⟩ : ∃ O, O = w6.heap.size := ⟨_, rfl⟩
          rw [← hO] at h0 ⊢
          have HO := Lib.hid hO
          have H0 := Lib.hid h0
          clear h0 hO hmk2
          go_loopw [95] (fun i wr => ∃ k : Nat, k ≤ 6 ∧ i = .int .i64 k ∧ Held w w6 (fun _ => false) wr ∧ O < wr.heap.size ∧ (∀ o, wr.frozen? ⟨O, o, none⟩ = false) ∧ IW wr O 6 (fun i => if i < k then f i else 0)) (fun i _ => 6 - (intOf i).toNat)
          case atStart => exact ⟨0, by omega, rfl, H0.out⟩
          case round =>
            clear H0
            obtain ⟨k, hk, rfl, hh, hl, hf, hI⟩ := hrel
            by_cases hlt : k < 6
            · have hB1 := HM.out.lt
              obtain ⟨r0, r1⟩ := HM.out.row k hlt
              have c0 := (hh.cell B (k * 2) hB1 rfl).trans r0
              have c1 := (hh.cell B (k * 2 + 1) hB1 rfl).trans r1
              obtain ⟨q1, q2⟩ := HB12.out k hlt
              have hst : ∀ v : World, IW v O 6 (fun i => if i < k then f i else 0) → IW (v.setCell ⟨O, k, none⟩ (.int .i64 (f k))) O 6 (fun i => if i < k + 1 then f i else 0) := fun v h => (h.set k (f k)).same fun i _ => upto_stepI (f := f)
              have HST := Lib.hid hst
              have HR := Lib.hid (⟨hh, hl, hf, hI⟩ : _ ∧ _ ∧ _ ∧ _)
              clear hst hh hl hf hI r0 r1 hB1
              obtain ⟨g, hg⟩ : ∃ g : Nat → Int, g = fun i => if i < k then f i else 0 := ⟨_, rfl⟩
              rw [← hg] at HR HST
              generalize f k = x at c1 q1 q2 HST
              have KN := Lib.hid (fun v => narrow_ok x q1 q2 v)
              go_wp2_with (first | (go_at_call 65; ((with_reducible refine (KN.out _).mono ?_)); rintro e w7 ⟨rfl, hB7⟩; have hx := (HR.out.1.alloc (Obj.cells #[Value.int IntKind.u64 0, Value.int IntKind.u64 x] 122)).call hB7; have hl7 : O < w7.heap.size := (by have := HR.out.2.1; have := hB7.size; simp at this; omega); have hb7 : Below wr.heap.size wr w7 := Below.trans (by (repeat' (first | with_reducible assumption | with_reducible exact Nat.le_refl _ | with_reducible refine Below.setCell ?_ ?_ _ | with_reducible refine Below.drew ?_ | with_reducible refine Below.alloc ?_ ?_ _ | with_reducible exact Below.refl _ _ | omega | (simp; done) | (simp; omega)))) (hB7.mono (by first | exact Nat.le_refl _ | omega | (simp; done) | (simp; omega))); have hf7 : ∀ o, w7.frozen? ⟨O, o, none⟩ = false := fun o => (hb7.frozen (p := ⟨O, o, none⟩) HR.out.2.1).trans (HR.out.2.2.1 o); have hi7 := HR.out.2.2.2.below HR.out.2.1 hb7; have c7 : w7.cell? ⟨O, k, none⟩ = some (.int .i64 (g k)) := hi7 k hlt; have f7 := hf7 k; have HX := Lib.hid (⟨hx, hl7, hf7, hi7⟩ : _ ∧ _ ∧ _ ∧ _); clear hx hl7 hf7 hi7 hb7 hB7))
              go_roundw
              case rel =>
                obtain ⟨x1, x2, x3, x4⟩ := HX.out
                exact ⟨k + 1, by omega, by go_num, x1.store _ _ _ (by rw [HO.out]; exact HM.out.bel.size) (fun h => by rw [HO.out] at h; omega), by rw [World.size_setCell]; exact x2, fun o => by rw [World.frozen?_setCell]; exact x3 o, HST.out _ x4⟩
              case measure => simp [intOf]; omega
            · have hE : k = 6 := by omega
              subst hE
              go_wp2_with fail
              refine bodyPost_ret (results_tmp2 rfl _ _ _) rfl ?_
              exact ⟨O, rfl, hh.bel, by rw [HO.out]; exact HM.out.bel.size, hl, hI.same fun i hi => by rw [if_pos hi, ← HLF.out]⟩
end Go.Proofs.YtkjjecghbhppgaaGreatDoor
/- rain.Fall, over whatever rains: after the texts of chapter 18. -/
namespace Go.Proofs.YtkjjecghbhppgaaGreatDoor
open Go Go.RowKit TF

set_option maxHeartbeats 400000 in
theorem outside_any (x : Int) (w : World) :
    Calls Tryz.prog 68 #[.int .i64 x] w fun e w' => e = .returned (.bool (outB x)) ∧ w = w' := by
  by_cases h1 : x < 0
  · have e : outB x = true := by simp [outB, h1]
    rw [e]
    go_enter Tryz.func68, Tryz.ntmps68
    go_wp2
    go_ret
    exact ⟨rfl, rfl⟩
  · by_cases h2 : 4503599627370496 < x
    · have e : outB x = true := by simp [outB, h2]
      rw [e]
      go_enter Tryz.func68, Tryz.ntmps68
      go_wp2
      go_ret
      exact ⟨rfl, rfl⟩
    · have e : outB x = false := by simp [outB, h1, h2]
      rw [e]
      go_enter Tryz.func68, Tryz.ntmps68
      go_wp2
      go_ret
      exact ⟨rfl, rfl⟩

set_option maxRecDepth 100000 in
set_option maxHeartbeats 4000000 in
theorem index_w (A : Option Addr) (n cap : Nat) (Z : Nat → Int) (w : World) (hn : n ≤ 9223372036854775807) (hz : IntsAt w A n Z) :
    Calls Tryz.prog 107 #[.slice A n cap, .func (.func 68) #[] #[]] w fun e w' => ∃ r : Int, decide (0 ≤ r) = anyB n (fun i => outB (Z i)) ∧ e = .returned (.int .i64 r) ∧ w = w' := by
  go_enter Tryz.func107, Tryz.ntmps107
  go_wp2
  go_loopw [8] (fun i wr => ∃ k : Nat, k ≤ n ∧ i = .int .i64 k ∧ w = wr ∧ Hid (∀ j, j < k → outB (Z j) = false)) (fun i _ => n - (intOf i).toNat)
  case atStart => exact ⟨0, Nat.zero_le _, rfl, by first | rfl | trivial, fun j hj => absurd hj (Nat.not_lt_zero _)⟩
  case round =>
    obtain ⟨k, hk, rfl, rfl, H⟩ := hrel
    by_cases hlt : k < n
    · obtain ⟨b, off, rfl, hbl, hc⟩ := hz k hlt
      cases hq : outB (Z k) with
      | true =>
        go_wp2_with (first | (go_at_call 68; ((with_reducible refine (outside_any _ _).mono ?_)); rintro e w' ⟨rfl, rfl⟩))
        go_ret
        exact ⟨k, by rw [anyB_true hlt hq]; simp, by first | rfl | trivial, by first | rfl | trivial⟩
      | false =>
        go_wp2_with (first | (go_at_call 68; ((with_reducible refine (outside_any _ _).mono ?_)); rintro e w' ⟨rfl, rfl⟩))
        go_roundw
        case rel => exact ⟨k + 1, by omega, by go_num, by first | rfl | trivial, fun j hj => by
          by_cases e : j = k
          · subst e; exact hq
          · exact H.out j (by omega)⟩
        case measure => simp [intOf]; omega
    · have hkn : k = n := by omega
      go_wp2
      go_ret
      exact ⟨-1, by rw [anyB_false.2 (fun i hi => H.out i (by omega))]; rfl, rfl, rfl⟩

set_option maxRecDepth 100000 in
set_option maxHeartbeats 4000000 in
theorem contains_w (A : Option Addr) (n cap : Nat) (Z : Nat → Int) (w : World) (hn : n ≤ 9223372036854775807) (hz : IntsAt w A n Z) :
    Calls Tryz.prog 69 #[.slice A n cap, .func (.func 68) #[] #[]] w fun e w' => e = .returned (.bool (anyB n (fun i => outB (Z i)))) ∧ w = w' := by
  go_enter Tryz.func69, Tryz.ntmps69
  go_wp2_with (first | (go_at_call 107; ((with_reducible refine (index_w A n cap Z w hn hz).mono ?_)); rintro e w' ⟨r, hr, rfl, rfl⟩))
  go_ret
  exact ⟨by rw [← hr]; rfl, rfl⟩

theorem rain_i64 : (Tryz.prog.info? 2).map (fun i => (i.zero, i.size, i.bytes)) = some (some (.int .i64 0), 1, 8) := by kernel_rfl

set_option maxRecDepth 100000 in
set_option maxHeartbeats 4000000 in
theorem clone_any (A : Option Addr) (n cap : Nat) (Z : Nat → Int) (w : World) (hn : n * 8 ≤ 140737488351232) (hz : IntsAt w A n Z) (hnil : A = none → n = 0) :
    Calls Tryz.prog 71 #[.slice A n cap] w fun e w' => CloneP w n Z e w' := by
  obtain ⟨i0, hi, hz0, hz1, hz2⟩ := info_parts rain_i64
  cases A with
  | none =>
    obtain rfl := hnil rfl
    have he : ∀ w : World, (binOp .eql 46 (.slice none 0 cap) (.slice none 0 0)).run Tryz.prog w = .ok (.bool true) w := fun _ => rfl
    go_enter Tryz.func71, Tryz.ntmps71
    go_wp2
    go_ret
    exact ⟨none, 0, rfl, Nat.le_refl _, fun i hi => absurd hi (Nat.not_lt_zero _), Below.refl _ _⟩
  | some a =>
    have hcells : ∀ (j : Nat) (u : Value), ((List.range n).map fun i => Value.int .i64 (Z i))[j]? = some u → (w.alloc (.cells #[] 2)).cell? (a.add j) = some u := by
      intro j u hj
      have hjn : j < n := by
        have := List.getElem?_eq_some_iff.1 hj
        simpa using this.1
      obtain ⟨b, off, e, hb, hc⟩ := hz j hjn
      injection e with e; subst e
      rw [List.getElem?_map, List.getElem?_range hjn] at hj
      simp only [Option.map_some, Option.some.injEq] at hj
      subst hj
      have e2 : (⟨b, off, none⟩ : Addr).add j = ⟨b, off + j, none⟩ := by
        unfold Addr.add; split
        · rename_i h; subst h; rfl
        · rfl
      rw [e2, World.cell?_alloc_lt _ _ _ hb]
      exact hc
    clear hz hnil
    have he : ∀ w : World, (binOp .eql 46 (.slice (some a) n cap) (.slice none 0 0)).run Tryz.prog w = .ok (.bool false) w := fun _ => rfl
    go_enter Tryz.func71, Tryz.ntmps71
    go_wp2_with (at_builtin; refine wpList_append_own _ rfl _ _ 46 rfl w.heap.size 2 i0 (.int .i64 0) 1 8 Tryz.underlying46 hi hz0 hz1 hz2 rfl (by decide) _ 0 [] rfl (World.ownsRow_lit w #[] 0 (Nat.le_refl _) (Nat.zero_le _) rfl) a n cap ((List.range n).map fun i => Value.int .i64 (Z i)) rfl (by simp) hcells (by intro u hu; simp at hu; obtain ⟨i, -, rfl⟩ := hu; rfl) (by unfold maxLen; omega) (by omega) (by simp) ?_; intro v' w1 hown hgrow _)
    go_ret
    have hlo := hown
    rw [List.nil_append, Nat.zero_add] at hlo
    obtain ⟨A', cap', rfl, h1, h2⟩ := own_of_row hlo
    exact ⟨A', cap', rfl, h1, h2, ((Below.refl _ _).alloc (Nat.le_refl _) _).grown hgrow (by simp) (by intro k hk; simp [Act.eval, Value.ownBlock] at hk; omega)⟩

set_option maxRecDepth 100000 in
set_option maxHeartbeats 4000000 in
theorem fall_nil (A : Option Addr) (cap : Nat) (Z : Nat → Int) (w : World) (hA : A = none → 6 = 0) (hz : IntsAt w A 6 Z) (hZ : anyB 6 (fun i => outB (Z i)) = false) :
    Calls Tryz.prog 37 #[.slice A 6 cap, .int .i64 0, .slice none 0 0, .int .i64 0] w fun e w' => ∃ A' cap', e = .returned (.tuple #[.slice A' 6 cap', .int .i64 0, .int .i64 0]) ∧ OwnAt w' w.heap.size w'.heap.size A' 6 Z ∧ Below w.heap.size w w' := by
  have q2 : outB 0 = false := rfl
  have hn9 : (6 : Nat) ≤ 9223372036854775807 := by omega
  have KC := Lib.hid (fun w (h : IntsAt w A 6 Z) => clone_any A 6 cap Z w (by omega) h hA)
  clear hA
  go_enter Tryz.func37, Tryz.ntmps37
  go_wp2_with (first | (go_at_call 68; ((with_reducible refine (outside_any _ _).mono ?_)); rintro e w' ⟨rfl, rfl⟩) | (go_at_call 69; ((with_reducible refine (contains_w A 6 cap Z _ hn9 (hz.below (by (repeat' (first | with_reducible assumption | with_reducible exact Nat.le_refl _ | with_reducible refine Below.setCell ?_ ?_ _ | with_reducible refine Below.drew ?_ | with_reducible refine Below.alloc ?_ ?_ _ | with_reducible exact Below.refl _ _ | omega | (simp; done) | (simp; omega)))))).mono ?_)); rintro e w' ⟨rfl, rfl⟩) | (go_at_call 70; ((with_reducible refine (conr_nil _ _).mono ?_)); rintro e w' ⟨rfl, rfl⟩) | (go_at_call 71; ((with_reducible refine (KC.out _ (hz.below (by (repeat' (first | with_reducible assumption | with_reducible exact Nat.le_refl _ | with_reducible refine Below.setCell ?_ ?_ _ | with_reducible refine Below.drew ?_ | with_reducible refine Below.alloc ?_ ?_ _ | with_reducible exact Below.refl _ _ | omega | (simp; done) | (simp; omega)))))).mono ?_)); rintro e wb ⟨A', cap', rfl, hc2, hown, hbb⟩))
  have HE : ∃ W, W = wb.alloc (Obj.cells #[Value.slice A' 6 cap'] 46) := ⟨_, rfl⟩
  obtain ⟨W, hW⟩ := HE
  have hA1 := ((Held.start (w0 := w) (fun _ => false) (by (repeat' (first | with_reducible assumption | with_reducible exact Nat.le_refl _ | with_reducible refine Below.setCell ?_ ?_ _ | with_reducible refine Below.drew ?_ | with_reducible refine Below.alloc ?_ ?_ _ | with_reducible exact Below.refl _ _ | omega | (simp; done) | (simp; omega))) : Below w.heap.size w ((w.alloc (Obj.cells #[Value.slice A 6 cap] 46)).alloc (Obj.cells #[Value.int IntKind.i64 0] 2)))).call hbb)
  have hA2 := hA1.alloc (Obj.cells #[Value.slice A' 6 cap'] 46)
  rw [← hW] at hA2
  have a1 := (hA2.cell (w.heap.size + 1) 0 (by first | exact Nat.le_refl _ | omega | (simp; done) | (simp; omega)) rfl).trans (by simp [go_sem] : _ = some (.int .i64 0))
  have a2 : W.cell? ⟨wb.heap.size, 0, none⟩ = some (.slice A' 6 cap') := by rw [hW]; simp [go_sem]
  have hO : OwnAt W w.heap.size W.heap.size A' 6 Z := fun i hi => by
    obtain ⟨b, off, e, g1, g2, g3, g4, g5⟩ := hown i hi
    have hs : W.heap.size = wb.heap.size + 1 := by rw [hW]; simp
    have hs2 := hA1.bel.size
    refine ⟨b, off, e, ?_, by omega, by omega, ?_, ?_⟩
    · simp at g1; omega
    · rw [hW, World.cell?_alloc_lt _ _ _ g3]; exact g4
    · rw [hW, World.frozen?_alloc_past _ _ _ (by omega)]; exact g5
  have HO := Lib.hid (⟨hO, hA2.bel⟩ : _ ∧ _)
  rw [← hW]
  generalize wb.heap.size = q at a2 ⊢
  clear hW hA1 hA2 hO hown hbb
  go_loopw [44] (fun i wr => i = .int .i64 0 ∧ wr = W) (fun _ _ => 0)
  case atStart => exact ⟨rfl, rfl⟩
  case round =>
    obtain ⟨rfl, hw⟩ := hrel
    subst hw
    go_wp2
    go_quiet (fail)
    go_wp2
    refine bodyPost_ret (results_tmp3 rfl _ _ _) rfl ?_
    refine ⟨A', cap', rfl, ?_, below_drewN HO.out.2 _⟩
    exact HO.out.1
end Go.Proofs.YtkjjecghbhppgaaGreatDoor
