/- Edges: a round of the law's loop. -/
import Derived.Test.YtkjjecghbhppgaaGreatDoorK19
import Derived.Test.YtkjjecghbhppgaaGreatDoorK07
import Derived.Deep.RegionHeld3
namespace Go.Proofs.YtkjjecghbhppgaaGreatDoor
open Go Go.RowKit Go.Maps TF

attribute [local go_sem] cmp_eq cmp_ne cmp_lt cmp_gt cmp_le cmp_ge run_store_float
set_option maxRecDepth 100000
set_option maxHeartbeats 8000000
/-- what the loop keeps: the net's world wN, the counts at S -/
structure SeeS (wN : World) (S C n k : Nat) (v : World) : Prop where
  bel : Below wN.heap.size wN v
  ge : wN.heap.size ≤ S
  lt : S < v.heap.size
  row : IW v S C (fun c => (met n k c : Nat))
  fz : ∀ o, v.frozen? ⟨S, o, none⟩ = false
theorem SeeS.call {wN v v' : World} {S C n k : Nat} (h : SeeS wN S C n k v) (hB : Below v.heap.size v v') : SeeS wN S C n k v' :=
  ⟨h.bel.trans (hB.mono h.bel.size), h.ge, Nat.lt_of_lt_of_le h.lt hB.size, h.row.below h.lt hB, fun o => (hB.frozen (p := ⟨S, o, none⟩) h.lt).trans (h.fz o)⟩
/-- .. beside an edge's box -/
structure EdgX (wN : World) (S C n k eb x o y p : Nat) (v : World) : Prop where
  s : SeeS wN S C n k v
  be : S < eb
  el : eb < v.heap.size
  e0 : v.cell? ⟨eb, 0, none⟩ = some (.int .i64 x)
  e1 : v.cell? ⟨eb, 1, none⟩ = some (.int .i64 o)
  e2 : v.cell? ⟨eb, 2, none⟩ = some (.int .i64 y)
  e3 : v.cell? ⟨eb, 3, none⟩ = some (.int .i64 p)
theorem EdgX.call {wN v v' : World} {S C n k eb x o y p : Nat} (h : EdgX wN S C n k eb x o y p v) (hB : Below v.heap.size v v') : EdgX wN S C n k eb x o y p v' := by
  have q : ∀ j, v'.cell? ⟨eb, j, none⟩ = v.cell? ⟨eb, j, none⟩ := fun j => hB.cell (p := ⟨eb, j, none⟩) h.el
  exact ⟨h.s.call hB, h.be, Nat.lt_of_lt_of_le h.el hB.size, (q 0).trans h.e0, (q 1).trans h.e1, (q 2).trans h.e2, (q 3).trans h.e3⟩
/-- both ends are counted -/
theorem EdgX.count {wN v : World} {S C n k t eb o p : Nat} (ht : (EL n)[k]? = some t) (h : EdgX wN S C n k eb (t / 4) o (sg n t / 4) p v) (hne : t / 4 ≠ sg n t / 4) :
    EdgX wN S C n (k + 1) eb (t / 4) o (sg n t / 4) p ((v.setCell ⟨S, t / 4, none⟩ (.int .i64 ((met n k (t / 4) : Nat) + 1))).setCell ⟨S, sg n t / 4, none⟩ (.int .i64 ((met n k (sg n t / 4) : Nat) + 1))) := by
  have hb := h.be
  have far : ∀ j, ((v.setCell ⟨S, t / 4, none⟩ (.int .i64 ((met n k (t / 4) : Nat) + 1))).setCell ⟨S, sg n t / 4, none⟩ (.int .i64 ((met n k (sg n t / 4) : Nat) + 1))).cell? ⟨eb, j, none⟩ = v.cell? ⟨eb, j, none⟩ := fun j => by
    rw [World.cell?_setCell_other _ _ _ _ (by intro e; injection e; omega), World.cell?_setCell_other _ _ _ _ (by intro e; injection e; omega)]
  refine ⟨⟨(h.s.bel.setCell h.s.ge _).setCell h.s.ge _, h.s.ge, by simpa using h.s.lt, ((h.s.row.set (t / 4) _).set (sg n t / 4) _).same fun c _ => ?_, fun o => by simp [h.s.fz o]⟩, hb, by simpa using h.el, (far 0).trans h.e0, (far 1).trans h.e1, (far 2).trans h.e2, (far 3).trans h.e3⟩
  rw [met_succ ht]
  by_cases e : c = sg n t / 4
  · subst e
    rw [if_pos rfl, if_neg (by omega), if_pos rfl]
    push_cast; omega
  · rw [if_neg e]
    by_cases e2 : c = t / 4
    · subst e2
      rw [if_pos rfl, if_pos rfl, if_neg (fun q => e q.symm)]
      push_cast; omega
    · rw [if_neg e2, if_neg (fun q => e2 q.symm), if_neg (fun q => e q.symm)]
      push_cast; omega
theorem lt_pos {x : Nat} (h : TF.PW x) (h0 : 0 < x) : ltW 0 x = true := by
  have a := h.nn
  have n0 : isN 0 = false := by decide
  have nx : isN x = false := isN_false.2 (by rw [a.1]; exact a.2.2.2)
  have r0 : rk 0 = 0 := by decide
  have rx : rk x = (x : Int) := by unfold rk; rw [a.2.1, a.1]; rfl
  unfold ltW
  rw [n0, nx, r0, rx]
  simp; omega
theorem fa_draw {a b x : Nat} {v : World} (h : FA a b v x) : FA a b v.drew x := h.call (Below.refl _ _).drew
theorem EdgX.draw {wN v : World} {S C n k eb x o y p : Nat} (h : EdgX wN S C n k eb x o y p v) : EdgX wN S C n k eb x o y p v.drew := h.call (Below.refl _ _).drew
theorem EdgX.alloc {wN v : World} {S C n k eb x o y p : Nat} (h : EdgX wN S C n k eb x o y p v) (ob : Obj) : EdgX wN S C n k eb x o y p (v.alloc ob) := h.call ((Below.refl _ _).alloc (Nat.le_refl _) ob)
theorem met_le (n k c : Nat) : met n k c ≤ 2 * k := by
  unfold met
  have h1 : ((EL n).take k).countP (fun t => decide (t / 4 = c)) ≤ k := Nat.le_trans List.countP_le_length (by rw [List.length_take]; omega)
  have h2 : ((EL n).take k).countP (fun t => decide (sg n t / 4 = c)) ≤ k := Nat.le_trans List.countP_le_length (by rw [List.length_take]; omega)
  omega
end Go.Proofs.YtkjjecghbhppgaaGreatDoor
