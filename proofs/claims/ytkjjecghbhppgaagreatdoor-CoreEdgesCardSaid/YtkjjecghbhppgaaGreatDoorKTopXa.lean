/- The pond is made. -/
import Derived.Test.YtkjjecghbhppgaaGreatDoorK23
import Derived.Deep.RegionHeld3
import Derived.StillTailTactics
import Derived.BigRegion
namespace Go.Proofs.YtkjjecghbhppgaaGreatDoor
open Go Go.RowKit Go.Maps TF

attribute [local go_sem] cmp_eq cmp_ne cmp_lt cmp_gt cmp_le cmp_ge run_store_float
set_option maxRecDepth 100000
set_option maxHeartbeats 8000000
/-- the pond under way: the answers' boxes first, then the plan's, the sea's at bs -/
structure PonA (w : World) (bs bB bW bT bS : Nat) (f : Nat → Int) (v : World) : Prop where
  bel : Below w.heap.size w v
  ge : w.heap.size + 2 < bs ∧ w.heap.size + 2 < bB ∧ w.heap.size + 2 < bW ∧ w.heap.size + 2 < bT ∧ w.heap.size + 2 < bS
  lt : bs < v.heap.size ∧ bB < v.heap.size ∧ bW < v.heap.size ∧ bT < v.heap.size ∧ bS < v.heap.size
  ne : bs ≠ bW ∧ bW ≠ bB ∧ bW ≠ bT ∧ bW ≠ bS
  bed : FW v bB 6 (fun _ => 0)
  wat : IW v bW 6 f
  tr : IW v bT 6 (fun _ => 0)
  spd : FW v bS 12 (fun _ => 0)
  s : ∀ j u, #[Value.slice (some { block := bB, off := 0 }) 6 6, Value.slice (some { block := bW, off := 0 }) 6 6, Value.slice (some { block := bT, off := 0 }) 6 6, Value.slice (some { block := bS, off := 0 }) 12 12, Value.int IntKind.i64 0, Value.int IntKind.i64 0][j]? = some u → v.cell? ⟨bs, j, none⟩ = some u
  p : ∀ j u, #[Value.int IntKind.i64 1, Value.float FloatKind.f64 4602678819172646912, Value.float FloatKind.f64 4607182418800017408, Value.float FloatKind.f64 0, Value.int IntKind.i64 0, Value.bool false, Value.slice none 0 0][j]? = some u → v.cell? ⟨w.heap.size + 1 + 1, j, none⟩ = some u
  fz : ∀ o, v.frozen? ⟨bW, o, none⟩ = false
  rc : (∀ j < 7, v.cell? ⟨w.heap.size, j, none⟩ = some (heldV v ⟨w.heap.size, j, none⟩)) ∧ (∀ j < 6, v.cell? ⟨w.heap.size + 1, j, none⟩ = some (heldV v ⟨w.heap.size + 1, j, none⟩))
  rf : (∀ j, v.frozen? ⟨w.heap.size, j, none⟩ = false) ∧ (∀ j, v.frozen? ⟨w.heap.size + 1, j, none⟩ = false)
theorem PonA.call {w v v' : World} {bs bB bW bT bS : Nat} {f : Nat → Int} (h : PonA w bs bB bW bT bS f v) (hB : Below v.heap.size v v') : PonA w bs bB bW bT bS f v' := by
  have hs := hB.size
  obtain ⟨l1, l2, l3, l4, l5⟩ := h.lt
  obtain ⟨g1, -, -, -, -⟩ := h.ge
  have k : ∀ b, b < v.heap.size → ∀ j, v'.cell? ⟨b, j, none⟩ = v.cell? ⟨b, j, none⟩ := fun b hb j => hB.cell (p := ⟨b, j, none⟩) hb
  have kf : ∀ b, b < v.heap.size → ∀ j, v'.frozen? ⟨b, j, none⟩ = v.frozen? ⟨b, j, none⟩ := fun b hb j => hB.frozen (p := ⟨b, j, none⟩) hb
  exact ⟨h.bel.trans (hB.mono h.bel.size), h.ge, ⟨by omega, by omega, by omega, by omega, by omega⟩, h.ne, h.bed.below l2 hB, h.wat.below l3 hB, h.tr.below l4 hB, h.spd.below l5 hB,
    fun j u e => (k _ l1 j).trans (h.s j u e), fun j u e => (k _ (by omega) j).trans (h.p j u e), fun o => (kf _ l3 o).trans (h.fz o),
    ⟨fun j hj => heldV_of ((k _ (by omega) j).trans (h.rc.1 j hj)), fun j hj => heldV_of ((k _ (by omega) j).trans (h.rc.2 j hj))⟩, ⟨fun j => (kf _ (by omega) j).trans (h.rf.1 j), fun j => (kf _ (by omega) j).trans (h.rf.2 j)⟩⟩
theorem PonA.draw {w v : World} {bs bB bW bT bS : Nat} {f : Nat → Int} (h : PonA w bs bB bW bT bS f v) : PonA w bs bB bW bT bS f v.drew := h.call (Below.refl _ _).drew
/-- a store among the waters -/
theorem PonA.set {w v : World} {bs bB bW bT bS : Nat} {f : Nat → Int} (h : PonA w bs bB bW bT bS f v) (k : Nat) (x : Int) : PonA w bs bB bW bT bS (fun i => if i = k then x else f i) (v.setCell ⟨bW, k, none⟩ (.int .i64 x)) := by
  obtain ⟨g1, g2, g3, g4, g5⟩ := h.ge
  obtain ⟨n1, n2, n3, n4⟩ := h.ne
  have far : ∀ b, bW ≠ b → ∀ o, (v.setCell ⟨bW, k, none⟩ (.int .i64 x)).cell? ⟨b, o, none⟩ = v.cell? ⟨b, o, none⟩ := fun b hb o => World.cell?_setCell_other _ _ _ _ (by intro e; injection e; omega)
  exact ⟨h.bel.setCell (by show w.heap.size ≤ bW; omega) _, h.ge, by simpa using h.lt, h.ne, fun i hi => (far _ n2 i).trans (h.bed i hi), h.wat.set k x, fun i hi => (far _ n3 i).trans (h.tr i hi), fun i hi => (far _ n4 i).trans (h.spd i hi),
    fun j u e => (far _ (by omega) j).trans (h.s j u e), fun j u e => (far _ (by omega) j).trans (h.p j u e), fun o => by rw [World.frozen?_setCell]; exact h.fz o,
    ⟨fun j hj => heldV_set (h.rc.1 j hj), fun j hj => heldV_set (h.rc.2 j hj)⟩, ⟨fun j => by rw [World.frozen?_setCell]; exact h.rf.1 j, fun j => by rw [World.frozen?_setCell]; exact h.rf.2 j⟩⟩
theorem PonA.same {w v : World} {bs bB bW bT bS : Nat} {f g : Nat → Int} (h : PonA w bs bB bW bT bS f v) (e : ∀ i < 6, f i = g i) : PonA w bs bB bW bT bS g v :=
  ⟨h.bel, h.ge, h.lt, h.ne, h.bed, h.wat.same e, h.tr, h.spd, h.s, h.p, h.fz, h.rc, h.rf⟩
/-- a store into an answer's box -/
theorem PonA.box {w v : World} {bs bB bW bT bS : Nat} {f : Nat → Int} (h : PonA w bs bB bW bT bS f v) (b k : Nat) (x : Value) (hb : b = w.heap.size ∨ b = w.heap.size + 1) : PonA w bs bB bW bT bS f (v.setCell ⟨b, k, none⟩ x) := by
  obtain ⟨g1, g2, g3, g4, g5⟩ := h.ge
  have far : ∀ c, b ≠ c → ∀ o, (v.setCell ⟨b, k, none⟩ x).cell? ⟨c, o, none⟩ = v.cell? ⟨c, o, none⟩ := fun c hc o => World.cell?_setCell_other _ _ _ _ (by intro e; injection e; omega)
  exact ⟨h.bel.setCell (by show w.heap.size ≤ b; omega) _, h.ge, by simpa using h.lt, h.ne, fun i hi => (far _ (by omega) i).trans (h.bed i hi), fun i hi => (far _ (by omega) i).trans (h.wat i hi), fun i hi => (far _ (by omega) i).trans (h.tr i hi), fun i hi => (far _ (by omega) i).trans (h.spd i hi),
    fun j u e => (far _ (by omega) j).trans (h.s j u e), fun j u e => (far _ (by omega) j).trans (h.p j u e), fun o => by rw [World.frozen?_setCell]; exact h.fz o,
    ⟨fun j hj => heldV_set (h.rc.1 j hj), fun j hj => heldV_set (h.rc.2 j hj)⟩, ⟨fun j => by rw [World.frozen?_setCell]; exact h.rf.1 j, fun j => by rw [World.frozen?_setCell]; exact h.rf.2 j⟩⟩
theorem PonA.pond {w v : World} {bs bB bW bT bS : Nat} (h : PonA w bs bB bW bT bS TF.wat v) : Pond bB bW bT bS (fun _ => 0) v := by
  obtain ⟨l1, l2, l3, l4, l5⟩ := h.lt
  exact ⟨l2, l3, l4, l5, h.bed, h.wat, h.tr, h.spd⟩
/-- .. in the midst of a round -/
def PonZ (w : World) (bs bB bW bT bS k : Nat) (v : World) : Prop := ∃ f : Nat → Int, (∀ i < 6, i ≠ k → f i = if i < k then 1431655765 else 0) ∧ PonA w bs bB bW bT bS f v
theorem PonZ.call {w v v' : World} {bs bB bW bT bS k : Nat} (h : PonZ w bs bB bW bT bS k v) (hB : Below v.heap.size v v') : PonZ w bs bB bW bT bS k v' := by
  obtain ⟨f, h1, h2⟩ := h
  exact ⟨f, h1, h2.call hB⟩
theorem PonZ.draw {w v : World} {bs bB bW bT bS k : Nat} (h : PonZ w bs bB bW bT bS k v) : PonZ w bs bB bW bT bS k v.drew := h.call (Below.refl _ _).drew
theorem PonZ.set {w v : World} {bs bB bW bT bS k : Nat} (h : PonZ w bs bB bW bT bS k v) (x : Int) : PonZ w bs bB bW bT bS k (v.setCell ⟨bW, k, none⟩ (.int .i64 x)) := by
  obtain ⟨f, h1, h2⟩ := h
  exact ⟨_, fun i hi hn => by rw [if_neg hn]; exact h1 i hi hn, h2.set k x⟩
theorem PonZ.done {w v : World} {bs bB bW bT bS k : Nat} (h : PonZ w bs bB bW bT bS k v) : PonA w bs bB bW bT bS (fun i => if i < k + 1 then 1431655765 else 0) (v.setCell ⟨bW, k, none⟩ (.int .i64 1431655765)) := by
  obtain ⟨f, h1, h2⟩ := h
  refine (h2.set k 1431655765).same fun i hi => ?_
  by_cases e : i = k
  · subst e; rw [if_pos rfl, if_pos (by omega)]
  · rw [if_neg e, h1 i hi e]
    by_cases e2 : i < k
    · rw [if_pos e2, if_pos (by omega)]
    · rw [if_neg e2, if_neg (by omega)]
theorem ponA_start (w v : World) {b0 b1 b2 b3 b5 : Nat} (hF : PonF (World.drew (((w.alloc (Obj.cells #[Value.int IntKind.i64 0, Value.float FloatKind.f64 0, Value.float FloatKind.f64 0, Value.float FloatKind.f64 0, Value.int IntKind.i64 0, Value.bool false, Value.slice none 0 0] 45)).alloc (Obj.cells #[Value.slice none 0 0, Value.slice none 0 0, Value.slice none 0 0, Value.slice none 0 0, Value.int IntKind.i64 0, Value.int IntKind.i64 0] 48)).alloc (Obj.cells #[Value.int IntKind.i64 1, Value.float FloatKind.f64 4602678819172646912, Value.float FloatKind.f64 4607182418800017408, Value.float FloatKind.f64 0, Value.int IntKind.i64 0, Value.bool false, Value.slice none 0 0] 45))) (some b0) (some b1) (some b2) (some b3) (some b5) true v) : PonA w b5 b0 b1 b2 b3 (fun _ => 0) v := by
  obtain ⟨a1, a2, a3⟩ := hF.r0 _ rfl
  obtain ⟨c1, c2, c3, c4⟩ := hF.r1 _ rfl
  obtain ⟨d1, d2, d3⟩ := hF.r2 _ rfl
  obtain ⟨e1, e2, e3⟩ := hF.r3 _ rfl
  obtain ⟨f1, f2, -, -, f5⟩ := hF.r5 _ rfl
  have hs : (World.drew (((w.alloc (Obj.cells #[Value.int IntKind.i64 0, Value.float FloatKind.f64 0, Value.float FloatKind.f64 0, Value.float FloatKind.f64 0, Value.int IntKind.i64 0, Value.bool false, Value.slice none 0 0] 45)).alloc (Obj.cells #[Value.slice none 0 0, Value.slice none 0 0, Value.slice none 0 0, Value.slice none 0 0, Value.int IntKind.i64 0, Value.int IntKind.i64 0] 48)).alloc (Obj.cells #[Value.int IntKind.i64 1, Value.float FloatKind.f64 4602678819172646912, Value.float FloatKind.f64 4607182418800017408, Value.float FloatKind.f64 0, Value.int IntKind.i64 0, Value.bool false, Value.slice none 0 0] 45))).heap.size = w.heap.size + 1 + 1 + 1 := by simp [World.drew]
  rw [hs] at a1 c1 d1 e1 f1
  have hb := hF.bel
  have hz := hb.size
  rw [hs] at hz
  have hb0 : Below w.heap.size w (World.drew (((w.alloc (Obj.cells #[Value.int IntKind.i64 0, Value.float FloatKind.f64 0, Value.float FloatKind.f64 0, Value.float FloatKind.f64 0, Value.int IntKind.i64 0, Value.bool false, Value.slice none 0 0] 45)).alloc (Obj.cells #[Value.slice none 0 0, Value.slice none 0 0, Value.slice none 0 0, Value.slice none 0 0, Value.int IntKind.i64 0, Value.int IntKind.i64 0] 48)).alloc (Obj.cells #[Value.int IntKind.i64 1, Value.float FloatKind.f64 4602678819172646912, Value.float FloatKind.f64 4607182418800017408, Value.float FloatKind.f64 0, Value.int IntKind.i64 0, Value.bool false, Value.slice none 0 0] 45))) := by (repeat' (first | with_reducible assumption | with_reducible exact Nat.le_refl _ | with_reducible refine Below.setCell ?_ ?_ _ | with_reducible refine Below.drew ?_ | with_reducible refine Below.alloc ?_ ?_ _ | with_reducible exact Below.refl _ _ | omega | (simp; done) | (simp; omega)))
  have n51 := hF.n51 _ _ rfl rfl
  have n10 := hF.n10 _ _ rfl rfl
  have n12 := hF.n12 _ _ rfl rfl
  have n13 := hF.n13 _ _ rfl rfl
  have k : ∀ b, b < w.heap.size + 1 + 1 + 1 → ∀ j, v.cell? ⟨b, j, none⟩ = (World.drew (((w.alloc (Obj.cells #[Value.int IntKind.i64 0, Value.float FloatKind.f64 0, Value.float FloatKind.f64 0, Value.float FloatKind.f64 0, Value.int IntKind.i64 0, Value.bool false, Value.slice none 0 0] 45)).alloc (Obj.cells #[Value.slice none 0 0, Value.slice none 0 0, Value.slice none 0 0, Value.slice none 0 0, Value.int IntKind.i64 0, Value.int IntKind.i64 0] 48)).alloc (Obj.cells #[Value.int IntKind.i64 1, Value.float FloatKind.f64 4602678819172646912, Value.float FloatKind.f64 4607182418800017408, Value.float FloatKind.f64 0, Value.int IntKind.i64 0, Value.bool false, Value.slice none 0 0] 45))).cell? ⟨b, j, none⟩ := fun b h j => hb.cell (p := ⟨b, j, none⟩) (by show b < _; omega)
  have kf : ∀ b, b < w.heap.size + 1 + 1 + 1 → ∀ j, v.frozen? ⟨b, j, none⟩ = (World.drew (((w.alloc (Obj.cells #[Value.int IntKind.i64 0, Value.float FloatKind.f64 0, Value.float FloatKind.f64 0, Value.float FloatKind.f64 0, Value.int IntKind.i64 0, Value.bool false, Value.slice none 0 0] 45)).alloc (Obj.cells #[Value.slice none 0 0, Value.slice none 0 0, Value.slice none 0 0, Value.slice none 0 0, Value.int IntKind.i64 0, Value.int IntKind.i64 0] 48)).alloc (Obj.cells #[Value.int IntKind.i64 1, Value.float FloatKind.f64 4602678819172646912, Value.float FloatKind.f64 4607182418800017408, Value.float FloatKind.f64 0, Value.int IntKind.i64 0, Value.bool false, Value.slice none 0 0] 45))).frozen? ⟨b, j, none⟩ := fun b h j => hb.frozen (p := ⟨b, j, none⟩) (by show b < _; omega)
  refine ⟨hb0.trans (hb.mono (by omega)), ⟨by omega, by omega, by omega, by omega, by omega⟩, ⟨f2, a2, c2, d2, e2⟩, ⟨n51, n10, n12, n13⟩, a3, c3, d3, e3, f5 rfl, fun j u e => ?_, c4, ⟨fun j hj => ?_, fun j hj => ?_⟩, ⟨fun j => ?_, fun j => ?_⟩⟩
  · refine (k _ (by omega) j).trans ?_
    rcases j with _ | _ | _ | _ | _ | _ | _ | j
    all_goals first | (obtain rfl := Option.some.inj e; simp [go_sem]) | (simp at e)
  · obtain rfl | rfl | rfl | rfl | rfl | rfl | rfl : j = 0 ∨ j = 1 ∨ j = 2 ∨ j = 3 ∨ j = 4 ∨ j = 5 ∨ j = 6 := by omega
    all_goals exact heldV_of ((k _ (by omega) _).trans (by simp [go_sem]; rfl))
  · obtain rfl | rfl | rfl | rfl | rfl | rfl : j = 0 ∨ j = 1 ∨ j = 2 ∨ j = 3 ∨ j = 4 ∨ j = 5 := by omega
    all_goals exact heldV_of ((k _ (by omega) _).trans (by simp [go_sem]; rfl))
  · exact (kf _ (by omega) j).trans (by simp [go_sem])
  · exact (kf _ (by omega) j).trans (by simp [go_sem])
theorem pond_ok (w : World) (hG : FrG w) : Calls Tryz.prog 18 #[] w fun e w' => ∃ bB bW bT bS, e = .returned (.tuple #[planV, seaV bB bW bT bS]) ∧ Below w.heap.size w w' ∧ Pond bB bW bT bS (fun _ => 0) w' := by
  go_enter Tryz.func18, Tryz.ntmps18
  go_upto_region 2 with fail
  go_cut [3] (fun s3 wx => ∃ bs bB bW bT bS, s3 = .pointer (some ⟨bs, 0, none⟩) ∧ PonA w bs bB bW bT bS (fun _ => 0) wx)
  case first =>
    refine wp_region_any (by kernel_rfl) ?_
    refine any_inv (PonI (World.drew (((w.alloc (Obj.cells #[Value.int IntKind.i64 0, Value.float FloatKind.f64 0, Value.float FloatKind.f64 0, Value.float FloatKind.f64 0, Value.int IntKind.i64 0, Value.bool false, Value.slice none 0 0] 45)).alloc (Obj.cells #[Value.slice none 0 0, Value.slice none 0 0, Value.slice none 0 0, Value.slice none 0 0, Value.int IntKind.i64 0, Value.int IntKind.i64 0] 48)).alloc (Obj.cells #[Value.int IntKind.i64 1, Value.float FloatKind.f64 4602678819172646912, Value.float FloatKind.f64 4607182418800017408, Value.float FloatKind.f64 0, Value.int IntKind.i64 0, Value.bool false, Value.slice none 0 0] 45))) w.heap.size (w.heap.size + 1) (w.heap.size + 1 + 1)) ?_ (fun l a w hI i hi => pond_steps _ _ _ _ l a w hI i hi) _ _ _ _ (by decide) ⟨none, none, none, none, none, false, false, rfl, rfl, PonF.start _, nofun, nofun⟩
    intro l a v hI hr
    obtain ⟨b0, b1, b2, b3, b5, rfl, hF⟩ := pond_end _ _ _ _ l a v hI hr
    have HF := Lib.hid (ponA_start w v hF)
    clear hI hr hF
    go_wp2_with fail
    go_meet
    exact ⟨b5, b0, b1, b2, b3, rfl, HF.out⟩
  case rest =>
    obtain ⟨bs, bB, bW, bT, bS, rfl, hA⟩ := hcut
    have s1 := hA.s 1 _ rfl
    have HA := Lib.hid hA
    clear hA
    go_wp2_with fail
    clear s1
    go_loopw [14] (fun i wr => ∃ k : Nat, k ≤ 6 ∧ i = .int .i64 k ∧ PonA w bs bB bW bT bS (fun i => if i < k then 1431655765 else 0) wr) (fun i _ => 6 - (intOf i).toNat)
    case atStart => exact ⟨0, by omega, rfl, HA.out⟩
    case round =>
      clear HA
      obtain ⟨k, hk, rfl, hA⟩ := hrel
      by_cases hlt : k < 6
      · obtain ⟨wq, h⟩ : ∃ wq, wq = wr := ⟨_, rfl⟩
        subst h
        have hZ : PonZ w bs bB bW bT bS k wq := ⟨_, fun i _ _ => rfl, hA⟩
        have HZ := Lib.hid hZ
        clear hA hZ
        have hk1 : (0 : Int) ≤ (k : Int) := by omega
        have hk2 : (k : Int) < 6 := by omega
        have hk3 : (k : Int).toNat = k := by omega
        have hkd : decide ((k : Int) < 6) = true := decide_eq_true (by omega)
        go_upto_region 6 with fail
        have KEEP : Hid (∀ v, PonZ w bs bB bW bT bS k v → v.cell? ⟨bs, 1, none⟩ = some (.slice (some ⟨bW, 0, none⟩) 6 6) ∧ v.cell? ⟨bW, k, none⟩ = some (heldV v ⟨bW, k, none⟩) ∧ v.frozen? ⟨bW, k, none⟩ = false ∧ PonZ w bs bB bW bT bS k v) := Lib.hid fun v h => by
          obtain ⟨f, h1, h2⟩ := h
          exact ⟨h2.s 1 _ rfl, heldV_of (h2.wat k hlt), h2.fz k, f, h1, h2⟩
        have ST : Hid (∀ v u, PonZ w bs bB bW bT bS k v → PonZ w bs bB bW bT bS k (v.setCell ⟨bW, k, none⟩ (.int .i64 u))) := Lib.hid fun v u h => h.set u
        have KA : Hid (∀ v, PonZ w bs bB bW bT bS k v → Calls Tryz.prog 17 #[.int .i64 1, .int .i64 k] v fun e w' => e = .returned (.int .i64 1431655765) ∧ PonZ w bs bB bW bT bS k w') := Lib.hid fun v h => by
          have hb : Below w.heap.size w v := by obtain ⟨f, h1, h2⟩ := h; exact h2.bel
          have ha := area_call (n := 1) (x := k) ⟨by decide, by decide⟩ (by omega) v (hG.below hb)
          rw [ga1 k hlt] at ha
          exact ha.mono fun _ _ ⟨q, b⟩ => ⟨q, h.call b⟩
        obtain ⟨s1, s2, s3, s4⟩ := KEEP.out _ HZ.out
        clear HZ
        go_region_held3 (fun v => v.cell? ⟨bs, 1, none⟩ = some (.slice (some ⟨bW, 0, none⟩) 6 6) ∧ v.cell? ⟨bW, k, none⟩ = some (heldV v ⟨bW, k, none⟩) ∧ v.frozen? ⟨bW, k, none⟩ = false ∧ PonZ w bs bB bW bT bS k v)
          ((refine KEEP.out _ ?_; repeat (first | with_reducible assumption | with_reducible exact PonZ.draw (by with_reducible assumption) | with_reducible refine ST.out _ _ ?_)))
          (first | (go_at_call 17; ((with_reducible refine (KA.out _ (by first | with_reducible assumption | with_reducible exact PonZ.draw (by with_reducible assumption))).mono ?_)); rintro e w3 ⟨rfl, hX3⟩))
        all_goals
          have HX3 := Lib.hid hX3
          go_wp2_with fail
          go_roundw
          case rel => exact ⟨k + 1, by omega, by go_num, HX3.out.done⟩
          case measure => simp [intOf]; omega
      · have hE : ((k : Nat) : Int) = 6 := by omega
        have hA6 : PonA w bs bB bW bT bS (fun _ => 1431655765) wr := hA.same fun i hi => if_pos (by omega)
        rw [hE]
        clear hE hlt hk hA
        have s1 := hA6.s 1 _ rfl
        have c0 := hA6.wat 0 (by omega)
        have f0 := hA6.fz 0
        have hst := fun v (h : PonA w bs bB bW bT bS (fun _ => 1431655765) v) => (h.set 0 1433053866).same (g := wat) fun i _ => rfl
        have HST := Lib.hid ((hst _ hA6).draw)
        clear hst hA6
        go_upto_region 8 with fail
        go_still_tail 11, (by kernel_rfl)
        change wpList _ _ _ _ _ (World.drew wr)
        go_upto_region 9 with fail
        generalize World.drew (wr.setCell { block := bW, off := 0 } (Value.int IntKind.i64 1433053866)) = w8 at HST ⊢
        clear s1 c0 f0
        have KEEP : Hid (∀ v, PonA w bs bB bW bT bS wat v → v.cell? ⟨w.heap.size + 1 + 1, 0, none⟩ = some (Value.int IntKind.i64 1) ∧ v.cell? ⟨w.heap.size + 1 + 1, 1, none⟩ = some (Value.float FloatKind.f64 4602678819172646912) ∧ v.cell? ⟨w.heap.size + 1 + 1, 2, none⟩ = some (Value.float FloatKind.f64 4607182418800017408) ∧ v.cell? ⟨w.heap.size + 1 + 1, 3, none⟩ = some (Value.float FloatKind.f64 0) ∧ v.cell? ⟨w.heap.size + 1 + 1, 4, none⟩ = some (Value.int IntKind.i64 0) ∧ v.cell? ⟨w.heap.size + 1 + 1, 5, none⟩ = some (Value.bool false) ∧ v.cell? ⟨w.heap.size + 1 + 1, 6, none⟩ = some (Value.slice none 0 0) ∧ v.cell? ⟨bs, 0, none⟩ = some (Value.slice (some { block := bB, off := 0 }) 6 6) ∧ v.cell? ⟨bs, 1, none⟩ = some (Value.slice (some { block := bW, off := 0 }) 6 6) ∧ v.cell? ⟨bs, 2, none⟩ = some (Value.slice (some { block := bT, off := 0 }) 6 6) ∧ v.cell? ⟨bs, 3, none⟩ = some (Value.slice (some { block := bS, off := 0 }) 12 12) ∧ v.cell? ⟨bs, 4, none⟩ = some (Value.int IntKind.i64 0) ∧ v.cell? ⟨bs, 5, none⟩ = some (Value.int IntKind.i64 0) ∧ v.cell? ⟨w.heap.size, 0, none⟩ = some (heldV v ⟨w.heap.size, 0, none⟩) ∧ v.frozen? ⟨w.heap.size, 0, none⟩ = false ∧ v.cell? ⟨w.heap.size, 1, none⟩ = some (heldV v ⟨w.heap.size, 1, none⟩) ∧ v.frozen? ⟨w.heap.size, 1, none⟩ = false ∧ v.cell? ⟨w.heap.size, 2, none⟩ = some (heldV v ⟨w.heap.size, 2, none⟩) ∧ v.frozen? ⟨w.heap.size, 2, none⟩ = false ∧ v.cell? ⟨w.heap.size, 3, none⟩ = some (heldV v ⟨w.heap.size, 3, none⟩) ∧ v.frozen? ⟨w.heap.size, 3, none⟩ = false ∧ v.cell? ⟨w.heap.size, 4, none⟩ = some (heldV v ⟨w.heap.size, 4, none⟩) ∧ v.frozen? ⟨w.heap.size, 4, none⟩ = false ∧ v.cell? ⟨w.heap.size, 5, none⟩ = some (heldV v ⟨w.heap.size, 5, none⟩) ∧ v.frozen? ⟨w.heap.size, 5, none⟩ = false ∧ v.cell? ⟨w.heap.size, 6, none⟩ = some (heldV v ⟨w.heap.size, 6, none⟩) ∧ v.frozen? ⟨w.heap.size, 6, none⟩ = false ∧ v.cell? ⟨w.heap.size + 1, 0, none⟩ = some (heldV v ⟨w.heap.size + 1, 0, none⟩) ∧ v.frozen? ⟨w.heap.size + 1, 0, none⟩ = false ∧ v.cell? ⟨w.heap.size + 1, 1, none⟩ = some (heldV v ⟨w.heap.size + 1, 1, none⟩) ∧ v.frozen? ⟨w.heap.size + 1, 1, none⟩ = false ∧ v.cell? ⟨w.heap.size + 1, 2, none⟩ = some (heldV v ⟨w.heap.size + 1, 2, none⟩) ∧ v.frozen? ⟨w.heap.size + 1, 2, none⟩ = false ∧ v.cell? ⟨w.heap.size + 1, 3, none⟩ = some (heldV v ⟨w.heap.size + 1, 3, none⟩) ∧ v.frozen? ⟨w.heap.size + 1, 3, none⟩ = false ∧ v.cell? ⟨w.heap.size + 1, 4, none⟩ = some (heldV v ⟨w.heap.size + 1, 4, none⟩) ∧ v.frozen? ⟨w.heap.size + 1, 4, none⟩ = false ∧ v.cell? ⟨w.heap.size + 1, 5, none⟩ = some (heldV v ⟨w.heap.size + 1, 5, none⟩) ∧ v.frozen? ⟨w.heap.size + 1, 5, none⟩ = false ∧ PonA w bs bB bW bT bS wat v) := Lib.hid fun v h => ⟨h.p 0 _ rfl, h.p 1 _ rfl, h.p 2 _ rfl, h.p 3 _ rfl, h.p 4 _ rfl, h.p 5 _ rfl, h.p 6 _ rfl, h.s 0 _ rfl, h.s 1 _ rfl, h.s 2 _ rfl, h.s 3 _ rfl, h.s 4 _ rfl, h.s 5 _ rfl, h.rc.1 0 (by omega), h.rf.1 0, h.rc.1 1 (by omega), h.rf.1 1, h.rc.1 2 (by omega), h.rf.1 2, h.rc.1 3 (by omega), h.rf.1 3, h.rc.1 4 (by omega), h.rf.1 4, h.rc.1 5 (by omega), h.rf.1 5, h.rc.1 6 (by omega), h.rf.1 6, h.rc.2 0 (by omega), h.rf.2 0, h.rc.2 1 (by omega), h.rf.2 1, h.rc.2 2 (by omega), h.rf.2 2, h.rc.2 3 (by omega), h.rf.2 3, h.rc.2 4 (by omega), h.rf.2 4, h.rc.2 5 (by omega), h.rf.2 5, h⟩
        have ST : Hid (∀ v k u, PonA w bs bB bW bT bS wat v → PonA w bs bB bW bT bS wat (v.setCell ⟨w.heap.size, k, none⟩ u) ∧ PonA w bs bB bW bT bS wat (v.setCell ⟨w.heap.size + 1, k, none⟩ u)) := Lib.hid fun v k u h => ⟨h.box _ k u (.inl rfl), h.box _ k u (.inr rfl)⟩
        have h8 := HST.out
        have r0 := h8.rc.1 0 (by omega)
        have r1 := h8.rc.1 1 (by omega)
        have r2 := h8.rc.1 2 (by omega)
        have r3 := h8.rc.1 3 (by omega)
        have r4 := h8.rc.1 4 (by omega)
        have r5 := h8.rc.1 5 (by omega)
        have r6 := h8.rc.1 6 (by omega)
        have q0 := h8.rc.2 0 (by omega)
        have q1 := h8.rc.2 1 (by omega)
        have q2 := h8.rc.2 2 (by omega)
        have q3 := h8.rc.2 3 (by omega)
        have q4 := h8.rc.2 4 (by omega)
        have q5 := h8.rc.2 5 (by omega)
        have RR := Lib.hid (⟨r0, r1, r2, r3, r4, r5, r6, q0, q1, q2, q3, q4, q5⟩ : _ ∧ _ ∧ _ ∧ _ ∧ _ ∧ _ ∧ _ ∧ _ ∧ _ ∧ _ ∧ _ ∧ _ ∧ _)
        clear r0 r1 r2 r3 r4 r5 r6 q0 q1 q2 q3 q4 q5 HST
        obtain ⟨y0, y1, y2, y3, y4, y5, y6, y7, y8, y9, y10, y11, y12, y13, y14, y15, y16, y17, y18, y19, y20, y21, y22, y23, y24, y25, y26, y27, y28, y29, y30, y31, y32, y33, y34, y35, y36, y37, y38, -⟩ := KEEP.out _ h8
        obtain ⟨hg, -, -, -, -⟩ := h8.ge
        have hf0 : ∀ (v : World) j k u, (v.setCell ⟨w.heap.size, j, none⟩ u).cell? ⟨bs, k, none⟩ = v.cell? ⟨bs, k, none⟩ := fun v j k u => World.cell?_setCell_other _ _ _ _ (by intro e; injection e; omega)
        have hf1 : ∀ (v : World) j k u, (v.setCell ⟨w.heap.size + 1, j, none⟩ u).cell? ⟨bs, k, none⟩ = v.cell? ⟨bs, k, none⟩ := fun v j k u => World.cell?_setCell_other _ _ _ _ (by intro e; injection e; omega)
        have H8 := Lib.hid h8
        clear h8 hg
        go_region
        all_goals
          clear hf0 hf1 y0 y1 y2 y3 y4 y5 y6 y7 y8 y9 y10 y11 y12 y13 y14 y15 y16 y17 y18 y19 y20 y21 y22 y23 y24 y25 y26 y27 y28 y29 y30 y31 y32 y33 y34 y35 y36 y37 y38
          go_wp2
          obtain ⟨r0, r1, r2, r3, r4, r5, r6, q0, q1, q2, q3, q4, q5⟩ := RR.out
          refine bodyPost_ret (v := .tuple #[planV, seaV bB bW bT bS]) (by simp [results, Tryz.results18, go_sem, r0, r1, r2, r3, r4, r5, r6, q0, q1, q2, q3, q4, q5]) rfl ?_
          refine ⟨bB, bW, bT, bS, rfl, ?_⟩
          refine (fun (h : PonA w bs bB bW bT bS wat _) => ⟨h.bel, h.pond⟩) ?_
          repeat (first | with_reducible exact H8.out | with_reducible refine PonA.box ?_ w.heap.size _ _ (Or.inl rfl) | with_reducible refine PonA.box ?_ (w.heap.size + 1) _ _ (Or.inr rfl) | with_reducible refine PonA.draw ?_)
end Go.Proofs.YtkjjecghbhppgaaGreatDoor
