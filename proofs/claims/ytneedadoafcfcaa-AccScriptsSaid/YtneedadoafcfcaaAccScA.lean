/- Two sums of the program, two of the reference, and none: what a call does to them. -/
import Derived.Test.YtneedadoafcfcaaRM2
import Derived.Test.YtneedadoafcfcaaAccAw
import Derived.Test.YtneedadoafcfcaaAccMs
namespace Go.Proofs.Ytneedadoafcfcaa
open Go Go.RowKit TF

attribute [local go_sem] cmp_eq cmp_ne cmp_lt cmp_gt cmp_le cmp_ge

def pick2 (x y i : Nat) : Nat := if i = 0 then x else y
def ptr3 (x y i : Nat) : Option Addr := if i < 2 then some ⟨pick2 x y i, 0, none⟩ else none
/-- where they lie. -/
structure Scr where
  a0 : Nat
  a1 : Nat
  b0 : Nat
  b1 : Nat
  sa : Nat
  sb : Nat
structure ScrOk (w0 : World) (L : Scr) : Prop where
  l0 : w0.heap.size ≤ L.a0
  l1 : L.a0 < L.a1
  l2 : L.a1 < L.sa
  l3 : L.sa < L.b0
  l4 : L.b0 < L.b1
  l5 : L.b1 < L.sb
structure ScS (w0 wr : World) (L : Scr) (G H : Nat → AccG) : Prop where
  ga : ∀ i, i < 2 → AccIs wr (pick2 L.a0 L.a1 i) (G i)
  gb : ∀ i, i < 2 → RefIs wr (pick2 L.b0 L.b1 i) (H i)
  oka : ∀ i, i < 2 → GOk (G i)
  okb : ∀ i, i < 2 → GOk (H i)
  sa : ∀ i, i < 3 → wr.cell? ⟨L.sa, i, none⟩ = some (.pointer (ptr3 L.a0 L.a1 i))
  sb : ∀ i, i < 3 → wr.cell? ⟨L.sb, i, none⟩ = some (.pointer (ptr3 L.b0 L.b1 i))
  below : Below w0.heap.size w0 wr
  lt : L.sb < wr.heap.size
def updG (G : Nat → AccG) (i : Nat) (g : AccG) : Nat → AccG := fun j => if j = i then g else G j
theorem updG_at (G : Nat → AccG) (i : Nat) (g : AccG) : updG G i g i = g := if_pos rfl
theorem updG_off (G : Nat → AccG) {i j : Nat} (g : AccG) (h : j ≠ i) : updG G i g j = G j := if_neg h
theorem pick2_a {L : Scr} {w0 : World} (o : ScrOk w0 L) {i : Nat} (_h : i < 2) : w0.heap.size ≤ pick2 L.a0 L.a1 i ∧ pick2 L.a0 L.a1 i < L.sa := by
  obtain ⟨l0, l1, l2, l3, l4, l5⟩ := o
  unfold pick2; split <;> omega
theorem pick2_b {L : Scr} {w0 : World} (o : ScrOk w0 L) {i : Nat} (_h : i < 2) : L.sa < pick2 L.b0 L.b1 i ∧ pick2 L.b0 L.b1 i < L.sb := by
  obtain ⟨l0, l1, l2, l3, l4, l5⟩ := o
  unfold pick2; split <;> omega
theorem pick2_ne {x y i j : Nat} (hxy : x < y) (hi : i < 2) (hj : j < 2) (h : i ≠ j) : pick2 x y i ≠ pick2 x y j := by
  unfold pick2; split <;> split <;> omega
theorem ScS.of {w0 wr w' : World} {L : Scr} {G H : Nat → AccG} (o : ScrOk w0 L) (h : ScS w0 wr L G H) (hb : Below wr.heap.size wr w') : ScS w0 w' L G H := by
  have hl := h.lt
  refine ⟨fun i hi => (h.ga i hi).cong (hb.block _ (h.ga i hi).lt), fun i hi => (h.gb i hi).cong (hb.block _ (h.gb i hi).lt), h.oka, h.okb, fun i hi => ?_, fun i hi => ?_, h.below.trans (hb.mono h.below.size), Nat.lt_of_lt_of_le hl hb.size⟩
  · rw [World.cell?_of_block (a := ⟨L.sa, i, none⟩) (hb.block L.sa (by have := o.l3; have := o.l4; have := o.l5; omega))]; exact h.sa i hi
  · rw [World.cell?_of_block (a := ⟨L.sb, i, none⟩) (hb.block L.sb hl)]; exact h.sb i hi
theorem ScS.chgA {w0 wr w' : World} {L : Scr} {G H : Nat → AccG} (o : ScrOk w0 L) (h : ScS w0 wr L G H) {i : Nat} (hi : i < 2) {g : AccG} (ha : AccIs w' (pick2 L.a0 L.a1 i) g) (hg : GOk g) (hc : Chg (pick2 L.a0 L.a1 i) wr w') : ScS w0 w' L (updG G i g) H := by
  obtain ⟨p1, p2⟩ := pick2_a o hi
  have hl := h.lt
  have ho : ∀ j, j < wr.heap.size → j ≠ pick2 L.a0 L.a1 i → w'.heap[j]? = wr.heap[j]? := hc.block
  have hso := o.l3
  have hso4 := o.l4
  have hso5 := o.l5
  refine ⟨fun j hj => ?_, fun j hj => (h.gb j hj).cong (ho _ (h.gb j hj).lt (by have := pick2_b o hj; omega)), fun j hj => ?_, h.okb, fun j hj => ?_, fun j hj => ?_, hc.below h.below p1 h.below.size, Nat.lt_of_lt_of_le hl hc.size⟩
  · by_cases e : j = i
    · subst e; rw [updG_at]; exact ha
    · rw [updG_off _ _ e]; exact (h.ga j hj).cong (ho _ (h.ga j hj).lt (pick2_ne o.l1 hj hi e))
  · by_cases e : j = i
    · subst e; rw [updG_at]; exact hg
    · rw [updG_off _ _ e]; exact h.oka j hj
  · rw [World.cell?_of_block (a := ⟨L.sa, j, none⟩) (ho L.sa (by omega) (by show L.sa ≠ _; omega))]; exact h.sa j hj
  · rw [World.cell?_of_block (a := ⟨L.sb, j, none⟩) (ho L.sb hl (by show L.sb ≠ _; omega))]; exact h.sb j hj
theorem ScS.chgB {w0 wr w' : World} {L : Scr} {G H : Nat → AccG} (o : ScrOk w0 L) (h : ScS w0 wr L G H) {i : Nat} (hi : i < 2) {g : AccG} (hb : RefIs w' (pick2 L.b0 L.b1 i) g) (hg : GOk g) (hc : Chg (pick2 L.b0 L.b1 i) wr w') : ScS w0 w' L G (updG H i g) := by
  obtain ⟨p1, p2⟩ := pick2_b o hi
  have hl := h.lt
  have ho : ∀ j, j < wr.heap.size → j ≠ pick2 L.b0 L.b1 i → w'.heap[j]? = wr.heap[j]? := hc.block
  have hso := o.l3
  have hso0 := o.l0
  have hso1 := o.l1
  have hso2 := o.l2
  refine ⟨fun j hj => (h.ga j hj).cong (ho _ (h.ga j hj).lt (by have := pick2_a o hj; omega)), fun j hj => ?_, h.oka, fun j hj => ?_, fun j hj => ?_, fun j hj => ?_, hc.below h.below (by omega) h.below.size, Nat.lt_of_lt_of_le hl hc.size⟩
  · by_cases e : j = i
    · subst e; rw [updG_at]; exact hb
    · rw [updG_off _ _ e]; exact (h.gb j hj).cong (ho _ (h.gb j hj).lt (pick2_ne o.l4 hj hi e))
  · by_cases e : j = i
    · subst e; rw [updG_at]; exact hg
    · rw [updG_off _ _ e]; exact h.okb j hj
  · rw [World.cell?_of_block (a := ⟨L.sa, j, none⟩) (ho L.sa (by omega) (by show L.sa ≠ _; omega))]; exact h.sa j hj
  · rw [World.cell?_of_block (a := ⟨L.sb, j, none⟩) (ho L.sb hl (by show L.sb ≠ _; omega))]; exact h.sb j hj
/-- one number more, to one of them: the answer, and what they are behind it. -/
def rcOne (G : Nat → AccG) (w : Nat) : Int := if w < 2 then (if (G w).cnt = 1048576 then 3 else 0) else 2
def upOne (G : Nat → AccG) (w : Nat) (g : AccG) : Nat → AccG := if w < 2 then (if (G w).cnt = 1048576 then G else updG G w g) else G
def rcTwo (G : Nat → AccG) (w v : Nat) : Int := if w < 2 ∧ v < 2 then (if 1048576 < (G w).cnt + (G v).cnt then 3 else 0) else 2
def upTwo (G : Nat → AccG) (w v : Nat) : Nat → AccG := if w < 2 ∧ v < 2 then (if 1048576 < (G w).cnt + (G v).cnt then G else updG G w (mergeG (G w) (G v))) else G
theorem ptr3_some {x y i : Nat} (h : i < 2) : ptr3 x y i = some ⟨pick2 x y i, 0, none⟩ := if_pos h
theorem ptr3_none {x y i : Nat} (h : ¬ i < 2) : ptr3 x y i = none := if_neg h
def OneP (w0 : World) (L : Scr) (r : Int) (G H : Nat → AccG) (wr : World) (e : Ending) (w' : World) : Prop := e = .returned (.int .i64 r) ∧ ScS w0 w' L G H ∧ wr.heap.size ≤ w'.heap.size ∧ ∀ j, L.sb < j → j < wr.heap.size → w'.heap[j]? = wr.heap[j]?
theorem scr_add {w0 wr : World} {L : Scr} {G H : Nat → AccG} (o : ScrOk w0 L) (h : ScS w0 wr L G H) (i : Nat) (x : Nat) (hx : W64 x) :
    Calls Try.prog 17 #[.pointer (ptr3 L.a0 L.a1 i), .float .f64 x] wr (OneP w0 L (rcOne G i) (upOne G i (addG (G i) x)) H wr) := by
  unfold rcOne upOne
  by_cases hi : i < 2
  · rw [if_pos hi, if_pos hi, ptr3_some hi]
    have hp := pick2_a o hi
    by_cases hf : (G i).cnt = 1048576
    · rw [if_pos hf, if_pos hf]
      exact (add_full _ _ wr (h.ga i hi) (h.oka i hi) x hf).mono fun _ _ ⟨e1, e2⟩ => ⟨e1, by subst e2; exact h, by subst e2; exact Nat.le_refl _, fun _ _ _ => by subst e2; rfl⟩
    · rw [if_neg hf, if_neg hf]
      have hc : (G i).cnt < 1048576 := by have := (h.oka i hi).c9; omega
      exact (add_some _ _ wr (h.ga i hi) (h.oka i hi) x hx hc).mono fun _ _ ⟨e1, e2, e3⟩ => ⟨e1, h.chgA o hi e2 (add_ok (h.oka i hi) hc x) e3, e3.size, fun j h1 h2 => e3.block j h2 (by have := o.l3; have := o.l4; have := o.l5; omega)⟩
  · rw [if_neg hi, if_neg hi, ptr3_none hi]
    exact (add_nil x wr).mono fun _ _ ⟨e1, e2⟩ => ⟨e1, by subst e2; exact h, by subst e2; exact Nat.le_refl _, fun _ _ _ => by subst e2; rfl⟩
theorem scr_radd {w0 wr : World} {L : Scr} {G H : Nat → AccG} (o : ScrOk w0 L) (h : ScS w0 wr L G H) (i : Nat) (x : Nat) (hx : W64 x) :
    Calls Try.prog 20 #[.pointer (ptr3 L.b0 L.b1 i), .float .f64 x] wr (OneP w0 L (rcOne H i) G (upOne H i (addG (H i) x)) wr) := by
  unfold rcOne upOne
  by_cases hi : i < 2
  · rw [if_pos hi, if_pos hi, ptr3_some hi]
    have hp := pick2_b o hi
    by_cases hf : (H i).cnt = 1048576
    · rw [if_pos hf, if_pos hf]
      exact (radd_full _ _ wr (h.gb i hi) x hf).mono fun _ _ ⟨e1, e2⟩ => ⟨e1, by subst e2; exact h, by subst e2; exact Nat.le_refl _, fun _ _ _ => by subst e2; rfl⟩
    · rw [if_neg hf, if_neg hf]
      have hc : (H i).cnt < 1048576 := by have := (h.okb i hi).c9; omega
      exact (radd_some _ _ wr (h.gb i hi) (h.okb i hi) x hx hc).mono fun _ _ ⟨e1, e2, e3⟩ => ⟨e1, h.chgB o hi e2 (add_ok (h.okb i hi) hc x) e3, e3.size, fun j h1 h2 => e3.block j h2 (by omega)⟩
  · rw [if_neg hi, if_neg hi, ptr3_none hi]
    exact (radd_nil x wr).mono fun _ _ ⟨e1, e2⟩ => ⟨e1, by subst e2; exact h, by subst e2; exact Nat.le_refl _, fun _ _ _ => by subst e2; rfl⟩
theorem scr_mul {w0 wr : World} {L : Scr} {G H : Nat → AccG} (o : ScrOk w0 L) (h : ScS w0 wr L G H) (i : Nat) (x y : Nat) (hx : W64 x) (hy : W64 y) :
    Calls Try.prog 12 #[.pointer (ptr3 L.a0 L.a1 i), .float .f64 x, .float .f64 y] wr (OneP w0 L (rcOne G i) (upOne G i (mulG (G i) x y)) H wr) := by
  unfold rcOne upOne
  by_cases hi : i < 2
  · rw [if_pos hi, if_pos hi, ptr3_some hi]
    have hp := pick2_a o hi
    by_cases hf : (G i).cnt = 1048576
    · rw [if_pos hf, if_pos hf]
      exact (mul_full _ _ wr (h.ga i hi) (h.oka i hi) x y hf).mono fun _ _ ⟨e1, e2⟩ => ⟨e1, by subst e2; exact h, by subst e2; exact Nat.le_refl _, fun _ _ _ => by subst e2; rfl⟩
    · rw [if_neg hf, if_neg hf]
      have hc : (G i).cnt < 1048576 := by have := (h.oka i hi).c9; omega
      exact (mul_some _ _ wr (h.ga i hi) (h.oka i hi) x y hx hy hc).mono fun _ _ ⟨e1, e2, e3⟩ => ⟨e1, h.chgA o hi e2 (mul_ok (h.oka i hi) hc x y) e3, e3.size, fun j h1 h2 => e3.block j h2 (by have := o.l3; have := o.l4; have := o.l5; omega)⟩
  · rw [if_neg hi, if_neg hi, ptr3_none hi]
    exact (mul_nil x y wr).mono fun _ _ ⟨e1, e2⟩ => ⟨e1, by subst e2; exact h, by subst e2; exact Nat.le_refl _, fun _ _ _ => by subst e2; rfl⟩
theorem rmul_some (b : Nat) (g : AccG) (w : World) (h : RefIs w b g) (ok : GOk g) (x y : Nat) (hx : W64 x) (hy : W64 y) (hc : g.cnt < 1048576) :
    Calls Try.prog 21 #[.pointer (some ⟨b, 0, none⟩), .float .f64 x, .float .f64 y] w (RAddP w b (mulG g x y) 0) := by
  by_cases hf : mg x < INF ∧ mg y < INF
  · exact rmul_fin b g _ w h ok x y hx hy hc hf.1 hf.2 rfl
  · exact rmul_odd b g _ w h ok x y hx hy hc hf rfl
theorem scr_rmul {w0 wr : World} {L : Scr} {G H : Nat → AccG} (o : ScrOk w0 L) (h : ScS w0 wr L G H) (i : Nat) (x y : Nat) (hx : W64 x) (hy : W64 y) :
    Calls Try.prog 21 #[.pointer (ptr3 L.b0 L.b1 i), .float .f64 x, .float .f64 y] wr (OneP w0 L (rcOne H i) G (upOne H i (mulG (H i) x y)) wr) := by
  unfold rcOne upOne
  by_cases hi : i < 2
  · rw [if_pos hi, if_pos hi, ptr3_some hi]
    have hp := pick2_b o hi
    by_cases hf : (H i).cnt = 1048576
    · rw [if_pos hf, if_pos hf]
      exact (rmul_full _ _ wr (h.gb i hi) x y hf).mono fun _ _ ⟨e1, e2⟩ => ⟨e1, by subst e2; exact h, by subst e2; exact Nat.le_refl _, fun _ _ _ => by subst e2; rfl⟩
    · rw [if_neg hf, if_neg hf]
      have hc : (H i).cnt < 1048576 := by have := (h.okb i hi).c9; omega
      exact (rmul_some _ _ wr (h.gb i hi) (h.okb i hi) x y hx hy hc).mono fun _ _ ⟨e1, e2, e3⟩ => ⟨e1, h.chgB o hi e2 (mul_ok (h.okb i hi) hc x y) e3, e3.size, fun j h1 h2 => e3.block j h2 (by omega)⟩
  · rw [if_neg hi, if_neg hi, ptr3_none hi]
    exact (rmul_nil x y wr).mono fun _ _ ⟨e1, e2⟩ => ⟨e1, by subst e2; exact h, by subst e2; exact Nat.le_refl _, fun _ _ _ => by subst e2; rfl⟩
theorem scr_merge {w0 wr : World} {L : Scr} {G H : Nat → AccG} (o : ScrOk w0 L) (h : ScS w0 wr L G H) (i j : Nat) :
    Calls Try.prog 22 #[.pointer (ptr3 L.a0 L.a1 i), .pointer (ptr3 L.a0 L.a1 j)] wr (OneP w0 L (rcTwo G i j) (upTwo G i j) H wr) := by
  unfold rcTwo upTwo
  have same : ∀ {e : Ending} {w' : World} {r : Int}, (e = .returned (.int .i64 r) ∧ wr = w') → OneP w0 L r G H wr e w' := fun ⟨e1, e2⟩ => ⟨e1, by subst e2; exact h, by subst e2; exact Nat.le_refl _, fun _ _ _ => by subst e2; rfl⟩
  by_cases hi : i < 2
  · by_cases hj : j < 2
    · rw [if_pos (show i < 2 ∧ j < 2 from ⟨hi, hj⟩), if_pos (show i < 2 ∧ j < 2 from ⟨hi, hj⟩), ptr3_some hi, ptr3_some hj]
      have hp := pick2_a o hi
      by_cases hf : 1048576 < (G i).cnt + (G j).cnt
      · rw [if_pos hf, if_pos hf]
        exact (merge_full _ _ _ _ wr (h.ga i hi) (h.oka i hi) (h.ga j hj) (h.oka j hj) hf).mono fun _ _ hh => same hh
      · rw [if_neg hf, if_neg hf]
        have hm : Calls Try.prog 22 #[.pointer (some ⟨pick2 L.a0 L.a1 i, 0, none⟩), .pointer (some ⟨pick2 L.a0 L.a1 j, 0, none⟩)] wr (AddP wr (pick2 L.a0 L.a1 i) (mergeG (G i) (G j)) 0) := by
          by_cases e : i = j
          · subst e; exact merge_self _ _ wr (h.ga i hi) (h.oka i hi) (by omega)
          · exact merge_some _ _ _ _ wr (h.ga i hi) (h.oka i hi) (h.ga j hj) (h.oka j hj) (pick2_ne o.l1 hi hj e) (by omega)
        exact hm.mono fun _ _ ⟨e1, e2, e3⟩ => ⟨e1, h.chgA o hi e2 (merge_ok (h.oka i hi) (h.oka j hj) (by omega)) e3, e3.size, fun j h1 h2 => e3.block j h2 (by have := o.l3; have := o.l4; have := o.l5; omega)⟩
    · rw [if_neg (fun k => hj k.2), if_neg (fun k => hj k.2), ptr3_none hj]
      exact (merge_nil _ wr).mono fun _ _ hh => same hh
  · rw [if_neg (fun k => hi k.1), if_neg (fun k => hi k.1), ptr3_none hi]
    by_cases hj : j < 2
    · rw [ptr3_some hj]; exact (merge_nil2 _ wr).mono fun _ _ hh => same hh
    · rw [ptr3_none hj]; exact (merge_nil _ wr).mono fun _ _ hh => same hh
theorem scr_rmerge {w0 wr : World} {L : Scr} {G H : Nat → AccG} (o : ScrOk w0 L) (h : ScS w0 wr L G H) (i j : Nat) :
    Calls Try.prog 23 #[.pointer (ptr3 L.b0 L.b1 i), .pointer (ptr3 L.b0 L.b1 j)] wr (OneP w0 L (rcTwo H i j) G (upTwo H i j) wr) := by
  unfold rcTwo upTwo
  have same : ∀ {e : Ending} {w' : World} {r : Int}, (e = .returned (.int .i64 r) ∧ wr = w') → OneP w0 L r G H wr e w' := fun ⟨e1, e2⟩ => ⟨e1, by subst e2; exact h, by subst e2; exact Nat.le_refl _, fun _ _ _ => by subst e2; rfl⟩
  by_cases hi : i < 2
  · by_cases hj : j < 2
    · rw [if_pos (show i < 2 ∧ j < 2 from ⟨hi, hj⟩), if_pos (show i < 2 ∧ j < 2 from ⟨hi, hj⟩), ptr3_some hi, ptr3_some hj]
      have hp := pick2_b o hi
      by_cases hf : 1048576 < (H i).cnt + (H j).cnt
      · rw [if_pos hf, if_pos hf]
        exact (rmerge_full _ _ _ _ wr (h.gb i hi) (h.okb i hi) (h.gb j hj) (h.okb j hj) hf).mono fun _ _ ⟨e1, n, e2⟩ => ⟨e1, by subst e2; exact h.of o (below_drewN (Below.refl _ _) n), by subst e2; exact Nat.le_refl _, fun _ _ _ => by subst e2; rfl⟩
      · rw [if_neg hf, if_neg hf]
        exact (rmerge_some _ _ _ _ wr (h.gb i hi) (h.okb i hi) (h.gb j hj) (h.okb j hj) (by omega)).mono fun _ _ ⟨e1, e2, e3⟩ => ⟨e1, h.chgB o hi e2 (merge_ok (h.okb i hi) (h.okb j hj) (by omega)) e3, e3.size, fun j h1 h2 => e3.block j h2 (by omega)⟩
    · rw [if_neg (fun k => hj k.2), if_neg (fun k => hj k.2), ptr3_none hj, ptr3_some hi]
      exact (rmerge_nil2 _ wr).mono fun _ _ hh => same hh
  · rw [if_neg (fun k => hi k.1), if_neg (fun k => hi k.1), ptr3_none hi]
    exact (rmerge_nil _ wr).mono fun _ _ hh => same hh
def cntF (G : Nat → AccG) (i : Nat) : Int := if i < 2 then (G i).cnt else 0
def valF (G : Nat → AccG) (i : Nat) : Nat := if i < 2 then valG (G i) else 0
theorem scr_count {w0 wr x : World} {L : Scr} {G H : Nat → AccG} (o : ScrOk w0 L) (h : ScS w0 wr L G H) (i : Nat) (hb : Below wr.heap.size wr x) :
    Calls Try.prog 18 #[.pointer (ptr3 L.a0 L.a1 i)] x fun e w' => e = .returned (.int .i64 (cntF G i)) ∧ Below wr.heap.size wr w' := by
  unfold cntF
  by_cases hi : i < 2
  · rw [if_pos hi, ptr3_some hi]
    exact (count_any _ _ x ((h.of o hb).ga i hi)).mono fun _ _ ⟨e1, e2⟩ => ⟨e1, by subst e2; exact hb⟩
  · rw [if_neg hi, ptr3_none hi]
    exact (count_nil x).mono fun _ _ ⟨e1, e2⟩ => ⟨e1, by subst e2; exact hb⟩
theorem scr_rcount {w0 wr x : World} {L : Scr} {G H : Nat → AccG} (o : ScrOk w0 L) (h : ScS w0 wr L G H) (i : Nat) (hb : Below wr.heap.size wr x) :
    Calls Try.prog 24 #[.pointer (ptr3 L.b0 L.b1 i)] x fun e w' => e = .returned (.int .i64 (cntF H i)) ∧ Below wr.heap.size wr w' := by
  unfold cntF
  by_cases hi : i < 2
  · rw [if_pos hi, ptr3_some hi]
    exact (rcount_any _ _ x ((h.of o hb).gb i hi)).mono fun _ _ ⟨e1, e2⟩ => ⟨e1, by subst e2; exact hb⟩
  · rw [if_neg hi, ptr3_none hi]
    exact (rcount_nil x).mono fun _ _ ⟨e1, e2⟩ => ⟨e1, by subst e2; exact hb⟩
theorem scr_value {w0 wr x : World} {L : Scr} {G H : Nat → AccG} (o : ScrOk w0 L) (h : ScS w0 wr L G H) (i : Nat) (hb : Below wr.heap.size wr x) :
    Calls Try.prog 13 #[.pointer (ptr3 L.a0 L.a1 i)] x fun e w' => e = .returned (.float .f64 (valF G i)) ∧ Below wr.heap.size wr w' := by
  unfold valF
  by_cases hi : i < 2
  · rw [if_pos hi, ptr3_some hi]
    exact (value_any _ _ x ((h.of o hb).ga i hi) (h.oka i hi)).mono fun _ _ ⟨e1, e2⟩ => ⟨e1, hb.trans (e2.mono hb.size)⟩
  · rw [if_neg hi, ptr3_none hi]
    exact (value_nil x).mono fun _ _ ⟨e1, e2⟩ => ⟨e1, by subst e2; exact hb⟩
theorem scr_rvalue {w0 wr x : World} {L : Scr} {G H : Nat → AccG} (o : ScrOk w0 L) (h : ScS w0 wr L G H) (i : Nat) (hb : Below wr.heap.size wr x) :
    Calls Try.prog 25 #[.pointer (ptr3 L.b0 L.b1 i)] x fun e w' => e = .returned (.float .f64 (valF H i)) ∧ Below wr.heap.size wr w' := by
  unfold valF
  by_cases hi : i < 2
  · rw [if_pos hi, ptr3_some hi]
    exact (rvalue_any _ _ x ((h.of o hb).gb i hi) (h.okb i hi)).mono fun _ _ ⟨e1, e2⟩ => ⟨e1, hb.trans (e2.mono hb.size)⟩
  · rw [if_neg hi, ptr3_none hi]
    exact (rvalue_nil x).mono fun _ _ ⟨e1, e2⟩ => ⟨e1, by subst e2; exact hb⟩
end Go.Proofs.Ytneedadoafcfcaa
