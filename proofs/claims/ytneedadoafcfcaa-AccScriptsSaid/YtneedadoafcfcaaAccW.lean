/- A sum in memory. -/
import Derived.Test.YtneedadoafcfcaaAccN
import Derived.Deep.Quiet
namespace TF
open Go Go.RowKit

structure AccS where
  d : Nat → Int
  cnt : Int
  nz : Int
  up : Bool
  dn : Bool
  nn : Bool
def upw (U : Nat → Int) (c : Nat) (v : Int) : Nat → Int := fun i => if i = c then v else U i
theorem upw_at (U : Nat → Int) (c : Nat) (v : Int) : upw U c v c = v := by simp [upw]
theorem upw_off (U : Nat → Int) {c i : Nat} (v : Int) (h : i ≠ c) : upw U c v i = U i := by simp [upw, h]
/-- a cell that may be written. -/
def CellIs (w : World) (b i : Nat) (v : Value) : Prop := w.cell? ⟨b, i, none⟩ = some v ∧ w.frozen? ⟨b, i, none⟩ = false
/-- the sum at block b. -/
structure AccAt (w : World) (b : Nat) (s : AccS) : Prop where
  word : ∀ i, i < 70 → CellIs w b i (.int .u64 (s.d i))
  cnt : CellIs w b 70 (.int .i64 s.cnt)
  nz : CellIs w b 71 (.int .i64 s.nz)
  up : CellIs w b 72 (.bool s.up)
  dn : CellIs w b 73 (.bool s.dn)
  nn : CellIs w b 74 (.bool s.nn)
theorem CellIs.lt {w : World} {b i : Nat} {v : Value} (h : CellIs w b i v) : b < w.heap.size := by
  rcases Nat.lt_or_ge b w.heap.size with h1 | h1
  · exact h1
  · have := h.1; unfold World.cell? at this; rw [Array.getElem?_eq_none h1] at this; cases this
theorem CellIs.same {w : World} {b i : Nat} {v v' : Value} (h : CellIs w b i v) : CellIs (w.setCell ⟨b, i, none⟩ v') b i v' :=
  ⟨World.cell?_setCell_same _ _ _ h.1, by simpa using h.2⟩
theorem CellIs.other {w : World} {b i c j : Nat} {v v' : Value} (h : CellIs w b i v) (hn : b = c → i ≠ j) : CellIs (w.setCell ⟨c, j, none⟩ v') b i v := by
  refine ⟨?_, by simpa using h.2⟩
  rw [World.cell?_setCell_other _ _ _ _ (by intro e; injection e with e1 e2; exact hn e1.symm e2.symm)]; exact h.1
theorem AccAt.lt {w : World} {b : Nat} {s : AccS} (h : AccAt w b s) : b < w.heap.size := h.cnt.lt
theorem AccAt.setWord {w : World} {b : Nat} {s : AccS} (h : AccAt w b s) (i : Nat) (hi : i < 70) (v : Int) : AccAt (w.setCell ⟨b, i, none⟩ (.int .u64 v)) b { s with d := upw s.d i v } where
  word j hj := by
    by_cases e : j = i
    · subst e
      show CellIs _ _ _ (.int .u64 (upw s.d j v j))
      rw [upw_at]; exact (h.word j hj).same
    · show CellIs _ _ _ (.int .u64 (upw s.d i v j))
      rw [upw_off _ _ e]; exact (h.word j hj).other (fun _ => e)
  cnt := h.cnt.other (fun _ => by omega)
  nz := h.nz.other (fun _ => by omega)
  up := h.up.other (fun _ => by omega)
  dn := h.dn.other (fun _ => by omega)
  nn := h.nn.other (fun _ => by omega)
theorem AccAt.setCnt {w : World} {b : Nat} {s : AccS} (h : AccAt w b s) (v : Int) : AccAt (w.setCell ⟨b, 70, none⟩ (.int .i64 v)) b { s with cnt := v } where
  word j hj := (h.word j hj).other (fun _ => by omega)
  cnt := h.cnt.same
  nz := h.nz.other (fun _ => by omega)
  up := h.up.other (fun _ => by omega)
  dn := h.dn.other (fun _ => by omega)
  nn := h.nn.other (fun _ => by omega)
theorem AccAt.setNz {w : World} {b : Nat} {s : AccS} (h : AccAt w b s) (v : Int) : AccAt (w.setCell ⟨b, 71, none⟩ (.int .i64 v)) b { s with nz := v } where
  word j hj := (h.word j hj).other (fun _ => by omega)
  cnt := h.cnt.other (fun _ => by omega)
  nz := h.nz.same
  up := h.up.other (fun _ => by omega)
  dn := h.dn.other (fun _ => by omega)
  nn := h.nn.other (fun _ => by omega)
theorem AccAt.setUp {w : World} {b : Nat} {s : AccS} (h : AccAt w b s) (v : Bool) : AccAt (w.setCell ⟨b, 72, none⟩ (.bool v)) b { s with up := v } where
  word j hj := (h.word j hj).other (fun _ => by omega)
  cnt := h.cnt.other (fun _ => by omega)
  nz := h.nz.other (fun _ => by omega)
  up := h.up.same
  dn := h.dn.other (fun _ => by omega)
  nn := h.nn.other (fun _ => by omega)
theorem AccAt.setDn {w : World} {b : Nat} {s : AccS} (h : AccAt w b s) (v : Bool) : AccAt (w.setCell ⟨b, 73, none⟩ (.bool v)) b { s with dn := v } where
  word j hj := (h.word j hj).other (fun _ => by omega)
  cnt := h.cnt.other (fun _ => by omega)
  nz := h.nz.other (fun _ => by omega)
  up := h.up.other (fun _ => by omega)
  dn := h.dn.same
  nn := h.nn.other (fun _ => by omega)
theorem AccAt.setNn {w : World} {b : Nat} {s : AccS} (h : AccAt w b s) (v : Bool) : AccAt (w.setCell ⟨b, 74, none⟩ (.bool v)) b { s with nn := v } where
  word j hj := (h.word j hj).other (fun _ => by omega)
  cnt := h.cnt.other (fun _ => by omega)
  nz := h.nz.other (fun _ => by omega)
  up := h.up.other (fun _ => by omega)
  dn := h.dn.other (fun _ => by omega)
  nn := h.nn.same
/-- another world in which block b is what it was. -/
theorem CellIs.cong {w w' : World} {b i : Nat} {v : Value} (h : CellIs w b i v) (e : w'.heap[b]? = w.heap[b]?) : CellIs w' b i v := by
  unfold CellIs at *
  exact ⟨(World.cell?_of_block (w := w) (a := ⟨b, i, none⟩) e).trans h.1, (World.frozen?_of_block (w := w) (a := ⟨b, i, none⟩) e).trans h.2⟩
theorem AccAt.cong {w w' : World} {b : Nat} {s : AccS} (h : AccAt w b s) (e : w'.heap[b]? = w.heap[b]?) : AccAt w' b s :=
  ⟨fun i hi => (h.word i hi).cong e, h.cnt.cong e, h.nz.cong e, h.up.cong e, h.dn.cong e, h.nn.cong e⟩

/-- all that was there stays, but for block b. -/
structure Chg (b : Nat) (w w' : World) : Prop where
  os : w'.os = w.os
  tape : w'.tape = w.tape
  output : w'.output = w.output
  size : w.heap.size ≤ w'.heap.size
  block : ∀ c, c < w.heap.size → c ≠ b → w'.heap[c]? = w.heap[c]?
theorem Chg.refl (b : Nat) (w : World) : Chg b w w := ⟨rfl, rfl, rfl, Nat.le_refl _, fun _ _ _ => rfl⟩
theorem Chg.trans {b : Nat} {x y z : World} (h : Chg b x y) (k : Chg b y z) : Chg b x z :=
  ⟨k.os.trans h.os, k.tape.trans h.tape, k.output.trans h.output, Nat.le_trans h.size k.size, fun c hc hn => (k.block c (Nat.lt_of_lt_of_le hc h.size) hn).trans (h.block c hc hn)⟩
theorem Chg.drew {b : Nat} {w w' : World} (h : Chg b w w') : Chg b w w'.drew := ⟨h.os, h.tape, h.output, h.size, h.block⟩
theorem Chg.drewN {b : Nat} {w w' : World} (h : Chg b w w') (n : Nat) : Chg b w (w'.drewN n) := ⟨h.os, h.tape, h.output, h.size, h.block⟩
theorem Chg.alloc {b : Nat} {w w' : World} (h : Chg b w w') (o : Obj) : Chg b w (w'.alloc o) :=
  ⟨h.os, h.tape, h.output, by have := h.size; simp; omega, fun c hc hn => by
    rw [← h.block c hc hn]
    have hlt : c < w'.heap.size := Nat.lt_of_lt_of_le hc h.size
    show (w'.heap.push o)[c]? = _
    rw [Array.getElem?_push, if_neg (by omega)]⟩
theorem Chg.set {b : Nat} {w w' : World} (h : Chg b w w') (i : Nat) (v : Value) : Chg b w (w'.setCell ⟨b, i, none⟩ v) :=
  ⟨h.os, h.tape, h.output, by simpa using h.size, fun c hc hn => by
    rw [← h.block c hc hn]; exact Below.heap_setCell _ _ _ _ (by show c ≠ b; exact hn)⟩
/-- a write to a block that is new. -/
theorem Chg.setNew {b : Nat} {w w' : World} (h : Chg b w w') {c : Nat} (hc : w.heap.size ≤ c) (i : Nat) (v : Value) : Chg b w (w'.setCell ⟨c, i, none⟩ v) :=
  ⟨h.os, h.tape, h.output, by simpa using h.size, fun e he hn => by
    rw [← h.block e he hn]; exact Below.heap_setCell _ _ _ _ (by show e ≠ c; omega)⟩
theorem Chg.below {b lim : Nat} {w0 w w' : World} (h : Chg b w w') (h0 : Below lim w0 w) (hl : lim ≤ b) (hs : lim ≤ w.heap.size) : Below lim w0 w' :=
  ⟨h.os.trans h0.os, h.tape.trans h0.tape, h.output.trans h0.output, Nat.le_trans h0.size h.size, fun c hc => (h.block c (by omega) (by omega)).trans (h0.block c hc)⟩
theorem Chg.of_below {b lim : Nat} {w w' : World} (h : Below lim w w') (hs : w.heap.size ≤ lim) : Chg b w w' :=
  ⟨h.os, h.tape, h.output, h.size, fun c hc _ => h.block c (by omega)⟩
theorem Chg.acc' {b : Nat} {w : World} {o : Obj} (_ : Chg b w (w.alloc o).drew) {c : Nat} {s : AccS} (h : AccAt w c s) : AccAt (w.alloc o).drew c s :=
  h.cong (by
    have hlt := h.lt
    show (w.heap.push o)[c]? = _
    rw [Array.getElem?_push, if_neg (by omega)])
theorem Chg.acc {b c : Nat} {w w' : World} {s : AccS} (h : Chg b w w') (hc : AccAt w c s) (hn : c ≠ b) : AccAt w' c s :=
  hc.cong (h.block c hc.lt hn)

/-- words that are new below k. -/
def partW (U O : Nat → Int) (k : Nat) : Nat → Int := fun j => if j < k then O j else U j
theorem AccAt.ext {w : World} {b : Nat} {s t : AccS} (h : AccAt w b s) (hd : ∀ i, i < 70 → s.d i = t.d i) (h1 : s.cnt = t.cnt) (h2 : s.nz = t.nz) (h3 : s.up = t.up) (h4 : s.dn = t.dn) (h5 : s.nn = t.nn) : AccAt w b t :=
  ⟨fun i hi => by rw [← hd i hi]; exact h.word i hi, by rw [← h1]; exact h.cnt, by rw [← h2]; exact h.nz, by rw [← h3]; exact h.up, by rw [← h4]; exact h.dn, by rw [← h5]; exact h.nn⟩
theorem AccAt.drew {w : World} {b : Nat} {s : AccS} (h : AccAt w b s) : AccAt w.drew b s := ⟨h.word, h.cnt, h.nz, h.up, h.dn, h.nn⟩
theorem AccAt.drewN {w : World} {b : Nat} {s : AccS} (h : AccAt w b s) (n : Nat) : AccAt (w.drewN n) b s := ⟨h.word, h.cnt, h.nz, h.up, h.dn, h.nn⟩
/-- one word more is new. -/
theorem AccAt.next {w : World} {b : Nat} {s : AccS} {O : Nat → Int} {k : Nat} (h : AccAt w b { s with d := partW s.d O k }) (hk : k < 70) : AccAt (w.setCell ⟨b, k, none⟩ (.int .u64 (O k))) b { s with d := partW s.d O (k + 1) } :=
  (h.setWord k hk (O k)).ext (fun i _ => by
    show upw (partW s.d O k) k (O k) i = partW s.d O (k + 1) i
    by_cases e : i = k
    · subst e; rw [upw_at]; unfold partW; rw [if_pos (by omega)]
    · rw [upw_off _ _ e]; unfold partW
      by_cases h1 : i < k
      · rw [if_pos h1, if_pos (by omega)]
      · rw [if_neg h1, if_neg (by omega)]) rfl rfl rfl rfl rfl
/-- what isn't touched. -/
theorem ca_low {U A : Nat → Int} (hU : WOk U) {n : Nat} (h : ∀ i, i < n → A i = 0) : ∀ k, k ≤ n → ca U A k = 0 := by
  intro k
  induction k with
  | zero => intro _; rfl
  | succ k ih => intro hk; have := hU k; simp only [ca]; rw [ih (by omega), h k (by omega)]; omega
theorem ad_same {U A : Nat → Int} (hU : WOk U) {i : Nat} (h : A i = 0) (hc : ca U A i = 0) : ad U A i = U i := by
  have := hU i; unfold ad; rw [h, hc]; omega
theorem ca_rest {U A : Nat → Int} (hU : WOk U) {n : Nat} (hc : ca U A n = 0) (h : ∀ i, n ≤ i → A i = 0) : ∀ k, n ≤ k → ca U A k = 0 := by
  intro k
  induction k with
  | zero => intro hk; have : n = 0 := by omega
            subst this; exact hc
  | succ k ih =>
    intro hk
    by_cases e : n = k + 1
    · rw [← e]; exact hc
    · have := hU k; simp only [ca]; rw [ih (by omega), h k (by omega)]; omega
theorem br_low {U A : Nat → Int} (hU : WOk U) {n : Nat} (h : ∀ i, i < n → A i = 0) : ∀ k, k ≤ n → br U A k = 0 := by
  intro k
  induction k with
  | zero => intro _; rfl
  | succ k ih => intro hk; have := hU k; simp only [br]; rw [ih (by omega), h k (by omega), if_neg (by omega)]
theorem sb_same {U A : Nat → Int} (hU : WOk U) {i : Nat} (h : A i = 0) (hc : br U A i = 0) : sb U A i = U i := by
  have := hU i; unfold sb; rw [h, hc]; omega
theorem br_rest {U A : Nat → Int} (hU : WOk U) {n : Nat} (hc : br U A n = 0) (h : ∀ i, n ≤ i → A i = 0) : ∀ k, n ≤ k → br U A k = 0 := by
  intro k
  induction k with
  | zero => intro hk; have : n = 0 := by omega
            subst this; exact hc
  | succ k ih =>
    intro hk
    by_cases e : n = k + 1
    · rw [← e]; exact hc
    · have := hU k; simp only [br]; rw [ih (by omega), h k (by omega), if_neg (by omega)]
end TF
