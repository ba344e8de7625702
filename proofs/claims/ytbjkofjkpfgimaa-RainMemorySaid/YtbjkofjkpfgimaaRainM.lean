/- copy of elements of several cells. -/
import Derived.Test.YtbjkofjkpfgimaaRainK
import Derived.Laws.CopyOwn
import Derived.Deep.RegionHeld3
namespace Go.Proofs.Ytbjkofjkpfgimaa
open Go Go.RowKit TF

theorem run_copy_rows {P : Program} (w : World) (dT sT ty elem : TypeId) (k g o dLen dCap : Nat) (a : Addr) (sLen sCap : Nat) (cur : Array Value) (t : TypeId) (cs : List Value)
    (hu : P.underlying dT = some (.slice elem)) (hs : (P.info? elem).map (·.size) = some k)
    (hg : w.heap[g]? = some (.cells cur t (0, 0))) (hn : cs.length = Nat.min sLen dLen * k)
    (hsrc : ∀ j v, cs[j]? = some v → w.cell? (a.add j) = some v) (hfit : o + cs.length ≤ cur.size) (h1 : ∀ v ∈ cs, v.oneCell' = true) :
    (Builtin.copy_ #[dT, sT] ty #[.slice (some ⟨g, o, none⟩) dLen dCap, .slice (some a) sLen sCap]).run P w =
      .ok (goInt (Nat.min sLen dLen)) (w.setRow g (cur.toList.take o ++ cs ++ cur.toList.drop (o + cs.length)).toArray) := by
  have hl := run_loadCells_list (P := P) w a cs hsrc
  have hst := run_storeCells_at P g o t cs 0 cur w hg (by simpa using hfit) h1
  cases hq : P.info? elem with
  | none => simp [hq] at hs
  | some i =>
    have hi : i.size = k := by simpa [hq] using hs
    simp [Builtin.copy_, run_underlying hu, Builtin.lenOf, Builtin.firstCells, sizeOf, typeInfo, hq, hi, ← hn, hl, hst]

theorem run_copy_zero {P : Program} (w : World) (dT sT ty elem : TypeId) (k g o dLen dCap : Nat) (sp : Option Addr) (sLen sCap : Nat)
    (hu : P.underlying dT = some (.slice elem)) (hs : (P.info? elem).map (·.size) = some k) (hn : Nat.min sLen dLen = 0) :
    (Builtin.copy_ #[dT, sT] ty #[.slice (some ⟨g, o, none⟩) dLen dCap, .slice sp sLen sCap]).run P w = .ok (goInt 0) w := by
  cases hq : P.info? elem with
  | none => simp [hq] at hs
  | some i =>
    cases sp <;> simp [Builtin.copy_, run_underlying hu, Builtin.lenOf, Builtin.firstCells, sizeOf, typeInfo, hq, hn, loadCells, loadCellsFrom, storeCells]

theorem wpList_copy_rows {P : Program} {w : World} {ops : Array Oper} {rest : List Oper} {o : Oper} {a : Act} {Q : Exit → Act → World → Prop} (hgd : o.guard = none) (d s : Operand) (dT sT : TypeId)
    (ho : o.op = .call { callee := .builtin .copy, args := #[d, s], argTypes := #[dT, sT] }) (elem : TypeId) (hu : P.underlying dT = some (.slice elem)) (k : Nat) (hsz : (P.info? elem).map (·.size) = some k)
    (g dLen dCap : Nat) (sp : Option Addr) (sLen sCap : Nat) (hd : a.eval d = .slice (some ⟨g, 0, none⟩) dLen dCap) (hs : a.eval s = .slice sp sLen sCap)
    (cur : Array Value) (t : TypeId) (hg : w.heap[g]? = some (.cells cur t (0, 0))) (cs : List Value) (hn : cs.length = Nat.min sLen dLen * k) (hk : 0 < k)
    (hsrc : 0 < cs.length → ∃ ad, sp = some ad ∧ ∀ j v, cs[j]? = some v → w.cell? (ad.add j) = some v) (hfit : cs.length ≤ cur.size) (h1 : ∀ v ∈ cs, v.oneCell' = true)
    (h : ∀ w', Hid (w'.heap[g]? = some (.cells (cs ++ cur.toList.drop cs.length).toArray t (0, 0))) → Below g w w' → Hid (∀ k, k ≠ g → w'.heap[k]? = w.heap[k]?) → wpList P ops Q rest (a.put o.dst (goInt (Nat.min sLen dLen))) w') : wpList P ops Q (o :: rest) a w := by
  refine wpList_plain hgd fun K hK => ?_
  by_cases h0 : cs.length = 0
  · obtain rfl : cs = [] := List.eq_nil_of_length_eq_zero h0
    have hm : Nat.min sLen dLen = 0 := by
      rcases Nat.eq_zero_or_pos (Nat.min sLen dLen) with h | h
      · exact h
      · have := Nat.mul_pos h hk; simp at hn; omega
    have hrun := run_copy_zero (P := P) w dT sT o.type elem k g 0 dLen dCap sp sLen sCap hu hsz hm
    unfold Oper.wp
    simp [execOp, ho, resolve, invoke, builtin, hd, hs, hrun, Result.andThen]
    have := h w (show _ = _ by simpa using hg) (Below.refl _ _) (fun _ _ => rfl)
    rw [hm] at this
    exact hK _ _ this
  · obtain ⟨ad, rfl, hc⟩ := hsrc (by omega)
    have hrun := run_copy_rows (P := P) w dT sT o.type elem k g 0 dLen dCap ad sLen sCap cur t cs hu hsz hg hn hc (by simpa using hfit) h1
    unfold Oper.wp
    simp [execOp, ho, resolve, invoke, builtin, hd, hs, hrun, Result.andThen]
    refine hK _ _ (h _ (show _ = _ from ?_) (below_setRow (Below.refl _ _) (Nat.le_refl _) _) (fun k hk => setRow_other w g k _ hk))
    simpa using setRow_heap w g _ _ t _ hg

theorem size_i64 : (Try.prog.info? 2).map (·.size) = some 1 := by kernel_rfl
theorem size_rain : (Try.prog.info? 29).map (·.size) = some 4 := by kernel_rfl
theorem src_ints {w : World} {A : Option Addr} {n : Nat} {Z : Nat → Int} (h : IntsAt w A n Z) : 0 < ((List.range n).map fun i => Value.int .i64 (Z i)).length → ∃ ad, A = some ad ∧ ∀ j v, ((List.range n).map fun i => Value.int .i64 (Z i))[j]? = some v → w.cell? (ad.add j) = some v := by
  intro h0
  obtain ⟨b, off, e, -, -⟩ := h 0 (by simpa using h0)
  refine ⟨_, e, fun j v hv => ?_⟩
  have hj : j < n := by
    have := (List.getElem?_eq_some_iff.1 hv).1
    simpa using this
  obtain ⟨b', off', e', -, hc⟩ := h j hj
  obtain ⟨rfl, rfl⟩ : b = b' ∧ off = off' := by rw [e] at e'; simpa using e'
  rw [add_flat, hc]
  rw [List.getElem?_map, List.getElem?_range hj] at hv
  simpa using hv
theorem one_ints (n : Nat) (Z : Nat → Int) : ∀ v ∈ (List.range n).map fun i => Value.int .i64 (Z i), v.oneCell' = true := by
  intro v hv
  simp at hv
  obtain ⟨i, -, rfl⟩ := hv
  rfl
theorem one_rains (C A F T : Nat → Int) (l : List Nat) : ∀ v ∈ rainCells C A F T l, v.oneCell' = true := by
  intro v hv
  unfold rainCells at hv
  simp at hv
  obtain ⟨i, -, rfl | rfl | rfl | rfl⟩ := hv <;> rfl
theorem at_range (f : Nat → Int) {m j : Nat} (h : j < m) : at' f (List.range m) j = f j := by
  unfold at'; rw [List.getD_eq_getElem?_getD, List.getElem?_range h]; rfl
theorem rainCells_len (C A F T : Nat → Int) : ∀ l : List Nat, (rainCells C A F T l).length = l.length * 4 := by
  intro l
  induction l with
  | nil => rfl
  | cons a l ih =>
    have e : rainCells C A F T (a :: l) = [.int .i64 (C a), .int .i64 (A a), .int .i64 (F a), .int .i64 (T a)] ++ rainCells C A F T l := by simp [rainCells]
    rw [e, List.length_append, ih]; simp; omega
theorem src_rains {w : World} {R : Option Addr} {m : Nat} {C A F T : Nat → Int} (h : RainsAt w R m C A F T) : 0 < (rainCells C A F T (List.range m)).length → ∃ ad, R = some ad ∧ ∀ j v, (rainCells C A F T (List.range m))[j]? = some v → w.cell? (ad.add j) = some v := by
  have rl := rainCells_len C A F T (List.range m)
  rw [List.length_range] at rl
  intro h0
  obtain ⟨b, off, e, -, -⟩ := h 0 (by omega)
  refine ⟨_, e, fun j v hv => ?_⟩
  have hj : j < m * 4 := by
    have := (List.getElem?_eq_some_iff.1 hv).1
    omega
  obtain ⟨k, hk⟩ : ∃ k, k = j / 4 := ⟨_, rfl⟩
  have hkm : k < m := by omega
  obtain ⟨b', off', e', -, c0, c1, c2, c3⟩ := h k hkm
  obtain ⟨rfl, rfl⟩ : b = b' ∧ off = off' := by rw [e] at e'; simpa using e'
  obtain ⟨q0, q1, q2, q3⟩ := rainCells_at C A F T (List.range m) k (by simpa using hkm)
  rw [at_range _ hkm] at q0 q1 q2 q3
  rw [add_flat]
  rcases (show j = k * 4 ∨ j = k * 4 + 1 ∨ j = k * 4 + 2 ∨ j = k * 4 + 3 by omega) with rfl | rfl | rfl | rfl
  · rw [q0] at hv; rw [← hv]; exact c0
  · rw [q1] at hv; rw [← hv, ← Nat.add_assoc]; exact c1
  · rw [q2] at hv; rw [← hv, ← Nat.add_assoc]; exact c2
  · rw [q3] at hv; rw [← hv, ← Nat.add_assoc]; exact c3

/-- what lies in the two rows that the statement makes, k of the three marks laid. -/
structure MemS (x : World) (g1 g2 n m : Nat) (Z C A F T : Nat → Int) (k : Nat) : Prop where
  a : ∀ i, i < n + 3 → (x.cell? ⟨g1, i, none⟩).isSome = true ∧ x.frozen? ⟨g1, i, none⟩ = false
  z : ∀ i, i < n → x.cell? ⟨g1, i, none⟩ = some (.int .i64 (Z i))
  s : ∀ i, i < k → x.cell? ⟨g1, n + i, none⟩ = some (.int .i64 (-7))
  b : ∀ i, i < (m + 3) * 4 → (x.cell? ⟨g2, i, none⟩).isSome = true ∧ x.frozen? ⟨g2, i, none⟩ = false
  r : ∀ i, i < m → x.cell? ⟨g2, i * 4, none⟩ = some (.int .i64 (C i)) ∧ x.cell? ⟨g2, i * 4 + 1, none⟩ = some (.int .i64 (A i)) ∧ x.cell? ⟨g2, i * 4 + 2, none⟩ = some (.int .i64 (F i)) ∧ x.cell? ⟨g2, i * 4 + 3, none⟩ = some (.int .i64 (T i))
  q : ∀ i, i < k → x.cell? ⟨g2, (m + i) * 4, none⟩ = some (.int .i64 (-7)) ∧ x.cell? ⟨g2, (m + i) * 4 + 1, none⟩ = some (.int .i64 0) ∧ x.cell? ⟨g2, (m + i) * 4 + 2, none⟩ = some (.int .i64 0) ∧ x.cell? ⟨g2, (m + i) * 4 + 3, none⟩ = some (.int .i64 0)
  ne : g1 ≠ g2

theorem some_stored {w : World} {p q : Addr} {v : Value} (h : (w.cell? q).isSome = true) : ((w.setCell p v).cell? q).isSome = true := by
  obtain ⟨u, hu⟩ := Option.isSome_iff_exists.1 h
  by_cases e : p = q
  · subst e; rw [World.cell?_setCell_same _ _ _ hu]; rfl
  · rw [World.cell?_setCell_other _ _ _ _ e, hu]; rfl
theorem stored_at {w : World} {p : Addr} {v : Value} (h : (w.cell? p).isSome = true) : (w.setCell p v).cell? p = some v := by
  obtain ⟨u, hu⟩ := Option.isSome_iff_exists.1 h
  exact World.cell?_setCell_same _ _ _ hu
theorem stored_off {w : World} {b o b' o' : Nat} {v u : Value} (h : w.cell? ⟨b, o, none⟩ = some u) (e : b' ≠ b ∨ o' ≠ o) : (w.setCell ⟨b', o', none⟩ v).cell? ⟨b, o, none⟩ = some u := by
  rw [World.cell?_setCell_other _ _ _ _ (by intro h1; injection h1 with h2 h3; omega)]; exact h

theorem MemS.step {x : World} {g1 g2 n m : Nat} {Z C A F T : Nat → Int} {k : Nat} (h : MemS x g1 g2 n m Z C A F T k) (hk : k < 3) :
    MemS (((((x.setCell ⟨g1, n + k, none⟩ (.int .i64 (-7))).setCell ⟨g2, (m + k) * 4, none⟩ (.int .i64 (-7))).setCell ⟨g2, (m + k) * 4 + 1, none⟩ (.int .i64 0)).setCell ⟨g2, (m + k) * 4 + 2, none⟩ (.int .i64 0)).setCell ⟨g2, (m + k) * 4 + 3, none⟩ (.int .i64 0)) g1 g2 n m Z C A F T (k + 1) := by
  obtain ⟨a, z, s, b, r, q, ne⟩ := h
  have i0 := (a (n + k) (by omega)).1
  have j0 := (b ((m + k) * 4) (by omega)).1
  have j1 := (b ((m + k) * 4 + 1) (by omega)).1
  have j2 := (b ((m + k) * 4 + 2) (by omega)).1
  have j3 := (b ((m + k) * 4 + 3) (by omega)).1
  have keep : ∀ bb oo u, x.cell? ⟨bb, oo, none⟩ = some u → (bb ≠ g1 ∨ oo ≠ n + k) → (bb ≠ g2 ∨ oo < (m + k) * 4 ∨ (m + k) * 4 + 3 < oo) →
      (((((x.setCell ⟨g1, n + k, none⟩ (.int .i64 (-7))).setCell ⟨g2, (m + k) * 4, none⟩ (.int .i64 (-7))).setCell ⟨g2, (m + k) * 4 + 1, none⟩ (.int .i64 0)).setCell ⟨g2, (m + k) * 4 + 2, none⟩ (.int .i64 0)).setCell ⟨g2, (m + k) * 4 + 3, none⟩ (.int .i64 0)).cell? ⟨bb, oo, none⟩ = some u := by
    intro bb oo u hu h1 h2
    exact stored_off (stored_off (stored_off (stored_off (stored_off hu (by omega)) (by omega)) (by omega)) (by omega)) (by omega)
  refine ⟨fun i hi => ⟨some_stored (some_stored (some_stored (some_stored (some_stored (a i hi).1)))), by simpa using (a i hi).2⟩, fun i hi => keep _ _ _ (z i hi) (.inr (by omega)) (.inl ne), fun i hi => ?_,
    fun i hi => ⟨some_stored (some_stored (some_stored (some_stored (some_stored (b i hi).1)))), by simpa using (b i hi).2⟩, fun i hi => ?_, fun i hi => ?_, ne⟩
  · by_cases e : i = k
    · subst e
      exact stored_off (stored_off (stored_off (stored_off (stored_at i0) (.inl (Ne.symm ne))) (.inl (Ne.symm ne))) (.inl (Ne.symm ne))) (.inl (Ne.symm ne))
    · exact keep _ _ _ (s i (by omega)) (.inr (by omega)) (.inl ne)
  · obtain ⟨r0, r1, r2, r3⟩ := r i hi
    exact ⟨keep _ _ _ r0 (.inl (Ne.symm ne)) (.inr (.inl (by omega))), keep _ _ _ r1 (.inl (Ne.symm ne)) (.inr (.inl (by omega))), keep _ _ _ r2 (.inl (Ne.symm ne)) (.inr (.inl (by omega))), keep _ _ _ r3 (.inl (Ne.symm ne)) (.inr (.inl (by omega)))⟩
  · by_cases e : i = k
    · subst e
      exact ⟨stored_off (stored_off (stored_off (stored_at (some_stored j0)) (.inr (by omega))) (.inr (by omega))) (.inr (by omega)),
        stored_off (stored_off (stored_at (some_stored (some_stored j1))) (.inr (by omega))) (.inr (by omega)), stored_off (stored_at (some_stored (some_stored (some_stored j2)))) (.inr (by omega)), stored_at (some_stored (some_stored (some_stored (some_stored j3))))⟩
    · obtain ⟨r0, r1, r2, r3⟩ := q i (by omega)
      exact ⟨keep _ _ _ r0 (.inl (Ne.symm ne)) (.inr (.inl (by omega))), keep _ _ _ r1 (.inl (Ne.symm ne)) (.inr (.inl (by omega))), keep _ _ _ r2 (.inl (Ne.symm ne)) (.inr (.inl (by omega))), keep _ _ _ r3 (.inl (Ne.symm ne)) (.inr (.inl (by omega)))⟩

theorem own_heap {w : World} {base e size g N cap : Nat} {xs : List Value} (h : w.ownsRow base e size (.slice (some ⟨g, 0, none⟩) N cap) N xs) : ∃ cur, w.heap[g]? = some (.cells cur e (0, 0)) ∧ cur.size = cap * size := by
  rcases h.2 with ⟨h1, -⟩ | ⟨g', cap', cur, e1, -, hh, -, -, hs, -⟩
  · cases h1
  · obtain ⟨rfl, rfl⟩ : g = g' ∧ cap = cap' := by simpa using e1
    exact ⟨cur, hh, hs⟩
theorem cell_heap {w : World} {g : Nat} {cs : Array Value} {t : TypeId} (h : w.heap[g]? = some (.cells cs t (0, 0))) (i : Nat) : w.cell? ⟨g, i, none⟩ = cs[i]? ∧ w.frozen? ⟨g, i, none⟩ = false := by
  constructor
  · unfold World.cell?; simp [h]
  · unfold World.frozen?; simp [h]
theorem mem_zero {x : World} {g1 g2 n m : Nat} {Z C A F T : Nat → Int} {D1 D2 : List Value} {t1 t2 : TypeId} (h1 : x.heap[g1]? = some (.cells (((List.range n).map fun i => Value.int .i64 (Z i)) ++ D1).toArray t1 (0, 0))) (l1 : D1.length = 3)
    (h2 : x.heap[g2]? = some (.cells (rainCells C A F T (List.range m) ++ D2).toArray t2 (0, 0))) (l2 : D2.length = 12) (ne : g1 ≠ g2) : MemS x g1 g2 n m Z C A F T 0 := by
  have rl := rainCells_len C A F T (List.range m)
  rw [List.length_range] at rl
  refine ⟨fun i hi => ⟨?_, (cell_heap h1 i).2⟩, fun i hi => ?_, fun i hi => absurd hi (Nat.not_lt_zero _), fun i hi => ⟨?_, (cell_heap h2 i).2⟩, fun i hi => ?_, fun i hi => absurd hi (Nat.not_lt_zero _), ne⟩
  · rw [(cell_heap h1 i).1, Array.getElem?_eq_getElem (by simp; omega)]; rfl
  · rw [(cell_heap h1 i).1, List.getElem?_toArray, List.getElem?_append_left (by simpa using hi), List.getElem?_map, List.getElem?_range hi]; rfl
  · rw [(cell_heap h2 i).1, Array.getElem?_eq_getElem (by simp; omega)]; rfl
  · obtain ⟨q0, q1, q2, q3⟩ := rainCells_at C A F T (List.range m) i (by simpa using hi)
    rw [at_range _ hi] at q0 q1 q2 q3
    rw [(cell_heap h2 _).1, (cell_heap h2 _).1, (cell_heap h2 _).1, (cell_heap h2 _).1]
    simp only [List.getElem?_toArray]
    rw [List.getElem?_append_left (by omega), List.getElem?_append_left (by omega), List.getElem?_append_left (by omega), List.getElem?_append_left (by omega)]
    exact ⟨q0, q1, q2, q3⟩

theorem eq_rain (c a f t : Int) (w : World) : (Op.equalIn 10000 29 (.agg #[.int .i64 c, .int .i64 a, .int .i64 f, .int .i64 t]) (.agg #[.int .i64 c, .int .i64 a, .int .i64 f, .int .i64 t])).run Try.prog w = .ok true w := by
  rw [run_equalIn_agg w 9999 _ _ _ (by kernel_rfl) (by kernel_rfl)]
  simp [go_sem]
theorem neq_rain (c a f t : Int) : ∀ w : World, (binOp .neq 29 (.agg #[.int .i64 c, .int .i64 a, .int .i64 f, .int .i64 t]) (.agg #[.int .i64 c, .int .i64 a, .int .i64 f, .int .i64 t])).run Try.prog w = .ok (.bool false) w := by
  intro w
  rw [run_neq_struct, eq_rain]; rfl
theorem bel_drewN {B : Nat} {a w : World} (h : Below B a w) (n : Nat) : Below B a (w.drewN n) := ⟨h.os, h.tape, h.output, h.size, h.block⟩
theorem some_none {a : Addr} {n : Nat} : (some a : Option Addr) = none → n = 0 := fun h => by cases h
theorem lit_three (w : World) (t : TypeId) : IntsAt (w.alloc (.cells #[.int .i64 (-7), .int .i64 (-7), .int .i64 (-7)] t)) (some ⟨w.heap.size, 0, none⟩) 3 (con (-7)) := by
  intro i hi
  refine ⟨_, 0, rfl, by simp, ?_⟩
  rw [World.cell?_alloc_new]
  rcases (show i = 0 ∨ i = 1 ∨ i = 2 by omega) with rfl | rfl | rfl <;> rfl
/-- what Fall leaves, whether it takes or refuses: a list of some length, a sky, an error. -/
def FallV (w : World) (len : Nat) (Y : Nat → Int) (S E : Int) (e : Ending) (w' : World) : Prop := ∃ L cap, e = .returned (.tuple #[.slice L len cap, .int .i64 S, .int .i64 E]) ∧ OwnAt w' w.heap.size w'.heap.size L len Y ∧ Below w.heap.size w w'
theorem fall_v (n : Nat) (Z : Nat → Int) (s : Int) (m : Nat) (C Am F T : Nat → Int) (st : Int) (hn : n * 8 ≤ 140737488351232) (hm9 : m ≤ 9223372036854775807) : ∃ (len : Nat) (Y : Nat → Int) (S E : Int), len ≤ n ∧
    ∀ (A : Option Addr) (cap : Nat) (R : Option Addr) (cap2 : Nat) (x : World), IntsAt x A n Z → (A = none → n = 0) → RainsAt x R m C Am F T →
      Calls Try.prog 12 #[.slice A n cap, .int .i64 s, .slice R m cap2, .int .i64 st] x fun e w' => FallV x len Y S E e w' := by
  cases hq : refuseB n Z s m C Am F T st with
  | true =>
    exact ⟨0, con 0, 0, 1, Nat.zero_le _, fun A cap R cap2 x hz _ hr => (fall_bad A n cap Z s R m cap2 C Am F T st x hn hm9 hz hr hq).mono fun e w' ⟨h1, h2⟩ => ⟨none, 0, h1, fun i hi => absurd hi (Nat.not_lt_zero _), h2⟩⟩
  | false =>
    exact ⟨n, _, _, 0, Nat.le_refl _, fun A cap R cap2 x hz hnil hr => (fall_ok A n cap Z s R m cap2 C Am F T st x hn hnil hz hr hq).mono fun e w' ⟨L, cap', h1, _, h3, h4⟩ => ⟨L, cap', h1, h3, h4⟩⟩
theorem MemS.rains {x : World} {g1 g2 n m : Nat} {Z C A F T : Nat → Int} {k : Nat} (h : MemS x g1 g2 n m Z C A F T k) (h2 : g2 < x.heap.size) : RainsAt x (some ⟨g2, 0, none⟩) m C A F T := fun i hi => by
  obtain ⟨r0, r1, r2, r3⟩ := h.r i hi
  exact ⟨g2, 0, rfl, h2, by rw [Nat.zero_add]; exact r0, by rw [Nat.zero_add]; exact r1, by rw [Nat.zero_add]; exact r2, by rw [Nat.zero_add]; exact r3⟩
theorem MemS.ints {x : World} {g1 g2 n m : Nat} {Z C A F T : Nat → Int} {k : Nat} (h : MemS x g1 g2 n m Z C A F T k) (h2 : g1 < x.heap.size) : IntsAt x (some ⟨g1, 0, none⟩) n Z := fun i hi => ⟨g1, 0, rfl, h2, by rw [Nat.zero_add]; exact h.z i hi⟩
theorem MemS.tail {x : World} {g1 g2 n m : Nat} {Z C A F T : Nat → Int} (h : MemS x g1 g2 n m Z C A F T 3) (h2 : g1 < x.heap.size) : IntsAt x (some ⟨g1, n, none⟩) 3 (con (-7)) := fun i hi => ⟨g1, n, rfl, h2, h.s i hi⟩
theorem MemS.below {x x' : World} {g1 g2 n m : Nat} {Z C A F T : Nat → Int} {k : Nat} (h : MemS x g1 g2 n m Z C A F T k) {lim : Nat} (hb : Below lim x x') (h1 : g1 < lim) (h2 : g2 < lim) : MemS x' g1 g2 n m Z C A F T k := by
  obtain ⟨a, z, s, b, r, q, ne⟩ := h
  have e1 : ∀ i, x'.cell? ⟨g1, i, none⟩ = x.cell? ⟨g1, i, none⟩ := fun i => hb.cell (p := ⟨g1, i, none⟩) h1
  have e2 : ∀ i, x'.cell? ⟨g2, i, none⟩ = x.cell? ⟨g2, i, none⟩ := fun i => hb.cell (p := ⟨g2, i, none⟩) h2
  have e3 : ∀ i, x'.frozen? ⟨g1, i, none⟩ = x.frozen? ⟨g1, i, none⟩ := fun i => hb.frozen (p := ⟨g1, i, none⟩) h1
  have e4 : ∀ i, x'.frozen? ⟨g2, i, none⟩ = x.frozen? ⟨g2, i, none⟩ := fun i => hb.frozen (p := ⟨g2, i, none⟩) h2
  exact ⟨fun i hi => by rw [e1, e3]; exact a i hi, fun i hi => by rw [e1]; exact z i hi, fun i hi => by rw [e1]; exact s i hi, fun i hi => by rw [e2, e4]; exact b i hi, fun i hi => by rw [e2, e2, e2, e2]; exact r i hi, fun i hi => by rw [e2, e2, e2, e2]; exact q i hi, ne⟩
end Go.Proofs.Ytbjkofjkpfgimaa
