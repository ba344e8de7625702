/- A weather opened: a struct of a slice of integers, an integer, a slice of rains, an integer; what the slices weigh. -/
import Derived.Test.YtbjkofjkpfgimaaOpenI
import Derived.Test.YtbjkofjkpfgimaaRainO
import Derived.SizedLaws
namespace TF
open Go Go.RowKit Go.ChangeShapes Go.WideShapes Go.Deep Go.Joins

section
variable {H : Type} {enc : TypeId × Value → H} {P : Program} {w : World} {base : Nat} {spare : Nat → Bool} {held : Bool}

/-- A struct by value: each field's cell, its reading, and its part of the datum. -/
theorem open_parts {r : Reach} {b0 : Nat} {t : TypeId} {fs : Array Field} {v : Value} {d : DataW H} {p : List MemPlace} (hs : P.underlying t = some (.struct fs)) (hone : oneCellFields P fs = true) (hC : P.cellsOf t = fs.size)
    (hv : Value.okWide P w r b0 t v) (h : DataW.Trod enc P w base spare held t v d p) :
    ∃ (cs : Array Value) (parts : List (DataW H)), v = .agg cs ∧ cs.size = fs.size ∧ d = .agg parts ∧ ∀ (j : Nat) (f : Field), fs[j]? = some f → ∃ (u : Value) (n : Nat) (y : DataW H × List MemPlace), cs[j]? = some u ∧ DataW.trod enc P w base spare held n f.type [u] = some y ∧ parts[j]? = some y.1 := by
  obtain ⟨cs, rfl, hsz⟩ := okWide_struct hs hv
  rw [hC] at hsz
  obtain ⟨fuel, hf⟩ := h
  obtain ⟨xs, n, _, hx, _, hlen, hg⟩ := DataW.trod_struct hs hf
  refine ⟨cs, xs.map (·.1), rfl, hsz, (Prod.mk.inj hx).1, fun j f hj => ?_⟩
  obtain ⟨ho, hk⟩ := hone_of hone j f hj
  have hjl : j < fs.size := (Array.getElem?_eq_some_iff.1 hj).1
  have h1 := hg j f hj
  have hcl : (Value.agg cs).cells.toList = cs.toList := rfl
  rw [ho, hk, hcl, show (cs.toList.drop j).take 1 = [cs.toList[j]'(by simp; omega)] from by rw [List.drop_eq_getElem_cons (by simp; omega)]; rfl, List.getElem?_eq_getElem (by omega)] at h1
  exact ⟨_, n, _, by rw [Array.getElem?_eq_getElem (by omega)]; simp, h1, by rw [List.getElem?_map, List.getElem?_eq_getElem (by omega)]; rfl⟩

/-- what a part of a struct among the arguments weighs. -/
theorem sized_part {ts : List TypeId} {ds : List (DataW H)} (h : (DataW.weightsEach P ts ds).all (· ≤ reachBytes) = true) {j i : Nat} {t u e : TypeId} {fs : Array Field} {f : Field} {parts : List (DataW H)} {elems rest : List (DataW H)}
    (ht : ts[j]? = some t) (hd : ds[j]? = some (.agg parts)) (hs : P.underlying t = some (.struct fs)) (hf : fs[i]? = some f) (hft : f.type = u) (hp : parts[i]? = some (.slice elems rest)) (hu : P.underlying u = some (.slice e)) :
    (elems.length + rest.length) * P.bytesOf e ≤ reachBytes := by
  have h1 : (elems.length + rest.length) * P.bytesOf e ∈ DataW.weightsEach P (fs.toList.map (·.type)) parts :=
    DataW.weights_mem_each (t := u) (by rw [List.getElem?_map, Array.getElem?_toList, hf]; simp [hft]) hp _ (by simp [DataW.weights, hu])
  have h2 := List.all_eq_true.1 h _ (DataW.weights_mem_each ht hd ((elems.length + rest.length) * P.bytesOf e) (by simp only [DataW.weights, hs]; exact h1))
  simpa using h2

/-- A slice of one-cell elements, with its datum. -/
theorem slice_cells {t e : TypeId} {fuel : Nat} {v : Value} {x : DataW H × List MemPlace} (ht : P.underlying t = some (.slice e)) (hC : P.cellsOf e = 1) (h : DataW.trod enc P w base spare held fuel t [v] = some x) :
    (v = .slice none 0 0 ∧ x.1 = .nil) ∨ ∃ (a : Addr) (len cap : Nat) (el rest : List (DataW H)), v = .slice (some a) len cap ∧ x.1 = .slice el rest ∧ el.length = len ∧ len ≤ cap ∧ cap ≤ maxLen ∧ ∀ i, i < len → ∃ (b off : Nat), a = ⟨b, off, none⟩ ∧
      ∃ (u : Value) (n : Nat) (y : DataW H × List MemPlace), w.cell? ⟨b, off + i, none⟩ = some u ∧ DataW.trod enc P w base spare held n e [u] = some y := by
  rcases open_slice1 ht hC h with ⟨hcs, hx⟩ | ⟨a, len, cap, m, n, Vv, D, Pl, hcs, _, hl, hm, hmm, hx, hi⟩
  · simp only [List.cons.injEq, and_true] at hcs
    exact .inl ⟨hcs, by rw [hx]⟩
  · simp only [List.cons.injEq, and_true] at hcs
    have hle : len ≤ m := by rw [hmm]; split <;> omega
    refine .inr ⟨a, len, cap, _, _, hcs, by rw [hx], by simp, hl, hm, fun i hil => ?_⟩
    obtain ⟨hu, _⟩ := hi 0 (by omega)
    have hadd : a.add 0 = a := by unfold Addr.add; simp
    rw [hadd] at hu
    obtain ⟨b, off, rfl⟩ := flat_of_cell hu
    obtain ⟨hc, hy⟩ := hi i (by omega)
    rw [add_flat] at hc
    exact ⟨b, off, rfl, _, n, _, hc, hy⟩

/-- What is known of a weather. -/
structure WeatherAt (w : World) (A : Option Addr) (n cap : Nat) (Z : Nat → Int) (s : Int) (R : Option Addr) (m cap2 : Nat) (C F₁ F₂ F₃ : Nat → Int) (st : Int) : Prop where
  n8 : n * 8 ≤ 140737488351232
  m9 : m ≤ 9223372036854775807
  hnil : A = none → n = 0 ∧ cap = 0
  ncap : n ≤ cap
  mcap : m ≤ cap2
  c9 : cap ≤ 9223372036854775807
  c29 : cap2 ≤ 9223372036854775807
  hz : IntsAt w A n Z
  hr : RainsAt w R m C F₁ F₂ F₃
  wz : ∀ i, i < n → (Lit.int .i64 (Z i)).wf = true
  ws : (Lit.int .i64 s).wf = true
  wr : ∀ i, i < m → (Lit.int .i64 (C i)).wf = true ∧ (Lit.int .i64 (F₁ i)).wf = true ∧ (Lit.int .i64 (F₂ i)).wf = true ∧ (Lit.int .i64 (F₃ i)).wf = true
  wst : (Lit.int .i64 st).wf = true

theorem open_weather {r : Reach} {b0 : Nat} {t tI tR eI eR : TypeId} {f0 f1 f2 f3 g0 g1 g2 g3 : Field} {v : Value} {d : DataW H} {p : List MemPlace} {ts : List TypeId} {ds : List (DataW H)}
    (hs : P.underlying t = some (.struct #[f0, f1, f2, f3])) (hone : oneCellFields P #[f0, f1, f2, f3] = true) (hC : P.cellsOf t = 4)
    (t0 : f0.type = tI) (t1 : P.underlying f1.type = some (.int .i64)) (t2 : f2.type = tR) (t3 : P.underlying f3.type = some (.int .i64))
    (hI : P.underlying tI = some (.slice eI)) (heI : P.underlying eI = some (.int .i64)) (hcI : P.cellsOf eI = 1) (hbI : P.bytesOf eI = 8)
    (hR : P.underlying tR = some (.slice eR)) (heR : P.underlying eR = some (.struct #[g0, g1, g2, g3])) (honeR : oneCellFields P #[g0, g1, g2, g3] = true) (hcR : P.cellsOf eR = 4)
    (u0 : P.underlying g0.type = some (.int .i64)) (u1 : P.underlying g1.type = some (.int .i64)) (u2 : P.underlying g2.type = some (.int .i64)) (u3 : P.underlying g3.type = some (.int .i64))
    (hv : Value.okWide P w r b0 t v) (h : DataW.Trod enc P w base spare held t v d p) (hsz : (DataW.weightsEach P ts ds).all (· ≤ reachBytes) = true) (ht : ts[0]? = some t) (hd : ds[0]? = some d) :
    ∃ A n cap Z s R m cap2 C F₁ F₂ F₃ st, v = .agg #[.slice A n cap, .int .i64 s, .slice R m cap2, .int .i64 st] ∧ WeatherAt w A n cap Z s R m cap2 C F₁ F₂ F₃ st := by
  obtain ⟨cs, parts, rfl, hcs, rfl, hf⟩ := open_parts hs hone (by simpa using hC) hv h
  obtain ⟨c0, n0, y0, e0, k0, q0⟩ := hf 0 f0 rfl
  obtain ⟨c1, n1, y1, e1, k1, q1⟩ := hf 1 f1 rfl
  obtain ⟨c2, n2, y2, e2, k2, q2⟩ := hf 2 f2 rfl
  obtain ⟨c3, n3, y3, e3, k3, q3⟩ := hf 3 f3 rfl
  have hcs4 : cs = #[c0, c1, c2, c3] := by
    obtain ⟨l⟩ := cs
    match l, hcs with
    | [a, b, c, d], _ =>
      simp at e0 e1 e2 e3
      subst e0 e1 e2 e3
      rfl
  obtain ⟨s, rfl, ws⟩ := int_cell t1 k1
  obtain ⟨st, rfl, wst⟩ := int_cell t3 k3
  rw [t0] at k0
  rw [t2] at k2
  obtain ⟨R, m, cap2, rfl, mc, cm, hRi⟩ := fields_of_slice hR heR honeR (by simpa using hcR) (by simp) k2
  obtain ⟨rs, hrs⟩ := choose_lt (α := Int × Int × Int × Int) (p := fun i q => (∃ b off, R = some ⟨b, off, none⟩ ∧ b < w.heap.size ∧ w.cell? ⟨b, off + i * 4, none⟩ = some (.int .i64 q.1) ∧ w.cell? ⟨b, off + i * 4 + 1, none⟩ = some (.int .i64 q.2.1) ∧ w.cell? ⟨b, off + i * 4 + 2, none⟩ = some (.int .i64 q.2.2.1) ∧ w.cell? ⟨b, off + i * 4 + 3, none⟩ = some (.int .i64 q.2.2.2)) ∧ (Lit.int .i64 q.1).wf = true ∧ (Lit.int .i64 q.2.1).wf = true ∧ (Lit.int .i64 q.2.2.1).wf = true ∧ (Lit.int .i64 q.2.2.2).wf = true) (n := m) (fun i hil => by
    obtain ⟨b, off, hA, hfs⟩ := hRi i hil
    obtain ⟨x0, m0, z0, hc0, hy0⟩ := hfs 0 g0 rfl
    obtain ⟨x1, m1, z1, hc1, hy1⟩ := hfs 1 g1 rfl
    obtain ⟨x2, m2, z2, hc2, hy2⟩ := hfs 2 g2 rfl
    obtain ⟨x3, m3, z3, hc3, hy3⟩ := hfs 3 g3 rfl
    obtain ⟨x0, rfl, hw0⟩ := int_cell u0 hy0
    obtain ⟨x1, rfl, hw1⟩ := int_cell u1 hy1
    obtain ⟨x2, rfl, hw2⟩ := int_cell u2 hy2
    obtain ⟨x3, rfl, hw3⟩ := int_cell u3 hy3
    exact ⟨(x0, x1, x2, x3), ⟨b, off, hA, lt_of_cell hc0, hc0, hc1, hc2, hc3⟩, hw0, hw1, hw2, hw3⟩)
  have hcm : cap2 ≤ 9223372036854775807 := by unfold maxLen at cm; omega
  rcases slice_cells hI hcI k0 with ⟨rfl, hx⟩ | ⟨a, n, cap, el, rest, rfl, hx, hel, hnc, hcap, hi⟩
  · exact ⟨none, 0, 0, fun _ => 0, s, R, m, cap2, fun i => (rs i).1, fun i => (rs i).2.1, fun i => (rs i).2.2.1, fun i => (rs i).2.2.2, st, by rw [hcs4],
      ⟨by omega, by omega, fun _ => ⟨rfl, rfl⟩, Nat.le_refl _, mc, by omega, hcm, fun i hi => absurd hi (Nat.not_lt_zero _), fun i hi => (hrs i hi).1, fun i hi => absurd hi (Nat.not_lt_zero _), ws, fun i hi => (hrs i hi).2, wst⟩⟩
  · have hw := sized_part (i := 0) (f := f0) hsz ht hd hs rfl t0 (by rw [q0, hx]) hI
    rw [hbI, hel] at hw
    obtain ⟨zs, hzs⟩ := choose_lt (α := Int) (p := fun i q => (∃ b off, some a = some ⟨b, off, none⟩ ∧ b < w.heap.size ∧ w.cell? ⟨b, off + i, none⟩ = some (.int .i64 q)) ∧ (Lit.int .i64 q).wf = true) (n := n) (fun i hil => by
      obtain ⟨b, off, rfl, u, m0, z0, hc, hy⟩ := hi i hil
      obtain ⟨x, rfl, hw⟩ := int_cell heI hy
      exact ⟨x, ⟨b, off, rfl, lt_of_cell hc, hc⟩, hw⟩)
    exact ⟨some a, n, cap, zs, s, R, m, cap2, fun i => (rs i).1, fun i => (rs i).2.1, fun i => (rs i).2.2.1, fun i => (rs i).2.2.2, st, by rw [hcs4],
      ⟨by unfold reachBytes at hw; omega, by omega, fun h => (by cases h), hnc, mc, (by unfold maxLen at hcap; omega), hcm, fun i hi => (hzs i hi).1, fun i hi => (hrs i hi).1, fun i hi => (hzs i hi).2, ws, fun i hi => (hrs i hi).2, wst⟩⟩
end
end TF
