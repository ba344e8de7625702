/- The reference's Beside. -/
import Derived.Test.YtbfbafoeifigfaaDoorRefTu
import Derived.Deep.RegionHeld3
namespace Go.Proofs.YtbfbafoeifigfaaDoor
open Go.RowKit TF

theorem PI_i1 {n i j : Int} {f : Nat} (h : On n f i j) (s : Nat) : I3 1001 (PI n f s i j 0) (PI n f s i j 1) (PI n f s i j 2) := by
  have h1 := h.n1; have h2 := h.n32; have h3 := h.i0; have h4 := h.i1; have h5 := h.j0; have h6 := h.j1
  exact ⟨PI_in h.f6 h1 h2 (by omega) (by omega) (by omega) (by omega) 0 (by omega), PI_in h.f6 h1 h2 (by omega) (by omega) (by omega) (by omega) 1 (by omega), PI_in h.f6 h1 h2 (by omega) (by omega) (by omega) (by omega) 2 (by omega)⟩
theorem WO_0 (f s : Nat) : WO f s 0 = OU s (FR f 3) (FR f 6) := rfl
theorem frame_sq : ∀ g < 6, FR g 3 * FR g 3 + FR g 4 * FR g 4 + FR g 5 * FR g 5 = 1 ∧ FR g 6 * FR g 6 + FR g 7 * FR g 7 + FR g 8 * FR g 8 = 1 ∧ FR g 3 * FR g 6 + FR g 4 * FR g 7 + FR g 5 * FR g 8 = 0 := by decide
/-- What would have it as side k: its middle, seen from the face. -/
theorem seen_at {g k : Nat} (hg : g < 6) (hk : k < 4) (P0 P1 P2 : Int) :
    (P0 - WO g k 0) * FR g 3 + (P1 - WO g k 1) * FR g 4 + (P2 - WO g k 2) * FR g 5 = (P0 * FR g 3 + P1 * FR g 4 + P2 * FR g 5) - DX k ∧
    (P0 - WO g k 0) * FR g 6 + (P1 - WO g k 1) * FR g 7 + (P2 - WO g k 2) * FR g 8 = (P0 * FR g 6 + P1 * FR g 7 + P2 * FR g 8) - DY k := by
  obtain ⟨a, b, c⟩ := frame_sq g hg
  rcases four hk with rfl | rfl | rfl | rfl <;>
  · simp [WO, OU, DX, DY]
    constructor <;> grind
/-- What the search finds on face g, by the way k. -/
structure SeeAt (n : Int) (g : Nat) (c : Int) (I J : Int) (G : Nat → Prop) : Prop where
  dummy : True
/-- The search's outcomes on a face: nothing at all; or d at way k first. -/
def NoneOn (n : Int) (g : Nat) (c E F : Int) (m : Nat) : Prop := ∀ k < m, Skip n g c (E - DX k) (F - DY k)

theorem Skip.cases {n : Int} {g : Nat} {c a b : Int} (h : Skip n g c a b) : (a.tmod 2 != 0) = true ∨ ((a.tmod 2 != 0) = false ∧ (b.tmod 2 != 0) = false ∧ (cellI n g (a.tdiv 2) (b.tdiv 2) = -1 ∨ cellI n g (a.tdiv 2) (b.tdiv 2) = c)) := by
  rcases h with h | ⟨h, h2, h3⟩
  · left; simpa using h
  · right; exact ⟨by simpa using h, by simpa using h2, h3⟩
/-- On its own face, not at the edge: the way back first. -/
theorem near_own {n : Int} {f s : Nat} {i j : Int} (h : On n f i j) (hs : s < 4) (ho : offI n s i j ≠ n - 1) :
    NoneOn n f (cellN n f i j) (SI n f s i j f 3 + n - 1) (SI n f s i j f 6 + n - 1) ((s + 2) % 4) ∧ Hit n f (cellN n f i j) (SI n f s i j f 3 + n - 1 - DX ((s + 2) % 4)) (SI n f s i j f 6 + n - 1 - DY ((s + 2) % 4)) (cellN n f (i + DX s) (j + DY s)) := by
  obtain ⟨a, b⟩ := side_own h hs
  obtain ⟨o0, o1, -⟩ := h.off hs
  obtain ⟨-, -, hn⟩ := step_near h hs (by omega)
  have hm : (s + 2) % 4 < 4 := by omega
  rw [a, b]
  constructor
  · intro k hk
    rcases TF.look h hs (k := k) (by omega) rfl rfl (cellN n f i j) with ⟨e, e1, e2, e3⟩ | ⟨e, -⟩ | ⟨-, -, e⟩
    · exact .inr ⟨e1, e2, .inr e3⟩
    · omega
    · exact e
  · rcases TF.look h hs hm rfl rfl (cellN n f i j) with ⟨e, -⟩ | ⟨e, e1, e2, e3⟩ | ⟨-, e, -⟩
    · omega
    · refine ⟨e1, e2, by rw [e3, hn.cell], (hn.bound).1, fun q => ?_⟩
      obtain ⟨-, q1, q2⟩ := cellN_inj hn h q
      have : DX s = 0 ∧ DY s = 0 := ⟨by omega, by omega⟩
      rcases TF.ways hs with ⟨_, _, _, x, y⟩ | ⟨_, _, _, x, y⟩ | ⟨_, _, _, x, y⟩ | ⟨_, _, _, x, y⟩ <;> omega
    · exact absurd rfl e
/-- On its own face, at the edge: nothing. -/
theorem edge_own {n : Int} {f s : Nat} {i j : Int} (h : On n f i j) (hs : s < 4) (ho : offI n s i j = n - 1) : NoneOn n f (cellN n f i j) (SI n f s i j f 3 + n - 1) (SI n f s i j f 6 + n - 1) 4 := by
  obtain ⟨a, b⟩ := side_own h hs
  have hx := step_out h hs ho
  rw [a, b]
  intro k hk
  rcases TF.look h hs hk rfl rfl (cellN n f i j) with ⟨e, e1, e2, e3⟩ | ⟨e, e1, e2, e3⟩ | ⟨-, -, e⟩
  · exact .inr ⟨e1, e2, .inr e3⟩
  · exact .inr ⟨e1, e2, .inl (e3.trans hx)⟩
  · exact e
/-- Over there: the side that lies there. -/
theorem edge_over {n : Int} {f s : Nat} {i j : Int} (h : On n f i j) (hs : s < 4) (ho : offI n s i j = n - 1) :
    NoneOn n (nbF f s) (cellN n f i j) (SI n f s i j (nbF f s) 3 + n - 1) (SI n f s i j (nbF f s) 6 + n - 1) (nbB f s) ∧ Hit n (nbF f s) (cellN n f i j) (SI n f s i j (nbF f s) 3 + n - 1 - DX (nbB f s)) (SI n f s i j (nbF f s) 6 + n - 1 - DY (nbB f s)) (cellN n (nbF f s) (posX n (nbS f s) (laneI n s i j) 0) (posY n (nbS f s) (laneI n s i j) 0)) := by
  obtain ⟨a, b⟩ := side_over h hs ho
  obtain ⟨g1, g2, g3, -⟩ := nb_fact f h.f6 s hs
  obtain ⟨o0, o1, l0, l1⟩ := h.off hs
  have h1 := h.n1
  have hN : On n (nbF f s) (posX n (nbS f s) (laneI n s i j) 0) (posY n (nbS f s) (laneI n s i j) 0) := on_pos g2 g1 h.n1 h.n32 l0 l1 (by omega) (by omega)
  have hx : cellI n (nbF f s) (posX n (nbS f s) (laneI n s i j) 0 + DX (nbB f s)) (posY n (nbS f s) (laneI n s i j) 0 + DY (nbB f s)) = -1 := by
    refine step_out hN g3 ?_
    have e1 := (off_pos (n := n) g2 (laneI n s i j) 0).1
    have hb : nbB f s = (nbS f s + 2) % 4 := rfl
    rw [hb]
    revert e1
    generalize nbS f s = z at g2
    generalize posX n z (laneI n s i j) 0 = x
    generalize posY n z (laneI n s i j) 0 = y
    intro e1
    rcases four g2 with rfl | rfl | rfl | rfl <;> (simp [offI] at e1 ⊢; omega)
  rw [a, b]
  constructor
  · intro k hk
    rcases TF.look hN g3 (k := k) (by omega) rfl rfl (cellN n f i j) with ⟨e, -⟩ | ⟨e, e1, e2, e3⟩ | ⟨-, -, e⟩
    · omega
    · exact .inr ⟨e1, e2, .inl (e3.trans hx)⟩
    · exact e
  · rcases TF.look hN g3 g3 rfl rfl (cellN n f i j) with ⟨e, e1, e2, e3⟩ | ⟨e, -⟩ | ⟨e, -, -⟩
    · refine ⟨e1, e2, e3, (hN.bound).1, fun q => ?_⟩
      exact nb_ne f h.f6 s hs (cellN_inj hN h q).1
    · omega
    · exact absurd rfl e
/-- The whole search: up to face G nothing, there at way K the cell D. -/
theorem search {n : Int} {f s : Nat} {i j : Int} (h : On n f i j) (hs : s < 4) : ∃ G K : Nat, G < 6 ∧ K < 4 ∧ G = bF n f s i j ∧ K = bS n f s i j ∧
    (∀ g < 6, g < G → SI n f s i j g 0 ≠ n ∨ (SI n f s i j g 0 = n ∧ NoneOn n g (cellN n f i j) (SI n f s i j g 3 + n - 1) (SI n f s i j g 6 + n - 1) 4)) ∧
    SI n f s i j G 0 = n ∧ NoneOn n G (cellN n f i j) (SI n f s i j G 3 + n - 1) (SI n f s i j G 6 + n - 1) K ∧
    Hit n G (cellN n f i j) (SI n f s i j G 3 + n - 1 - DX K) (SI n f s i j G 6 + n - 1 - DY K) (cellN n (bF n f s i j) (bX n f s i j) (bY n f s i j)) := by
  obtain ⟨g1, g2, g3, -⟩ := nb_fact f h.f6 s hs
  by_cases ho : offI n s i j = n - 1
  · obtain ⟨a, b⟩ := edge_over h hs ho
    refine ⟨nbF f s, nbB f s, g1, g3, by unfold bF; rw [if_pos ho], by unfold bS; rw [if_pos ho], fun g hg hlt => ?_, (side_face h hs g1).2 (.inr ⟨rfl, ho⟩), a, by unfold bF bX bY; rw [if_pos ho, if_pos ho, if_pos ho]; exact b⟩
    by_cases e : SI n f s i j g 0 = n
    · right
      refine ⟨e, ?_⟩
      rcases (side_face h hs hg).1 e with rfl | ⟨x, -⟩
      · exact edge_own h hs ho
      · omega
    · exact .inl e
  · obtain ⟨a, b⟩ := near_own h hs ho
    refine ⟨f, (s + 2) % 4, h.f6, by omega, by unfold bF; rw [if_neg ho], by unfold bS; rw [if_neg ho], fun g hg hlt => .inl fun e => ?_, (side_face h hs h.f6).2 (.inl rfl), a, by unfold bF bX bY; rw [if_neg ho, if_neg ho, if_neg ho]; exact b⟩
    rcases (side_face h hs hg).1 e with x | ⟨-, x⟩
    · omega
    · exact ho x
end Go.Proofs.YtbfbafoeifigfaaDoor
