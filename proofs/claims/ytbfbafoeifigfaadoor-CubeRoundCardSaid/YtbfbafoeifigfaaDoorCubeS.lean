/- Straight on round the cube. -/
import Derived.Test.YtbfbafoeifigfaaDoorCubeQ
namespace TF
open Go Go.RowKit
def Q.st (n : Int) (q : Q) : Q := ⟨nF n q.f q.w q.o, nW n q.f q.w q.o, q.l, nO n q.o⟩
def Q.go (n : Int) (q : Q) : Nat → Q
  | 0 => q
  | k + 1 => (q.go n k).st n
theorem Q.is_go {n : Int} {q : Q} (h : q.Is n) (k : Nat) : (q.go n k).Is n := by
  induction k with
  | zero => exact h
  | succ k ih => exact OnW.next ih
/-- The faces in turn. -/
def fI (f w : Nat) : Nat → Nat × Nat
  | 0 => (f, w)
  | k + 1 => (nbF (fI f w k).1 (fI f w k).2, nbS (fI f w k).1 (fI f w k).2)
theorem fI_four : ∀ f < 6, ∀ w < 4, fI f w 4 = (f, w) ∧ (∀ k < 4, ∀ m < 4, (fI f w k).1 = (fI f w m).1 → k = m) ∧ ∀ k < 5, (fI f w k).1 < 6 := by decide
/-- After k steps. -/
theorem go_at {n : Int} {f w : Nat} {l o : Int} (h : OnW n f w l o) (k : Nat) :
    ∃ m : Nat, (n * m ≤ o + k) ∧ (o + k < n * m + n) ∧ (Q.mk f w l o).go n k = ⟨(fI f w m).1, (fI f w m).2, l, o + k - n * m⟩ := by
  have h1 := h.n1; have h3 := h.o0; have h4 := h.o1
  induction k with
  | zero => exact ⟨0, by simp; omega, by simp; omega, by simp [Q.go, fI]⟩
  | succ k ih =>
    obtain ⟨m, i1, i2, i3⟩ := ih
    have e : (Q.mk f w l o).go n (k + 1) = ((Q.mk f w l o).go n k).st n := rfl
    rw [e, i3]
    have hx : n * ((m + 1 : Nat) : Int) = n * m + n := by rw [Int.natCast_add, Int.mul_add]; simp
    by_cases hl : o + k - n * m = n - 1
    · refine ⟨m + 1, by omega, by omega, ?_⟩
      simp only [Q.st, nF, nW, nO, hl, if_true, fI]
      congr 1
      omega
    · refine ⟨m, by omega, by omega, ?_⟩
      simp only [Q.st, nF, nW, nO, hl, if_false]
      congr 1
      omega
/-- How often a face was walked. -/
def cntQ (n : Int) (q : Q) (g : Nat) : Nat → Int
  | 0 => 0
  | k + 1 => cntQ n q g k + if (q.go n k).f = g then 1 else 0
theorem cntQ_le (n : Int) (q : Q) (g k : Nat) : 0 ≤ cntQ n q g k ∧ cntQ n q g k ≤ k := by
  induction k with
  | zero => exact ⟨Int.le_refl _, Int.le_refl _⟩
  | succ k ih => unfold cntQ; split <;> omega
theorem m_of {n x : Int} {m : Nat} (h1 : 1 ≤ n) (h2 : n * m ≤ x) (h3 : x < 5 * n) : m < 5 := by
  by_cases h : m < 5
  · exact h
  · have := Int.mul_le_mul_of_nonneg_left (show (5 : Int) ≤ (m : Int) by omega) (show 0 ≤ n by omega)
    omega
def clQ (n x : Int) : Int := max 0 (min x n)
theorem clQ_same {n x : Int} (h : x + 1 ≤ 0 ∨ n ≤ x) : clQ n (x + 1) = clQ n x := by unfold clQ; omega
theorem clQ_more {n x : Int} (h0 : 0 ≤ x) (h1 : x < n) : clQ n (x + 1) = clQ n x + 1 := by unfold clQ; omega
def ind (b : Prop) [Decidable b] (x : Int) : Int := if b then x else 0
theorem ind_more (b : Prop) [Decidable b] (x : Int) : ind b (x + 1) = ind b x + ind b 1 := by unfold ind; split <;> rfl
theorem cnt_eq {n : Int} {f w : Nat} {l o : Int} (h : OnW n f w l o) (g : Nat) (k : Nat) (hk : (k : Int) ≤ 4 * n) :
    cntQ n ⟨f, w, l, o⟩ g k = ind ((fI f w 0).1 = g) (clQ n (o + k)) - ind ((fI f w 0).1 = g) o + ind ((fI f w 1).1 = g) (clQ n (o + k - n)) + ind ((fI f w 2).1 = g) (clQ n (o + k - 2 * n)) + ind ((fI f w 3).1 = g) (clQ n (o + k - 3 * n)) + ind ((fI f w 4).1 = g) (clQ n (o + k - 4 * n)) := by
  have h1 := h.n1; have h3 := h.o0; have h4 := h.o1
  induction k with
  | zero =>
    have c0 : clQ n (o + (0 : Nat)) = o := by unfold clQ; omega
    have c1 : clQ n (o + (0 : Nat) - n) = 0 := by unfold clQ; omega
    have c2 : clQ n (o + (0 : Nat) - 2 * n) = 0 := by unfold clQ; omega
    have c3 : clQ n (o + (0 : Nat) - 3 * n) = 0 := by unfold clQ; omega
    have c4 : clQ n (o + (0 : Nat) - 4 * n) = 0 := by unfold clQ; omega
    rw [c0, c1, c2, c3, c4]
    simp [cntQ, ind]
  | succ k ih =>
    have ih := ih (by omega)
    obtain ⟨m, i1, i2, i3⟩ := go_at h k
    have hm := m_of h1 i1 (by omega)
    have e0 : o + ((k + 1 : Nat) : Int) = o + k + 1 := by omega
    have e1 : o + (k : Int) + 1 - n = o + k - n + 1 := by omega
    have e2 : o + (k : Int) + 1 - 2 * n = o + k - 2 * n + 1 := by omega
    have e3 : o + (k : Int) + 1 - 3 * n = o + k - 3 * n + 1 := by omega
    have e4 : o + (k : Int) + 1 - 4 * n = o + k - 4 * n + 1 := by omega
    have hs : cntQ n ⟨f, w, l, o⟩ g (k + 1) = cntQ n ⟨f, w, l, o⟩ g k + ind ((fI f w m).1 = g) 1 := by
      unfold ind
      show cntQ n ⟨f, w, l, o⟩ g k + (if ((Q.mk f w l o).go n k).f = g then 1 else 0) = _
      rw [i3]
    rw [hs, ih, e0, e1, e2, e3, e4]
    obtain rfl | rfl | rfl | rfl | rfl : m = 0 ∨ m = 1 ∨ m = 2 ∨ m = 3 ∨ m = 4 := by omega
    · rw [clQ_more (x := o + k) (by omega) (by omega), clQ_same (x := o + k - n) (by omega), clQ_same (x := o + k - 2 * n) (by omega), clQ_same (x := o + k - 3 * n) (by omega), clQ_same (x := o + k - 4 * n) (by omega), ind_more]; omega
    · rw [clQ_same (x := o + k) (by omega), clQ_more (x := o + k - n) (by omega) (by omega), clQ_same (x := o + k - 2 * n) (by omega), clQ_same (x := o + k - 3 * n) (by omega), clQ_same (x := o + k - 4 * n) (by omega), ind_more]; omega
    · rw [clQ_same (x := o + k) (by omega), clQ_same (x := o + k - n) (by omega), clQ_more (x := o + k - 2 * n) (by omega) (by omega), clQ_same (x := o + k - 3 * n) (by omega), clQ_same (x := o + k - 4 * n) (by omega), ind_more]; omega
    · rw [clQ_same (x := o + k) (by omega), clQ_same (x := o + k - n) (by omega), clQ_same (x := o + k - 2 * n) (by omega), clQ_more (x := o + k - 3 * n) (by omega) (by omega), clQ_same (x := o + k - 4 * n) (by omega), ind_more]; omega
    · rw [clQ_same (x := o + k) (by omega), clQ_same (x := o + k - n) (by omega), clQ_same (x := o + k - 2 * n) (by omega), clQ_same (x := o + k - 3 * n) (by omega), clQ_more (x := o + k - 4 * n) (by omega) (by omega), ind_more]; omega
def four' (f w g : Nat) : Bool := decide ((fI f w 0).1 = g) || decide ((fI f w 1).1 = g) || decide ((fI f w 2).1 = g) || decide ((fI f w 3).1 = g)
def cntF (f w : Nat) : Nat → Nat
  | 0 => 0
  | k + 1 => cntF f w k + if four' f w k = true then 1 else 0
theorem cntF_six : ∀ f < 6, ∀ w < 4, cntF f w 6 = 4 := by decide
theorem cntF_le (f w k : Nat) : cntF f w k ≤ k := by
  induction k with
  | zero => exact Nat.le_refl _
  | succ k ih => unfold cntF; split <;> omega
theorem fI_one : ∀ f < 6, ∀ w < 4, ∀ g < 6, ((if (fI f w 0).1 = g then 1 else 0) + (if (fI f w 1).1 = g then 1 else 0) + (if (fI f w 2).1 = g then 1 else 0) + (if (fI f w 3).1 = g then 1 else 0) : Nat) = (if four' f w g = true then 1 else 0) := by decide
/-- All told: n on each of four faces. -/
theorem cnt_all {n : Int} {f w : Nat} {l o : Int} (h : OnW n f w l o) {g N : Nat} (hg : g < 6) (hN : (N : Int) = 4 * n) : cntQ n ⟨f, w, l, o⟩ g N = if four' f w g = true then n else 0 := by
  have h1 := h.n1; have h3 := h.o0; have h4 := h.o1
  have hf := (fI_four f h.f6 w h.w4).1
  have e := cnt_eq h g N (by omega)
  have one := fI_one f h.f6 w h.w4 g hg
  have c0 : clQ n (o + N) = n := by unfold clQ; omega
  have c1 : clQ n (o + N - n) = n := by unfold clQ; omega
  have c2 : clQ n (o + N - 2 * n) = n := by unfold clQ; omega
  have c3 : clQ n (o + N - 3 * n) = n := by unfold clQ; omega
  have c4 : clQ n (o + N - 4 * n) = o := by unfold clQ; omega
  have f4 : (fI f w 4).1 = (fI f w 0).1 := by rw [hf]; rfl
  rw [e, c0, c1, c2, c3, c4, f4]
  unfold ind
  split at one <;> split at one <;> split at one <;> split at one <;> split at one <;> first | (exfalso; omega) | (simp [*] <;> omega)
/-- No sooner back. -/
theorem go_off {n : Int} {f w : Nat} {l o : Int} (h : OnW n f w l o) {k : Nat} (h0 : 0 < k) (hk : (k : Int) < 4 * n) : ((Q.mk f w l o).go n k).cell n ≠ cW n f w l o := by
  have h1 := h.n1; have h3 := h.o0; have h4 := h.o1
  have hi := Q.is_go (q := ⟨f, w, l, o⟩) h k
  obtain ⟨m, i1, i2, i3⟩ := go_at h k
  have hm := m_of h1 i1 (by omega)
  obtain ⟨f4, fi, -⟩ := fI_four f h.f6 w h.w4
  rw [i3] at hi ⊢
  by_cases h04 : m = 0 ∨ m = 4
  · intro e
    have e1 : (fI f w m).1 = f ∧ (fI f w m).2 = w := by
      rcases h04 with rfl | rfl
      · exact ⟨rfl, rfl⟩
      · rw [f4]; exact ⟨rfl, rfl⟩
    have e' : cW n (fI f w m).1 (fI f w m).2 l (o + k - n * m) = cW n f w l o := e
    have hi' : OnW n (fI f w m).1 (fI f w m).2 l (o + k - n * m) := hi
    rw [e1.1, e1.2] at e' hi'
    have := (cW_inj h hi' e').2
    rcases h04 with rfl | rfl <;> omega
  · refine cW_face h hi (fun e => ?_)
    have := fi m (by omega) 0 (by omega) e
    omega
/-- After all: back. -/
theorem go_back {n : Int} {f w : Nat} {l o : Int} (h : OnW n f w l o) {N : Nat} (hN : (N : Int) = 4 * n) : (Q.mk f w l o).go n N = ⟨f, w, l, o⟩ := by
  have h1 := h.n1; have h3 := h.o0; have h4 := h.o1
  obtain ⟨m, i1, i2, i3⟩ := go_at h N
  have hm := m_of h1 i1 (by omega)
  obtain ⟨f4, -⟩ := fI_four f h.f6 w h.w4
  obtain rfl : m = 4 := by
    obtain rfl | rfl | rfl | rfl | rfl : m = 0 ∨ m = 1 ∨ m = 2 ∨ m = 3 ∨ m = 4 := by omega
    all_goals first | rfl | (exfalso; omega)
  rw [i3, f4]
  congr 1
  omega
end TF
