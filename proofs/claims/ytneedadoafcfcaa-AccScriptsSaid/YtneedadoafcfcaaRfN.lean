/- The reference's long number: 136 limbs of 32 bits, carried when it is asked for. -/
import Derived.Test.YtneedadoafcfcaaAccTw
namespace TF
open Ieee Go Go.RowKit

def SR (l : Nat → Int) : Nat → Int
  | 0 => 0
  | n + 1 => SR l n + l n * 4294967296 ^ n
theorem SR_ext {l k : Nat → Int} : ∀ n, (∀ i, i < n → l i = k i) → SR l n = SR k n := by
  intro n
  induction n with
  | zero => intro _; rfl
  | succ n ih => intro h; simp only [SR]; rw [ih (fun i hi => h i (by omega)), h n (by omega)]
theorem SR_upw (l : Nat → Int) (q : Nat) (v : Int) : ∀ n, q < n → SR (upw l q v) n = SR l n + (v - l q) * 4294967296 ^ q := by
  intro n
  induction n with
  | zero => intro h; omega
  | succ n ih =>
    intro h
    simp only [SR]
    by_cases e : q = n
    · subst e
      rw [upw_at, SR_ext (l := upw l q v) (k := l) q (fun i hi => upw_off l v (by omega)), Int.sub_mul]; omega
    · rw [ih (by omega), upw_off l v (by omega)]; omega
theorem SR_add (l k : Nat → Int) : ∀ n, SR (fun i => l i + k i) n = SR l n + SR k n := by
  intro n
  induction n with
  | zero => rfl
  | succ n ih => simp only [SR]; rw [ih, Int.add_mul]; omega
theorem SR_neg (l : Nat → Int) : ∀ n, SR (fun i => -l i) n = -SR l n := by
  intro n
  induction n with
  | zero => rfl
  | succ n ih => simp only [SR]; rw [ih, Int.neg_mul]; omega
def sgn (neg : Bool) (x : Int) : Int := if neg then -x else x
def addH (l : Nat → Int) (neg : Bool) (w : Int) (q : Nat) : Nat → Int :=
  upw (upw l q (l q + sgn neg (w % 4294967296))) (q + 1) (l (q + 1) + sgn neg (w / 4294967296))
theorem SR_addH (l : Nat → Int) (neg : Bool) (w : Int) (q n : Nat) (h : q + 1 < n) : SR (addH l neg w q) n = SR l n + sgn neg w * 4294967296 ^ q := by
  unfold addH
  rw [SR_upw _ _ _ n h, SR_upw _ _ _ n (by omega), upw_off _ _ (show q + 1 ≠ q by omega)]
  have hd := Int.emod_add_mul_ediv w 4294967296
  rw [Int.pow_succ]
  generalize (4294967296 : Int) ^ q = p
  have e1 : l q + sgn neg (w % 4294967296) - l q = sgn neg (w % 4294967296) := by omega
  have e2 : l (q + 1) + sgn neg (w / 4294967296) - l (q + 1) = sgn neg (w / 4294967296) := by omega
  rw [e1, e2, Int.add_assoc, show sgn neg (w / 4294967296) * (p * 4294967296) = 4294967296 * sgn neg (w / 4294967296) * p by grind, ← Int.add_mul]
  congr 2
  unfold sgn; split <;> omega
theorem addH_near (l : Nat → Int) (neg : Bool) {w : Int} (q : Nat) (h0 : 0 ≤ w) (h9 : w < 18446744073709551616) (i : Nat) : l i - 4294967296 ≤ addH l neg w q i ∧ addH l neg w q i ≤ l i + 4294967296 := by
  unfold addH upw sgn
  by_cases e : i = q + 1
  · subst e; rw [if_pos rfl]; split <;> omega
  · rw [if_neg e]
    by_cases e2 : i = q
    · subst e2; rw [if_pos rfl]; split <;> omega
    · rw [if_neg e2]; omega
/-- m times 2^(32 q + r). -/
def addP (l : Nat → Int) (neg : Bool) (m : Int) (q r : Nat) : Nat → Int := addH (addH l neg (m % 4294967296 * 2 ^ r) q) neg (m / 4294967296 * 2 ^ r) (q + 1)
theorem pow_r {r : Nat} (h : r < 32) : (0 : Int) < 2 ^ r ∧ (2 : Int) ^ r ≤ 2147483648 := by
  have h1 := Nat.pow_le_pow_right (n := 2) (by omega) (show r ≤ 31 by omega)
  have h2 : (2 : Int) ^ r = ((2 ^ r : Nat) : Int) := by simp
  have h3 := Nat.two_pow_pos r
  rw [h2]; omega
theorem half_w {h : Int} {r : Nat} (h0 : 0 ≤ h) (h9 : h < 4294967296) (hr : r < 32) : 0 ≤ h * 2 ^ r ∧ h * 2 ^ r < 18446744073709551616 := by
  obtain ⟨p1, p2⟩ := pow_r hr
  refine ⟨Int.mul_nonneg h0 (by omega), ?_⟩
  have : h * 2 ^ r ≤ 4294967295 * 2147483648 := Int.mul_le_mul (by omega) p2 (by omega) (by decide)
  omega
theorem SR_addP (l : Nat → Int) (neg : Bool) (m : Int) (q r n : Nat) (h : q + 2 < n) : SR (addP l neg m q r) n = SR l n + sgn neg m * 2 ^ (32 * q + r) := by
  unfold addP
  rw [SR_addH _ _ _ _ _ (by omega), SR_addH _ _ _ _ _ (by omega), Int.pow_succ, Int.pow_add, Int.pow_mul, show (2 : Int) ^ 32 = 4294967296 from rfl]
  have hd := Int.emod_add_mul_ediv m 4294967296
  generalize (4294967296 : Int) ^ q = p
  generalize (2 : Int) ^ r = s
  have e : sgn neg m = sgn neg (m % 4294967296) + 4294967296 * sgn neg (m / 4294967296) := by unfold sgn; split <;> omega
  have e1 : ∀ x, sgn neg (x * s) = sgn neg x * s := by intro x; unfold sgn; split <;> simp [Int.neg_mul]
  rw [e, e1, e1]
  generalize sgn neg (m % 4294967296) = a
  generalize sgn neg (m / 4294967296) = b
  grind
theorem addP_near (l : Nat → Int) (neg : Bool) {m : Int} (q : Nat) {r : Nat} (h0 : 0 ≤ m) (h9 : m < 18446744073709551616) (hr : r < 32) (i : Nat) : l i - 8589934592 ≤ addP l neg m q r i ∧ addP l neg m q r i ≤ l i + 8589934592 := by
  obtain ⟨a1, a2⟩ := half_w (h := m % 4294967296) (r := r) (by omega) (by omega) hr
  obtain ⟨b1, b2⟩ := half_w (h := m / 4294967296) (r := r) (by omega) (by omega) hr
  have h1 := addH_near l neg q a1 a2 i
  have h2 := addH_near (addH l neg (m % 4294967296 * 2 ^ r) q) neg (q + 1) b1 b2 i
  unfold addP
  omega

structure RefS where
  l : Nat → Int
  cnt : Int
  pl : Bool
  mi : Bool
  no : Bool
  ot : Bool
/-- the reference's sum at block b. -/
structure RefAt (w : World) (b : Nat) (s : RefS) : Prop where
  word : ∀ i, i < 136 → CellIs w b i (.int .i64 (s.l i))
  cnt : CellIs w b 136 (.int .i64 s.cnt)
  pl : CellIs w b 137 (.bool s.pl)
  mi : CellIs w b 138 (.bool s.mi)
  no : CellIs w b 139 (.bool s.no)
  ot : CellIs w b 140 (.bool s.ot)
theorem RefAt.lt {w : World} {b : Nat} {s : RefS} (h : RefAt w b s) : b < w.heap.size := h.cnt.lt
theorem RefAt.setLimb {w : World} {b : Nat} {s : RefS} (h : RefAt w b s) (i : Nat) (hi : i < 136) (v : Int) : RefAt (w.setCell ⟨b, i, none⟩ (.int .i64 v)) b { s with l := upw s.l i v } where
  word j hj := by
    by_cases e : j = i
    · subst e
      show CellIs _ _ _ (.int .i64 (upw s.l j v j))
      rw [upw_at]; exact (h.word j hj).same
    · show CellIs _ _ _ (.int .i64 (upw s.l i v j))
      rw [upw_off _ _ e]; exact (h.word j hj).other (fun _ => e)
  cnt := h.cnt.other (fun _ => by omega)
  pl := h.pl.other (fun _ => by omega)
  mi := h.mi.other (fun _ => by omega)
  no := h.no.other (fun _ => by omega)
  ot := h.ot.other (fun _ => by omega)
theorem RefAt.setCnt {w : World} {b : Nat} {s : RefS} (h : RefAt w b s) (v : Int) : RefAt (w.setCell ⟨b, 136, none⟩ (.int .i64 v)) b { s with cnt := v } where
  word j hj := (h.word j hj).other (fun _ => by omega)
  cnt := h.cnt.same
  pl := h.pl.other (fun _ => by omega)
  mi := h.mi.other (fun _ => by omega)
  no := h.no.other (fun _ => by omega)
  ot := h.ot.other (fun _ => by omega)
theorem RefAt.setPl {w : World} {b : Nat} {s : RefS} (h : RefAt w b s) (v : Bool) : RefAt (w.setCell ⟨b, 137, none⟩ (.bool v)) b { s with pl := v } where
  word j hj := (h.word j hj).other (fun _ => by omega)
  cnt := h.cnt.other (fun _ => by omega)
  pl := h.pl.same
  mi := h.mi.other (fun _ => by omega)
  no := h.no.other (fun _ => by omega)
  ot := h.ot.other (fun _ => by omega)
theorem RefAt.setMi {w : World} {b : Nat} {s : RefS} (h : RefAt w b s) (v : Bool) : RefAt (w.setCell ⟨b, 138, none⟩ (.bool v)) b { s with mi := v } where
  word j hj := (h.word j hj).other (fun _ => by omega)
  cnt := h.cnt.other (fun _ => by omega)
  pl := h.pl.other (fun _ => by omega)
  mi := h.mi.same
  no := h.no.other (fun _ => by omega)
  ot := h.ot.other (fun _ => by omega)
theorem RefAt.setNo {w : World} {b : Nat} {s : RefS} (h : RefAt w b s) (v : Bool) : RefAt (w.setCell ⟨b, 139, none⟩ (.bool v)) b { s with no := v } where
  word j hj := (h.word j hj).other (fun _ => by omega)
  cnt := h.cnt.other (fun _ => by omega)
  pl := h.pl.other (fun _ => by omega)
  mi := h.mi.other (fun _ => by omega)
  no := h.no.same
  ot := h.ot.other (fun _ => by omega)
theorem RefAt.setOt {w : World} {b : Nat} {s : RefS} (h : RefAt w b s) (v : Bool) : RefAt (w.setCell ⟨b, 140, none⟩ (.bool v)) b { s with ot := v } where
  word j hj := (h.word j hj).other (fun _ => by omega)
  cnt := h.cnt.other (fun _ => by omega)
  pl := h.pl.other (fun _ => by omega)
  mi := h.mi.other (fun _ => by omega)
  no := h.no.other (fun _ => by omega)
  ot := h.ot.same
theorem RefAt.cong {w w' : World} {b : Nat} {s : RefS} (h : RefAt w b s) (e : w'.heap[b]? = w.heap[b]?) : RefAt w' b s :=
  ⟨fun i hi => (h.word i hi).cong e, h.cnt.cong e, h.pl.cong e, h.mi.cong e, h.no.cong e, h.ot.cong e⟩
theorem RefAt.ext {w : World} {b : Nat} {s t : RefS} (h : RefAt w b s) (hl : ∀ i, i < 136 → s.l i = t.l i) (h1 : s.cnt = t.cnt) (h2 : s.pl = t.pl) (h3 : s.mi = t.mi) (h4 : s.no = t.no) (h5 : s.ot = t.ot) : RefAt w b t :=
  ⟨fun i hi => by rw [← hl i hi]; exact h.word i hi, by rw [← h1]; exact h.cnt, by rw [← h2]; exact h.pl, by rw [← h3]; exact h.mi, by rw [← h4]; exact h.no, by rw [← h5]; exact h.ot⟩
theorem RefAt.drew {w : World} {b : Nat} {s : RefS} (h : RefAt w b s) : RefAt w.drew b s := ⟨h.word, h.cnt, h.pl, h.mi, h.no, h.ot⟩
theorem RefAt.drewN {w : World} {b : Nat} {s : RefS} (h : RefAt w b s) (n : Nat) : RefAt (w.drewN n) b s := ⟨h.word, h.cnt, h.pl, h.mi, h.no, h.ot⟩
/-- each limb is this small. -/
def Lim (l : Nat → Int) (c : Int) : Prop := ∀ i, i < 136 → -(c * 34359738368) ≤ l i ∧ l i ≤ c * 34359738368
/-- the reference's sum at block b stands for g. -/
def RefIs (w : World) (b : Nat) (g : AccG) : Prop := ∃ l, SR l 136 = g.X ∧ Lim l g.cnt ∧ RefAt w b ⟨l, g.cnt, g.up, g.dn, g.nn, decide (g.nz ≠ g.cnt)⟩
theorem RefIs.cong {w w' : World} {b : Nat} {g : AccG} (h : RefIs w b g) (e : w'.heap[b]? = w.heap[b]?) : RefIs w' b g := by
  obtain ⟨l, h1, h2, h3⟩ := h; exact ⟨l, h1, h2, h3.cong e⟩
theorem RefIs.lt {w : World} {b : Nat} {g : AccG} (h : RefIs w b g) : b < w.heap.size := by
  obtain ⟨l, h1, h2, h3⟩ := h; exact h3.lt
theorem Lim.small {l : Nat → Int} {c : Int} (h : Lim l c) (h9 : c ≤ 1048576) {i : Nat} (hi : i < 136) : -36028797018963968 ≤ l i ∧ l i ≤ 36028797018963968 := by
  have := h i hi
  omega
end TF
