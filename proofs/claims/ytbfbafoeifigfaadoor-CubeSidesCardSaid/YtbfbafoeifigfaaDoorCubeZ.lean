/- Beside, Turn, After at numbers. -/
import Derived.Test.YtbfbafoeifigfaaDoorCubeY
import Derived.Test.YtbfbafoeifigfaaDoorCubeO
namespace Go.Proofs.YtbfbafoeifigfaaDoor
open Go.RowKit TF

theorem ret_b {a b : Bool} (h : a = b) : Ending.returned (.bool a) = .returned (.bool b) := by rw [h]
/-- Beside, Turn, After at numbers. -/
def BesideAt (n c s d b : Int) : Prop := Hid (∀ w1 : World, Fr w1 → Calls Tryd.prog 20 #[.int .i64 n, .int .i64 c, .int .i64 s] w1 fun e w' => e = .returned (.tuple #[.int .i64 d, .int .i64 b]) ∧ Below w1.heap.size w1 w')
def TurnAt (n t c x q : Int) : Prop := Hid (∀ w1 : World, Fr w1 → Calls Tryd.prog 22 #[.int .i64 n, .int .i64 t, .int .i64 c] w1 fun e w' => e = .returned (.tuple #[.int .i64 x, .int .i64 q]) ∧ Below w1.heap.size w1 w')
def AfterAt (u t v : Int) : Prop := Hid (∀ w1 : World, Fr w1 → Calls Tryd.prog 18 #[.int .i64 u, .int .i64 t] w1 fun e w' => e = .returned (.int .i64 v) ∧ Below w1.heap.size w1 w')
theorem BesideAt.out {n c s d b : Int} (h : BesideAt n c s d b) : ∀ w1 : World, Fr w1 → Calls Tryd.prog 20 #[.int .i64 n, .int .i64 c, .int .i64 s] w1 fun e w' => e = .returned (.tuple #[.int .i64 d, .int .i64 b]) ∧ Below w1.heap.size w1 w' := Hid.out h
theorem TurnAt.out {n t c x q : Int} (h : TurnAt n t c x q) : ∀ w1 : World, Fr w1 → Calls Tryd.prog 22 #[.int .i64 n, .int .i64 t, .int .i64 c] w1 fun e w' => e = .returned (.tuple #[.int .i64 x, .int .i64 q]) ∧ Below w1.heap.size w1 w' := Hid.out h
theorem AfterAt.out {u t v : Int} (h : AfterAt u t v) : ∀ w1 : World, Fr w1 → Calls Tryd.prog 18 #[.int .i64 u, .int .i64 t] w1 fun e w' => e = .returned (.int .i64 v) ∧ Below w1.heap.size w1 w' := Hid.out h
theorem besideAt {n i j : Int} {f s : Nat} (h : On n f i j) (hs : s < 4) : BesideAt n (cellN n f i j) s (cellN n (bF n f s i j) (bX n f s i j) (bY n f s i j)) (bS n f s i j : Nat) := Lib.hid (fun w1 hF => beside_ok h hs w1 hF)
theorem turnAt {n i j : Int} {f t : Nat} (h : On n f i j) (ht : t < 24) : TurnAt n t (cellN n f i j) (cellN n (tF t f) (uX n t f i j) (uY n t f i j)) (tQ t f : Nat) := Lib.hid (fun w1 hF => turn_ok h ht w1 hF)
theorem afterAt {u t : Nat} (hu : u < 24) (ht : t < 24) : AfterAt u t (afF u t : Nat) := Lib.hid (fun w1 hF => after_at u t hu ht w1 hF)
theorem box_lt {w w1 : World} {o : Obj} (h : Below (w.alloc o).heap.size (w.alloc o) w1) : w.heap.size < w1.heap.size := by
  have := h.size
  simp at this
  omega
theorem bel_end {w w1 w3 : World} (h : Below w.heap.size w w1) (h2 : Below w1.heap.size w1 w3) : Below w.heap.size w w3 := h.trans (h2.mono h.size)
end Go.Proofs.YtbfbafoeifigfaaDoor
