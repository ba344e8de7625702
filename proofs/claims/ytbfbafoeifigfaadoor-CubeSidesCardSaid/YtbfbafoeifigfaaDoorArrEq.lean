/- Arrays held against one another: '==' of arrays of numbers, and of arrays of such. -/
import Derived.ChangeKeysEq
import Derived.Laws.StructEq
import Derived.WalkKit
namespace TF
open Go Go.RowKit
section
variable {P : Program} (w : World)

theorem eqItems_of (d : Nat) {e : TypeId} {c : Nat} (xs ys : Array Value) (r : Nat → Bool) : ∀ is : List Nat,
    (∀ i ∈ is, ∃ a b, (part e xs (i * c)).run P w = .ok a w ∧ (part e ys (i * c)).run P w = .ok b w ∧ (Op.equalIn d e a b).run P w = .ok (r i) w) → (Op.eqItems d e c xs ys is).run P w = .ok (is.all r) w
  | [], _ => by simp [Op.eqItems]
  | i :: is, h => by
    obtain ⟨a, b, p1, p2, p3⟩ := h i (by simp)
    have ih := eqItems_of d xs ys r is (fun j hj => h j (by simp [hj]))
    simp only [Op.eqItems, Sem.run_bind, p1, p2, p3, Result.andThen_ok, List.all_cons]
    cases r i
    · simp
    · simpa using ih
theorem run_equalIn_arr (d : Nat) {t e : TypeId} {n : Nat} (xs ys : Array Value) (r : Nat → Bool) {i : TypeInfo} (hu : P.underlying t = some (.array n e)) (hi : P.info? e = some i)
    (h : ∀ i < n, ∃ a b, (part e xs (i * P.cellsOf e)).run P w = .ok a w ∧ (part e ys (i * P.cellsOf e)).run P w = .ok b w ∧ (Op.equalIn d e a b).run P w = .ok (r i) w) :
    (Op.equalIn (d + 1) t (.agg xs) (.agg ys)).run P w = .ok ((List.range n).all r) w := by
  rw [run_equalIn_array w d xs ys hu hi]
  exact eqItems_of w d xs ys r _ (fun i hi => h i (List.mem_range.1 hi))
theorem run_equalIn_ints (d : Nat) {t e : TypeId} {n : Nat} {k : IntKind} (xs ys : Array Value) (a b : Nat → Int) (hu : P.underlying t = some (.array n e)) (he : P.underlying e = some (.int k)) (hc : P.cellsOf e = 1)
    (hx : ∀ i < n, xs[i]? = some (.int k (a i))) (hy : ∀ i < n, ys[i]? = some (.int k (b i))) :
    (Op.equalIn (d + 2) t (.agg xs) (.agg ys)).run P w = .ok ((List.range n).all fun i => a i == b i) w := by
  obtain ⟨i, hi⟩ := info_of_underlying he
  have hp : P.plainKey e = true := by simp [Program.plainKey, he]
  refine run_equalIn_arr w (d + 1) xs ys _ hu hi fun j hj => ?_
  rw [hc, Nat.mul_one]
  exact ⟨_, _, run_part_plain w hp (hx j hj), run_part_plain w hp (hy j hj), run_equalIn_int w d e k k _ _ he⟩
theorem run_eql_ints {t e : TypeId} {n : Nat} {k : IntKind} (xs ys : Array Value) (a b : Nat → Int) (hu : P.underlying t = some (.array n e)) (he : P.underlying e = some (.int k)) (hc : P.cellsOf e = 1)
    (hx : ∀ i < n, xs[i]? = some (.int k (a i))) (hy : ∀ i < n, ys[i]? = some (.int k (b i))) :
    (binOp .eql t (.agg xs) (.agg ys)).run P w = .ok (.bool ((List.range n).all fun i => a i == b i)) w := by
  rw [run_eql_struct, run_equalIn_ints w 9998 xs ys a b hu he hc hx hy]; rfl

/-- Three numbers held against three. -/
def eq3 (a b c x y z : Int) : Bool := decide (a = x ∧ b = y ∧ c = z)
theorem eq3_true {a b c x y z : Int} (h1 : a = x) (h2 : b = y) (h3 : c = z) : eq3 a b c x y z = true := by simp [eq3, h1, h2, h3]
theorem eq3_false {a b c x y z : Int} (h : ¬ (a = x ∧ b = y ∧ c = z)) : eq3 a b c x y z = false := by simpa [eq3] using h
theorem equalIn_three (d : Nat) {t e : TypeId} (a b c x y z : Int) (hu : P.underlying t = some (.array 3 e)) (he : P.underlying e = some (.int .i64)) (hc : P.cellsOf e = 1) :
    (Op.equalIn (d + 2) t (.agg #[.int .i64 a, .int .i64 b, .int .i64 c]) (.agg #[.int .i64 x, .int .i64 y, .int .i64 z])).run P w = .ok (eq3 a b c x y z) w := by
  rw [run_equalIn_ints w d _ _ (fun i => if i = 0 then a else if i = 1 then b else c) (fun i => if i = 0 then x else if i = 1 then y else z) hu he hc
    (fun i hi => by match i, hi with | 0, _ => rfl | 1, _ => rfl | 2, _ => rfl) (fun i hi => by match i, hi with | 0, _ => rfl | 1, _ => rfl | 2, _ => rfl)]
  congr 1
  rw [Bool.eq_iff_iff]
  simp [eq3, List.range_succ]
theorem run_eql_three {t e : TypeId} (a b c x y z : Int) (hu : P.underlying t = some (.array 3 e)) (he : P.underlying e = some (.int .i64)) (hc : P.cellsOf e = 1) :
    (binOp .eql t (.agg #[.int .i64 a, .int .i64 b, .int .i64 c]) (.agg #[.int .i64 x, .int .i64 y, .int .i64 z])).run P w = .ok (.bool (eq3 a b c x y z)) w := by
  rw [run_eql_struct, equalIn_three w 9998 a b c x y z hu he hc]; rfl
theorem run_eql_nine {t e f : TypeId} (a b c d g h i j k a' b' c' d' g' h' i' j' k' : Int) (hu : P.underlying t = some (.array 3 e)) (he : P.underlying e = some (.array 3 f)) (hf : P.underlying f = some (.int .i64)) (hc : P.cellsOf f = 1) (hc3 : P.cellsOf e = 3) :
    (binOp .eql t (.agg #[.int .i64 a, .int .i64 b, .int .i64 c, .int .i64 d, .int .i64 g, .int .i64 h, .int .i64 i, .int .i64 j, .int .i64 k]) (.agg #[.int .i64 a', .int .i64 b', .int .i64 c', .int .i64 d', .int .i64 g', .int .i64 h', .int .i64 i', .int .i64 j', .int .i64 k'])).run P w
      = .ok (.bool (eq3 a b c a' b' c' && (eq3 d g h d' g' h' && eq3 i j k i' j' k'))) w := by
  obtain ⟨inf, hi⟩ := info_of_underlying he
  have hag : (isAgg e).run P w = .ok true w := by simp [isAgg, run_underlying he]
  have hpart : ∀ (xs : Array Value) (off : Nat), (part e xs off).run P w = .ok (.agg (xs.extract off (off + 3))) w := by
    intro xs off
    simp only [part, Sem.run_bind, hag, Result.andThen_ok, if_true, run_sizeOf w hi, hc3, Sem.run_pure]
  rw [run_eql_struct, run_equalIn_arr w 9999 _ _ (fun m => if m = 0 then eq3 a b c a' b' c' else if m = 1 then eq3 d g h d' g' h' else eq3 i j k i' j' k') hu hi ?_]
  · show Result.ok _ _ = _
    congr 2
    simp [List.range_succ]
  · intro m hm
    rw [hc3]
    match m, hm with
    | 0, _ => exact ⟨_, _, hpart _ _, hpart _ _, equalIn_three w 9997 a b c a' b' c' he hf hc⟩
    | 1, _ => exact ⟨_, _, hpart _ _, hpart _ _, equalIn_three w 9997 d g h d' g' h' he hf hc⟩
    | 2, _ => exact ⟨_, _, hpart _ _, hpart _ _, equalIn_three w 9997 i j k i' j' k' he hf hc⟩
end
end TF
