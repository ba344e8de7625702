/- Arrays of three times three numbers held against one another. -/
import Derived.Test.YtbfbafoeifigfaaDoorArrEq
namespace TF
open Go Go.RowKit
theorem equalIn_nine {P : Program} (w : World) {t e f : TypeId} (a b c d g h i j k a' b' c' d' g' h' i' j' k' : Int) (hu : P.underlying t = some (.array 3 e)) (he : P.underlying e = some (.array 3 f)) (hf : P.underlying f = some (.int .i64)) (hc : P.cellsOf f = 1) (hc3 : P.cellsOf e = 3) :
    (Op.equalIn 10000 t (.agg #[.int .i64 a, .int .i64 b, .int .i64 c, .int .i64 d, .int .i64 g, .int .i64 h, .int .i64 i, .int .i64 j, .int .i64 k]) (.agg #[.int .i64 a', .int .i64 b', .int .i64 c', .int .i64 d', .int .i64 g', .int .i64 h', .int .i64 i', .int .i64 j', .int .i64 k'])).run P w
      = .ok (eq3 a b c a' b' c' && (eq3 d g h d' g' h' && eq3 i j k i' j' k')) w := by
  obtain ⟨inf, hi⟩ := info_of_underlying he
  have hag : (isAgg e).run P w = .ok true w := by simp [isAgg, run_underlying he]
  have hpart : ∀ (xs : Array Value) (off : Nat), (part e xs off).run P w = .ok (.agg (xs.extract off (off + 3))) w := by
    intro xs off
    simp only [part, Sem.run_bind, hag, Result.andThen_ok, if_true, run_sizeOf w hi, hc3, Sem.run_pure]
  rw [run_equalIn_arr w 9999 _ _ (fun m => if m = 0 then eq3 a b c a' b' c' else if m = 1 then eq3 d g h d' g' h' else eq3 i j k i' j' k') hu hi ?_]
  · congr 1
    simp [List.range_succ]
  · intro m hm
    rw [hc3]
    match m, hm with
    | 0, _ => exact ⟨_, _, hpart _ _, hpart _ _, equalIn_three w 9997 a b c a' b' c' he hf hc⟩
    | 1, _ => exact ⟨_, _, hpart _ _, hpart _ _, equalIn_three w 9997 d g h d' g' h' he hf hc⟩
    | 2, _ => exact ⟨_, _, hpart _ _, hpart _ _, equalIn_three w 9997 i j k i' j' k' he hf hc⟩
end TF
