/-
  No cell of these rows narrows 'for every input' (looked for: loops, veiled, ifaces, maps, wideKeys, modest, calm, conditions, laid).
  DERIVED. THE GIVEN ROWS OF THIS SEAT. 8 by the template 'for every input the law returns true; each argument reads behind the call as it read before'; 0 by the template 'total and deterministic' (their statements: YtkkikcfolinkfaaTotals.lean).
  GIVEN WITH THE SEED: the statements are not yours to turn. If you find one false, say at which input.
  Laid BY PROGRAM, IN A SANDBOX (cutbox-rows.mjs): the forced cells as the released guide's own fill.sh prints them over the translation e54f06cb95a95b63… (all of the seat's roots in one cut). By AI agents, Wed Nov 11 2026. No macro, syntax, notation, axiom, sorry.
-/
import Derived.Test.YtkkikcfolinkfaaChecked
import GoSem.Claim
import GoSem.ClaimJoined
import GoSem.ClaimMapViews
import Derived.JoinedTies
import Derived.KernelRfl
namespace Go.Proofs.Ytkkikcfolinkfaa
/- THE CELL 'sum', in the pinned program and in every row, IS THE sha256 OF THE DUMP (.gsa) THAT YtkkikcfolinkfaaProg.lean LOADS. Nothing in Lean hashes anything: it is a label: what it is worth is what the hold of that sum in a sandbox is worth. -/
noncomputable def Try.pinned : Pinned := { name := "ytkkikcfolinkfaa", sum := "e54f06cb95a95b63669a91038c52c3899638058832f5eee0dfaef8e4110f81be", checked := Try.checked }
namespace Rows
def none {H : Type} : Left H := { results := [], args := [] }

/-- 'tarnlaw03.TwinSums': WHATEVER THE INPUT: true; the input reads as it did. -/
def twinSumsSpec : ChangeSpec := { name := "twinSums", fn := fun _ => fun
  | [d] => { results := [.lit (.bool true)], args := [d] }
  | _ => none }
def twinSumsRow : OpenClaim := { program := "ytkkikcfolinkfaa", sum := "e54f06cb95a95b63669a91038c52c3899638058832f5eee0dfaef8e4110f81be", func := "tarn/tarnlaw03.TwinSums", spec := "twinSums", inPlace := ["math.Float64bits", "math.Float64frombits"], apart := false }
def TwinSumsSaid : Prop := twinSumsRow.holds Try.pinned (OpenSpec.ofChange twinSumsSpec)

/-- ITS FALSE NEIGHBOUR: 'it returns false'. Refute it at one input. -/
def twinSumsWrong : ChangeSpec := { name := "twinSums", fn := fun _ => fun
  | [d] => { results := [.lit (.bool false)], args := [d] }
  | _ => none }
def TwinSumsWrongFalsely : Prop := twinSumsRow.holds Try.pinned (OpenSpec.ofChange twinSumsWrong)

/-- 'tarnlaw03.TwinProducts': WHATEVER THE INPUT: true; the input reads as it did. -/
def twinProductsSpec : ChangeSpec := { name := "twinProducts", fn := fun _ => fun
  | [d] => { results := [.lit (.bool true)], args := [d] }
  | _ => none }
def twinProductsRow : OpenClaim := { program := "ytkkikcfolinkfaa", sum := "e54f06cb95a95b63669a91038c52c3899638058832f5eee0dfaef8e4110f81be", func := "tarn/tarnlaw03.TwinProducts", spec := "twinProducts", inPlace := ["math.Float64bits", "math.Float64frombits"], apart := false }
def TwinProductsSaid : Prop := twinProductsRow.holds Try.pinned (OpenSpec.ofChange twinProductsSpec)

/-- ITS FALSE NEIGHBOUR: 'it returns false'. Refute it at one input. -/
def twinProductsWrong : ChangeSpec := { name := "twinProducts", fn := fun _ => fun
  | [d] => { results := [.lit (.bool false)], args := [d] }
  | _ => none }
def TwinProductsWrongFalsely : Prop := twinProductsRow.holds Try.pinned (OpenSpec.ofChange twinProductsWrong)

/-- 'tarnlaw03.TwinExact': WHATEVER THE INPUT: true; the input reads as it did. -/
def twinExactSpec : ChangeSpec := { name := "twinExact", fn := fun _ => fun
  | [d1, d2] => { results := [.lit (.bool true)], args := [d1, d2] }
  | _ => none }
def twinExactRow : OpenClaim := { program := "ytkkikcfolinkfaa", sum := "e54f06cb95a95b63669a91038c52c3899638058832f5eee0dfaef8e4110f81be", func := "tarn/tarnlaw03.TwinExact", spec := "twinExact", inPlace := ["math.Float64bits", "math.Float64frombits"], apart := false }
def TwinExactSaid : Prop := twinExactRow.holds Try.pinned (OpenSpec.ofChange twinExactSpec)

/-- ITS FALSE NEIGHBOUR: 'it returns false'. Refute it at one input. -/
def twinExactWrong : ChangeSpec := { name := "twinExact", fn := fun _ => fun
  | [d1, d2] => { results := [.lit (.bool false)], args := [d1, d2] }
  | _ => none }
def TwinExactWrongFalsely : Prop := twinExactRow.holds Try.pinned (OpenSpec.ofChange twinExactWrong)

/-- 'tarnlaw03.TwinHalves': WHATEVER THE INPUT: true; the input reads as it did. -/
def twinHalvesSpec : ChangeSpec := { name := "twinHalves", fn := fun _ => fun
  | [d] => { results := [.lit (.bool true)], args := [d] }
  | _ => none }
def twinHalvesRow : OpenClaim := { program := "ytkkikcfolinkfaa", sum := "e54f06cb95a95b63669a91038c52c3899638058832f5eee0dfaef8e4110f81be", func := "tarn/tarnlaw03.TwinHalves", spec := "twinHalves", inPlace := ["math.Float64bits", "math.Float64frombits"], apart := false }
def TwinHalvesSaid : Prop := twinHalvesRow.holds Try.pinned (OpenSpec.ofChange twinHalvesSpec)

/-- ITS FALSE NEIGHBOUR: 'it returns false'. Refute it at one input. -/
def twinHalvesWrong : ChangeSpec := { name := "twinHalves", fn := fun _ => fun
  | [d] => { results := [.lit (.bool false)], args := [d] }
  | _ => none }
def TwinHalvesWrongFalsely : Prop := twinHalvesRow.holds Try.pinned (OpenSpec.ofChange twinHalvesWrong)

/-- 'tarnlaw03.TwinTimes': WHATEVER THE INPUT: true; the input reads as it did. -/
def twinTimesSpec : ChangeSpec := { name := "twinTimes", fn := fun _ => fun
  | [d1, d2] => { results := [.lit (.bool true)], args := [d1, d2] }
  | _ => none }
def twinTimesRow : OpenClaim := { program := "ytkkikcfolinkfaa", sum := "e54f06cb95a95b63669a91038c52c3899638058832f5eee0dfaef8e4110f81be", func := "tarn/tarnlaw03.TwinTimes", spec := "twinTimes", inPlace := ["math.Float64bits", "math.Float64frombits"], apart := false }
def TwinTimesSaid : Prop := twinTimesRow.holds Try.pinned (OpenSpec.ofChange twinTimesSpec)

/-- ITS FALSE NEIGHBOUR: 'it returns false'. Refute it at one input. -/
def twinTimesWrong : ChangeSpec := { name := "twinTimes", fn := fun _ => fun
  | [d1, d2] => { results := [.lit (.bool false)], args := [d1, d2] }
  | _ => none }
def TwinTimesWrongFalsely : Prop := twinTimesRow.holds Try.pinned (OpenSpec.ofChange twinTimesWrong)

/-- 'tarnlaw03.TwinTurned': WHATEVER THE INPUT: true; the input reads as it did. -/
def twinTurnedSpec : ChangeSpec := { name := "twinTurned", fn := fun _ => fun
  | [d1, d2] => { results := [.lit (.bool true)], args := [d1, d2] }
  | _ => none }
def twinTurnedRow : OpenClaim := { program := "ytkkikcfolinkfaa", sum := "e54f06cb95a95b63669a91038c52c3899638058832f5eee0dfaef8e4110f81be", func := "tarn/tarnlaw03.TwinTurned", spec := "twinTurned", inPlace := ["math.Float64bits", "math.Float64frombits"], apart := false }
def TwinTurnedSaid : Prop := twinTurnedRow.holds Try.pinned (OpenSpec.ofChange twinTurnedSpec)

/-- ITS FALSE NEIGHBOUR: 'it returns false'. Refute it at one input. -/
def twinTurnedWrong : ChangeSpec := { name := "twinTurned", fn := fun _ => fun
  | [d1, d2] => { results := [.lit (.bool false)], args := [d1, d2] }
  | _ => none }
def TwinTurnedWrongFalsely : Prop := twinTurnedRow.holds Try.pinned (OpenSpec.ofChange twinTurnedWrong)

/-- 'tarnlaw03.TwinAdds': WHATEVER THE INPUT: true; the input reads as it did. -/
def twinAddsSpec : ChangeSpec := { name := "twinAdds", fn := fun _ => fun
  | [d1, d2, d3] => { results := [.lit (.bool true)], args := [d1, d2, d3] }
  | _ => none }
def twinAddsRow : OpenClaim := { program := "ytkkikcfolinkfaa", sum := "e54f06cb95a95b63669a91038c52c3899638058832f5eee0dfaef8e4110f81be", func := "tarn/tarnlaw03.TwinAdds", spec := "twinAdds", inPlace := ["math.Float64bits", "math.Float64frombits"], apart := false }
def TwinAddsSaid : Prop := twinAddsRow.holds Try.pinned (OpenSpec.ofChange twinAddsSpec)

/-- ITS FALSE NEIGHBOUR: 'it returns false'. Refute it at one input. -/
def twinAddsWrong : ChangeSpec := { name := "twinAdds", fn := fun _ => fun
  | [d1, d2, d3] => { results := [.lit (.bool false)], args := [d1, d2, d3] }
  | _ => none }
def TwinAddsWrongFalsely : Prop := twinAddsRow.holds Try.pinned (OpenSpec.ofChange twinAddsWrong)

/-- 'tarnlaw03.TwinRows': WHATEVER THE INPUT: true; the input reads as it did. -/
def twinRowsSpec : ChangeSpec := { name := "twinRows", fn := fun _ => fun
  | [d] => { results := [.lit (.bool true)], args := [d] }
  | _ => none }
def twinRowsRow : OpenClaim := { program := "ytkkikcfolinkfaa", sum := "e54f06cb95a95b63669a91038c52c3899638058832f5eee0dfaef8e4110f81be", func := "tarn/tarnlaw03.TwinRows", spec := "twinRows", inPlace := ["math.Float64bits", "math.Float64frombits"], apart := false }
def TwinRowsSaid : Prop := twinRowsRow.holds Try.pinned (OpenSpec.ofChange twinRowsSpec)

/-- ITS FALSE NEIGHBOUR: 'it returns false'. Refute it at one input. -/
def twinRowsWrong : ChangeSpec := { name := "twinRows", fn := fun _ => fun
  | [d] => { results := [.lit (.bool false)], args := [d] }
  | _ => none }
def TwinRowsWrongFalsely : Prop := twinRowsRow.holds Try.pinned (OpenSpec.ofChange twinRowsWrong)

/- THE SECOND FORM. 'bulk': how many values and letters a reading holds, each counted each time it is reached (what is shared counts as often as it is met; a slice's spare places count too). A statement '..UptoSaid' is the law's where the arguments, and the package variables that the reading takes, are together of bulk at most 1048576: NARROWER than '..Said'. Prove '..Said' where nothing that the law and all that it calls make is longer than what came in: it says more and counts as full. Else prove '..UptoSaid'. A law counts once. -/
mutual
def uptoBulk {H : Type} : DataW H → Nat
  | .lit (.string bytes) => bytes.length + 1
  | .lit _ => 1
  | .nil => 1
  | .ptr d => uptoBulk d + 1
  | .slice elems spare => uptoBulkAll elems + uptoBulkAll spare + 1
  | .agg parts => uptoBulkAll parts + 1
  | .iface _ d => uptoBulk d + 1
  | .map entries => uptoBulkEntries entries + 1
  | .held _ => 1
def uptoBulkAll {H : Type} : List (DataW H) → Nat
  | [] => 0
  | d :: r => uptoBulk d + uptoBulkAll r
def uptoBulkEntries {H : Type} : List (Lit × DataW H) → Nat
  | [] => 0
  | x :: r => uptoBulkEntry x + uptoBulkEntries r
def uptoBulkEntry {H : Type} : Lit × DataW H → Nat
  | (.string bytes, d) => bytes.length + uptoBulk d + 1
  | (_, d) => uptoBulk d + 1
 end
def uptoSmall : (H : Type) → List (DataW H) → Bool := fun _ ds => decide (uptoBulkAll ds ≤ 1048576)
def OpenSpec.upto (s : _root_.Go.ChangeSpec) : _root_.Go.OpenSpec := { _root_.Go.OpenSpec.ofChange s with cond := some uptoSmall }

/-- 'tarnlaw03.TwinSums', WHERE WHAT IT READS IS OF BULK AT MOST 1048576: true; the input reads as it did. -/
def twinSumsUptoRow : OpenClaim := { program := "ytkkikcfolinkfaa", sum := "e54f06cb95a95b63669a91038c52c3899638058832f5eee0dfaef8e4110f81be", func := "tarn/tarnlaw03.TwinSums", spec := "twinSums", inPlace := ["math.Float64bits", "math.Float64frombits"], apart := false, narrowed := true }
def TwinSumsUptoSaid : Prop := twinSumsUptoRow.holds Try.pinned (OpenSpec.upto twinSumsSpec)

/-- 'tarnlaw03.TwinProducts', WHERE WHAT IT READS IS OF BULK AT MOST 1048576: true; the input reads as it did. -/
def twinProductsUptoRow : OpenClaim := { program := "ytkkikcfolinkfaa", sum := "e54f06cb95a95b63669a91038c52c3899638058832f5eee0dfaef8e4110f81be", func := "tarn/tarnlaw03.TwinProducts", spec := "twinProducts", inPlace := ["math.Float64bits", "math.Float64frombits"], apart := false, narrowed := true }
def TwinProductsUptoSaid : Prop := twinProductsUptoRow.holds Try.pinned (OpenSpec.upto twinProductsSpec)

/-- 'tarnlaw03.TwinExact', WHERE WHAT IT READS IS OF BULK AT MOST 1048576: true; the input reads as it did. -/
def twinExactUptoRow : OpenClaim := { program := "ytkkikcfolinkfaa", sum := "e54f06cb95a95b63669a91038c52c3899638058832f5eee0dfaef8e4110f81be", func := "tarn/tarnlaw03.TwinExact", spec := "twinExact", inPlace := ["math.Float64bits", "math.Float64frombits"], apart := false, narrowed := true }
def TwinExactUptoSaid : Prop := twinExactUptoRow.holds Try.pinned (OpenSpec.upto twinExactSpec)

/-- 'tarnlaw03.TwinHalves', WHERE WHAT IT READS IS OF BULK AT MOST 1048576: true; the input reads as it did. -/
def twinHalvesUptoRow : OpenClaim := { program := "ytkkikcfolinkfaa", sum := "e54f06cb95a95b63669a91038c52c3899638058832f5eee0dfaef8e4110f81be", func := "tarn/tarnlaw03.TwinHalves", spec := "twinHalves", inPlace := ["math.Float64bits", "math.Float64frombits"], apart := false, narrowed := true }
def TwinHalvesUptoSaid : Prop := twinHalvesUptoRow.holds Try.pinned (OpenSpec.upto twinHalvesSpec)

/-- 'tarnlaw03.TwinTimes', WHERE WHAT IT READS IS OF BULK AT MOST 1048576: true; the input reads as it did. -/
def twinTimesUptoRow : OpenClaim := { program := "ytkkikcfolinkfaa", sum := "e54f06cb95a95b63669a91038c52c3899638058832f5eee0dfaef8e4110f81be", func := "tarn/tarnlaw03.TwinTimes", spec := "twinTimes", inPlace := ["math.Float64bits", "math.Float64frombits"], apart := false, narrowed := true }
def TwinTimesUptoSaid : Prop := twinTimesUptoRow.holds Try.pinned (OpenSpec.upto twinTimesSpec)

/-- 'tarnlaw03.TwinTurned', WHERE WHAT IT READS IS OF BULK AT MOST 1048576: true; the input reads as it did. -/
def twinTurnedUptoRow : OpenClaim := { program := "ytkkikcfolinkfaa", sum := "e54f06cb95a95b63669a91038c52c3899638058832f5eee0dfaef8e4110f81be", func := "tarn/tarnlaw03.TwinTurned", spec := "twinTurned", inPlace := ["math.Float64bits", "math.Float64frombits"], apart := false, narrowed := true }
def TwinTurnedUptoSaid : Prop := twinTurnedUptoRow.holds Try.pinned (OpenSpec.upto twinTurnedSpec)

/-- 'tarnlaw03.TwinAdds', WHERE WHAT IT READS IS OF BULK AT MOST 1048576: true; the input reads as it did. -/
def twinAddsUptoRow : OpenClaim := { program := "ytkkikcfolinkfaa", sum := "e54f06cb95a95b63669a91038c52c3899638058832f5eee0dfaef8e4110f81be", func := "tarn/tarnlaw03.TwinAdds", spec := "twinAdds", inPlace := ["math.Float64bits", "math.Float64frombits"], apart := false, narrowed := true }
def TwinAddsUptoSaid : Prop := twinAddsUptoRow.holds Try.pinned (OpenSpec.upto twinAddsSpec)

/-- 'tarnlaw03.TwinRows', WHERE WHAT IT READS IS OF BULK AT MOST 1048576: true; the input reads as it did. -/
def twinRowsUptoRow : OpenClaim := { program := "ytkkikcfolinkfaa", sum := "e54f06cb95a95b63669a91038c52c3899638058832f5eee0dfaef8e4110f81be", func := "tarn/tarnlaw03.TwinRows", spec := "twinRows", inPlace := ["math.Float64bits", "math.Float64frombits"], apart := false, narrowed := true }
def TwinRowsUptoSaid : Prop := twinRowsUptoRow.holds Try.pinned (OpenSpec.upto twinRowsSpec)

end Rows
end Go.Proofs.Ytkkikcfolinkfaa
