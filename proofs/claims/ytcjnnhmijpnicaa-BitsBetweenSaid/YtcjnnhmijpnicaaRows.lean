/-
  No cell of these rows narrows 'for every input' (looked for: loops, veiled, ifaces, maps, wideKeys, modest, calm, conditions, laid).
  DERIVED. THE GIVEN ROWS OF THIS SEAT. 7 by the template 'for every input the law returns true; each argument reads behind the call as it read before'; 0 by the template 'total and deterministic' (their statements: YtcjnnhmijpnicaaTotals.lean).
  GIVEN WITH THE SEED: the statements are not yours to turn. If you find one false, say at which input.
  Laid BY PROGRAM, IN A SANDBOX (cutbox-rows.mjs): the forced cells as the released guide's own fill.sh prints them over the translation 06d1ccdafefd95af… (all of the seat's roots in one cut). By AI agents, Wed Nov 11 2026. No macro, syntax, notation, axiom, sorry.
-/
import Derived.Test.YtcjnnhmijpnicaaChecked
import GoSem.Claim
import GoSem.ClaimJoined
import GoSem.ClaimMapViews
import Derived.JoinedTies
import Derived.KernelRfl
namespace Go.Proofs.Ytcjnnhmijpnicaa
/- THE CELL 'sum', in the pinned program and in every row, IS THE sha256 OF THE DUMP (.gsa) THAT YtcjnnhmijpnicaaProg.lean LOADS. Nothing in Lean hashes anything: it is a label: what it is worth is what the hold of that sum in a sandbox is worth. -/
noncomputable def Try.pinned : Pinned := { name := "ytcjnnhmijpnicaa", sum := "06d1ccdafefd95afc446dccf4265426fe41748271dfba4ae010d35a4864f9183", checked := Try.checked }
namespace Rows
def none {H : Type} : Left H := { results := [], args := [] }

/-- 'tarnlaw01.BitsOrder': WHATEVER THE INPUT: true; the input reads as it did. -/
def bitsOrderSpec : ChangeSpec := { name := "bitsOrder", fn := fun _ => fun
  | [d1, d2, d3] => { results := [.lit (.bool true)], args := [d1, d2, d3] }
  | _ => none }
def bitsOrderRow : OpenClaim := { program := "ytcjnnhmijpnicaa", sum := "06d1ccdafefd95afc446dccf4265426fe41748271dfba4ae010d35a4864f9183", func := "tarn/tarnlaw01.BitsOrder", spec := "bitsOrder", inPlace := ["math.Float64bits", "math.Float64frombits"], apart := false }
def BitsOrderSaid : Prop := bitsOrderRow.holds Try.pinned (OpenSpec.ofChange bitsOrderSpec)

/-- ITS FALSE NEIGHBOUR: 'it returns false'. Refute it at one input. -/
def bitsOrderWrong : ChangeSpec := { name := "bitsOrder", fn := fun _ => fun
  | [d1, d2, d3] => { results := [.lit (.bool false)], args := [d1, d2, d3] }
  | _ => none }
def BitsOrderWrongFalsely : Prop := bitsOrderRow.holds Try.pinned (OpenSpec.ofChange bitsOrderWrong)

/-- 'tarnlaw01.BitsBetween': WHATEVER THE INPUT: true; the input reads as it did. -/
def bitsBetweenSpec : ChangeSpec := { name := "bitsBetween", fn := fun _ => fun
  | [d1, d2, d3, d4] => { results := [.lit (.bool true)], args := [d1, d2, d3, d4] }
  | _ => none }
def bitsBetweenRow : OpenClaim := { program := "ytcjnnhmijpnicaa", sum := "06d1ccdafefd95afc446dccf4265426fe41748271dfba4ae010d35a4864f9183", func := "tarn/tarnlaw01.BitsBetween", spec := "bitsBetween", inPlace := ["math.Float64bits", "math.Float64frombits"], apart := false }
def BitsBetweenSaid : Prop := bitsBetweenRow.holds Try.pinned (OpenSpec.ofChange bitsBetweenSpec)

/-- ITS FALSE NEIGHBOUR: 'it returns false'. Refute it at one input. -/
def bitsBetweenWrong : ChangeSpec := { name := "bitsBetween", fn := fun _ => fun
  | [d1, d2, d3, d4] => { results := [.lit (.bool false)], args := [d1, d2, d3, d4] }
  | _ => none }
def BitsBetweenWrongFalsely : Prop := bitsBetweenRow.holds Try.pinned (OpenSpec.ofChange bitsBetweenWrong)

/-- 'tarnlaw01.BitsCanon': WHATEVER THE INPUT: true; the input reads as it did. -/
def bitsCanonSpec : ChangeSpec := { name := "bitsCanon", fn := fun _ => fun
  | [d] => { results := [.lit (.bool true)], args := [d] }
  | _ => none }
def bitsCanonRow : OpenClaim := { program := "ytcjnnhmijpnicaa", sum := "06d1ccdafefd95afc446dccf4265426fe41748271dfba4ae010d35a4864f9183", func := "tarn/tarnlaw01.BitsCanon", spec := "bitsCanon", inPlace := ["math.Float64bits", "math.Float64frombits"], apart := false }
def BitsCanonSaid : Prop := bitsCanonRow.holds Try.pinned (OpenSpec.ofChange bitsCanonSpec)

/-- ITS FALSE NEIGHBOUR: 'it returns false'. Refute it at one input. -/
def bitsCanonWrong : ChangeSpec := { name := "bitsCanon", fn := fun _ => fun
  | [d] => { results := [.lit (.bool false)], args := [d] }
  | _ => none }
def BitsCanonWrongFalsely : Prop := bitsCanonRow.holds Try.pinned (OpenSpec.ofChange bitsCanonWrong)

/-- 'tarnlaw01.BitsMaxMin': WHATEVER THE INPUT: true; the input reads as it did. -/
def bitsMaxMinSpec : ChangeSpec := { name := "bitsMaxMin", fn := fun _ => fun
  | [d1, d2] => { results := [.lit (.bool true)], args := [d1, d2] }
  | _ => none }
def bitsMaxMinRow : OpenClaim := { program := "ytcjnnhmijpnicaa", sum := "06d1ccdafefd95afc446dccf4265426fe41748271dfba4ae010d35a4864f9183", func := "tarn/tarnlaw01.BitsMaxMin", spec := "bitsMaxMin", inPlace := ["math.Float64bits", "math.Float64frombits"], apart := false }
def BitsMaxMinSaid : Prop := bitsMaxMinRow.holds Try.pinned (OpenSpec.ofChange bitsMaxMinSpec)

/-- ITS FALSE NEIGHBOUR: 'it returns false'. Refute it at one input. -/
def bitsMaxMinWrong : ChangeSpec := { name := "bitsMaxMin", fn := fun _ => fun
  | [d1, d2] => { results := [.lit (.bool false)], args := [d1, d2] }
  | _ => none }
def BitsMaxMinWrongFalsely : Prop := bitsMaxMinRow.holds Try.pinned (OpenSpec.ofChange bitsMaxMinWrong)

/-- 'tarnlaw01.BitsNeighbours': WHATEVER THE INPUT: true; the input reads as it did. -/
def bitsNeighboursSpec : ChangeSpec := { name := "bitsNeighbours", fn := fun _ => fun
  | [d] => { results := [.lit (.bool true)], args := [d] }
  | _ => none }
def bitsNeighboursRow : OpenClaim := { program := "ytcjnnhmijpnicaa", sum := "06d1ccdafefd95afc446dccf4265426fe41748271dfba4ae010d35a4864f9183", func := "tarn/tarnlaw01.BitsNeighbours", spec := "bitsNeighbours", inPlace := ["math.Float64bits", "math.Float64frombits"], apart := false }
def BitsNeighboursSaid : Prop := bitsNeighboursRow.holds Try.pinned (OpenSpec.ofChange bitsNeighboursSpec)

/-- ITS FALSE NEIGHBOUR: 'it returns false'. Refute it at one input. -/
def bitsNeighboursWrong : ChangeSpec := { name := "bitsNeighbours", fn := fun _ => fun
  | [d] => { results := [.lit (.bool false)], args := [d] }
  | _ => none }
def BitsNeighboursWrongFalsely : Prop := bitsNeighboursRow.holds Try.pinned (OpenSpec.ofChange bitsNeighboursWrong)

/-- 'tarnlaw01.BitsUlp': WHATEVER THE INPUT: true; the input reads as it did. -/
def bitsUlpSpec : ChangeSpec := { name := "bitsUlp", fn := fun _ => fun
  | [d] => { results := [.lit (.bool true)], args := [d] }
  | _ => none }
def bitsUlpRow : OpenClaim := { program := "ytcjnnhmijpnicaa", sum := "06d1ccdafefd95afc446dccf4265426fe41748271dfba4ae010d35a4864f9183", func := "tarn/tarnlaw01.BitsUlp", spec := "bitsUlp", inPlace := ["math.Float64bits", "math.Float64frombits"], apart := false }
def BitsUlpSaid : Prop := bitsUlpRow.holds Try.pinned (OpenSpec.ofChange bitsUlpSpec)

/-- ITS FALSE NEIGHBOUR: 'it returns false'. Refute it at one input. -/
def bitsUlpWrong : ChangeSpec := { name := "bitsUlp", fn := fun _ => fun
  | [d] => { results := [.lit (.bool false)], args := [d] }
  | _ => none }
def BitsUlpWrongFalsely : Prop := bitsUlpRow.holds Try.pinned (OpenSpec.ofChange bitsUlpWrong)

/-- 'tarnlaw01.BitsAll': WHATEVER THE INPUT: true; the input reads as it did. -/
def bitsAllSpec : ChangeSpec := { name := "bitsAll", fn := fun _ => fun
  | [d] => { results := [.lit (.bool true)], args := [d] }
  | _ => none }
def bitsAllRow : OpenClaim := { program := "ytcjnnhmijpnicaa", sum := "06d1ccdafefd95afc446dccf4265426fe41748271dfba4ae010d35a4864f9183", func := "tarn/tarnlaw01.BitsAll", spec := "bitsAll", inPlace := ["math.Float64bits", "math.Float64frombits"], apart := false }
def BitsAllSaid : Prop := bitsAllRow.holds Try.pinned (OpenSpec.ofChange bitsAllSpec)

/-- ITS FALSE NEIGHBOUR: 'it returns false'. Refute it at one input. -/
def bitsAllWrong : ChangeSpec := { name := "bitsAll", fn := fun _ => fun
  | [d] => { results := [.lit (.bool false)], args := [d] }
  | _ => none }
def BitsAllWrongFalsely : Prop := bitsAllRow.holds Try.pinned (OpenSpec.ofChange bitsAllWrong)

/- THE SECOND FORM. 'bulk': how many values and letters a reading holds, each counted each time it is reached (what is shared counts as often as it is met; a slice's spare places count too). A statement '..UptoSaid' is the law's where the arguments, and the package variables that the reading takes, are together of bulk at most 1048576: NARROWER than '..Said'. Prove '..Said' where nothing that the law and all that it calls make is longer than what came in: it says more and counts as full. Else prove '..UptoSaid'. A law counts once. -/
mutual
def uptoBulk {H : Type} : DataW H → Nat
  | .lit (.string bytes) => bytes.length + 1
  | .lit _ => 1
  | .nil => 1
  | .ptr d => uptoBulk d + 1
  | .slice elems spare => uptoBulkAll elems + uptoBulkAll spare + 1
  | .agg parts => uptoBulkAll parts + 1
  | .iface _ d => uptoBulk d + 1
  | .map entries => uptoBulkEntries entries + 1
  | .held _ => 1
def uptoBulkAll {H : Type} : List (DataW H) → Nat
  | [] => 0
  | d :: r => uptoBulk d + uptoBulkAll r
def uptoBulkEntries {H : Type} : List (Lit × DataW H) → Nat
  | [] => 0
  | x :: r => uptoBulkEntry x + uptoBulkEntries r
def uptoBulkEntry {H : Type} : Lit × DataW H → Nat
  | (.string bytes, d) => bytes.length + uptoBulk d + 1
  | (_, d) => uptoBulk d + 1
 end
def uptoSmall : (H : Type) → List (DataW H) → Bool := fun _ ds => decide (uptoBulkAll ds ≤ 1048576)
def OpenSpec.upto (s : _root_.Go.ChangeSpec) : _root_.Go.OpenSpec := { _root_.Go.OpenSpec.ofChange s with cond := some uptoSmall }

/-- 'tarnlaw01.BitsOrder', WHERE WHAT IT READS IS OF BULK AT MOST 1048576: true; the input reads as it did. -/
def bitsOrderUptoRow : OpenClaim := { program := "ytcjnnhmijpnicaa", sum := "06d1ccdafefd95afc446dccf4265426fe41748271dfba4ae010d35a4864f9183", func := "tarn/tarnlaw01.BitsOrder", spec := "bitsOrder", inPlace := ["math.Float64bits", "math.Float64frombits"], apart := false, narrowed := true }
def BitsOrderUptoSaid : Prop := bitsOrderUptoRow.holds Try.pinned (OpenSpec.upto bitsOrderSpec)

/-- 'tarnlaw01.BitsBetween', WHERE WHAT IT READS IS OF BULK AT MOST 1048576: true; the input reads as it did. -/
def bitsBetweenUptoRow : OpenClaim := { program := "ytcjnnhmijpnicaa", sum := "06d1ccdafefd95afc446dccf4265426fe41748271dfba4ae010d35a4864f9183", func := "tarn/tarnlaw01.BitsBetween", spec := "bitsBetween", inPlace := ["math.Float64bits", "math.Float64frombits"], apart := false, narrowed := true }
def BitsBetweenUptoSaid : Prop := bitsBetweenUptoRow.holds Try.pinned (OpenSpec.upto bitsBetweenSpec)

/-- 'tarnlaw01.BitsCanon', WHERE WHAT IT READS IS OF BULK AT MOST 1048576: true; the input reads as it did. -/
def bitsCanonUptoRow : OpenClaim := { program := "ytcjnnhmijpnicaa", sum := "06d1ccdafefd95afc446dccf4265426fe41748271dfba4ae010d35a4864f9183", func := "tarn/tarnlaw01.BitsCanon", spec := "bitsCanon", inPlace := ["math.Float64bits", "math.Float64frombits"], apart := false, narrowed := true }
def BitsCanonUptoSaid : Prop := bitsCanonUptoRow.holds Try.pinned (OpenSpec.upto bitsCanonSpec)

/-- 'tarnlaw01.BitsMaxMin', WHERE WHAT IT READS IS OF BULK AT MOST 1048576: true; the input reads as it did. -/
def bitsMaxMinUptoRow : OpenClaim := { program := "ytcjnnhmijpnicaa", sum := "06d1ccdafefd95afc446dccf4265426fe41748271dfba4ae010d35a4864f9183", func := "tarn/tarnlaw01.BitsMaxMin", spec := "bitsMaxMin", inPlace := ["math.Float64bits", "math.Float64frombits"], apart := false, narrowed := true }
def BitsMaxMinUptoSaid : Prop := bitsMaxMinUptoRow.holds Try.pinned (OpenSpec.upto bitsMaxMinSpec)

/-- 'tarnlaw01.BitsNeighbours', WHERE WHAT IT READS IS OF BULK AT MOST 1048576: true; the input reads as it did. -/
def bitsNeighboursUptoRow : OpenClaim := { program := "ytcjnnhmijpnicaa", sum := "06d1ccdafefd95afc446dccf4265426fe41748271dfba4ae010d35a4864f9183", func := "tarn/tarnlaw01.BitsNeighbours", spec := "bitsNeighbours", inPlace := ["math.Float64bits", "math.Float64frombits"], apart := false, narrowed := true }
def BitsNeighboursUptoSaid : Prop := bitsNeighboursUptoRow.holds Try.pinned (OpenSpec.upto bitsNeighboursSpec)

/-- 'tarnlaw01.BitsUlp', WHERE WHAT IT READS IS OF BULK AT MOST 1048576: true; the input reads as it did. -/
def bitsUlpUptoRow : OpenClaim := { program := "ytcjnnhmijpnicaa", sum := "06d1ccdafefd95afc446dccf4265426fe41748271dfba4ae010d35a4864f9183", func := "tarn/tarnlaw01.BitsUlp", spec := "bitsUlp", inPlace := ["math.Float64bits", "math.Float64frombits"], apart := false, narrowed := true }
def BitsUlpUptoSaid : Prop := bitsUlpUptoRow.holds Try.pinned (OpenSpec.upto bitsUlpSpec)

/-- 'tarnlaw01.BitsAll', WHERE WHAT IT READS IS OF BULK AT MOST 1048576: true; the input reads as it did. -/
def bitsAllUptoRow : OpenClaim := { program := "ytcjnnhmijpnicaa", sum := "06d1ccdafefd95afc446dccf4265426fe41748271dfba4ae010d35a4864f9183", func := "tarn/tarnlaw01.BitsAll", spec := "bitsAll", inPlace := ["math.Float64bits", "math.Float64frombits"], apart := false, narrowed := true }
def BitsAllUptoSaid : Prop := bitsAllUptoRow.holds Try.pinned (OpenSpec.upto bitsAllSpec)

end Rows
end Go.Proofs.Ytcjnnhmijpnicaa
