/-
  No cell of these rows narrows 'for every input' (looked for: loops, veiled, ifaces, maps, wideKeys, modest, calm, conditions, laid).
  DERIVED. THE GIVEN ROWS OF THIS SEAT. 6 by the template 'for every input the law returns true; each argument reads behind the call as it read before'; 0 by the template 'total and deterministic' (their statements: YthncemlldkdkiaaTotals.lean).
  GIVEN WITH THE SEED: the statements are not yours to turn. If you find one false, say at which input.
  Laid BY PROGRAM, IN A SANDBOX (cutbox-rows.mjs): the forced cells as the released guide's own fill.sh prints them over the translation 3c61fd3052898ac8… (all of the seat's roots in one cut). By AI agents, Wed Nov 11 2026. No macro, syntax, notation, axiom, sorry.
-/
import Derived.Test.YthncemlldkdkiaaChecked
import GoSem.Claim
import GoSem.ClaimJoined
import GoSem.ClaimMapViews
import Derived.JoinedTies
import Derived.KernelRfl
namespace Go.Proofs.Ythncemlldkdkiaa
/- THE CELL 'sum', in the pinned program and in every row, IS THE sha256 OF THE DUMP (.gsa) THAT YthncemlldkdkiaaProg.lean LOADS. Nothing in Lean hashes anything: it is a label: what it is worth is what the hold of that sum in a sandbox is worth. -/
noncomputable def Try.pinned : Pinned := { name := "ythncemlldkdkiaa", sum := "3c61fd3052898ac83ec24f9b300e05bdd1adcef5823166ea11a0ce86a33624d7", checked := Try.checked }
namespace Rows
def none {H : Type} : Left H := { results := [], args := [] }

/-- 'tarnlaw02.ConvAll': WHATEVER THE INPUT: true; the input reads as it did. -/
def convAllSpec : ChangeSpec := { name := "convAll", fn := fun _ => fun
  | [d] => { results := [.lit (.bool true)], args := [d] }
  | _ => none }
def convAllRow : OpenClaim := { program := "ythncemlldkdkiaa", sum := "3c61fd3052898ac83ec24f9b300e05bdd1adcef5823166ea11a0ce86a33624d7", func := "tarn/tarnlaw02.ConvAll", spec := "convAll", inPlace := ["math.Float64bits", "math.Float64frombits", "math.archFloor", "math.archTrunc", "math.Float32bits", "math.Float32frombits"], apart := false }
def ConvAllSaid : Prop := convAllRow.holds Try.pinned (OpenSpec.ofChange convAllSpec)

/-- ITS FALSE NEIGHBOUR: 'it returns false'. Refute it at one input. -/
def convAllWrong : ChangeSpec := { name := "convAll", fn := fun _ => fun
  | [d] => { results := [.lit (.bool false)], args := [d] }
  | _ => none }
def ConvAllWrongFalsely : Prop := convAllRow.holds Try.pinned (OpenSpec.ofChange convAllWrong)

/-- 'tarnlaw02.ConvBack': WHATEVER THE INPUT: true; the input reads as it did. -/
def convBackSpec : ChangeSpec := { name := "convBack", fn := fun _ => fun
  | [d1, d2, d3] => { results := [.lit (.bool true)], args := [d1, d2, d3] }
  | _ => none }
def convBackRow : OpenClaim := { program := "ythncemlldkdkiaa", sum := "3c61fd3052898ac83ec24f9b300e05bdd1adcef5823166ea11a0ce86a33624d7", func := "tarn/tarnlaw02.ConvBack", spec := "convBack", inPlace := ["math.Float64bits", "math.Float64frombits", "math.archFloor", "math.archTrunc", "math.Float32bits", "math.Float32frombits"], apart := false }
def ConvBackSaid : Prop := convBackRow.holds Try.pinned (OpenSpec.ofChange convBackSpec)

/-- ITS FALSE NEIGHBOUR: 'it returns false'. Refute it at one input. -/
def convBackWrong : ChangeSpec := { name := "convBack", fn := fun _ => fun
  | [d1, d2, d3] => { results := [.lit (.bool false)], args := [d1, d2, d3] }
  | _ => none }
def ConvBackWrongFalsely : Prop := convBackRow.holds Try.pinned (OpenSpec.ofChange convBackWrong)

/-- 'tarnlaw02.ConvNear': WHATEVER THE INPUT: true; the input reads as it did. -/
def convNearSpec : ChangeSpec := { name := "convNear", fn := fun _ => fun
  | [d] => { results := [.lit (.bool true)], args := [d] }
  | _ => none }
def convNearRow : OpenClaim := { program := "ythncemlldkdkiaa", sum := "3c61fd3052898ac83ec24f9b300e05bdd1adcef5823166ea11a0ce86a33624d7", func := "tarn/tarnlaw02.ConvNear", spec := "convNear", inPlace := ["math.Float64bits", "math.Float64frombits", "math.archFloor", "math.archTrunc", "math.Float32bits", "math.Float32frombits"], apart := false }
def ConvNearSaid : Prop := convNearRow.holds Try.pinned (OpenSpec.ofChange convNearSpec)

/-- ITS FALSE NEIGHBOUR: 'it returns false'. Refute it at one input. -/
def convNearWrong : ChangeSpec := { name := "convNear", fn := fun _ => fun
  | [d] => { results := [.lit (.bool false)], args := [d] }
  | _ => none }
def ConvNearWrongFalsely : Prop := convNearRow.holds Try.pinned (OpenSpec.ofChange convNearWrong)

/-- 'tarnlaw02.ConvWhole': WHATEVER THE INPUT: true; the input reads as it did. -/
def convWholeSpec : ChangeSpec := { name := "convWhole", fn := fun _ => fun
  | [d1, d2] => { results := [.lit (.bool true)], args := [d1, d2] }
  | _ => none }
def convWholeRow : OpenClaim := { program := "ythncemlldkdkiaa", sum := "3c61fd3052898ac83ec24f9b300e05bdd1adcef5823166ea11a0ce86a33624d7", func := "tarn/tarnlaw02.ConvWhole", spec := "convWhole", inPlace := ["math.Float64bits", "math.Float64frombits", "math.archFloor", "math.archTrunc", "math.Float32bits", "math.Float32frombits"], apart := false }
def ConvWholeSaid : Prop := convWholeRow.holds Try.pinned (OpenSpec.ofChange convWholeSpec)

/-- ITS FALSE NEIGHBOUR: 'it returns false'. Refute it at one input. -/
def convWholeWrong : ChangeSpec := { name := "convWhole", fn := fun _ => fun
  | [d1, d2] => { results := [.lit (.bool false)], args := [d1, d2] }
  | _ => none }
def ConvWholeWrongFalsely : Prop := convWholeRow.holds Try.pinned (OpenSpec.ofChange convWholeWrong)

/-- 'tarnlaw02.ConvOrder': WHATEVER THE INPUT: true; the input reads as it did. -/
def convOrderSpec : ChangeSpec := { name := "convOrder", fn := fun _ => fun
  | [d1, d2, d3] => { results := [.lit (.bool true)], args := [d1, d2, d3] }
  | _ => none }
def convOrderRow : OpenClaim := { program := "ythncemlldkdkiaa", sum := "3c61fd3052898ac83ec24f9b300e05bdd1adcef5823166ea11a0ce86a33624d7", func := "tarn/tarnlaw02.ConvOrder", spec := "convOrder", inPlace := ["math.Float64bits", "math.Float64frombits", "math.archFloor", "math.archTrunc", "math.Float32bits", "math.Float32frombits"], apart := false }
def ConvOrderSaid : Prop := convOrderRow.holds Try.pinned (OpenSpec.ofChange convOrderSpec)

/-- ITS FALSE NEIGHBOUR: 'it returns false'. Refute it at one input. -/
def convOrderWrong : ChangeSpec := { name := "convOrder", fn := fun _ => fun
  | [d1, d2, d3] => { results := [.lit (.bool false)], args := [d1, d2, d3] }
  | _ => none }
def ConvOrderWrongFalsely : Prop := convOrderRow.holds Try.pinned (OpenSpec.ofChange convOrderWrong)

/-- 'tarnlaw02.ConvOpposite': WHATEVER THE INPUT: true; the input reads as it did. -/
def convOppositeSpec : ChangeSpec := { name := "convOpposite", fn := fun _ => fun
  | [d1, d2] => { results := [.lit (.bool true)], args := [d1, d2] }
  | _ => none }
def convOppositeRow : OpenClaim := { program := "ythncemlldkdkiaa", sum := "3c61fd3052898ac83ec24f9b300e05bdd1adcef5823166ea11a0ce86a33624d7", func := "tarn/tarnlaw02.ConvOpposite", spec := "convOpposite", inPlace := ["math.Float64bits", "math.Float64frombits", "math.archFloor", "math.archTrunc", "math.Float32bits", "math.Float32frombits"], apart := false }
def ConvOppositeSaid : Prop := convOppositeRow.holds Try.pinned (OpenSpec.ofChange convOppositeSpec)

/-- ITS FALSE NEIGHBOUR: 'it returns false'. Refute it at one input. -/
def convOppositeWrong : ChangeSpec := { name := "convOpposite", fn := fun _ => fun
  | [d1, d2] => { results := [.lit (.bool false)], args := [d1, d2] }
  | _ => none }
def ConvOppositeWrongFalsely : Prop := convOppositeRow.holds Try.pinned (OpenSpec.ofChange convOppositeWrong)

/- THE SECOND FORM. 'bulk': how many values and letters a reading holds, each counted each time it is reached (what is shared counts as often as it is met; a slice's spare places count too). A statement '..UptoSaid' is the law's where the arguments, and the package variables that the reading takes, are together of bulk at most 1048576: NARROWER than '..Said'. Prove '..Said' where nothing that the law and all that it calls make is longer than what came in: it says more and counts as full. Else prove '..UptoSaid'. A law counts once. -/
mutual
def uptoBulk {H : Type} : DataW H → Nat
  | .lit (.string bytes) => bytes.length + 1
  | .lit _ => 1
  | .nil => 1
  | .ptr d => uptoBulk d + 1
  | .slice elems spare => uptoBulkAll elems + uptoBulkAll spare + 1
  | .agg parts => uptoBulkAll parts + 1
  | .iface _ d => uptoBulk d + 1
  | .map entries => uptoBulkEntries entries + 1
  | .held _ => 1
def uptoBulkAll {H : Type} : List (DataW H) → Nat
  | [] => 0
  | d :: r => uptoBulk d + uptoBulkAll r
def uptoBulkEntries {H : Type} : List (Lit × DataW H) → Nat
  | [] => 0
  | x :: r => uptoBulkEntry x + uptoBulkEntries r
def uptoBulkEntry {H : Type} : Lit × DataW H → Nat
  | (.string bytes, d) => bytes.length + uptoBulk d + 1
  | (_, d) => uptoBulk d + 1
 end
def uptoSmall : (H : Type) → List (DataW H) → Bool := fun _ ds => decide (uptoBulkAll ds ≤ 1048576)
def OpenSpec.upto (s : _root_.Go.ChangeSpec) : _root_.Go.OpenSpec := { _root_.Go.OpenSpec.ofChange s with cond := some uptoSmall }

/-- 'tarnlaw02.ConvAll', WHERE WHAT IT READS IS OF BULK AT MOST 1048576: true; the input reads as it did. -/
def convAllUptoRow : OpenClaim := { program := "ythncemlldkdkiaa", sum := "3c61fd3052898ac83ec24f9b300e05bdd1adcef5823166ea11a0ce86a33624d7", func := "tarn/tarnlaw02.ConvAll", spec := "convAll", inPlace := ["math.Float64bits", "math.Float64frombits", "math.archFloor", "math.archTrunc", "math.Float32bits", "math.Float32frombits"], apart := false, narrowed := true }
def ConvAllUptoSaid : Prop := convAllUptoRow.holds Try.pinned (OpenSpec.upto convAllSpec)

/-- 'tarnlaw02.ConvBack', WHERE WHAT IT READS IS OF BULK AT MOST 1048576: true; the input reads as it did. -/
def convBackUptoRow : OpenClaim := { program := "ythncemlldkdkiaa", sum := "3c61fd3052898ac83ec24f9b300e05bdd1adcef5823166ea11a0ce86a33624d7", func := "tarn/tarnlaw02.ConvBack", spec := "convBack", inPlace := ["math.Float64bits", "math.Float64frombits", "math.archFloor", "math.archTrunc", "math.Float32bits", "math.Float32frombits"], apart := false, narrowed := true }
def ConvBackUptoSaid : Prop := convBackUptoRow.holds Try.pinned (OpenSpec.upto convBackSpec)

/-- 'tarnlaw02.ConvNear', WHERE WHAT IT READS IS OF BULK AT MOST 1048576: true; the input reads as it did. -/
def convNearUptoRow : OpenClaim := { program := "ythncemlldkdkiaa", sum := "3c61fd3052898ac83ec24f9b300e05bdd1adcef5823166ea11a0ce86a33624d7", func := "tarn/tarnlaw02.ConvNear", spec := "convNear", inPlace := ["math.Float64bits", "math.Float64frombits", "math.archFloor", "math.archTrunc", "math.Float32bits", "math.Float32frombits"], apart := false, narrowed := true }
def ConvNearUptoSaid : Prop := convNearUptoRow.holds Try.pinned (OpenSpec.upto convNearSpec)

/-- 'tarnlaw02.ConvWhole', WHERE WHAT IT READS IS OF BULK AT MOST 1048576: true; the input reads as it did. -/
def convWholeUptoRow : OpenClaim := { program := "ythncemlldkdkiaa", sum := "3c61fd3052898ac83ec24f9b300e05bdd1adcef5823166ea11a0ce86a33624d7", func := "tarn/tarnlaw02.ConvWhole", spec := "convWhole", inPlace := ["math.Float64bits", "math.Float64frombits", "math.archFloor", "math.archTrunc", "math.Float32bits", "math.Float32frombits"], apart := false, narrowed := true }
def ConvWholeUptoSaid : Prop := convWholeUptoRow.holds Try.pinned (OpenSpec.upto convWholeSpec)

/-- 'tarnlaw02.ConvOrder', WHERE WHAT IT READS IS OF BULK AT MOST 1048576: true; the input reads as it did. -/
def convOrderUptoRow : OpenClaim := { program := "ythncemlldkdkiaa", sum := "3c61fd3052898ac83ec24f9b300e05bdd1adcef5823166ea11a0ce86a33624d7", func := "tarn/tarnlaw02.ConvOrder", spec := "convOrder", inPlace := ["math.Float64bits", "math.Float64frombits", "math.archFloor", "math.archTrunc", "math.Float32bits", "math.Float32frombits"], apart := false, narrowed := true }
def ConvOrderUptoSaid : Prop := convOrderUptoRow.holds Try.pinned (OpenSpec.upto convOrderSpec)

/-- 'tarnlaw02.ConvOpposite', WHERE WHAT IT READS IS OF BULK AT MOST 1048576: true; the input reads as it did. -/
def convOppositeUptoRow : OpenClaim := { program := "ythncemlldkdkiaa", sum := "3c61fd3052898ac83ec24f9b300e05bdd1adcef5823166ea11a0ce86a33624d7", func := "tarn/tarnlaw02.ConvOpposite", spec := "convOpposite", inPlace := ["math.Float64bits", "math.Float64frombits", "math.archFloor", "math.archTrunc", "math.Float32bits", "math.Float32frombits"], apart := false, narrowed := true }
def ConvOppositeUptoSaid : Prop := convOppositeUptoRow.holds Try.pinned (OpenSpec.upto convOppositeSpec)

end Rows
end Go.Proofs.Ythncemlldkdkiaa
