/-
  No cell of these rows narrows 'for every input' (looked for: loops, veiled, ifaces, maps, wideKeys, modest, calm, conditions, laid).
  DERIVED. THE GIVEN ROWS OF THIS SEAT. 4 by the template 'for every input the law returns true; each argument reads behind the call as it read before'; 0 by the template 'total and deterministic' (their statements: YtjbiklkjcalmkaaTotals.lean).
  GIVEN WITH THE SEED: the statements are not yours to turn. If you find one false, say at which input.
  Laid BY PROGRAM, IN A SANDBOX (cutbox-rows.mjs): the forced cells as the released guide's own fill.sh prints them over the translation 8121b696d762b16c… (all of the seat's roots in one cut). By AI agents, Wed Nov 11 2026. No macro, syntax, notation, axiom, sorry.
-/
import Derived.Test.YtjbiklkjcalmkaaChecked
import GoSem.Claim
import GoSem.ClaimJoined
import GoSem.ClaimMapViews
import Derived.JoinedTies
import Derived.KernelRfl
namespace Go.Proofs.Ytjbiklkjcalmkaa
/- THE CELL 'sum', in the pinned program and in every row, IS THE sha256 OF THE DUMP (.gsa) THAT YtjbiklkjcalmkaaProg.lean LOADS. Nothing in Lean hashes anything: it is a label: what it is worth is what the hold of that sum in a sandbox is worth. -/
noncomputable def Try.pinned : Pinned := { name := "ytjbiklkjcalmkaa", sum := "8121b696d762b16ce1e62fbe60402beca05bc8311bcbb6697c1aa43fa09aa97d", checked := Try.checked }
namespace Rows
def none {H : Type} : Left H := { results := [], args := [] }

/-- 'tarnlaw10.LimitAll': WHATEVER THE INPUT: true; the input reads as it did. -/
def limitAllSpec : ChangeSpec := { name := "limitAll", fn := fun _ => fun
  | [d] => { results := [.lit (.bool true)], args := [d] }
  | _ => none }
def limitAllRow : OpenClaim := { program := "ytjbiklkjcalmkaa", sum := "8121b696d762b16ce1e62fbe60402beca05bc8311bcbb6697c1aa43fa09aa97d", func := "tarn/tarnlaw10.LimitAll", spec := "limitAll", inPlace := ["math.Float64frombits", "math.Float64bits"], unfollowed := true, recurses := true, apart := false }
def LimitAllSaid : Prop := limitAllRow.holds Try.pinned (OpenSpec.ofChange limitAllSpec)

/-- ITS FALSE NEIGHBOUR: 'it returns false'. Refute it at one input. -/
def limitAllWrong : ChangeSpec := { name := "limitAll", fn := fun _ => fun
  | [d] => { results := [.lit (.bool false)], args := [d] }
  | _ => none }
def LimitAllWrongFalsely : Prop := limitAllRow.holds Try.pinned (OpenSpec.ofChange limitAllWrong)

/-- 'tarnlaw10.LimitTurned': WHATEVER THE INPUT: true; the input reads as it did. -/
def limitTurnedSpec : ChangeSpec := { name := "limitTurned", fn := fun _ => fun
  | [d1, d2] => { results := [.lit (.bool true)], args := [d1, d2] }
  | _ => none }
def limitTurnedRow : OpenClaim := { program := "ytjbiklkjcalmkaa", sum := "8121b696d762b16ce1e62fbe60402beca05bc8311bcbb6697c1aa43fa09aa97d", func := "tarn/tarnlaw10.LimitTurned", spec := "limitTurned", inPlace := ["math.Float64frombits", "math.Float64bits"], unfollowed := true, recurses := true, apart := false }
def LimitTurnedSaid : Prop := limitTurnedRow.holds Try.pinned (OpenSpec.ofChange limitTurnedSpec)

/-- ITS FALSE NEIGHBOUR: 'it returns false'. Refute it at one input. -/
def limitTurnedWrong : ChangeSpec := { name := "limitTurned", fn := fun _ => fun
  | [d1, d2] => { results := [.lit (.bool false)], args := [d1, d2] }
  | _ => none }
def LimitTurnedWrongFalsely : Prop := limitTurnedRow.holds Try.pinned (OpenSpec.ofChange limitTurnedWrong)

/-- 'tarnlaw10.LimitBounds': WHATEVER THE INPUT: true; the input reads as it did. -/
def limitBoundsSpec : ChangeSpec := { name := "limitBounds", fn := fun _ => fun
  | [d1, d2] => { results := [.lit (.bool true)], args := [d1, d2] }
  | _ => none }
def limitBoundsRow : OpenClaim := { program := "ytjbiklkjcalmkaa", sum := "8121b696d762b16ce1e62fbe60402beca05bc8311bcbb6697c1aa43fa09aa97d", func := "tarn/tarnlaw10.LimitBounds", spec := "limitBounds", inPlace := ["math.Float64frombits", "math.Float64bits"], unfollowed := true, recurses := true, apart := false }
def LimitBoundsSaid : Prop := limitBoundsRow.holds Try.pinned (OpenSpec.ofChange limitBoundsSpec)

/-- ITS FALSE NEIGHBOUR: 'it returns false'. Refute it at one input. -/
def limitBoundsWrong : ChangeSpec := { name := "limitBounds", fn := fun _ => fun
  | [d1, d2] => { results := [.lit (.bool false)], args := [d1, d2] }
  | _ => none }
def LimitBoundsWrongFalsely : Prop := limitBoundsRow.holds Try.pinned (OpenSpec.ofChange limitBoundsWrong)

/-- 'tarnlaw10.LimitScales': WHATEVER THE INPUT: true; the input reads as it did. -/
def limitScalesSpec : ChangeSpec := { name := "limitScales", fn := fun _ => fun
  | [d1, d2, d3] => { results := [.lit (.bool true)], args := [d1, d2, d3] }
  | _ => none }
def limitScalesRow : OpenClaim := { program := "ytjbiklkjcalmkaa", sum := "8121b696d762b16ce1e62fbe60402beca05bc8311bcbb6697c1aa43fa09aa97d", func := "tarn/tarnlaw10.LimitScales", spec := "limitScales", inPlace := ["math.Float64frombits", "math.Float64bits"], unfollowed := true, recurses := true, apart := false }
def LimitScalesSaid : Prop := limitScalesRow.holds Try.pinned (OpenSpec.ofChange limitScalesSpec)

/-- ITS FALSE NEIGHBOUR: 'it returns false'. Refute it at one input. -/
def limitScalesWrong : ChangeSpec := { name := "limitScales", fn := fun _ => fun
  | [d1, d2, d3] => { results := [.lit (.bool false)], args := [d1, d2, d3] }
  | _ => none }
def LimitScalesWrongFalsely : Prop := limitScalesRow.holds Try.pinned (OpenSpec.ofChange limitScalesWrong)

/- THE SECOND FORM. 'bulk': how many values and letters a reading holds, each counted each time it is reached (what is shared counts as often as it is met; a slice's spare places count too). A statement '..UptoSaid' is the law's where the arguments, and the package variables that the reading takes, are together of bulk at most 1048576: NARROWER than '..Said'. Prove '..Said' where nothing that the law and all that it calls make is longer than what came in: it says more and counts as full. Else prove '..UptoSaid'. A law counts once. -/
mutual
def uptoBulk {H : Type} : DataW H → Nat
  | .lit (.string bytes) => bytes.length + 1
  | .lit _ => 1
  | .nil => 1
  | .ptr d => uptoBulk d + 1
  | .slice elems spare => uptoBulkAll elems + uptoBulkAll spare + 1
  | .agg parts => uptoBulkAll parts + 1
  | .iface _ d => uptoBulk d + 1
  | .map entries => uptoBulkEntries entries + 1
  | .held _ => 1
def uptoBulkAll {H : Type} : List (DataW H) → Nat
  | [] => 0
  | d :: r => uptoBulk d + uptoBulkAll r
def uptoBulkEntries {H : Type} : List (Lit × DataW H) → Nat
  | [] => 0
  | x :: r => uptoBulkEntry x + uptoBulkEntries r
def uptoBulkEntry {H : Type} : Lit × DataW H → Nat
  | (.string bytes, d) => bytes.length + uptoBulk d + 1
  | (_, d) => uptoBulk d + 1
 end
def uptoSmall : (H : Type) → List (DataW H) → Bool := fun _ ds => decide (uptoBulkAll ds ≤ 1048576)
def OpenSpec.upto (s : _root_.Go.ChangeSpec) : _root_.Go.OpenSpec := { _root_.Go.OpenSpec.ofChange s with cond := some uptoSmall }

/-- 'tarnlaw10.LimitAll', WHERE WHAT IT READS IS OF BULK AT MOST 1048576: true; the input reads as it did. -/
def limitAllUptoRow : OpenClaim := { program := "ytjbiklkjcalmkaa", sum := "8121b696d762b16ce1e62fbe60402beca05bc8311bcbb6697c1aa43fa09aa97d", func := "tarn/tarnlaw10.LimitAll", spec := "limitAll", inPlace := ["math.Float64frombits", "math.Float64bits"], unfollowed := true, recurses := true, apart := false, narrowed := true }
def LimitAllUptoSaid : Prop := limitAllUptoRow.holds Try.pinned (OpenSpec.upto limitAllSpec)

/-- 'tarnlaw10.LimitTurned', WHERE WHAT IT READS IS OF BULK AT MOST 1048576: true; the input reads as it did. -/
def limitTurnedUptoRow : OpenClaim := { program := "ytjbiklkjcalmkaa", sum := "8121b696d762b16ce1e62fbe60402beca05bc8311bcbb6697c1aa43fa09aa97d", func := "tarn/tarnlaw10.LimitTurned", spec := "limitTurned", inPlace := ["math.Float64frombits", "math.Float64bits"], unfollowed := true, recurses := true, apart := false, narrowed := true }
def LimitTurnedUptoSaid : Prop := limitTurnedUptoRow.holds Try.pinned (OpenSpec.upto limitTurnedSpec)

/-- 'tarnlaw10.LimitBounds', WHERE WHAT IT READS IS OF BULK AT MOST 1048576: true; the input reads as it did. -/
def limitBoundsUptoRow : OpenClaim := { program := "ytjbiklkjcalmkaa", sum := "8121b696d762b16ce1e62fbe60402beca05bc8311bcbb6697c1aa43fa09aa97d", func := "tarn/tarnlaw10.LimitBounds", spec := "limitBounds", inPlace := ["math.Float64frombits", "math.Float64bits"], unfollowed := true, recurses := true, apart := false, narrowed := true }
def LimitBoundsUptoSaid : Prop := limitBoundsUptoRow.holds Try.pinned (OpenSpec.upto limitBoundsSpec)

/-- 'tarnlaw10.LimitScales', WHERE WHAT IT READS IS OF BULK AT MOST 1048576: true; the input reads as it did. -/
def limitScalesUptoRow : OpenClaim := { program := "ytjbiklkjcalmkaa", sum := "8121b696d762b16ce1e62fbe60402beca05bc8311bcbb6697c1aa43fa09aa97d", func := "tarn/tarnlaw10.LimitScales", spec := "limitScales", inPlace := ["math.Float64frombits", "math.Float64bits"], unfollowed := true, recurses := true, apart := false, narrowed := true }
def LimitScalesUptoSaid : Prop := limitScalesUptoRow.holds Try.pinned (OpenSpec.upto limitScalesSpec)

end Rows
end Go.Proofs.Ytjbiklkjcalmkaa
