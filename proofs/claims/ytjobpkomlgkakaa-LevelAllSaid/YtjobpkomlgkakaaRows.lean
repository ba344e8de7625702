/-
  No cell of these rows narrows 'for every input' (looked for: loops, veiled, ifaces, maps, wideKeys, modest, calm, conditions, laid).
  DERIVED. THE GIVEN ROWS OF THIS SEAT. 4 by the template 'for every input the law returns true; each argument reads behind the call as it read before'; 0 by the template 'total and deterministic' (their statements: YtjobpkomlgkakaaTotals.lean).
  GIVEN WITH THE SEED: the statements are not yours to turn. If you find one false, say at which input.
  Laid BY PROGRAM, IN A SANDBOX (cutbox-rows.mjs): the forced cells as the released guide's own fill.sh prints them over the translation ce1902a38f94a526… (all of the seat's roots in one cut). By AI agents, Wed Nov 11 2026. No macro, syntax, notation, axiom, sorry.
-/
import Derived.Test.YtjobpkomlgkakaaChecked
import GoSem.Claim
import GoSem.ClaimJoined
import GoSem.ClaimMapViews
import Derived.JoinedTies
import Derived.KernelRfl
namespace Go.Proofs.Ytjobpkomlgkakaa
/- THE CELL 'sum', in the pinned program and in every row, IS THE sha256 OF THE DUMP (.gsa) THAT YtjobpkomlgkakaaProg.lean LOADS. Nothing in Lean hashes anything: it is a label: what it is worth is what the hold of that sum in a sandbox is worth. -/
noncomputable def Try.pinned : Pinned := { name := "ytjobpkomlgkakaa", sum := "ce1902a38f94a526865324d265e8182b42142eb0bbff983b5b941f6a3b7b1c13", checked := Try.checked }
namespace Rows
def none {H : Type} : Left H := { results := [], args := [] }

/-- 'tarnlaw11.LevelAll': WHATEVER THE INPUT: true; the input reads as it did. -/
def levelAllSpec : ChangeSpec := { name := "levelAll", fn := fun _ => fun
  | [d] => { results := [.lit (.bool true)], args := [d] }
  | _ => none }
def levelAllRow : OpenClaim := { program := "ytjobpkomlgkakaa", sum := "ce1902a38f94a526865324d265e8182b42142eb0bbff983b5b941f6a3b7b1c13", func := "tarn/tarnlaw11.LevelAll", spec := "levelAll", inPlace := ["math.Float64frombits", "math.Float64bits", "math.archFloor", "math.archTrunc"], apart := false }
def LevelAllSaid : Prop := levelAllRow.holds Try.pinned (OpenSpec.ofChange levelAllSpec)

/-- ITS FALSE NEIGHBOUR: 'it returns false'. Refute it at one input. -/
def levelAllWrong : ChangeSpec := { name := "levelAll", fn := fun _ => fun
  | [d] => { results := [.lit (.bool false)], args := [d] }
  | _ => none }
def LevelAllWrongFalsely : Prop := levelAllRow.holds Try.pinned (OpenSpec.ofChange levelAllWrong)

/-- 'tarnlaw11.LevelRises': WHATEVER THE INPUT: true; the input reads as it did. -/
def levelRisesSpec : ChangeSpec := { name := "levelRises", fn := fun _ => fun
  | [d1, d2, d3] => { results := [.lit (.bool true)], args := [d1, d2, d3] }
  | _ => none }
def levelRisesRow : OpenClaim := { program := "ytjobpkomlgkakaa", sum := "ce1902a38f94a526865324d265e8182b42142eb0bbff983b5b941f6a3b7b1c13", func := "tarn/tarnlaw11.LevelRises", spec := "levelRises", inPlace := ["math.Float64frombits", "math.Float64bits", "math.archFloor", "math.archTrunc"], apart := false }
def LevelRisesSaid : Prop := levelRisesRow.holds Try.pinned (OpenSpec.ofChange levelRisesSpec)

/-- ITS FALSE NEIGHBOUR: 'it returns false'. Refute it at one input. -/
def levelRisesWrong : ChangeSpec := { name := "levelRises", fn := fun _ => fun
  | [d1, d2, d3] => { results := [.lit (.bool false)], args := [d1, d2, d3] }
  | _ => none }
def LevelRisesWrongFalsely : Prop := levelRisesRow.holds Try.pinned (OpenSpec.ofChange levelRisesWrong)

/-- 'tarnlaw11.LevelFills': WHATEVER THE INPUT: true; the input reads as it did. -/
def levelFillsSpec : ChangeSpec := { name := "levelFills", fn := fun _ => fun
  | [d1, d2] => { results := [.lit (.bool true)], args := [d1, d2] }
  | _ => none }
def levelFillsRow : OpenClaim := { program := "ytjobpkomlgkakaa", sum := "ce1902a38f94a526865324d265e8182b42142eb0bbff983b5b941f6a3b7b1c13", func := "tarn/tarnlaw11.LevelFills", spec := "levelFills", inPlace := ["math.Float64frombits", "math.Float64bits", "math.archFloor", "math.archTrunc"], apart := false }
def LevelFillsSaid : Prop := levelFillsRow.holds Try.pinned (OpenSpec.ofChange levelFillsSpec)

/-- ITS FALSE NEIGHBOUR: 'it returns false'. Refute it at one input. -/
def levelFillsWrong : ChangeSpec := { name := "levelFills", fn := fun _ => fun
  | [d1, d2] => { results := [.lit (.bool false)], args := [d1, d2] }
  | _ => none }
def LevelFillsWrongFalsely : Prop := levelFillsRow.holds Try.pinned (OpenSpec.ofChange levelFillsWrong)

/-- 'tarnlaw11.LevelComes': WHATEVER THE INPUT: true; the input reads as it did. -/
def levelComesSpec : ChangeSpec := { name := "levelComes", fn := fun _ => fun
  | [d] => { results := [.lit (.bool true)], args := [d] }
  | _ => none }
def levelComesRow : OpenClaim := { program := "ytjobpkomlgkakaa", sum := "ce1902a38f94a526865324d265e8182b42142eb0bbff983b5b941f6a3b7b1c13", func := "tarn/tarnlaw11.LevelComes", spec := "levelComes", inPlace := ["math.Float64frombits", "math.Float64bits", "math.archFloor", "math.archTrunc"], apart := false }
def LevelComesSaid : Prop := levelComesRow.holds Try.pinned (OpenSpec.ofChange levelComesSpec)

/-- ITS FALSE NEIGHBOUR: 'it returns false'. Refute it at one input. -/
def levelComesWrong : ChangeSpec := { name := "levelComes", fn := fun _ => fun
  | [d] => { results := [.lit (.bool false)], args := [d] }
  | _ => none }
def LevelComesWrongFalsely : Prop := levelComesRow.holds Try.pinned (OpenSpec.ofChange levelComesWrong)

/- THE SECOND FORM. 'bulk': how many values and letters a reading holds, each counted each time it is reached (what is shared counts as often as it is met; a slice's spare places count too). A statement '..UptoSaid' is the law's where the arguments, and the package variables that the reading takes, are together of bulk at most 1048576: NARROWER than '..Said'. Prove '..Said' where nothing that the law and all that it calls make is longer than what came in: it says more and counts as full. Else prove '..UptoSaid'. A law counts once. -/
mutual
def uptoBulk {H : Type} : DataW H → Nat
  | .lit (.string bytes) => bytes.length + 1
  | .lit _ => 1
  | .nil => 1
  | .ptr d => uptoBulk d + 1
  | .slice elems spare => uptoBulkAll elems + uptoBulkAll spare + 1
  | .agg parts => uptoBulkAll parts + 1
  | .iface _ d => uptoBulk d + 1
  | .map entries => uptoBulkEntries entries + 1
  | .held _ => 1
def uptoBulkAll {H : Type} : List (DataW H) → Nat
  | [] => 0
  | d :: r => uptoBulk d + uptoBulkAll r
def uptoBulkEntries {H : Type} : List (Lit × DataW H) → Nat
  | [] => 0
  | x :: r => uptoBulkEntry x + uptoBulkEntries r
def uptoBulkEntry {H : Type} : Lit × DataW H → Nat
  | (.string bytes, d) => bytes.length + uptoBulk d + 1
  | (_, d) => uptoBulk d + 1
 end
def uptoSmall : (H : Type) → List (DataW H) → Bool := fun _ ds => decide (uptoBulkAll ds ≤ 1048576)
def OpenSpec.upto (s : _root_.Go.ChangeSpec) : _root_.Go.OpenSpec := { _root_.Go.OpenSpec.ofChange s with cond := some uptoSmall }

/-- 'tarnlaw11.LevelAll', WHERE WHAT IT READS IS OF BULK AT MOST 1048576: true; the input reads as it did. -/
def levelAllUptoRow : OpenClaim := { program := "ytjobpkomlgkakaa", sum := "ce1902a38f94a526865324d265e8182b42142eb0bbff983b5b941f6a3b7b1c13", func := "tarn/tarnlaw11.LevelAll", spec := "levelAll", inPlace := ["math.Float64frombits", "math.Float64bits", "math.archFloor", "math.archTrunc"], apart := false, narrowed := true }
def LevelAllUptoSaid : Prop := levelAllUptoRow.holds Try.pinned (OpenSpec.upto levelAllSpec)

/-- 'tarnlaw11.LevelRises', WHERE WHAT IT READS IS OF BULK AT MOST 1048576: true; the input reads as it did. -/
def levelRisesUptoRow : OpenClaim := { program := "ytjobpkomlgkakaa", sum := "ce1902a38f94a526865324d265e8182b42142eb0bbff983b5b941f6a3b7b1c13", func := "tarn/tarnlaw11.LevelRises", spec := "levelRises", inPlace := ["math.Float64frombits", "math.Float64bits", "math.archFloor", "math.archTrunc"], apart := false, narrowed := true }
def LevelRisesUptoSaid : Prop := levelRisesUptoRow.holds Try.pinned (OpenSpec.upto levelRisesSpec)

/-- 'tarnlaw11.LevelFills', WHERE WHAT IT READS IS OF BULK AT MOST 1048576: true; the input reads as it did. -/
def levelFillsUptoRow : OpenClaim := { program := "ytjobpkomlgkakaa", sum := "ce1902a38f94a526865324d265e8182b42142eb0bbff983b5b941f6a3b7b1c13", func := "tarn/tarnlaw11.LevelFills", spec := "levelFills", inPlace := ["math.Float64frombits", "math.Float64bits", "math.archFloor", "math.archTrunc"], apart := false, narrowed := true }
def LevelFillsUptoSaid : Prop := levelFillsUptoRow.holds Try.pinned (OpenSpec.upto levelFillsSpec)

/-- 'tarnlaw11.LevelComes', WHERE WHAT IT READS IS OF BULK AT MOST 1048576: true; the input reads as it did. -/
def levelComesUptoRow : OpenClaim := { program := "ytjobpkomlgkakaa", sum := "ce1902a38f94a526865324d265e8182b42142eb0bbff983b5b941f6a3b7b1c13", func := "tarn/tarnlaw11.LevelComes", spec := "levelComes", inPlace := ["math.Float64frombits", "math.Float64bits", "math.archFloor", "math.archTrunc"], apart := false, narrowed := true }
def LevelComesUptoSaid : Prop := levelComesUptoRow.holds Try.pinned (OpenSpec.upto levelComesSpec)

end Rows
end Go.Proofs.Ytjobpkomlgkakaa
