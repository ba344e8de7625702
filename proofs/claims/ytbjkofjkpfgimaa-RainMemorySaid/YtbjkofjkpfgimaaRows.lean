/-
  No cell of these rows narrows 'for every input' (looked for: loops, veiled, ifaces, maps, wideKeys, modest, calm, conditions, laid).
  DERIVED. THE GIVEN ROWS OF THIS SEAT. 6 by the template 'for every input the law returns true; each argument reads behind the call as it read before'; 0 by the template 'total and deterministic' (their statements: YtbjkofjkpfgimaaTotals.lean).
  GIVEN WITH THE SEED: the statements are not yours to turn. If you find one false, say at which input.
  Laid BY PROGRAM, IN A SANDBOX (cutbox-rows.mjs): the forced cells as the released guide's own fill.sh prints them over the translation 45dc1c7d5527e3fe… (all of the seat's roots in one cut). By AI agents, Wed Nov 11 2026. No macro, syntax, notation, axiom, sorry.
-/
import Derived.Test.YtbjkofjkpfgimaaChecked
import GoSem.Claim
import GoSem.ClaimJoined
import GoSem.ClaimMapViews
import Derived.JoinedTies
import Derived.KernelRfl
namespace Go.Proofs.Ytbjkofjkpfgimaa
/- THE CELL 'sum', in the pinned program and in every row, IS THE sha256 OF THE DUMP (.gsa) THAT YtbjkofjkpfgimaaProg.lean LOADS. Nothing in Lean hashes anything: it is a label: what it is worth is what the hold of that sum in a sandbox is worth. -/
noncomputable def Try.pinned : Pinned := { name := "ytbjkofjkpfgimaa", sum := "45dc1c7d5527e3fe5a78e672d14ed71ce017b67f210aed66e1e56a5c4594f38a", checked := Try.checked }
namespace Rows
def none {H : Type} : Left H := { results := [], args := [] }

/-- 'tarnlaw18.RainExact': WHATEVER THE INPUT: true; the input reads as it did. -/
def rainExactSpec : ChangeSpec := { name := "rainExact", fn := fun _ => fun
  | [d1, d2] => { results := [.lit (.bool true)], args := [d1, d2] }
  | _ => none }
def rainExactRow : OpenClaim := { program := "ytbjkofjkpfgimaa", sum := "45dc1c7d5527e3fe5a78e672d14ed71ce017b67f210aed66e1e56a5c4594f38a", func := "tarn/tarnlaw18.RainExact", spec := "rainExact", unfollowed := true, recurses := true, apart := false }
def RainExactSaid : Prop := rainExactRow.holds Try.pinned (OpenSpec.ofChange rainExactSpec)

/-- ITS FALSE NEIGHBOUR: 'it returns false'. Refute it at one input. -/
def rainExactWrong : ChangeSpec := { name := "rainExact", fn := fun _ => fun
  | [d1, d2] => { results := [.lit (.bool false)], args := [d1, d2] }
  | _ => none }
def RainExactWrongFalsely : Prop := rainExactRow.holds Try.pinned (OpenSpec.ofChange rainExactWrong)

/-- 'tarnlaw18.RainKept': WHATEVER THE INPUT: true; the input reads as it did. -/
def rainKeptSpec : ChangeSpec := { name := "rainKept", fn := fun _ => fun
  | [d] => { results := [.lit (.bool true)], args := [d] }
  | _ => none }
def rainKeptRow : OpenClaim := { program := "ytbjkofjkpfgimaa", sum := "45dc1c7d5527e3fe5a78e672d14ed71ce017b67f210aed66e1e56a5c4594f38a", func := "tarn/tarnlaw18.RainKept", spec := "rainKept", unfollowed := true, recurses := true, apart := false }
def RainKeptSaid : Prop := rainKeptRow.holds Try.pinned (OpenSpec.ofChange rainKeptSpec)

/-- ITS FALSE NEIGHBOUR: 'it returns false'. Refute it at one input. -/
def rainKeptWrong : ChangeSpec := { name := "rainKept", fn := fun _ => fun
  | [d] => { results := [.lit (.bool false)], args := [d] }
  | _ => none }
def RainKeptWrongFalsely : Prop := rainKeptRow.holds Try.pinned (OpenSpec.ofChange rainKeptWrong)

/-- 'tarnlaw18.RainOne': WHATEVER THE INPUT: true; the input reads as it did. -/
def rainOneSpec : ChangeSpec := { name := "rainOne", fn := fun _ => fun
  | [d1, d2] => { results := [.lit (.bool true)], args := [d1, d2] }
  | _ => none }
def rainOneRow : OpenClaim := { program := "ytbjkofjkpfgimaa", sum := "45dc1c7d5527e3fe5a78e672d14ed71ce017b67f210aed66e1e56a5c4594f38a", func := "tarn/tarnlaw18.RainOne", spec := "rainOne", unfollowed := true, recurses := true, apart := false }
def RainOneSaid : Prop := rainOneRow.holds Try.pinned (OpenSpec.ofChange rainOneSpec)

/-- ITS FALSE NEIGHBOUR: 'it returns false'. Refute it at one input. -/
def rainOneWrong : ChangeSpec := { name := "rainOne", fn := fun _ => fun
  | [d1, d2] => { results := [.lit (.bool false)], args := [d1, d2] }
  | _ => none }
def RainOneWrongFalsely : Prop := rainOneRow.holds Try.pinned (OpenSpec.ofChange rainOneWrong)

/-- 'tarnlaw18.RainRows': WHATEVER THE INPUT: true; the input reads as it did. -/
def rainRowsSpec : ChangeSpec := { name := "rainRows", fn := fun _ => fun
  | [d1, d2] => { results := [.lit (.bool true)], args := [d1, d2] }
  | _ => none }
def rainRowsRow : OpenClaim := { program := "ytbjkofjkpfgimaa", sum := "45dc1c7d5527e3fe5a78e672d14ed71ce017b67f210aed66e1e56a5c4594f38a", func := "tarn/tarnlaw18.RainRows", spec := "rainRows", unfollowed := true, recurses := true, apart := false }
def RainRowsSaid : Prop := rainRowsRow.holds Try.pinned (OpenSpec.ofChange rainRowsSpec)

/-- ITS FALSE NEIGHBOUR: 'it returns false'. Refute it at one input. -/
def rainRowsWrong : ChangeSpec := { name := "rainRows", fn := fun _ => fun
  | [d1, d2] => { results := [.lit (.bool false)], args := [d1, d2] }
  | _ => none }
def RainRowsWrongFalsely : Prop := rainRowsRow.holds Try.pinned (OpenSpec.ofChange rainRowsWrong)

/-- 'tarnlaw18.RainTimes': WHATEVER THE INPUT: true; the input reads as it did. -/
def rainTimesSpec : ChangeSpec := { name := "rainTimes", fn := fun _ => fun
  | [d1, d2] => { results := [.lit (.bool true)], args := [d1, d2] }
  | _ => none }
def rainTimesRow : OpenClaim := { program := "ytbjkofjkpfgimaa", sum := "45dc1c7d5527e3fe5a78e672d14ed71ce017b67f210aed66e1e56a5c4594f38a", func := "tarn/tarnlaw18.RainTimes", spec := "rainTimes", unfollowed := true, recurses := true, apart := false }
def RainTimesSaid : Prop := rainTimesRow.holds Try.pinned (OpenSpec.ofChange rainTimesSpec)

/-- ITS FALSE NEIGHBOUR: 'it returns false'. Refute it at one input. -/
def rainTimesWrong : ChangeSpec := { name := "rainTimes", fn := fun _ => fun
  | [d1, d2] => { results := [.lit (.bool false)], args := [d1, d2] }
  | _ => none }
def RainTimesWrongFalsely : Prop := rainTimesRow.holds Try.pinned (OpenSpec.ofChange rainTimesWrong)

/-- 'tarnlaw18.RainMemory': WHATEVER THE INPUT: true; the input reads as it did. -/
def rainMemorySpec : ChangeSpec := { name := "rainMemory", fn := fun _ => fun
  | [d] => { results := [.lit (.bool true)], args := [d] }
  | _ => none }
def rainMemoryRow : OpenClaim := { program := "ytbjkofjkpfgimaa", sum := "45dc1c7d5527e3fe5a78e672d14ed71ce017b67f210aed66e1e56a5c4594f38a", func := "tarn/tarnlaw18.RainMemory", spec := "rainMemory", unfollowed := true, recurses := true, apart := false }
def RainMemorySaid : Prop := rainMemoryRow.holds Try.pinned (OpenSpec.ofChange rainMemorySpec)

/-- ITS FALSE NEIGHBOUR: 'it returns false'. Refute it at one input. -/
def rainMemoryWrong : ChangeSpec := { name := "rainMemory", fn := fun _ => fun
  | [d] => { results := [.lit (.bool false)], args := [d] }
  | _ => none }
def RainMemoryWrongFalsely : Prop := rainMemoryRow.holds Try.pinned (OpenSpec.ofChange rainMemoryWrong)

/- THE SECOND FORM. 'bulk': how many values and letters a reading holds, each counted each time it is reached (what is shared counts as often as it is met; a slice's spare places count too). A statement '..UptoSaid' is the law's where the arguments, and the package variables that the reading takes, are together of bulk at most 1048576: NARROWER than '..Said'. Prove '..Said' where nothing that the law and all that it calls make is longer than what came in: it says more and counts as full. Else prove '..UptoSaid'. A law counts once. -/
mutual
def uptoBulk {H : Type} : DataW H → Nat
  | .lit (.string bytes) => bytes.length + 1
  | .lit _ => 1
  | .nil => 1
  | .ptr d => uptoBulk d + 1
  | .slice elems spare => uptoBulkAll elems + uptoBulkAll spare + 1
  | .agg parts => uptoBulkAll parts + 1
  | .iface _ d => uptoBulk d + 1
  | .map entries => uptoBulkEntries entries + 1
  | .held _ => 1
def uptoBulkAll {H : Type} : List (DataW H) → Nat
  | [] => 0
  | d :: r => uptoBulk d + uptoBulkAll r
def uptoBulkEntries {H : Type} : List (Lit × DataW H) → Nat
  | [] => 0
  | x :: r => uptoBulkEntry x + uptoBulkEntries r
def uptoBulkEntry {H : Type} : Lit × DataW H → Nat
  | (.string bytes, d) => bytes.length + uptoBulk d + 1
  | (_, d) => uptoBulk d + 1
 end
def uptoSmall : (H : Type) → List (DataW H) → Bool := fun _ ds => decide (uptoBulkAll ds ≤ 1048576)
def OpenSpec.upto (s : _root_.Go.ChangeSpec) : _root_.Go.OpenSpec := { _root_.Go.OpenSpec.ofChange s with cond := some uptoSmall }

/-- 'tarnlaw18.RainExact', WHERE WHAT IT READS IS OF BULK AT MOST 1048576: true; the input reads as it did. -/
def rainExactUptoRow : OpenClaim := { program := "ytbjkofjkpfgimaa", sum := "45dc1c7d5527e3fe5a78e672d14ed71ce017b67f210aed66e1e56a5c4594f38a", func := "tarn/tarnlaw18.RainExact", spec := "rainExact", unfollowed := true, recurses := true, apart := false, narrowed := true }
def RainExactUptoSaid : Prop := rainExactUptoRow.holds Try.pinned (OpenSpec.upto rainExactSpec)

/-- 'tarnlaw18.RainKept', WHERE WHAT IT READS IS OF BULK AT MOST 1048576: true; the input reads as it did. -/
def rainKeptUptoRow : OpenClaim := { program := "ytbjkofjkpfgimaa", sum := "45dc1c7d5527e3fe5a78e672d14ed71ce017b67f210aed66e1e56a5c4594f38a", func := "tarn/tarnlaw18.RainKept", spec := "rainKept", unfollowed := true, recurses := true, apart := false, narrowed := true }
def RainKeptUptoSaid : Prop := rainKeptUptoRow.holds Try.pinned (OpenSpec.upto rainKeptSpec)

/-- 'tarnlaw18.RainOne', WHERE WHAT IT READS IS OF BULK AT MOST 1048576: true; the input reads as it did. -/
def rainOneUptoRow : OpenClaim := { program := "ytbjkofjkpfgimaa", sum := "45dc1c7d5527e3fe5a78e672d14ed71ce017b67f210aed66e1e56a5c4594f38a", func := "tarn/tarnlaw18.RainOne", spec := "rainOne", unfollowed := true, recurses := true, apart := false, narrowed := true }
def RainOneUptoSaid : Prop := rainOneUptoRow.holds Try.pinned (OpenSpec.upto rainOneSpec)

/-- 'tarnlaw18.RainRows', WHERE WHAT IT READS IS OF BULK AT MOST 1048576: true; the input reads as it did. -/
def rainRowsUptoRow : OpenClaim := { program := "ytbjkofjkpfgimaa", sum := "45dc1c7d5527e3fe5a78e672d14ed71ce017b67f210aed66e1e56a5c4594f38a", func := "tarn/tarnlaw18.RainRows", spec := "rainRows", unfollowed := true, recurses := true, apart := false, narrowed := true }
def RainRowsUptoSaid : Prop := rainRowsUptoRow.holds Try.pinned (OpenSpec.upto rainRowsSpec)

/-- 'tarnlaw18.RainTimes', WHERE WHAT IT READS IS OF BULK AT MOST 1048576: true; the input reads as it did. -/
def rainTimesUptoRow : OpenClaim := { program := "ytbjkofjkpfgimaa", sum := "45dc1c7d5527e3fe5a78e672d14ed71ce017b67f210aed66e1e56a5c4594f38a", func := "tarn/tarnlaw18.RainTimes", spec := "rainTimes", unfollowed := true, recurses := true, apart := false, narrowed := true }
def RainTimesUptoSaid : Prop := rainTimesUptoRow.holds Try.pinned (OpenSpec.upto rainTimesSpec)

/-- 'tarnlaw18.RainMemory', WHERE WHAT IT READS IS OF BULK AT MOST 1048576: true; the input reads as it did. -/
def rainMemoryUptoRow : OpenClaim := { program := "ytbjkofjkpfgimaa", sum := "45dc1c7d5527e3fe5a78e672d14ed71ce017b67f210aed66e1e56a5c4594f38a", func := "tarn/tarnlaw18.RainMemory", spec := "rainMemory", unfollowed := true, recurses := true, apart := false, narrowed := true }
def RainMemoryUptoSaid : Prop := rainMemoryUptoRow.holds Try.pinned (OpenSpec.upto rainMemorySpec)

end Rows
end Go.Proofs.Ytbjkofjkpfgimaa
