/-
  No cell of these rows narrows 'for every input' (looked for: loops, veiled, ifaces, maps, wideKeys, modest, calm, conditions, laid).
  DERIVED. THE GIVEN ROWS OF THIS SEAT. 6 by the template 'for every input the law returns true; each argument reads behind the call as it read before'; 0 by the template 'total and deterministic' (their statements: YtneedadoafcfcaaTotals.lean).
  GIVEN WITH THE SEED: the statements are not yours to turn. If you find one false, say at which input.
  Laid BY PROGRAM, IN A SANDBOX (cutbox-rows.mjs): the forced cells as the released guide's own fill.sh prints them over the translation 0a14813c675907fb… (all of the seat's roots in one cut). By AI agents, Wed Nov 11 2026. No macro, syntax, notation, axiom, sorry.
-/
import Derived.Test.YtneedadoafcfcaaChecked
import GoSem.Claim
import GoSem.ClaimJoined
import GoSem.ClaimMapViews
import Derived.JoinedTies
import Derived.KernelRfl
namespace Go.Proofs.Ytneedadoafcfcaa
/- THE CELL 'sum', in the pinned program and in every row, IS THE sha256 OF THE DUMP (.gsa) THAT YtneedadoafcfcaaProg.lean LOADS. Nothing in Lean hashes anything: it is a label: what it is worth is what the hold of that sum in a sandbox is worth. -/
noncomputable def Try.pinned : Pinned := { name := "ytneedadoafcfcaa", sum := "0a14813c675907fb6fa3dd8b71b637086925b22711514124d048ee22c5a9e333", checked := Try.checked }
namespace Rows
def none {H : Type} : Left H := { results := [], args := [] }

/-- 'tarnlaw04.AccTwo': WHATEVER THE INPUT: true; the input reads as it did. -/
def accTwoSpec : ChangeSpec := { name := "accTwo", fn := fun _ => fun
  | [d1, d2] => { results := [.lit (.bool true)], args := [d1, d2] }
  | _ => none }
def accTwoRow : OpenClaim := { program := "ytneedadoafcfcaa", sum := "0a14813c675907fb6fa3dd8b71b637086925b22711514124d048ee22c5a9e333", func := "tarn/tarnlaw04.AccTwo", spec := "accTwo", inPlace := ["math.Float64bits", "math.Float64frombits", "math/bits.Sub64", "math/bits.Add64"], apart := false }
def AccTwoSaid : Prop := accTwoRow.holds Try.pinned (OpenSpec.ofChange accTwoSpec)

/-- ITS FALSE NEIGHBOUR: 'it returns false'. Refute it at one input. -/
def accTwoWrong : ChangeSpec := { name := "accTwo", fn := fun _ => fun
  | [d1, d2] => { results := [.lit (.bool false)], args := [d1, d2] }
  | _ => none }
def AccTwoWrongFalsely : Prop := accTwoRow.holds Try.pinned (OpenSpec.ofChange accTwoWrong)

/-- 'tarnlaw04.AccCancels': WHATEVER THE INPUT: true; the input reads as it did. -/
def accCancelsSpec : ChangeSpec := { name := "accCancels", fn := fun _ => fun
  | [d1, d2, d3] => { results := [.lit (.bool true)], args := [d1, d2, d3] }
  | _ => none }
def accCancelsRow : OpenClaim := { program := "ytneedadoafcfcaa", sum := "0a14813c675907fb6fa3dd8b71b637086925b22711514124d048ee22c5a9e333", func := "tarn/tarnlaw04.AccCancels", spec := "accCancels", inPlace := ["math.Float64bits", "math.Float64frombits", "math/bits.Sub64", "math/bits.Add64"], apart := false }
def AccCancelsSaid : Prop := accCancelsRow.holds Try.pinned (OpenSpec.ofChange accCancelsSpec)

/-- ITS FALSE NEIGHBOUR: 'it returns false'. Refute it at one input. -/
def accCancelsWrong : ChangeSpec := { name := "accCancels", fn := fun _ => fun
  | [d1, d2, d3] => { results := [.lit (.bool false)], args := [d1, d2, d3] }
  | _ => none }
def AccCancelsWrongFalsely : Prop := accCancelsRow.holds Try.pinned (OpenSpec.ofChange accCancelsWrong)

/-- 'tarnlaw04.AccScaled': WHATEVER THE INPUT: true; the input reads as it did. -/
def accScaledSpec : ChangeSpec := { name := "accScaled", fn := fun _ => fun
  | [d1, d2, d3] => { results := [.lit (.bool true)], args := [d1, d2, d3] }
  | _ => none }
def accScaledRow : OpenClaim := { program := "ytneedadoafcfcaa", sum := "0a14813c675907fb6fa3dd8b71b637086925b22711514124d048ee22c5a9e333", func := "tarn/tarnlaw04.AccScaled", spec := "accScaled", inPlace := ["math.Float64bits", "math.Float64frombits", "math/bits.Sub64", "math/bits.Add64"], apart := false }
def AccScaledSaid : Prop := accScaledRow.holds Try.pinned (OpenSpec.ofChange accScaledSpec)

/-- ITS FALSE NEIGHBOUR: 'it returns false'. Refute it at one input. -/
def accScaledWrong : ChangeSpec := { name := "accScaled", fn := fun _ => fun
  | [d1, d2, d3] => { results := [.lit (.bool false)], args := [d1, d2, d3] }
  | _ => none }
def AccScaledWrongFalsely : Prop := accScaledRow.holds Try.pinned (OpenSpec.ofChange accScaledWrong)

/-- 'tarnlaw04.AccScripts': WHATEVER THE INPUT: true; the input reads as it did. -/
def accScriptsSpec : ChangeSpec := { name := "accScripts", fn := fun _ => fun
  | [d] => { results := [.lit (.bool true)], args := [d] }
  | _ => none }
def accScriptsRow : OpenClaim := { program := "ytneedadoafcfcaa", sum := "0a14813c675907fb6fa3dd8b71b637086925b22711514124d048ee22c5a9e333", func := "tarn/tarnlaw04.AccScripts", spec := "accScripts", inPlace := ["math.Float64bits", "math.Float64frombits", "math/bits.Sub64", "math/bits.Add64"], apart := false }
def AccScriptsSaid : Prop := accScriptsRow.holds Try.pinned (OpenSpec.ofChange accScriptsSpec)

/-- ITS FALSE NEIGHBOUR: 'it returns false'. Refute it at one input. -/
def accScriptsWrong : ChangeSpec := { name := "accScripts", fn := fun _ => fun
  | [d] => { results := [.lit (.bool false)], args := [d] }
  | _ => none }
def AccScriptsWrongFalsely : Prop := accScriptsRow.holds Try.pinned (OpenSpec.ofChange accScriptsWrong)

/-- 'tarnlaw04.AccSums': WHATEVER THE INPUT: true; the input reads as it did. -/
def accSumsSpec : ChangeSpec := { name := "accSums", fn := fun _ => fun
  | [d1, d2] => { results := [.lit (.bool true)], args := [d1, d2] }
  | _ => none }
def accSumsRow : OpenClaim := { program := "ytneedadoafcfcaa", sum := "0a14813c675907fb6fa3dd8b71b637086925b22711514124d048ee22c5a9e333", func := "tarn/tarnlaw04.AccSums", spec := "accSums", inPlace := ["math.Float64bits", "math.Float64frombits", "math/bits.Sub64", "math/bits.Add64"], apart := false }
def AccSumsSaid : Prop := accSumsRow.holds Try.pinned (OpenSpec.ofChange accSumsSpec)

/-- ITS FALSE NEIGHBOUR: 'it returns false'. Refute it at one input. -/
def accSumsWrong : ChangeSpec := { name := "accSums", fn := fun _ => fun
  | [d1, d2] => { results := [.lit (.bool false)], args := [d1, d2] }
  | _ => none }
def AccSumsWrongFalsely : Prop := accSumsRow.holds Try.pinned (OpenSpec.ofChange accSumsWrong)

/-- 'tarnlaw04.AccLimit': WHATEVER THE INPUT: true; the input reads as it did. -/
def accLimitSpec : ChangeSpec := { name := "accLimit", fn := fun _ => fun
  | [d1, d2] => { results := [.lit (.bool true)], args := [d1, d2] }
  | _ => none }
def accLimitRow : OpenClaim := { program := "ytneedadoafcfcaa", sum := "0a14813c675907fb6fa3dd8b71b637086925b22711514124d048ee22c5a9e333", func := "tarn/tarnlaw04.AccLimit", spec := "accLimit", inPlace := ["math.Float64bits", "math.Float64frombits", "math/bits.Sub64", "math/bits.Add64"], apart := false }
def AccLimitSaid : Prop := accLimitRow.holds Try.pinned (OpenSpec.ofChange accLimitSpec)

/-- ITS FALSE NEIGHBOUR: 'it returns false'. Refute it at one input. -/
def accLimitWrong : ChangeSpec := { name := "accLimit", fn := fun _ => fun
  | [d1, d2] => { results := [.lit (.bool false)], args := [d1, d2] }
  | _ => none }
def AccLimitWrongFalsely : Prop := accLimitRow.holds Try.pinned (OpenSpec.ofChange accLimitWrong)

/- THE SECOND FORM. 'bulk': how many values and letters a reading holds, each counted each time it is reached (what is shared counts as often as it is met; a slice's spare places count too). A statement '..UptoSaid' is the law's where the arguments, and the package variables that the reading takes, are together of bulk at most 1048576: NARROWER than '..Said'. Prove '..Said' where nothing that the law and all that it calls make is longer than what came in: it says more and counts as full. Else prove '..UptoSaid'. A law counts once. -/
mutual
def uptoBulk {H : Type} : DataW H → Nat
  | .lit (.string bytes) => bytes.length + 1
  | .lit _ => 1
  | .nil => 1
  | .ptr d => uptoBulk d + 1
  | .slice elems spare => uptoBulkAll elems + uptoBulkAll spare + 1
  | .agg parts => uptoBulkAll parts + 1
  | .iface _ d => uptoBulk d + 1
  | .map entries => uptoBulkEntries entries + 1
  | .held _ => 1
def uptoBulkAll {H : Type} : List (DataW H) → Nat
  | [] => 0
  | d :: r => uptoBulk d + uptoBulkAll r
def uptoBulkEntries {H : Type} : List (Lit × DataW H) → Nat
  | [] => 0
  | x :: r => uptoBulkEntry x + uptoBulkEntries r
def uptoBulkEntry {H : Type} : Lit × DataW H → Nat
  | (.string bytes, d) => bytes.length + uptoBulk d + 1
  | (_, d) => uptoBulk d + 1
 end
def uptoSmall : (H : Type) → List (DataW H) → Bool := fun _ ds => decide (uptoBulkAll ds ≤ 1048576)
def OpenSpec.upto (s : _root_.Go.ChangeSpec) : _root_.Go.OpenSpec := { _root_.Go.OpenSpec.ofChange s with cond := some uptoSmall }

/-- 'tarnlaw04.AccTwo', WHERE WHAT IT READS IS OF BULK AT MOST 1048576: true; the input reads as it did. -/
def accTwoUptoRow : OpenClaim := { program := "ytneedadoafcfcaa", sum := "0a14813c675907fb6fa3dd8b71b637086925b22711514124d048ee22c5a9e333", func := "tarn/tarnlaw04.AccTwo", spec := "accTwo", inPlace := ["math.Float64bits", "math.Float64frombits", "math/bits.Sub64", "math/bits.Add64"], apart := false, narrowed := true }
def AccTwoUptoSaid : Prop := accTwoUptoRow.holds Try.pinned (OpenSpec.upto accTwoSpec)

/-- 'tarnlaw04.AccCancels', WHERE WHAT IT READS IS OF BULK AT MOST 1048576: true; the input reads as it did. -/
def accCancelsUptoRow : OpenClaim := { program := "ytneedadoafcfcaa", sum := "0a14813c675907fb6fa3dd8b71b637086925b22711514124d048ee22c5a9e333", func := "tarn/tarnlaw04.AccCancels", spec := "accCancels", inPlace := ["math.Float64bits", "math.Float64frombits", "math/bits.Sub64", "math/bits.Add64"], apart := false, narrowed := true }
def AccCancelsUptoSaid : Prop := accCancelsUptoRow.holds Try.pinned (OpenSpec.upto accCancelsSpec)

/-- 'tarnlaw04.AccScaled', WHERE WHAT IT READS IS OF BULK AT MOST 1048576: true; the input reads as it did. -/
def accScaledUptoRow : OpenClaim := { program := "ytneedadoafcfcaa", sum := "0a14813c675907fb6fa3dd8b71b637086925b22711514124d048ee22c5a9e333", func := "tarn/tarnlaw04.AccScaled", spec := "accScaled", inPlace := ["math.Float64bits", "math.Float64frombits", "math/bits.Sub64", "math/bits.Add64"], apart := false, narrowed := true }
def AccScaledUptoSaid : Prop := accScaledUptoRow.holds Try.pinned (OpenSpec.upto accScaledSpec)

/-- 'tarnlaw04.AccScripts', WHERE WHAT IT READS IS OF BULK AT MOST 1048576: true; the input reads as it did. -/
def accScriptsUptoRow : OpenClaim := { program := "ytneedadoafcfcaa", sum := "0a14813c675907fb6fa3dd8b71b637086925b22711514124d048ee22c5a9e333", func := "tarn/tarnlaw04.AccScripts", spec := "accScripts", inPlace := ["math.Float64bits", "math.Float64frombits", "math/bits.Sub64", "math/bits.Add64"], apart := false, narrowed := true }
def AccScriptsUptoSaid : Prop := accScriptsUptoRow.holds Try.pinned (OpenSpec.upto accScriptsSpec)

/-- 'tarnlaw04.AccSums', WHERE WHAT IT READS IS OF BULK AT MOST 1048576: true; the input reads as it did. -/
def accSumsUptoRow : OpenClaim := { program := "ytneedadoafcfcaa", sum := "0a14813c675907fb6fa3dd8b71b637086925b22711514124d048ee22c5a9e333", func := "tarn/tarnlaw04.AccSums", spec := "accSums", inPlace := ["math.Float64bits", "math.Float64frombits", "math/bits.Sub64", "math/bits.Add64"], apart := false, narrowed := true }
def AccSumsUptoSaid : Prop := accSumsUptoRow.holds Try.pinned (OpenSpec.upto accSumsSpec)

/-- 'tarnlaw04.AccLimit', WHERE WHAT IT READS IS OF BULK AT MOST 1048576: true; the input reads as it did. -/
def accLimitUptoRow : OpenClaim := { program := "ytneedadoafcfcaa", sum := "0a14813c675907fb6fa3dd8b71b637086925b22711514124d048ee22c5a9e333", func := "tarn/tarnlaw04.AccLimit", spec := "accLimit", inPlace := ["math.Float64bits", "math.Float64frombits", "math/bits.Sub64", "math/bits.Add64"], apart := false, narrowed := true }
def AccLimitUptoSaid : Prop := accLimitUptoRow.holds Try.pinned (OpenSpec.upto accLimitSpec)

end Rows
end Go.Proofs.Ytneedadoafcfcaa
