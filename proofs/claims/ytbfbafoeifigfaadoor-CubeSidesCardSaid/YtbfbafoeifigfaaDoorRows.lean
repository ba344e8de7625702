/-
  NARROWER THAN 'FOR EVERY INPUT', by the rows' own cells (each row's printed sentence says how): CubeNumbers: laid · CubeSides: laid · CubePlaces: laid · CubeBack: laid · CubeRound: laid · CubeCorner: laid · CubeTurned: laid · CubeGroup: laid.
  DERIVED. THE GIVEN ROWS OF THIS SEAT. 8 by the template 'for every input the law returns true; each argument reads behind the call as it read before'; 0 by the template 'total and deterministic' (their statements: YtbfbafoeifigfaaDoorTotals.lean).
  GIVEN WITH THE SEED: the statements are not yours to turn. If you find one false, say at which input.
  Laid BY PROGRAM, IN A SANDBOX (cutbox-rows.mjs): the forced cells as the released guide's own fill.sh prints them over the translation dc27a8d34df0ee33… (all of the seat's roots in one cut). By AI agents, Wed Nov 11 2026. No macro, syntax, notation, axiom, sorry.
-/
import Derived.Test.YtbfbafoeifigfaaDoorChecked
import GoSem.Claim
import GoSem.ClaimJoined
import GoSem.ClaimMapViews
import Derived.JoinedTies
import Derived.KernelRfl
namespace Go.Proofs.YtbfbafoeifigfaaDoor
/- THE CELL 'sum', in the pinned program and in every row, IS THE sha256 OF THE DUMP (.gsa) THAT YtbfbafoeifigfaaDoorProg.lean LOADS. Nothing in Lean hashes anything: it is a label: what it is worth is what the hold of that sum in a sandbox is worth. -/
noncomputable def Tryd.pinned : Pinned := { name := "ytbfbafoeifigfaadoor", sum := "dc27a8d34df0ee33ca096df202efb353e0c1d2f35b5ff60827dfbbd669e5ffa0", checked := Tryd.checked }
namespace Rows
def none {H : Type} : Left H := { results := [], args := [] }

/- WHAT THE LISTED PACKAGE-LEVEL VARIABLES READ AS WHEN THE CALL BEGINS. Each datum BY PROGRAM (the guide's laid-datum.mjs) off the statement by which the dump's own 'gosem.cut.vars' lays the variable. In a bare row this is a premise. The card (YtbfbafoeifigfaaDoorCards.lean) ties it to the program's text. -/
def laid_tarn_cube_frames {H : Type} : DataW H := .agg [.agg [.agg [.lit (.int .i64 1), .lit (.int .i64 0), .lit (.int .i64 0)], .agg [.lit (.int .i64 0), .lit (.int .i64 1), .lit (.int .i64 0)], .agg [.lit (.int .i64 0), .lit (.int .i64 0), .lit (.int .i64 1)]], .agg [.agg [.lit (.int .i64 0), .lit (.int .i64 1), .lit (.int .i64 0)], .agg [.lit (.int .i64 (-1)), .lit (.int .i64 0), .lit (.int .i64 0)], .agg [.lit (.int .i64 0), .lit (.int .i64 0), .lit (.int .i64 1)]], .agg [.agg [.lit (.int .i64 (-1)), .lit (.int .i64 0), .lit (.int .i64 0)], .agg [.lit (.int .i64 0), .lit (.int .i64 (-1)), .lit (.int .i64 0)], .agg [.lit (.int .i64 0), .lit (.int .i64 0), .lit (.int .i64 1)]], .agg [.agg [.lit (.int .i64 0), .lit (.int .i64 (-1)), .lit (.int .i64 0)], .agg [.lit (.int .i64 1), .lit (.int .i64 0), .lit (.int .i64 0)], .agg [.lit (.int .i64 0), .lit (.int .i64 0), .lit (.int .i64 1)]], .agg [.agg [.lit (.int .i64 0), .lit (.int .i64 0), .lit (.int .i64 1)], .agg [.lit (.int .i64 0), .lit (.int .i64 1), .lit (.int .i64 0)], .agg [.lit (.int .i64 (-1)), .lit (.int .i64 0), .lit (.int .i64 0)]], .agg [.agg [.lit (.int .i64 0), .lit (.int .i64 0), .lit (.int .i64 (-1))], .agg [.lit (.int .i64 0), .lit (.int .i64 1), .lit (.int .i64 0)], .agg [.lit (.int .i64 1), .lit (.int .i64 0), .lit (.int .i64 0)]]]

/-- 'tarnlaw06.CubeNumbers': WHATEVER THE INPUT: true; the input reads as it did. -/
def cubeNumbersSpec : ChangeSpec := { name := "cubeNumbers", fn := fun _ => fun
  | [d] => { results := [.lit (.bool true)], args := [d] }
  | _ => none }
def cubeNumbersRow : OpenClaim := { program := "ytbfbafoeifigfaadoor", sum := "dc27a8d34df0ee33ca096df202efb353e0c1d2f35b5ff60827dfbbd669e5ffa0", func := "tarn/tarnlaw06.CubeNumbers", spec := "cubeNumbers", named := ["tarn/cube.frames"], apart := false, laid := [("tarn/cube.frames", laid_tarn_cube_frames)] }
def CubeNumbersSaid : Prop := cubeNumbersRow.holds Tryd.pinned (OpenSpec.ofChange cubeNumbersSpec)

/-- ITS FALSE NEIGHBOUR: 'it returns false'. Refute it at one input. -/
def cubeNumbersWrong : ChangeSpec := { name := "cubeNumbers", fn := fun _ => fun
  | [d] => { results := [.lit (.bool false)], args := [d] }
  | _ => none }
def CubeNumbersWrongFalsely : Prop := cubeNumbersRow.holds Tryd.pinned (OpenSpec.ofChange cubeNumbersWrong)

/-- 'tarnlaw06.CubeSides': WHATEVER THE INPUT: true; the input reads as it did. -/
def cubeSidesSpec : ChangeSpec := { name := "cubeSides", fn := fun _ => fun
  | [d] => { results := [.lit (.bool true)], args := [d] }
  | _ => none }
def cubeSidesRow : OpenClaim := { program := "ytbfbafoeifigfaadoor", sum := "dc27a8d34df0ee33ca096df202efb353e0c1d2f35b5ff60827dfbbd669e5ffa0", func := "tarn/tarnlaw06.CubeSides", spec := "cubeSides", named := ["tarn/cube.frames"], apart := false, laid := [("tarn/cube.frames", laid_tarn_cube_frames)] }
def CubeSidesSaid : Prop := cubeSidesRow.holds Tryd.pinned (OpenSpec.ofChange cubeSidesSpec)

/-- ITS FALSE NEIGHBOUR: 'it returns false'. Refute it at one input. -/
def cubeSidesWrong : ChangeSpec := { name := "cubeSides", fn := fun _ => fun
  | [d] => { results := [.lit (.bool false)], args := [d] }
  | _ => none }
def CubeSidesWrongFalsely : Prop := cubeSidesRow.holds Tryd.pinned (OpenSpec.ofChange cubeSidesWrong)

/-- 'tarnlaw06.CubePlaces': WHATEVER THE INPUT: true; the input reads as it did. -/
def cubePlacesSpec : ChangeSpec := { name := "cubePlaces", fn := fun _ => fun
  | [d] => { results := [.lit (.bool true)], args := [d] }
  | _ => none }
def cubePlacesRow : OpenClaim := { program := "ytbfbafoeifigfaadoor", sum := "dc27a8d34df0ee33ca096df202efb353e0c1d2f35b5ff60827dfbbd669e5ffa0", func := "tarn/tarnlaw06.CubePlaces", spec := "cubePlaces", named := ["tarn/cube.frames"], apart := false, laid := [("tarn/cube.frames", laid_tarn_cube_frames)] }
def CubePlacesSaid : Prop := cubePlacesRow.holds Tryd.pinned (OpenSpec.ofChange cubePlacesSpec)

/-- ITS FALSE NEIGHBOUR: 'it returns false'. Refute it at one input. -/
def cubePlacesWrong : ChangeSpec := { name := "cubePlaces", fn := fun _ => fun
  | [d] => { results := [.lit (.bool false)], args := [d] }
  | _ => none }
def CubePlacesWrongFalsely : Prop := cubePlacesRow.holds Tryd.pinned (OpenSpec.ofChange cubePlacesWrong)

/-- 'tarnlaw06.CubeBack': WHATEVER THE INPUT: true; the input reads as it did. -/
def cubeBackSpec : ChangeSpec := { name := "cubeBack", fn := fun _ => fun
  | [d] => { results := [.lit (.bool true)], args := [d] }
  | _ => none }
def cubeBackRow : OpenClaim := { program := "ytbfbafoeifigfaadoor", sum := "dc27a8d34df0ee33ca096df202efb353e0c1d2f35b5ff60827dfbbd669e5ffa0", func := "tarn/tarnlaw06.CubeBack", spec := "cubeBack", named := ["tarn/cube.frames"], apart := false, laid := [("tarn/cube.frames", laid_tarn_cube_frames)] }
def CubeBackSaid : Prop := cubeBackRow.holds Tryd.pinned (OpenSpec.ofChange cubeBackSpec)

/-- ITS FALSE NEIGHBOUR: 'it returns false'. Refute it at one input. -/
def cubeBackWrong : ChangeSpec := { name := "cubeBack", fn := fun _ => fun
  | [d] => { results := [.lit (.bool false)], args := [d] }
  | _ => none }
def CubeBackWrongFalsely : Prop := cubeBackRow.holds Tryd.pinned (OpenSpec.ofChange cubeBackWrong)

/-- 'tarnlaw06.CubeRound': WHATEVER THE INPUT: true; the input reads as it did. -/
def cubeRoundSpec : ChangeSpec := { name := "cubeRound", fn := fun _ => fun
  | [d] => { results := [.lit (.bool true)], args := [d] }
  | _ => none }
def cubeRoundRow : OpenClaim := { program := "ytbfbafoeifigfaadoor", sum := "dc27a8d34df0ee33ca096df202efb353e0c1d2f35b5ff60827dfbbd669e5ffa0", func := "tarn/tarnlaw06.CubeRound", spec := "cubeRound", named := ["tarn/cube.frames"], apart := false, laid := [("tarn/cube.frames", laid_tarn_cube_frames)] }
def CubeRoundSaid : Prop := cubeRoundRow.holds Tryd.pinned (OpenSpec.ofChange cubeRoundSpec)

/-- ITS FALSE NEIGHBOUR: 'it returns false'. Refute it at one input. -/
def cubeRoundWrong : ChangeSpec := { name := "cubeRound", fn := fun _ => fun
  | [d] => { results := [.lit (.bool false)], args := [d] }
  | _ => none }
def CubeRoundWrongFalsely : Prop := cubeRoundRow.holds Tryd.pinned (OpenSpec.ofChange cubeRoundWrong)

/-- 'tarnlaw06.CubeCorner': WHATEVER THE INPUT: true; the input reads as it did. -/
def cubeCornerSpec : ChangeSpec := { name := "cubeCorner", fn := fun _ => fun
  | [d] => { results := [.lit (.bool true)], args := [d] }
  | _ => none }
def cubeCornerRow : OpenClaim := { program := "ytbfbafoeifigfaadoor", sum := "dc27a8d34df0ee33ca096df202efb353e0c1d2f35b5ff60827dfbbd669e5ffa0", func := "tarn/tarnlaw06.CubeCorner", spec := "cubeCorner", named := ["tarn/cube.frames"], apart := false, laid := [("tarn/cube.frames", laid_tarn_cube_frames)] }
def CubeCornerSaid : Prop := cubeCornerRow.holds Tryd.pinned (OpenSpec.ofChange cubeCornerSpec)

/-- ITS FALSE NEIGHBOUR: 'it returns false'. Refute it at one input. -/
def cubeCornerWrong : ChangeSpec := { name := "cubeCorner", fn := fun _ => fun
  | [d] => { results := [.lit (.bool false)], args := [d] }
  | _ => none }
def CubeCornerWrongFalsely : Prop := cubeCornerRow.holds Tryd.pinned (OpenSpec.ofChange cubeCornerWrong)

/-- 'tarnlaw06.CubeTurned': WHATEVER THE INPUT: true; the input reads as it did. -/
def cubeTurnedSpec : ChangeSpec := { name := "cubeTurned", fn := fun _ => fun
  | [d] => { results := [.lit (.bool true)], args := [d] }
  | _ => none }
def cubeTurnedRow : OpenClaim := { program := "ytbfbafoeifigfaadoor", sum := "dc27a8d34df0ee33ca096df202efb353e0c1d2f35b5ff60827dfbbd669e5ffa0", func := "tarn/tarnlaw06.CubeTurned", spec := "cubeTurned", named := ["tarn/cube.frames"], apart := false, laid := [("tarn/cube.frames", laid_tarn_cube_frames)] }
def CubeTurnedSaid : Prop := cubeTurnedRow.holds Tryd.pinned (OpenSpec.ofChange cubeTurnedSpec)

/-- ITS FALSE NEIGHBOUR: 'it returns false'. Refute it at one input. -/
def cubeTurnedWrong : ChangeSpec := { name := "cubeTurned", fn := fun _ => fun
  | [d] => { results := [.lit (.bool false)], args := [d] }
  | _ => none }
def CubeTurnedWrongFalsely : Prop := cubeTurnedRow.holds Tryd.pinned (OpenSpec.ofChange cubeTurnedWrong)

/-- 'tarnlaw06.CubeGroup': WHATEVER THE INPUT: true; the input reads as it did. -/
def cubeGroupSpec : ChangeSpec := { name := "cubeGroup", fn := fun _ => fun
  | [d] => { results := [.lit (.bool true)], args := [d] }
  | _ => none }
def cubeGroupRow : OpenClaim := { program := "ytbfbafoeifigfaadoor", sum := "dc27a8d34df0ee33ca096df202efb353e0c1d2f35b5ff60827dfbbd669e5ffa0", func := "tarn/tarnlaw06.CubeGroup", spec := "cubeGroup", named := ["tarn/cube.frames"], apart := false, laid := [("tarn/cube.frames", laid_tarn_cube_frames)] }
def CubeGroupSaid : Prop := cubeGroupRow.holds Tryd.pinned (OpenSpec.ofChange cubeGroupSpec)

/-- ITS FALSE NEIGHBOUR: 'it returns false'. Refute it at one input. -/
def cubeGroupWrong : ChangeSpec := { name := "cubeGroup", fn := fun _ => fun
  | [d] => { results := [.lit (.bool false)], args := [d] }
  | _ => none }
def CubeGroupWrongFalsely : Prop := cubeGroupRow.holds Tryd.pinned (OpenSpec.ofChange cubeGroupWrong)

/- THE SECOND FORM. 'bulk': how many values and letters a reading holds, each counted each time it is reached (what is shared counts as often as it is met; a slice's spare places count too). A statement '..UptoSaid' is the law's where the arguments, and the package variables that the reading takes, are together of bulk at most 1048576: NARROWER than '..Said'. Prove '..Said' where nothing that the law and all that it calls make is longer than what came in: it says more and counts as full. Else prove '..UptoSaid'. A law counts once. -/
mutual
def uptoBulk {H : Type} : DataW H → Nat
  | .lit (.string bytes) => bytes.length + 1
  | .lit _ => 1
  | .nil => 1
  | .ptr d => uptoBulk d + 1
  | .slice elems spare => uptoBulkAll elems + uptoBulkAll spare + 1
  | .agg parts => uptoBulkAll parts + 1
  | .iface _ d => uptoBulk d + 1
  | .map entries => uptoBulkEntries entries + 1
  | .held _ => 1
def uptoBulkAll {H : Type} : List (DataW H) → Nat
  | [] => 0
  | d :: r => uptoBulk d + uptoBulkAll r
def uptoBulkEntries {H : Type} : List (Lit × DataW H) → Nat
  | [] => 0
  | x :: r => uptoBulkEntry x + uptoBulkEntries r
def uptoBulkEntry {H : Type} : Lit × DataW H → Nat
  | (.string bytes, d) => bytes.length + uptoBulk d + 1
  | (_, d) => uptoBulk d + 1
 end
def uptoSmall : (H : Type) → List (DataW H) → Bool := fun _ ds => decide (uptoBulkAll ds ≤ 1048576)
def OpenSpec.upto (s : _root_.Go.ChangeSpec) : _root_.Go.OpenSpec := { _root_.Go.OpenSpec.ofChange s with cond := some uptoSmall }

/-- 'tarnlaw06.CubeNumbers', WHERE WHAT IT READS IS OF BULK AT MOST 1048576: true; the input reads as it did. -/
def cubeNumbersUptoRow : OpenClaim := { program := "ytbfbafoeifigfaadoor", sum := "dc27a8d34df0ee33ca096df202efb353e0c1d2f35b5ff60827dfbbd669e5ffa0", func := "tarn/tarnlaw06.CubeNumbers", spec := "cubeNumbers", named := ["tarn/cube.frames"], apart := false, laid := [("tarn/cube.frames", laid_tarn_cube_frames)], narrowed := true }
def CubeNumbersUptoSaid : Prop := cubeNumbersUptoRow.holds Tryd.pinned (OpenSpec.upto cubeNumbersSpec)

/-- 'tarnlaw06.CubeSides', WHERE WHAT IT READS IS OF BULK AT MOST 1048576: true; the input reads as it did. -/
def cubeSidesUptoRow : OpenClaim := { program := "ytbfbafoeifigfaadoor", sum := "dc27a8d34df0ee33ca096df202efb353e0c1d2f35b5ff60827dfbbd669e5ffa0", func := "tarn/tarnlaw06.CubeSides", spec := "cubeSides", named := ["tarn/cube.frames"], apart := false, laid := [("tarn/cube.frames", laid_tarn_cube_frames)], narrowed := true }
def CubeSidesUptoSaid : Prop := cubeSidesUptoRow.holds Tryd.pinned (OpenSpec.upto cubeSidesSpec)

/-- 'tarnlaw06.CubePlaces', WHERE WHAT IT READS IS OF BULK AT MOST 1048576: true; the input reads as it did. -/
def cubePlacesUptoRow : OpenClaim := { program := "ytbfbafoeifigfaadoor", sum := "dc27a8d34df0ee33ca096df202efb353e0c1d2f35b5ff60827dfbbd669e5ffa0", func := "tarn/tarnlaw06.CubePlaces", spec := "cubePlaces", named := ["tarn/cube.frames"], apart := false, laid := [("tarn/cube.frames", laid_tarn_cube_frames)], narrowed := true }
def CubePlacesUptoSaid : Prop := cubePlacesUptoRow.holds Tryd.pinned (OpenSpec.upto cubePlacesSpec)

/-- 'tarnlaw06.CubeBack', WHERE WHAT IT READS IS OF BULK AT MOST 1048576: true; the input reads as it did. -/
def cubeBackUptoRow : OpenClaim := { program := "ytbfbafoeifigfaadoor", sum := "dc27a8d34df0ee33ca096df202efb353e0c1d2f35b5ff60827dfbbd669e5ffa0", func := "tarn/tarnlaw06.CubeBack", spec := "cubeBack", named := ["tarn/cube.frames"], apart := false, laid := [("tarn/cube.frames", laid_tarn_cube_frames)], narrowed := true }
def CubeBackUptoSaid : Prop := cubeBackUptoRow.holds Tryd.pinned (OpenSpec.upto cubeBackSpec)

/-- 'tarnlaw06.CubeRound', WHERE WHAT IT READS IS OF BULK AT MOST 1048576: true; the input reads as it did. -/
def cubeRoundUptoRow : OpenClaim := { program := "ytbfbafoeifigfaadoor", sum := "dc27a8d34df0ee33ca096df202efb353e0c1d2f35b5ff60827dfbbd669e5ffa0", func := "tarn/tarnlaw06.CubeRound", spec := "cubeRound", named := ["tarn/cube.frames"], apart := false, laid := [("tarn/cube.frames", laid_tarn_cube_frames)], narrowed := true }
def CubeRoundUptoSaid : Prop := cubeRoundUptoRow.holds Tryd.pinned (OpenSpec.upto cubeRoundSpec)

/-- 'tarnlaw06.CubeCorner', WHERE WHAT IT READS IS OF BULK AT MOST 1048576: true; the input reads as it did. -/
def cubeCornerUptoRow : OpenClaim := { program := "ytbfbafoeifigfaadoor", sum := "dc27a8d34df0ee33ca096df202efb353e0c1d2f35b5ff60827dfbbd669e5ffa0", func := "tarn/tarnlaw06.CubeCorner", spec := "cubeCorner", named := ["tarn/cube.frames"], apart := false, laid := [("tarn/cube.frames", laid_tarn_cube_frames)], narrowed := true }
def CubeCornerUptoSaid : Prop := cubeCornerUptoRow.holds Tryd.pinned (OpenSpec.upto cubeCornerSpec)

/-- 'tarnlaw06.CubeTurned', WHERE WHAT IT READS IS OF BULK AT MOST 1048576: true; the input reads as it did. -/
def cubeTurnedUptoRow : OpenClaim := { program := "ytbfbafoeifigfaadoor", sum := "dc27a8d34df0ee33ca096df202efb353e0c1d2f35b5ff60827dfbbd669e5ffa0", func := "tarn/tarnlaw06.CubeTurned", spec := "cubeTurned", named := ["tarn/cube.frames"], apart := false, laid := [("tarn/cube.frames", laid_tarn_cube_frames)], narrowed := true }
def CubeTurnedUptoSaid : Prop := cubeTurnedUptoRow.holds Tryd.pinned (OpenSpec.upto cubeTurnedSpec)

/-- 'tarnlaw06.CubeGroup', WHERE WHAT IT READS IS OF BULK AT MOST 1048576: true; the input reads as it did. -/
def cubeGroupUptoRow : OpenClaim := { program := "ytbfbafoeifigfaadoor", sum := "dc27a8d34df0ee33ca096df202efb353e0c1d2f35b5ff60827dfbbd669e5ffa0", func := "tarn/tarnlaw06.CubeGroup", spec := "cubeGroup", named := ["tarn/cube.frames"], apart := false, laid := [("tarn/cube.frames", laid_tarn_cube_frames)], narrowed := true }
def CubeGroupUptoSaid : Prop := cubeGroupUptoRow.holds Tryd.pinned (OpenSpec.upto cubeGroupSpec)

end Rows
end Go.Proofs.YtbfbafoeifigfaaDoor
