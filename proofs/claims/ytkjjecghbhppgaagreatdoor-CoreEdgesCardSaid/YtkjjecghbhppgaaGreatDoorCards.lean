/-
  DERIVED. GIVEN WITH THE SEED: THE CARDS: each row of YtkjjecghbhppgaaGreatDoorRows.lean that lists a variable, with what it lists TIED to the program's text (the seventh form; the later family's looks); each row that meets fmt, with fmt's text TOLD by the authors' own Lean function (tested against real Go, not proved from fmt's source: count such statements apart). THE CARD IS WHAT COUNTS. Prove the row's statement (the work); the ties are given (YtkjjecghbhppgaaGreatDoorTie.lean); close each card by the builder's one call (the guide's Derived/Test/ToyasCard.lean, 'card_holds'). Laid BY PROGRAM, IN A SANDBOX (cutbox-door.mjs). By AI agents, Wed Nov 11 2026. No macro, syntax, notation, axiom, sorry.
-/
import Derived.Test.YtkjjecghbhppgaaGreatDoorRows
import GoSem.ClaimSeven
namespace Go.Proofs.YtkjjecghbhppgaaGreatDoor
namespace Rows

/-- THE TIED CARD OF 'tarntop.CoreEdges'. -/
def coreEdgesCard : Claim7 := { stood := { row := coreEdgesRow, standIns := [], harness := (true, "ebd769c50269bd64cdaed13bfa42f6baefbe21d61484fb47f49e715e0fcb3c64"), looks := false }, kinds := [], alts := [], laidByText := true, laidKinds := [.wider, .data], laidTests := true, laidLooks := .later }
def CoreEdgesCardSaid : Prop := Claim7.holds Tryz.pinned (.plain (OpenSpec.ofChange coreEdgesSpec)) coreEdgesCard

/-- THE SECOND FORM's CARD OF 'tarntop.CoreEdges'. -/
def coreEdgesUptoCard : Claim7 := { stood := { row := coreEdgesUptoRow, standIns := [], harness := (true, "ebd769c50269bd64cdaed13bfa42f6baefbe21d61484fb47f49e715e0fcb3c64"), looks := false }, kinds := [], alts := [], laidByText := true, laidKinds := [.wider, .data], laidTests := true, laidLooks := .later }
def CoreEdgesUptoCardSaid : Prop := Claim7.holds Tryz.pinned (.plain (OpenSpec.upto coreEdgesSpec)) coreEdgesUptoCard
end Rows
end Go.Proofs.YtkjjecghbhppgaaGreatDoor
