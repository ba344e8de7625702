/-
  DERIVED. GIVEN WITH THE SEED: THE CARDS: each row of YtbfbafoeifigfaaDoorRows.lean that lists a variable, with what it lists TIED to the program's text (the seventh form; the later family's looks); each row that meets fmt, with fmt's text TOLD by the authors' own Lean function (tested against real Go, not proved from fmt's source: count such statements apart). THE CARD IS WHAT COUNTS. Prove the row's statement (the work); the ties are given (YtbfbafoeifigfaaDoorTie.lean); close each card by the builder's one call (the guide's Derived/Test/ToyasCard.lean, 'card_holds'). Laid BY PROGRAM, IN A SANDBOX (cutbox-door.mjs). By AI agents, Wed Nov 11 2026. No macro, syntax, notation, axiom, sorry.
-/
import Derived.Test.YtbfbafoeifigfaaDoorRows
import GoSem.ClaimSeven
namespace Go.Proofs.YtbfbafoeifigfaaDoor
namespace Rows

/-- THE TIED CARD OF 'tarnlaw06.CubeNumbers'. -/
def cubeNumbersCard : Claim7 := { stood := { row := cubeNumbersRow, standIns := [], harness := (true, "0db289438f030618f1644cfc06991a4179338ffe742057372a030a1f98f821f5"), looks := false }, kinds := [], alts := [], laidByText := true, laidKinds := [.wider], laidTests := true, laidLooks := .later }
def CubeNumbersCardSaid : Prop := Claim7.holds Tryd.pinned (.plain (OpenSpec.ofChange cubeNumbersSpec)) cubeNumbersCard

/-- THE TIED CARD OF 'tarnlaw06.CubeSides'. -/
def cubeSidesCard : Claim7 := { stood := { row := cubeSidesRow, standIns := [], harness := (true, "0db289438f030618f1644cfc06991a4179338ffe742057372a030a1f98f821f5"), looks := false }, kinds := [], alts := [], laidByText := true, laidKinds := [.wider], laidTests := true, laidLooks := .later }
def CubeSidesCardSaid : Prop := Claim7.holds Tryd.pinned (.plain (OpenSpec.ofChange cubeSidesSpec)) cubeSidesCard

/-- THE TIED CARD OF 'tarnlaw06.CubePlaces'. -/
def cubePlacesCard : Claim7 := { stood := { row := cubePlacesRow, standIns := [], harness := (true, "0db289438f030618f1644cfc06991a4179338ffe742057372a030a1f98f821f5"), looks := false }, kinds := [], alts := [], laidByText := true, laidKinds := [.wider], laidTests := true, laidLooks := .later }
def CubePlacesCardSaid : Prop := Claim7.holds Tryd.pinned (.plain (OpenSpec.ofChange cubePlacesSpec)) cubePlacesCard

/-- THE TIED CARD OF 'tarnlaw06.CubeBack'. -/
def cubeBackCard : Claim7 := { stood := { row := cubeBackRow, standIns := [], harness := (true, "0db289438f030618f1644cfc06991a4179338ffe742057372a030a1f98f821f5"), looks := false }, kinds := [], alts := [], laidByText := true, laidKinds := [.wider], laidTests := true, laidLooks := .later }
def CubeBackCardSaid : Prop := Claim7.holds Tryd.pinned (.plain (OpenSpec.ofChange cubeBackSpec)) cubeBackCard

/-- THE TIED CARD OF 'tarnlaw06.CubeRound'. -/
def cubeRoundCard : Claim7 := { stood := { row := cubeRoundRow, standIns := [], harness := (true, "0db289438f030618f1644cfc06991a4179338ffe742057372a030a1f98f821f5"), looks := false }, kinds := [], alts := [], laidByText := true, laidKinds := [.wider], laidTests := true, laidLooks := .later }
def CubeRoundCardSaid : Prop := Claim7.holds Tryd.pinned (.plain (OpenSpec.ofChange cubeRoundSpec)) cubeRoundCard

/-- THE TIED CARD OF 'tarnlaw06.CubeCorner'. -/
def cubeCornerCard : Claim7 := { stood := { row := cubeCornerRow, standIns := [], harness := (true, "0db289438f030618f1644cfc06991a4179338ffe742057372a030a1f98f821f5"), looks := false }, kinds := [], alts := [], laidByText := true, laidKinds := [.wider], laidTests := true, laidLooks := .later }
def CubeCornerCardSaid : Prop := Claim7.holds Tryd.pinned (.plain (OpenSpec.ofChange cubeCornerSpec)) cubeCornerCard

/-- THE TIED CARD OF 'tarnlaw06.CubeTurned'. -/
def cubeTurnedCard : Claim7 := { stood := { row := cubeTurnedRow, standIns := [], harness := (true, "0db289438f030618f1644cfc06991a4179338ffe742057372a030a1f98f821f5"), looks := false }, kinds := [], alts := [], laidByText := true, laidKinds := [.wider], laidTests := true, laidLooks := .later }
def CubeTurnedCardSaid : Prop := Claim7.holds Tryd.pinned (.plain (OpenSpec.ofChange cubeTurnedSpec)) cubeTurnedCard

/-- THE TIED CARD OF 'tarnlaw06.CubeGroup'. -/
def cubeGroupCard : Claim7 := { stood := { row := cubeGroupRow, standIns := [], harness := (true, "0db289438f030618f1644cfc06991a4179338ffe742057372a030a1f98f821f5"), looks := false }, kinds := [], alts := [], laidByText := true, laidKinds := [.wider], laidTests := true, laidLooks := .later }
def CubeGroupCardSaid : Prop := Claim7.holds Tryd.pinned (.plain (OpenSpec.ofChange cubeGroupSpec)) cubeGroupCard

/-- THE SECOND FORM's CARD OF 'tarnlaw06.CubeNumbers'. -/
def cubeNumbersUptoCard : Claim7 := { stood := { row := cubeNumbersUptoRow, standIns := [], harness := (true, "0db289438f030618f1644cfc06991a4179338ffe742057372a030a1f98f821f5"), looks := false }, kinds := [], alts := [], laidByText := true, laidKinds := [.wider], laidTests := true, laidLooks := .later }
def CubeNumbersUptoCardSaid : Prop := Claim7.holds Tryd.pinned (.plain (OpenSpec.upto cubeNumbersSpec)) cubeNumbersUptoCard

/-- THE SECOND FORM's CARD OF 'tarnlaw06.CubeSides'. -/
def cubeSidesUptoCard : Claim7 := { stood := { row := cubeSidesUptoRow, standIns := [], harness := (true, "0db289438f030618f1644cfc06991a4179338ffe742057372a030a1f98f821f5"), looks := false }, kinds := [], alts := [], laidByText := true, laidKinds := [.wider], laidTests := true, laidLooks := .later }
def CubeSidesUptoCardSaid : Prop := Claim7.holds Tryd.pinned (.plain (OpenSpec.upto cubeSidesSpec)) cubeSidesUptoCard

/-- THE SECOND FORM's CARD OF 'tarnlaw06.CubePlaces'. -/
def cubePlacesUptoCard : Claim7 := { stood := { row := cubePlacesUptoRow, standIns := [], harness := (true, "0db289438f030618f1644cfc06991a4179338ffe742057372a030a1f98f821f5"), looks := false }, kinds := [], alts := [], laidByText := true, laidKinds := [.wider], laidTests := true, laidLooks := .later }
def CubePlacesUptoCardSaid : Prop := Claim7.holds Tryd.pinned (.plain (OpenSpec.upto cubePlacesSpec)) cubePlacesUptoCard

/-- THE SECOND FORM's CARD OF 'tarnlaw06.CubeBack'. -/
def cubeBackUptoCard : Claim7 := { stood := { row := cubeBackUptoRow, standIns := [], harness := (true, "0db289438f030618f1644cfc06991a4179338ffe742057372a030a1f98f821f5"), looks := false }, kinds := [], alts := [], laidByText := true, laidKinds := [.wider], laidTests := true, laidLooks := .later }
def CubeBackUptoCardSaid : Prop := Claim7.holds Tryd.pinned (.plain (OpenSpec.upto cubeBackSpec)) cubeBackUptoCard

/-- THE SECOND FORM's CARD OF 'tarnlaw06.CubeRound'. -/
def cubeRoundUptoCard : Claim7 := { stood := { row := cubeRoundUptoRow, standIns := [], harness := (true, "0db289438f030618f1644cfc06991a4179338ffe742057372a030a1f98f821f5"), looks := false }, kinds := [], alts := [], laidByText := true, laidKinds := [.wider], laidTests := true, laidLooks := .later }
def CubeRoundUptoCardSaid : Prop := Claim7.holds Tryd.pinned (.plain (OpenSpec.upto cubeRoundSpec)) cubeRoundUptoCard

/-- THE SECOND FORM's CARD OF 'tarnlaw06.CubeCorner'. -/
def cubeCornerUptoCard : Claim7 := { stood := { row := cubeCornerUptoRow, standIns := [], harness := (true, "0db289438f030618f1644cfc06991a4179338ffe742057372a030a1f98f821f5"), looks := false }, kinds := [], alts := [], laidByText := true, laidKinds := [.wider], laidTests := true, laidLooks := .later }
def CubeCornerUptoCardSaid : Prop := Claim7.holds Tryd.pinned (.plain (OpenSpec.upto cubeCornerSpec)) cubeCornerUptoCard

/-- THE SECOND FORM's CARD OF 'tarnlaw06.CubeTurned'. -/
def cubeTurnedUptoCard : Claim7 := { stood := { row := cubeTurnedUptoRow, standIns := [], harness := (true, "0db289438f030618f1644cfc06991a4179338ffe742057372a030a1f98f821f5"), looks := false }, kinds := [], alts := [], laidByText := true, laidKinds := [.wider], laidTests := true, laidLooks := .later }
def CubeTurnedUptoCardSaid : Prop := Claim7.holds Tryd.pinned (.plain (OpenSpec.upto cubeTurnedSpec)) cubeTurnedUptoCard

/-- THE SECOND FORM's CARD OF 'tarnlaw06.CubeGroup'. -/
def cubeGroupUptoCard : Claim7 := { stood := { row := cubeGroupUptoRow, standIns := [], harness := (true, "0db289438f030618f1644cfc06991a4179338ffe742057372a030a1f98f821f5"), looks := false }, kinds := [], alts := [], laidByText := true, laidKinds := [.wider], laidTests := true, laidLooks := .later }
def CubeGroupUptoCardSaid : Prop := Claim7.holds Tryd.pinned (.plain (OpenSpec.upto cubeGroupSpec)) cubeGroupUptoCard
end Rows
end Go.Proofs.YtbfbafoeifigfaaDoor
