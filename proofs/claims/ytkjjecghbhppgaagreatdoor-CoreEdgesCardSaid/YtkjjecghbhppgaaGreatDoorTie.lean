/-
  DERIVED. GIVEN WITH THE SEED: THE PROGRAM's TIES (one call each: nine closed facts by the kernel) AND EACH ROW's TIE, after the 31st guide's Derived/Test/Toyas{Tie, Card}.lean. No idea stands in it: it is a product of the set-up. Laid BY PROGRAM, IN A SANDBOX (cutbox-door.mjs). By AI agents, Wed Nov 11 2026. No macro, syntax, notation, axiom, sorry.
-/
import Derived.Test.YtkjjecghbhppgaaGreatDoorRows
import Derived.LaidByTextLater
import Derived.SevenTiedAt
import Derived.LaidSub
import Derived.LaidOnce
namespace Go.Proofs.YtkjjecghbhppgaaGreatDoor
open Go
set_option maxRecDepth 100000
theorem seatTie1 : Tryz.prog.laidByTextLater [("tarn/cube.frames", Rows.laid_tarn_cube_frames), ("tarn/geom.frames", Rows.laid_tarn_geom_frames)] [.wider, .data] true :=
  Program.laidByTextLater_by_one 67 8 55 (by kernel_rfl) (by kernel_rfl) (by kernel_rfl) (by kernel_rfl) (by kernel_rfl) (by kernel_rfl) (fun _ _ => by kernel_rfl)
theorem noOwnUnsafe : Tryz.pinned.checked.prog.headLifts.contains "ownunsafe" = false := by kernel_rfl
theorem tie : Tryz.prog.laidByTextLater [("tarn/cube.frames", Rows.laid_tarn_cube_frames), ("tarn/geom.frames", Rows.laid_tarn_geom_frames)] [.wider, .data] true :=
  Program.laidByTextLater.sub seatTie1 ["tarn/cube.frames", "tarn/geom.frames"] (by kernel_rfl) (by kernel_rfl)
theorem coreEdges_row_tie : Rows.coreEdgesRow.laidByTextAt .later Tryz.pinned [.wider, .data] true :=
  OpenClaim.laidByTextAt_later rfl rfl tie noOwnUnsafe
theorem coreEdgesUpto_row_tie : Rows.coreEdgesUptoRow.laidByTextAt .later Tryz.pinned [.wider, .data] true :=
  OpenClaim.laidByTextAt_later rfl rfl tie noOwnUnsafe
end Go.Proofs.YtkjjecghbhppgaaGreatDoor
