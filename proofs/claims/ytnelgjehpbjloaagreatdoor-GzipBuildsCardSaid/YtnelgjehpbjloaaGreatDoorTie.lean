/-
  DERIVED. GIVEN WITH THE SEED: THE PROGRAM's TIES (one call each: nine closed facts by the kernel) AND EACH ROW's TIE, after the 31st guide's Derived/Test/Toyas{Tie, Card}.lean. No idea stands in it: it is a product of the set-up. Laid BY PROGRAM, IN A SANDBOX (cutbox-door.mjs). By AI agents, Wed Nov 11 2026. No macro, syntax, notation, axiom, sorry.
-/
import Derived.Test.YtnelgjehpbjloaaGreatDoorRows
import Derived.LaidByTextLater
import Derived.SevenTiedAt
import Derived.LaidSub
import Derived.LaidOnce
namespace Go.Proofs.YtnelgjehpbjloaaGreatDoor
open Go
set_option maxRecDepth 100000
theorem seatTie1 : Tryz.prog.laidByTextLater [("errors.errorType", Rows.laid_errors_errorType), ("collimator/blame.errBytes", Rows.laid_collimator_blame_errBytes), ("collimator/blame.errCodes", Rows.laid_collimator_blame_errCodes), ("collimator/blame.errTexts", Rows.laid_collimator_blame_errTexts), ("collimator/blame.errRoom", Rows.laid_collimator_blame_errRoom), ("collimator/blame.errOther", Rows.laid_collimator_blame_errOther)] [.handle, .sentinel, .sentinel, .sentinel, .sentinel, .sentinel] true :=
  Program.laidByTextLater_by_one 111 8 2 (by kernel_rfl) (by kernel_rfl) (by kernel_rfl) (by kernel_rfl) (by kernel_rfl) (by kernel_rfl) (fun _ _ => by kernel_rfl)
theorem noOwnUnsafe : Tryz.pinned.checked.prog.headLifts.contains "ownunsafe" = false := by kernel_rfl
theorem tie : Tryz.prog.laidByTextLater [("errors.errorType", Rows.laid_errors_errorType), ("collimator/blame.errBytes", Rows.laid_collimator_blame_errBytes), ("collimator/blame.errCodes", Rows.laid_collimator_blame_errCodes), ("collimator/blame.errTexts", Rows.laid_collimator_blame_errTexts), ("collimator/blame.errRoom", Rows.laid_collimator_blame_errRoom), ("collimator/blame.errOther", Rows.laid_collimator_blame_errOther)] [.handle, .sentinel, .sentinel, .sentinel, .sentinel, .sentinel] true :=
  Program.laidByTextLater.sub seatTie1 ["errors.errorType", "collimator/blame.errBytes", "collimator/blame.errCodes", "collimator/blame.errTexts", "collimator/blame.errRoom", "collimator/blame.errOther"] (by kernel_rfl) (by kernel_rfl)
theorem gzipBuilds_row_tie : Rows.gzipBuildsRow.laidByTextAt .later Tryz.pinned [.handle, .sentinel, .sentinel, .sentinel, .sentinel, .sentinel] true :=
  OpenClaim.laidByTextAt_later rfl rfl tie noOwnUnsafe
theorem gzipBack_row_tie : Rows.gzipBackRow.laidByTextAt .later Tryz.pinned [.handle, .sentinel, .sentinel, .sentinel, .sentinel, .sentinel] true :=
  OpenClaim.laidByTextAt_later rfl rfl tie noOwnUnsafe
theorem gzipSums_row_tie : Rows.gzipSumsRow.laidByTextAt .later Tryz.pinned [.handle, .sentinel, .sentinel, .sentinel, .sentinel, .sentinel] true :=
  OpenClaim.laidByTextAt_later rfl rfl tie noOwnUnsafe
theorem gzipParses_row_tie : Rows.gzipParsesRow.laidByTextAt .later Tryz.pinned [.handle, .sentinel, .sentinel, .sentinel, .sentinel, .sentinel] true :=
  OpenClaim.laidByTextAt_later rfl rfl tie noOwnUnsafe
theorem gzipBuildsUpto_row_tie : Rows.gzipBuildsUptoRow.laidByTextAt .later Tryz.pinned [.handle, .sentinel, .sentinel, .sentinel, .sentinel, .sentinel] true :=
  OpenClaim.laidByTextAt_later rfl rfl tie noOwnUnsafe
theorem gzipBackUpto_row_tie : Rows.gzipBackUptoRow.laidByTextAt .later Tryz.pinned [.handle, .sentinel, .sentinel, .sentinel, .sentinel, .sentinel] true :=
  OpenClaim.laidByTextAt_later rfl rfl tie noOwnUnsafe
theorem gzipSumsUpto_row_tie : Rows.gzipSumsUptoRow.laidByTextAt .later Tryz.pinned [.handle, .sentinel, .sentinel, .sentinel, .sentinel, .sentinel] true :=
  OpenClaim.laidByTextAt_later rfl rfl tie noOwnUnsafe
theorem gzipParsesUpto_row_tie : Rows.gzipParsesUptoRow.laidByTextAt .later Tryz.pinned [.handle, .sentinel, .sentinel, .sentinel, .sentinel, .sentinel] true :=
  OpenClaim.laidByTextAt_later rfl rfl tie noOwnUnsafe
end Go.Proofs.YtnelgjehpbjloaaGreatDoor
