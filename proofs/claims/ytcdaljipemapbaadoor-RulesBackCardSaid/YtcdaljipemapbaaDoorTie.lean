/-
  DERIVED. GIVEN WITH THE SEED: THE PROGRAM's TIES (one call each: nine closed facts by the kernel) AND EACH ROW's TIE, after the 31st guide's Derived/Test/Toyas{Tie, Card}.lean. No idea stands in it: it is a product of the set-up. Laid BY PROGRAM, IN A SANDBOX (cutbox-door.mjs). By AI agents, Wed Nov 11 2026. No macro, syntax, notation, axiom, sorry.
-/
import Derived.Test.YtcdaljipemapbaaDoorRows
import Derived.LaidByTextLater
import Derived.SevenTiedAt
import Derived.LaidSub
import Derived.LaidOnce
namespace Go.Proofs.YtcdaljipemapbaaDoor
open Go
set_option maxRecDepth 100000
theorem seatTie1 : Tryd.prog.laidByTextLater [("math/bits.deBruijn64tab", Rows.laid_math_bits_deBruijn64tab), ("errors.errorType", Rows.laid_errors_errorType), ("collimator/blame.errBytes", Rows.laid_collimator_blame_errBytes), ("collimator/blame.errCodes", Rows.laid_collimator_blame_errCodes), ("collimator/blame.errTexts", Rows.laid_collimator_blame_errTexts), ("collimator/blame.errRoom", Rows.laid_collimator_blame_errRoom), ("collimator/blame.errOther", Rows.laid_collimator_blame_errOther)] [.data, .handle, .sentinel, .sentinel, .sentinel, .sentinel, .sentinel] true :=
  Program.laidByTextLater_by_one 116 8 65 (by kernel_rfl) (by kernel_rfl) (by kernel_rfl) (by kernel_rfl) (by kernel_rfl) (by kernel_rfl) (fun _ _ => by kernel_rfl)
theorem noOwnUnsafe : Tryd.pinned.checked.prog.headLifts.contains "ownunsafe" = false := by kernel_rfl
theorem tie : Tryd.prog.laidByTextLater [("math/bits.deBruijn64tab", Rows.laid_math_bits_deBruijn64tab), ("errors.errorType", Rows.laid_errors_errorType), ("collimator/blame.errBytes", Rows.laid_collimator_blame_errBytes), ("collimator/blame.errCodes", Rows.laid_collimator_blame_errCodes), ("collimator/blame.errTexts", Rows.laid_collimator_blame_errTexts), ("collimator/blame.errRoom", Rows.laid_collimator_blame_errRoom), ("collimator/blame.errOther", Rows.laid_collimator_blame_errOther)] [.data, .handle, .sentinel, .sentinel, .sentinel, .sentinel, .sentinel] true :=
  Program.laidByTextLater.sub seatTie1 ["math/bits.deBruijn64tab", "errors.errorType", "collimator/blame.errBytes", "collimator/blame.errCodes", "collimator/blame.errTexts", "collimator/blame.errRoom", "collimator/blame.errOther"] (by kernel_rfl) (by kernel_rfl)
theorem rulesShows_row_tie : Rows.rulesShowsRow.laidByTextAt .later Tryd.pinned [.data, .handle, .sentinel, .sentinel, .sentinel, .sentinel, .sentinel] true :=
  OpenClaim.laidByTextAt_later rfl rfl tie noOwnUnsafe
theorem rulesBack_row_tie : Rows.rulesBackRow.laidByTextAt .later Tryd.pinned [.data, .handle, .sentinel, .sentinel, .sentinel, .sentinel, .sentinel] true :=
  OpenClaim.laidByTextAt_later rfl rfl tie noOwnUnsafe
theorem rulesRight_row_tie : Rows.rulesRightRow.laidByTextAt .later Tryd.pinned [.data, .handle, .sentinel, .sentinel, .sentinel, .sentinel, .sentinel] true :=
  OpenClaim.laidByTextAt_later rfl rfl tie noOwnUnsafe
theorem rulesShowsUpto_row_tie : Rows.rulesShowsUptoRow.laidByTextAt .later Tryd.pinned [.data, .handle, .sentinel, .sentinel, .sentinel, .sentinel, .sentinel] true :=
  OpenClaim.laidByTextAt_later rfl rfl tie noOwnUnsafe
theorem rulesBackUpto_row_tie : Rows.rulesBackUptoRow.laidByTextAt .later Tryd.pinned [.data, .handle, .sentinel, .sentinel, .sentinel, .sentinel, .sentinel] true :=
  OpenClaim.laidByTextAt_later rfl rfl tie noOwnUnsafe
theorem rulesRightUpto_row_tie : Rows.rulesRightUptoRow.laidByTextAt .later Tryd.pinned [.data, .handle, .sentinel, .sentinel, .sentinel, .sentinel, .sentinel] true :=
  OpenClaim.laidByTextAt_later rfl rfl tie noOwnUnsafe
end Go.Proofs.YtcdaljipemapbaaDoor
