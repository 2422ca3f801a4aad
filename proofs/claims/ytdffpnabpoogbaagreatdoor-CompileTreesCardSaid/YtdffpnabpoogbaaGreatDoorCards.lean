/-
  DERIVED. GIVEN WITH THE SEED: THE CARDS: each row of YtdffpnabpoogbaaGreatDoorRows.lean that lists a variable, with what it lists TIED to the program's text (the seventh form; the later family's looks); each row that meets fmt, with fmt's text TOLD by the authors' own Lean function (tested against real Go, not proved from fmt's source: count such statements apart). THE CARD IS WHAT COUNTS. Prove the row's statement (the work); the ties are given (YtdffpnabpoogbaaGreatDoorTie.lean); close each card by the builder's one call (the guide's Derived/Test/ToyasCard.lean, 'card_holds'). Laid BY PROGRAM, IN A SANDBOX (cutbox-door.mjs). By AI agents, Wed Nov 11 2026. No macro, syntax, notation, axiom, sorry.
-/
import Derived.Test.YtdffpnabpoogbaaGreatDoorRows
import GoSem.ClaimSeven
namespace Go.Proofs.YtdffpnabpoogbaaGreatDoor
namespace Rows

/-- THE TIED CARD OF 'collimatorlaw22.CompileTrees'. -/
def compileTreesCard : Claim7 := { stood := { row := compileTreesRow, standIns := [], harness := (true, "a8565f1b3aee4c3ba910ee149bbd611269aa9ea6adbc4b47d258a8b7a5a7c3c8"), looks := true }, kinds := [], alts := [], laidByText := true, laidKinds := [.data, .handle, .sentinel, .sentinel, .sentinel, .sentinel, .sentinel], laidTests := true, laidLooks := .later }
def CompileTreesCardSaid : Prop := Claim7.holds Tryz.pinned (.plain (OpenSpec.ofChange compileTreesSpec)) compileTreesCard

/-- THE TIED CARD OF 'collimatorlaw22.CompileMatches'. -/
def compileMatchesCard : Claim7 := { stood := { row := compileMatchesRow, standIns := [], harness := (true, "a8565f1b3aee4c3ba910ee149bbd611269aa9ea6adbc4b47d258a8b7a5a7c3c8"), looks := true }, kinds := [], alts := [], laidByText := true, laidKinds := [.data, .handle, .sentinel, .sentinel, .sentinel, .sentinel, .sentinel], laidTests := true, laidLooks := .later }
def CompileMatchesCardSaid : Prop := Claim7.holds Tryz.pinned (.plain (OpenSpec.ofChange compileMatchesSpec)) compileMatchesCard

/-- THE TIED CARD OF 'collimatorlaw22.CompileLeast'. -/
def compileLeastCard : Claim7 := { stood := { row := compileLeastRow, standIns := [], harness := (true, "a8565f1b3aee4c3ba910ee149bbd611269aa9ea6adbc4b47d258a8b7a5a7c3c8"), looks := true }, kinds := [], alts := [], laidByText := true, laidKinds := [.data, .handle, .sentinel, .sentinel, .sentinel, .sentinel, .sentinel], laidTests := true, laidLooks := .later }
def CompileLeastCardSaid : Prop := Claim7.holds Tryz.pinned (.plain (OpenSpec.ofChange compileLeastSpec)) compileLeastCard

/-- THE SECOND FORM's CARD OF 'collimatorlaw22.CompileTrees'. -/
def compileTreesUptoCard : Claim7 := { stood := { row := compileTreesUptoRow, standIns := [], harness := (true, "a8565f1b3aee4c3ba910ee149bbd611269aa9ea6adbc4b47d258a8b7a5a7c3c8"), looks := true }, kinds := [], alts := [], laidByText := true, laidKinds := [.data, .handle, .sentinel, .sentinel, .sentinel, .sentinel, .sentinel], laidTests := true, laidLooks := .later }
def CompileTreesUptoCardSaid : Prop := Claim7.holds Tryz.pinned (.plain (OpenSpec.upto compileTreesSpec)) compileTreesUptoCard

/-- THE SECOND FORM's CARD OF 'collimatorlaw22.CompileMatches'. -/
def compileMatchesUptoCard : Claim7 := { stood := { row := compileMatchesUptoRow, standIns := [], harness := (true, "a8565f1b3aee4c3ba910ee149bbd611269aa9ea6adbc4b47d258a8b7a5a7c3c8"), looks := true }, kinds := [], alts := [], laidByText := true, laidKinds := [.data, .handle, .sentinel, .sentinel, .sentinel, .sentinel, .sentinel], laidTests := true, laidLooks := .later }
def CompileMatchesUptoCardSaid : Prop := Claim7.holds Tryz.pinned (.plain (OpenSpec.upto compileMatchesSpec)) compileMatchesUptoCard

/-- THE SECOND FORM's CARD OF 'collimatorlaw22.CompileLeast'. -/
def compileLeastUptoCard : Claim7 := { stood := { row := compileLeastUptoRow, standIns := [], harness := (true, "a8565f1b3aee4c3ba910ee149bbd611269aa9ea6adbc4b47d258a8b7a5a7c3c8"), looks := true }, kinds := [], alts := [], laidByText := true, laidKinds := [.data, .handle, .sentinel, .sentinel, .sentinel, .sentinel, .sentinel], laidTests := true, laidLooks := .later }
def CompileLeastUptoCardSaid : Prop := Claim7.holds Tryz.pinned (.plain (OpenSpec.upto compileLeastSpec)) compileLeastUptoCard
end Rows
end Go.Proofs.YtdffpnabpoogbaaGreatDoor
