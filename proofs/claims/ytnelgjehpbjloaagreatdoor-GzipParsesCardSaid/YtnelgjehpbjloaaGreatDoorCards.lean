/-
  DERIVED. GIVEN WITH THE SEED: THE CARDS: each row of YtnelgjehpbjloaaGreatDoorRows.lean that lists a variable, with what it lists TIED to the program's text (the seventh form; the later family's looks); each row that meets fmt, with fmt's text TOLD by the authors' own Lean function (tested against real Go, not proved from fmt's source: count such statements apart). THE CARD IS WHAT COUNTS. Prove the row's statement (the work); the ties are given (YtnelgjehpbjloaaGreatDoorTie.lean); close each card by the builder's one call (the guide's Derived/Test/ToyasCard.lean, 'card_holds'). Laid BY PROGRAM, IN A SANDBOX (cutbox-door.mjs). By AI agents, Wed Nov 11 2026. No macro, syntax, notation, axiom, sorry.
-/
import Derived.Test.YtnelgjehpbjloaaGreatDoorRows
import GoSem.ClaimSeven
namespace Go.Proofs.YtnelgjehpbjloaaGreatDoor
namespace Rows

/-- THE TIED CARD OF 'collimatorlaw13.GzipBuilds'. -/
def gzipBuildsCard : Claim7 := { stood := { row := gzipBuildsRow, standIns := [], harness := (true, "249f5f2d5cf8b9bcb553b74af1e856ccd92d0694cce8b37b30168555f4eca119"), looks := true }, kinds := [], alts := [], laidByText := true, laidKinds := [.handle, .sentinel, .sentinel, .sentinel, .sentinel, .sentinel], laidTests := true, laidLooks := .later }
def GzipBuildsCardSaid : Prop := Claim7.holds Tryz.pinned (.plain (OpenSpec.ofChange gzipBuildsSpec)) gzipBuildsCard

/-- THE TIED CARD OF 'collimatorlaw13.GzipBack'. -/
def gzipBackCard : Claim7 := { stood := { row := gzipBackRow, standIns := [], harness := (true, "249f5f2d5cf8b9bcb553b74af1e856ccd92d0694cce8b37b30168555f4eca119"), looks := true }, kinds := [], alts := [], laidByText := true, laidKinds := [.handle, .sentinel, .sentinel, .sentinel, .sentinel, .sentinel], laidTests := true, laidLooks := .later }
def GzipBackCardSaid : Prop := Claim7.holds Tryz.pinned (.plain (OpenSpec.ofChange gzipBackSpec)) gzipBackCard

/-- THE TIED CARD OF 'collimatorlaw13.GzipSums'. -/
def gzipSumsCard : Claim7 := { stood := { row := gzipSumsRow, standIns := [], harness := (true, "249f5f2d5cf8b9bcb553b74af1e856ccd92d0694cce8b37b30168555f4eca119"), looks := true }, kinds := [], alts := [], laidByText := true, laidKinds := [.handle, .sentinel, .sentinel, .sentinel, .sentinel, .sentinel], laidTests := true, laidLooks := .later }
def GzipSumsCardSaid : Prop := Claim7.holds Tryz.pinned (.plain (OpenSpec.ofChange gzipSumsSpec)) gzipSumsCard

/-- THE TIED CARD OF 'collimatorlaw13.GzipParses'. -/
def gzipParsesCard : Claim7 := { stood := { row := gzipParsesRow, standIns := [], harness := (true, "249f5f2d5cf8b9bcb553b74af1e856ccd92d0694cce8b37b30168555f4eca119"), looks := true }, kinds := [], alts := [], laidByText := true, laidKinds := [.handle, .sentinel, .sentinel, .sentinel, .sentinel, .sentinel], laidTests := true, laidLooks := .later }
def GzipParsesCardSaid : Prop := Claim7.holds Tryz.pinned (.plain (OpenSpec.ofChange gzipParsesSpec)) gzipParsesCard

/-- THE SECOND FORM's CARD OF 'collimatorlaw13.GzipBuilds'. -/
def gzipBuildsUptoCard : Claim7 := { stood := { row := gzipBuildsUptoRow, standIns := [], harness := (true, "249f5f2d5cf8b9bcb553b74af1e856ccd92d0694cce8b37b30168555f4eca119"), looks := true }, kinds := [], alts := [], laidByText := true, laidKinds := [.handle, .sentinel, .sentinel, .sentinel, .sentinel, .sentinel], laidTests := true, laidLooks := .later }
def GzipBuildsUptoCardSaid : Prop := Claim7.holds Tryz.pinned (.plain (OpenSpec.upto gzipBuildsSpec)) gzipBuildsUptoCard

/-- THE SECOND FORM's CARD OF 'collimatorlaw13.GzipBack'. -/
def gzipBackUptoCard : Claim7 := { stood := { row := gzipBackUptoRow, standIns := [], harness := (true, "249f5f2d5cf8b9bcb553b74af1e856ccd92d0694cce8b37b30168555f4eca119"), looks := true }, kinds := [], alts := [], laidByText := true, laidKinds := [.handle, .sentinel, .sentinel, .sentinel, .sentinel, .sentinel], laidTests := true, laidLooks := .later }
def GzipBackUptoCardSaid : Prop := Claim7.holds Tryz.pinned (.plain (OpenSpec.upto gzipBackSpec)) gzipBackUptoCard

/-- THE SECOND FORM's CARD OF 'collimatorlaw13.GzipSums'. -/
def gzipSumsUptoCard : Claim7 := { stood := { row := gzipSumsUptoRow, standIns := [], harness := (true, "249f5f2d5cf8b9bcb553b74af1e856ccd92d0694cce8b37b30168555f4eca119"), looks := true }, kinds := [], alts := [], laidByText := true, laidKinds := [.handle, .sentinel, .sentinel, .sentinel, .sentinel, .sentinel], laidTests := true, laidLooks := .later }
def GzipSumsUptoCardSaid : Prop := Claim7.holds Tryz.pinned (.plain (OpenSpec.upto gzipSumsSpec)) gzipSumsUptoCard

/-- THE SECOND FORM's CARD OF 'collimatorlaw13.GzipParses'. -/
def gzipParsesUptoCard : Claim7 := { stood := { row := gzipParsesUptoRow, standIns := [], harness := (true, "249f5f2d5cf8b9bcb553b74af1e856ccd92d0694cce8b37b30168555f4eca119"), looks := true }, kinds := [], alts := [], laidByText := true, laidKinds := [.handle, .sentinel, .sentinel, .sentinel, .sentinel, .sentinel], laidTests := true, laidLooks := .later }
def GzipParsesUptoCardSaid : Prop := Claim7.holds Tryz.pinned (.plain (OpenSpec.upto gzipParsesSpec)) gzipParsesUptoCard
end Rows
end Go.Proofs.YtnelgjehpbjloaaGreatDoor
