/-
  DERIVED. GIVEN WITH THE SEED: THE CARDS: each row of YtcdaljipemapbaaDoorRows.lean that lists a variable, with what it lists TIED to the program's text (the seventh form; the later family's looks); each row that meets fmt, with fmt's text TOLD by the authors' own Lean function (tested against real Go, not proved from fmt's source: count such statements apart). THE CARD IS WHAT COUNTS. Prove the row's statement (the work); the ties are given (YtcdaljipemapbaaDoorTie.lean); close each card by the builder's one call (the guide's Derived/Test/ToyasCard.lean, 'card_holds'). Laid BY PROGRAM, IN A SANDBOX (cutbox-door.mjs). By AI agents, Wed Nov 11 2026. No macro, syntax, notation, axiom, sorry.
-/
import Derived.Test.YtcdaljipemapbaaDoorRows
import GoSem.ClaimSeven
namespace Go.Proofs.YtcdaljipemapbaaDoor
namespace Rows

/-- THE TIED CARD OF 'collimatorlaw16.RulesShows'. -/
def rulesShowsCard : Claim7 := { stood := { row := rulesShowsRow, standIns := [], harness := (true, "898f4ba5c6ce1896d4be0f7d6f064a5d1951e82017b1db4e225741c89d5d05a1"), looks := true }, kinds := [], alts := [], laidByText := true, laidKinds := [.data, .handle, .sentinel, .sentinel, .sentinel, .sentinel, .sentinel], laidTests := true, laidLooks := .later }
def RulesShowsCardSaid : Prop := Claim7.holds Tryd.pinned (.plain (OpenSpec.ofChange rulesShowsSpec)) rulesShowsCard

/-- THE TIED CARD OF 'collimatorlaw16.RulesBack'. -/
def rulesBackCard : Claim7 := { stood := { row := rulesBackRow, standIns := [], harness := (true, "898f4ba5c6ce1896d4be0f7d6f064a5d1951e82017b1db4e225741c89d5d05a1"), looks := true }, kinds := [], alts := [], laidByText := true, laidKinds := [.data, .handle, .sentinel, .sentinel, .sentinel, .sentinel, .sentinel], laidTests := true, laidLooks := .later }
def RulesBackCardSaid : Prop := Claim7.holds Tryd.pinned (.plain (OpenSpec.ofChange rulesBackSpec)) rulesBackCard

/-- THE TIED CARD OF 'collimatorlaw16.RulesRight'. -/
def rulesRightCard : Claim7 := { stood := { row := rulesRightRow, standIns := [], harness := (true, "898f4ba5c6ce1896d4be0f7d6f064a5d1951e82017b1db4e225741c89d5d05a1"), looks := true }, kinds := [], alts := [], laidByText := true, laidKinds := [.data, .handle, .sentinel, .sentinel, .sentinel, .sentinel, .sentinel], laidTests := true, laidLooks := .later }
def RulesRightCardSaid : Prop := Claim7.holds Tryd.pinned (.plain (OpenSpec.ofChange rulesRightSpec)) rulesRightCard

/-- THE SECOND FORM's CARD OF 'collimatorlaw16.RulesShows'. -/
def rulesShowsUptoCard : Claim7 := { stood := { row := rulesShowsUptoRow, standIns := [], harness := (true, "898f4ba5c6ce1896d4be0f7d6f064a5d1951e82017b1db4e225741c89d5d05a1"), looks := true }, kinds := [], alts := [], laidByText := true, laidKinds := [.data, .handle, .sentinel, .sentinel, .sentinel, .sentinel, .sentinel], laidTests := true, laidLooks := .later }
def RulesShowsUptoCardSaid : Prop := Claim7.holds Tryd.pinned (.plain (OpenSpec.upto rulesShowsSpec)) rulesShowsUptoCard

/-- THE SECOND FORM's CARD OF 'collimatorlaw16.RulesBack'. -/
def rulesBackUptoCard : Claim7 := { stood := { row := rulesBackUptoRow, standIns := [], harness := (true, "898f4ba5c6ce1896d4be0f7d6f064a5d1951e82017b1db4e225741c89d5d05a1"), looks := true }, kinds := [], alts := [], laidByText := true, laidKinds := [.data, .handle, .sentinel, .sentinel, .sentinel, .sentinel, .sentinel], laidTests := true, laidLooks := .later }
def RulesBackUptoCardSaid : Prop := Claim7.holds Tryd.pinned (.plain (OpenSpec.upto rulesBackSpec)) rulesBackUptoCard

/-- THE SECOND FORM's CARD OF 'collimatorlaw16.RulesRight'. -/
def rulesRightUptoCard : Claim7 := { stood := { row := rulesRightUptoRow, standIns := [], harness := (true, "898f4ba5c6ce1896d4be0f7d6f064a5d1951e82017b1db4e225741c89d5d05a1"), looks := true }, kinds := [], alts := [], laidByText := true, laidKinds := [.data, .handle, .sentinel, .sentinel, .sentinel, .sentinel, .sentinel], laidTests := true, laidLooks := .later }
def RulesRightUptoCardSaid : Prop := Claim7.holds Tryd.pinned (.plain (OpenSpec.upto rulesRightSpec)) rulesRightUptoCard
end Rows
end Go.Proofs.YtcdaljipemapbaaDoor
