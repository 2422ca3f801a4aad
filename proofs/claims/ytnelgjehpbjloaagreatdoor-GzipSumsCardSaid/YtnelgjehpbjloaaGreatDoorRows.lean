/-
  NARROWER THAN 'FOR EVERY INPUT', by the rows' own cells (each row's printed sentence says how): GzipBuilds: laid · GzipBack: laid · GzipSums: laid · GzipParses: laid.
  DERIVED. THE GIVEN ROWS OF THIS SEAT. 4 by the template 'for every input the law returns true; each argument reads behind the call as it read before'; 0 by the template 'total and deterministic' (their statements: YtnelgjehpbjloaaGreatDoorTotals.lean).
  GIVEN WITH THE SEED: the statements are not yours to turn. If you find one false, say at which input.
  Laid BY PROGRAM, IN A SANDBOX (cutbox-rows.mjs): the forced cells as the released guide's own fill.sh prints them over the translation 14eb1436e14fff1a… (all of the seat's roots in one cut). By AI agents, Wed Nov 11 2026. No macro, syntax, notation, axiom, sorry.
-/
import Derived.Test.YtnelgjehpbjloaaGreatDoorChecked
import GoSem.Claim
import GoSem.ClaimJoined
import GoSem.ClaimMapViews
import Derived.JoinedTies
import Derived.KernelRfl
namespace Go.Proofs.YtnelgjehpbjloaaGreatDoor
/- THE CELL 'sum', in the pinned program and in every row, IS THE sha256 OF THE DUMP (.gsa) THAT YtnelgjehpbjloaaGreatDoorProg.lean LOADS. Nothing in Lean hashes anything: it is a label: what it is worth is what the hold of that sum in a sandbox is worth. -/
noncomputable def Tryz.pinned : Pinned := { name := "ytnelgjehpbjloaagreatdoor", sum := "14eb1436e14fff1a929c9dee13387c10343ad680058bd4b08088232eafb3e9b9", checked := Tryz.checked }
namespace Rows
def none {H : Type} : Left H := { results := [], args := [] }

/- WHAT THE LISTED PACKAGE-LEVEL VARIABLES READ AS WHEN THE CALL BEGINS. Each datum BY PROGRAM (the guide's laid-datum.mjs) off the statement by which the dump's own 'gosem.cut.vars' lays the variable. In a bare row this is a premise. The card (YtnelgjehpbjloaaGreatDoorCards.lean) ties it to the program's text. -/
def laid_errors_errorType {H : Type} : DataW H := .iface "internal/reflectlite.rtype" (.agg [.ptr (.lit (.string [101, 114, 114, 111, 114]))])
def laid_collimator_blame_errBytes {H : Type} : DataW H := .iface "*errors.errorString" (.ptr (.agg [.lit (.string [98, 121, 116, 101, 115])]))
def laid_collimator_blame_errCodes {H : Type} : DataW H := .iface "*errors.errorString" (.ptr (.agg [.lit (.string [99, 111, 100, 101, 115])]))
def laid_collimator_blame_errTexts {H : Type} : DataW H := .iface "*errors.errorString" (.ptr (.agg [.lit (.string [116, 101, 120, 116, 115])]))
def laid_collimator_blame_errRoom {H : Type} : DataW H := .iface "*errors.errorString" (.ptr (.agg [.lit (.string [114, 111, 111, 109])]))
def laid_collimator_blame_errOther {H : Type} : DataW H := .iface "*errors.errorString" (.ptr (.agg [.lit (.string [111, 116, 104, 101, 114])]))

/-- 'collimatorlaw13.GzipBuilds': WHATEVER THE INPUT: true; the input reads as it did. -/
def gzipBuildsSpec : ChangeSpec := { name := "gzipBuilds", fn := fun _ => fun
  | [d1, d2] => { results := [.lit (.bool true)], args := [d1, d2] }
  | _ => none }
def gzipBuildsRow : OpenClaim := { program := "ytnelgjehpbjloaagreatdoor", sum := "14eb1436e14fff1a929c9dee13387c10343ad680058bd4b08088232eafb3e9b9", func := "collimator/collimatorlaw13.GzipBuilds", spec := "gzipBuilds", inPlace := ["internal/reflectlite.ValueOf", "(internal/reflectlite.Value).Type", "(internal/reflectlite.Value).IsNil", "internal/reflectlite.TypeOf", "(internal/reflectlite.Value).Elem", "(internal/reflectlite.Value).Set"], unfollowed := true, recurses := true, named := ["collimator/blame.errBytes", "collimator/blame.errCodes", "collimator/blame.errTexts", "collimator/blame.errRoom", "collimator/blame.errOther", "errors.errorType"], apart := false, laid := [("errors.errorType", laid_errors_errorType), ("collimator/blame.errBytes", laid_collimator_blame_errBytes), ("collimator/blame.errCodes", laid_collimator_blame_errCodes), ("collimator/blame.errTexts", laid_collimator_blame_errTexts), ("collimator/blame.errRoom", laid_collimator_blame_errRoom), ("collimator/blame.errOther", laid_collimator_blame_errOther)] }
def GzipBuildsSaid : Prop := gzipBuildsRow.holds Tryz.pinned (OpenSpec.ofChange gzipBuildsSpec)

/-- ITS FALSE NEIGHBOUR: 'it returns false'. Refute it at one input. -/
def gzipBuildsWrong : ChangeSpec := { name := "gzipBuilds", fn := fun _ => fun
  | [d1, d2] => { results := [.lit (.bool false)], args := [d1, d2] }
  | _ => none }
def GzipBuildsWrongFalsely : Prop := gzipBuildsRow.holds Tryz.pinned (OpenSpec.ofChange gzipBuildsWrong)

/-- 'collimatorlaw13.GzipBack': WHATEVER THE INPUT: true; the input reads as it did. -/
def gzipBackSpec : ChangeSpec := { name := "gzipBack", fn := fun _ => fun
  | [d] => { results := [.lit (.bool true)], args := [d] }
  | _ => none }
def gzipBackRow : OpenClaim := { program := "ytnelgjehpbjloaagreatdoor", sum := "14eb1436e14fff1a929c9dee13387c10343ad680058bd4b08088232eafb3e9b9", func := "collimator/collimatorlaw13.GzipBack", spec := "gzipBack", inPlace := ["internal/reflectlite.ValueOf", "(internal/reflectlite.Value).Type", "(internal/reflectlite.Value).IsNil", "internal/reflectlite.TypeOf", "(internal/reflectlite.Value).Elem", "(internal/reflectlite.Value).Set"], unfollowed := true, recurses := true, named := ["collimator/blame.errBytes", "collimator/blame.errCodes", "collimator/blame.errTexts", "collimator/blame.errRoom", "collimator/blame.errOther", "errors.errorType"], apart := false, laid := [("errors.errorType", laid_errors_errorType), ("collimator/blame.errBytes", laid_collimator_blame_errBytes), ("collimator/blame.errCodes", laid_collimator_blame_errCodes), ("collimator/blame.errTexts", laid_collimator_blame_errTexts), ("collimator/blame.errRoom", laid_collimator_blame_errRoom), ("collimator/blame.errOther", laid_collimator_blame_errOther)] }
def GzipBackSaid : Prop := gzipBackRow.holds Tryz.pinned (OpenSpec.ofChange gzipBackSpec)

/-- ITS FALSE NEIGHBOUR: 'it returns false'. Refute it at one input. -/
def gzipBackWrong : ChangeSpec := { name := "gzipBack", fn := fun _ => fun
  | [d] => { results := [.lit (.bool false)], args := [d] }
  | _ => none }
def GzipBackWrongFalsely : Prop := gzipBackRow.holds Tryz.pinned (OpenSpec.ofChange gzipBackWrong)

/-- 'collimatorlaw13.GzipSums': WHATEVER THE INPUT: true; the input reads as it did. -/
def gzipSumsSpec : ChangeSpec := { name := "gzipSums", fn := fun _ => fun
  | [d1, d2, d3] => { results := [.lit (.bool true)], args := [d1, d2, d3] }
  | _ => none }
def gzipSumsRow : OpenClaim := { program := "ytnelgjehpbjloaagreatdoor", sum := "14eb1436e14fff1a929c9dee13387c10343ad680058bd4b08088232eafb3e9b9", func := "collimator/collimatorlaw13.GzipSums", spec := "gzipSums", inPlace := ["internal/reflectlite.ValueOf", "(internal/reflectlite.Value).Type", "(internal/reflectlite.Value).IsNil", "internal/reflectlite.TypeOf", "(internal/reflectlite.Value).Elem", "(internal/reflectlite.Value).Set"], unfollowed := true, recurses := true, named := ["collimator/blame.errBytes", "collimator/blame.errCodes", "collimator/blame.errTexts", "collimator/blame.errRoom", "collimator/blame.errOther", "errors.errorType"], apart := false, laid := [("errors.errorType", laid_errors_errorType), ("collimator/blame.errBytes", laid_collimator_blame_errBytes), ("collimator/blame.errCodes", laid_collimator_blame_errCodes), ("collimator/blame.errTexts", laid_collimator_blame_errTexts), ("collimator/blame.errRoom", laid_collimator_blame_errRoom), ("collimator/blame.errOther", laid_collimator_blame_errOther)] }
def GzipSumsSaid : Prop := gzipSumsRow.holds Tryz.pinned (OpenSpec.ofChange gzipSumsSpec)

/-- ITS FALSE NEIGHBOUR: 'it returns false'. Refute it at one input. -/
def gzipSumsWrong : ChangeSpec := { name := "gzipSums", fn := fun _ => fun
  | [d1, d2, d3] => { results := [.lit (.bool false)], args := [d1, d2, d3] }
  | _ => none }
def GzipSumsWrongFalsely : Prop := gzipSumsRow.holds Tryz.pinned (OpenSpec.ofChange gzipSumsWrong)

/-- 'collimatorlaw13.GzipParses': WHATEVER THE INPUT: true; the input reads as it did. -/
def gzipParsesSpec : ChangeSpec := { name := "gzipParses", fn := fun _ => fun
  | [d] => { results := [.lit (.bool true)], args := [d] }
  | _ => none }
def gzipParsesRow : OpenClaim := { program := "ytnelgjehpbjloaagreatdoor", sum := "14eb1436e14fff1a929c9dee13387c10343ad680058bd4b08088232eafb3e9b9", func := "collimator/collimatorlaw13.GzipParses", spec := "gzipParses", inPlace := ["internal/reflectlite.ValueOf", "(internal/reflectlite.Value).Type", "(internal/reflectlite.Value).IsNil", "internal/reflectlite.TypeOf", "(internal/reflectlite.Value).Elem", "(internal/reflectlite.Value).Set"], unfollowed := true, recurses := true, named := ["collimator/blame.errBytes", "collimator/blame.errCodes", "collimator/blame.errTexts", "collimator/blame.errRoom", "collimator/blame.errOther", "errors.errorType"], apart := false, laid := [("errors.errorType", laid_errors_errorType), ("collimator/blame.errBytes", laid_collimator_blame_errBytes), ("collimator/blame.errCodes", laid_collimator_blame_errCodes), ("collimator/blame.errTexts", laid_collimator_blame_errTexts), ("collimator/blame.errRoom", laid_collimator_blame_errRoom), ("collimator/blame.errOther", laid_collimator_blame_errOther)] }
def GzipParsesSaid : Prop := gzipParsesRow.holds Tryz.pinned (OpenSpec.ofChange gzipParsesSpec)

/-- ITS FALSE NEIGHBOUR: 'it returns false'. Refute it at one input. -/
def gzipParsesWrong : ChangeSpec := { name := "gzipParses", fn := fun _ => fun
  | [d] => { results := [.lit (.bool false)], args := [d] }
  | _ => none }
def GzipParsesWrongFalsely : Prop := gzipParsesRow.holds Tryz.pinned (OpenSpec.ofChange gzipParsesWrong)

/- THE SECOND FORM. 'bulk': how many values and letters a reading holds, each counted each time it is reached (what is shared counts as often as it is met; a slice's spare places count too). A statement '..UptoSaid' is the law's where the arguments, and the package variables that the reading takes, are together of bulk at most 1048576: NARROWER than '..Said'. Prove '..Said' where nothing that the law and all that it calls make is longer than what came in: it says more and counts as full. Else prove '..UptoSaid'. A law counts once. -/
mutual
def uptoBulk {H : Type} : DataW H → Nat
  | .lit (.string bytes) => bytes.length + 1
  | .lit _ => 1
  | .nil => 1
  | .ptr d => uptoBulk d + 1
  | .slice elems spare => uptoBulkAll elems + uptoBulkAll spare + 1
  | .agg parts => uptoBulkAll parts + 1
  | .iface _ d => uptoBulk d + 1
  | .map entries => uptoBulkEntries entries + 1
  | .held _ => 1
def uptoBulkAll {H : Type} : List (DataW H) → Nat
  | [] => 0
  | d :: r => uptoBulk d + uptoBulkAll r
def uptoBulkEntries {H : Type} : List (Lit × DataW H) → Nat
  | [] => 0
  | x :: r => uptoBulkEntry x + uptoBulkEntries r
def uptoBulkEntry {H : Type} : Lit × DataW H → Nat
  | (.string bytes, d) => bytes.length + uptoBulk d + 1
  | (_, d) => uptoBulk d + 1
 end
def uptoSmall : (H : Type) → List (DataW H) → Bool := fun _ ds => decide (uptoBulkAll ds ≤ 1048576)
def OpenSpec.upto (s : _root_.Go.ChangeSpec) : _root_.Go.OpenSpec := { _root_.Go.OpenSpec.ofChange s with cond := some uptoSmall }

/-- 'collimatorlaw13.GzipBuilds', WHERE WHAT IT READS IS OF BULK AT MOST 1048576: true; the input reads as it did. -/
def gzipBuildsUptoRow : OpenClaim := { program := "ytnelgjehpbjloaagreatdoor", sum := "14eb1436e14fff1a929c9dee13387c10343ad680058bd4b08088232eafb3e9b9", func := "collimator/collimatorlaw13.GzipBuilds", spec := "gzipBuilds", inPlace := ["internal/reflectlite.ValueOf", "(internal/reflectlite.Value).Type", "(internal/reflectlite.Value).IsNil", "internal/reflectlite.TypeOf", "(internal/reflectlite.Value).Elem", "(internal/reflectlite.Value).Set"], unfollowed := true, recurses := true, named := ["collimator/blame.errBytes", "collimator/blame.errCodes", "collimator/blame.errTexts", "collimator/blame.errRoom", "collimator/blame.errOther", "errors.errorType"], apart := false, laid := [("errors.errorType", laid_errors_errorType), ("collimator/blame.errBytes", laid_collimator_blame_errBytes), ("collimator/blame.errCodes", laid_collimator_blame_errCodes), ("collimator/blame.errTexts", laid_collimator_blame_errTexts), ("collimator/blame.errRoom", laid_collimator_blame_errRoom), ("collimator/blame.errOther", laid_collimator_blame_errOther)], narrowed := true }
def GzipBuildsUptoSaid : Prop := gzipBuildsUptoRow.holds Tryz.pinned (OpenSpec.upto gzipBuildsSpec)

/-- 'collimatorlaw13.GzipBack', WHERE WHAT IT READS IS OF BULK AT MOST 1048576: true; the input reads as it did. -/
def gzipBackUptoRow : OpenClaim := { program := "ytnelgjehpbjloaagreatdoor", sum := "14eb1436e14fff1a929c9dee13387c10343ad680058bd4b08088232eafb3e9b9", func := "collimator/collimatorlaw13.GzipBack", spec := "gzipBack", inPlace := ["internal/reflectlite.ValueOf", "(internal/reflectlite.Value).Type", "(internal/reflectlite.Value).IsNil", "internal/reflectlite.TypeOf", "(internal/reflectlite.Value).Elem", "(internal/reflectlite.Value).Set"], unfollowed := true, recurses := true, named := ["collimator/blame.errBytes", "collimator/blame.errCodes", "collimator/blame.errTexts", "collimator/blame.errRoom", "collimator/blame.errOther", "errors.errorType"], apart := false, laid := [("errors.errorType", laid_errors_errorType), ("collimator/blame.errBytes", laid_collimator_blame_errBytes), ("collimator/blame.errCodes", laid_collimator_blame_errCodes), ("collimator/blame.errTexts", laid_collimator_blame_errTexts), ("collimator/blame.errRoom", laid_collimator_blame_errRoom), ("collimator/blame.errOther", laid_collimator_blame_errOther)], narrowed := true }
def GzipBackUptoSaid : Prop := gzipBackUptoRow.holds Tryz.pinned (OpenSpec.upto gzipBackSpec)

/-- 'collimatorlaw13.GzipSums', WHERE WHAT IT READS IS OF BULK AT MOST 1048576: true; the input reads as it did. -/
def gzipSumsUptoRow : OpenClaim := { program := "ytnelgjehpbjloaagreatdoor", sum := "14eb1436e14fff1a929c9dee13387c10343ad680058bd4b08088232eafb3e9b9", func := "collimator/collimatorlaw13.GzipSums", spec := "gzipSums", inPlace := ["internal/reflectlite.ValueOf", "(internal/reflectlite.Value).Type", "(internal/reflectlite.Value).IsNil", "internal/reflectlite.TypeOf", "(internal/reflectlite.Value).Elem", "(internal/reflectlite.Value).Set"], unfollowed := true, recurses := true, named := ["collimator/blame.errBytes", "collimator/blame.errCodes", "collimator/blame.errTexts", "collimator/blame.errRoom", "collimator/blame.errOther", "errors.errorType"], apart := false, laid := [("errors.errorType", laid_errors_errorType), ("collimator/blame.errBytes", laid_collimator_blame_errBytes), ("collimator/blame.errCodes", laid_collimator_blame_errCodes), ("collimator/blame.errTexts", laid_collimator_blame_errTexts), ("collimator/blame.errRoom", laid_collimator_blame_errRoom), ("collimator/blame.errOther", laid_collimator_blame_errOther)], narrowed := true }
def GzipSumsUptoSaid : Prop := gzipSumsUptoRow.holds Tryz.pinned (OpenSpec.upto gzipSumsSpec)

/-- 'collimatorlaw13.GzipParses', WHERE WHAT IT READS IS OF BULK AT MOST 1048576: true; the input reads as it did. -/
def gzipParsesUptoRow : OpenClaim := { program := "ytnelgjehpbjloaagreatdoor", sum := "14eb1436e14fff1a929c9dee13387c10343ad680058bd4b08088232eafb3e9b9", func := "collimator/collimatorlaw13.GzipParses", spec := "gzipParses", inPlace := ["internal/reflectlite.ValueOf", "(internal/reflectlite.Value).Type", "(internal/reflectlite.Value).IsNil", "internal/reflectlite.TypeOf", "(internal/reflectlite.Value).Elem", "(internal/reflectlite.Value).Set"], unfollowed := true, recurses := true, named := ["collimator/blame.errBytes", "collimator/blame.errCodes", "collimator/blame.errTexts", "collimator/blame.errRoom", "collimator/blame.errOther", "errors.errorType"], apart := false, laid := [("errors.errorType", laid_errors_errorType), ("collimator/blame.errBytes", laid_collimator_blame_errBytes), ("collimator/blame.errCodes", laid_collimator_blame_errCodes), ("collimator/blame.errTexts", laid_collimator_blame_errTexts), ("collimator/blame.errRoom", laid_collimator_blame_errRoom), ("collimator/blame.errOther", laid_collimator_blame_errOther)], narrowed := true }
def GzipParsesUptoSaid : Prop := gzipParsesUptoRow.holds Tryz.pinned (OpenSpec.upto gzipParsesSpec)

end Rows
end Go.Proofs.YtnelgjehpbjloaaGreatDoor
