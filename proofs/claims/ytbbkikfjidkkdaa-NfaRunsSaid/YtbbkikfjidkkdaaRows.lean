/-
  No cell of these rows narrows 'for every input' (looked for: loops, veiled, ifaces, maps, wideKeys, modest, calm, conditions, laid).
  DERIVED. THE GIVEN ROWS OF THIS SEAT. 4 by the template 'for every input the law returns true; each argument reads behind the call as it read before'; 0 by the template 'total and deterministic' (their statements: YtbbkikfjidkkdaaTotals.lean).
  GIVEN WITH THE SEED: the statements are not yours to turn. If you find one false, say at which input.
  Laid BY PROGRAM, IN A SANDBOX (cutbox-rows.mjs): the forced cells as the released guide's own fill.sh prints them over the translation 3c396baaeafd9902… (all of the seat's roots in one cut). By AI agents, Wed Nov 11 2026. No macro, syntax, notation, axiom, sorry.
-/
import Derived.Test.YtbbkikfjidkkdaaChecked
import GoSem.Claim
import GoSem.ClaimJoined
import GoSem.ClaimMapViews
import Derived.JoinedTies
import Derived.KernelRfl
namespace Go.Proofs.Ytbbkikfjidkkdaa
/- THE CELL 'sum', in the pinned program and in every row, IS THE sha256 OF THE DUMP (.gsa) THAT YtbbkikfjidkkdaaProg.lean LOADS. Nothing in Lean hashes anything: it is a label: what it is worth is what the hold of that sum in a sandbox is worth. -/
noncomputable def Try.pinned : Pinned := { name := "ytbbkikfjidkkdaa", sum := "3c396baaeafd99024790cc42404c065b1b100a741a08f5d64b4bb019de90d91e", checked := Try.checked }
namespace Rows
def none {H : Type} : Left H := { results := [], args := [] }

/-- 'collimatorlaw17.NfaMakes': WHATEVER THE INPUT: true; the input reads as it did. -/
def nfaMakesSpec : ChangeSpec := { name := "nfaMakes", fn := fun _ => fun
  | [d] => { results := [.lit (.bool true)], args := [d] }
  | _ => none }
def nfaMakesRow : OpenClaim := { program := "ytbbkikfjidkkdaa", sum := "3c396baaeafd99024790cc42404c065b1b100a741a08f5d64b4bb019de90d91e", func := "collimator/collimatorlaw17.NfaMakes", spec := "nfaMakes", unfollowed := true, recurses := true, apart := false }
def NfaMakesSaid : Prop := nfaMakesRow.holds Try.pinned (OpenSpec.ofChange nfaMakesSpec)

/-- ITS FALSE NEIGHBOUR: 'it returns false'. Refute it at one input. -/
def nfaMakesWrong : ChangeSpec := { name := "nfaMakes", fn := fun _ => fun
  | [d] => { results := [.lit (.bool false)], args := [d] }
  | _ => none }
def NfaMakesWrongFalsely : Prop := nfaMakesRow.holds Try.pinned (OpenSpec.ofChange nfaMakesWrong)

/-- 'collimatorlaw17.NfaMatches': WHATEVER THE INPUT: true; the input reads as it did. -/
def nfaMatchesSpec : ChangeSpec := { name := "nfaMatches", fn := fun _ => fun
  | [d1, d2] => { results := [.lit (.bool true)], args := [d1, d2] }
  | _ => none }
def nfaMatchesRow : OpenClaim := { program := "ytbbkikfjidkkdaa", sum := "3c396baaeafd99024790cc42404c065b1b100a741a08f5d64b4bb019de90d91e", func := "collimator/collimatorlaw17.NfaMatches", spec := "nfaMatches", unfollowed := true, recurses := true, apart := false }
def NfaMatchesSaid : Prop := nfaMatchesRow.holds Try.pinned (OpenSpec.ofChange nfaMatchesSpec)

/-- ITS FALSE NEIGHBOUR: 'it returns false'. Refute it at one input. -/
def nfaMatchesWrong : ChangeSpec := { name := "nfaMatches", fn := fun _ => fun
  | [d1, d2] => { results := [.lit (.bool false)], args := [d1, d2] }
  | _ => none }
def NfaMatchesWrongFalsely : Prop := nfaMatchesRow.holds Try.pinned (OpenSpec.ofChange nfaMatchesWrong)

/-- 'collimatorlaw17.NfaJoins': WHATEVER THE INPUT: true; the input reads as it did. -/
def nfaJoinsSpec : ChangeSpec := { name := "nfaJoins", fn := fun _ => fun
  | [d1, d2] => { results := [.lit (.bool true)], args := [d1, d2] }
  | _ => none }
def nfaJoinsRow : OpenClaim := { program := "ytbbkikfjidkkdaa", sum := "3c396baaeafd99024790cc42404c065b1b100a741a08f5d64b4bb019de90d91e", func := "collimator/collimatorlaw17.NfaJoins", spec := "nfaJoins", unfollowed := true, recurses := true, apart := false }
def NfaJoinsSaid : Prop := nfaJoinsRow.holds Try.pinned (OpenSpec.ofChange nfaJoinsSpec)

/-- ITS FALSE NEIGHBOUR: 'it returns false'. Refute it at one input. -/
def nfaJoinsWrong : ChangeSpec := { name := "nfaJoins", fn := fun _ => fun
  | [d1, d2] => { results := [.lit (.bool false)], args := [d1, d2] }
  | _ => none }
def NfaJoinsWrongFalsely : Prop := nfaJoinsRow.holds Try.pinned (OpenSpec.ofChange nfaJoinsWrong)

/-- 'collimatorlaw17.NfaRuns': WHATEVER THE INPUT: true; the input reads as it did. -/
def nfaRunsSpec : ChangeSpec := { name := "nfaRuns", fn := fun _ => fun
  | [d1, d2, d3] => { results := [.lit (.bool true)], args := [d1, d2, d3] }
  | _ => none }
def nfaRunsRow : OpenClaim := { program := "ytbbkikfjidkkdaa", sum := "3c396baaeafd99024790cc42404c065b1b100a741a08f5d64b4bb019de90d91e", func := "collimator/collimatorlaw17.NfaRuns", spec := "nfaRuns", unfollowed := true, recurses := true, apart := false }
def NfaRunsSaid : Prop := nfaRunsRow.holds Try.pinned (OpenSpec.ofChange nfaRunsSpec)

/-- ITS FALSE NEIGHBOUR: 'it returns false'. Refute it at one input. -/
def nfaRunsWrong : ChangeSpec := { name := "nfaRuns", fn := fun _ => fun
  | [d1, d2, d3] => { results := [.lit (.bool false)], args := [d1, d2, d3] }
  | _ => none }
def NfaRunsWrongFalsely : Prop := nfaRunsRow.holds Try.pinned (OpenSpec.ofChange nfaRunsWrong)

/- THE SECOND FORM. 'bulk': how many values and letters a reading holds, each counted each time it is reached (what is shared counts as often as it is met; a slice's spare places count too). A statement '..UptoSaid' is the law's where the arguments, and the package variables that the reading takes, are together of bulk at most 1048576: NARROWER than '..Said'. Prove '..Said' where nothing that the law and all that it calls make is longer than what came in: it says more and counts as full. Else prove '..UptoSaid'. A law counts once. -/
mutual
def uptoBulk {H : Type} : DataW H → Nat
  | .lit (.string bytes) => bytes.length + 1
  | .lit _ => 1
  | .nil => 1
  | .ptr d => uptoBulk d + 1
  | .slice elems spare => uptoBulkAll elems + uptoBulkAll spare + 1
  | .agg parts => uptoBulkAll parts + 1
  | .iface _ d => uptoBulk d + 1
  | .map entries => uptoBulkEntries entries + 1
  | .held _ => 1
def uptoBulkAll {H : Type} : List (DataW H) → Nat
  | [] => 0
  | d :: r => uptoBulk d + uptoBulkAll r
def uptoBulkEntries {H : Type} : List (Lit × DataW H) → Nat
  | [] => 0
  | x :: r => uptoBulkEntry x + uptoBulkEntries r
def uptoBulkEntry {H : Type} : Lit × DataW H → Nat
  | (.string bytes, d) => bytes.length + uptoBulk d + 1
  | (_, d) => uptoBulk d + 1
 end
def uptoSmall : (H : Type) → List (DataW H) → Bool := fun _ ds => decide (uptoBulkAll ds ≤ 1048576)
def OpenSpec.upto (s : _root_.Go.ChangeSpec) : _root_.Go.OpenSpec := { _root_.Go.OpenSpec.ofChange s with cond := some uptoSmall }

/-- 'collimatorlaw17.NfaMakes', WHERE WHAT IT READS IS OF BULK AT MOST 1048576: true; the input reads as it did. -/
def nfaMakesUptoRow : OpenClaim := { program := "ytbbkikfjidkkdaa", sum := "3c396baaeafd99024790cc42404c065b1b100a741a08f5d64b4bb019de90d91e", func := "collimator/collimatorlaw17.NfaMakes", spec := "nfaMakes", unfollowed := true, recurses := true, apart := false, narrowed := true }
def NfaMakesUptoSaid : Prop := nfaMakesUptoRow.holds Try.pinned (OpenSpec.upto nfaMakesSpec)

/-- 'collimatorlaw17.NfaMatches', WHERE WHAT IT READS IS OF BULK AT MOST 1048576: true; the input reads as it did. -/
def nfaMatchesUptoRow : OpenClaim := { program := "ytbbkikfjidkkdaa", sum := "3c396baaeafd99024790cc42404c065b1b100a741a08f5d64b4bb019de90d91e", func := "collimator/collimatorlaw17.NfaMatches", spec := "nfaMatches", unfollowed := true, recurses := true, apart := false, narrowed := true }
def NfaMatchesUptoSaid : Prop := nfaMatchesUptoRow.holds Try.pinned (OpenSpec.upto nfaMatchesSpec)

/-- 'collimatorlaw17.NfaJoins', WHERE WHAT IT READS IS OF BULK AT MOST 1048576: true; the input reads as it did. -/
def nfaJoinsUptoRow : OpenClaim := { program := "ytbbkikfjidkkdaa", sum := "3c396baaeafd99024790cc42404c065b1b100a741a08f5d64b4bb019de90d91e", func := "collimator/collimatorlaw17.NfaJoins", spec := "nfaJoins", unfollowed := true, recurses := true, apart := false, narrowed := true }
def NfaJoinsUptoSaid : Prop := nfaJoinsUptoRow.holds Try.pinned (OpenSpec.upto nfaJoinsSpec)

/-- 'collimatorlaw17.NfaRuns', WHERE WHAT IT READS IS OF BULK AT MOST 1048576: true; the input reads as it did. -/
def nfaRunsUptoRow : OpenClaim := { program := "ytbbkikfjidkkdaa", sum := "3c396baaeafd99024790cc42404c065b1b100a741a08f5d64b4bb019de90d91e", func := "collimator/collimatorlaw17.NfaRuns", spec := "nfaRuns", unfollowed := true, recurses := true, apart := false, narrowed := true }
def NfaRunsUptoSaid : Prop := nfaRunsUptoRow.holds Try.pinned (OpenSpec.upto nfaRunsSpec)

end Rows
end Go.Proofs.Ytbbkikfjidkkdaa
