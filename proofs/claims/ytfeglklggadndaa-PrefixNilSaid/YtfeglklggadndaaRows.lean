/-
  No cell of these rows narrows 'for every input' (looked for: loops, veiled, ifaces, maps, wideKeys, modest, calm, conditions, laid).
  DERIVED. THE GIVEN ROWS OF THIS SEAT. 4 by the template 'for every input the law returns true; each argument reads behind the call as it read before'; 0 by the template 'total and deterministic' (their statements: YtfeglklggadndaaTotals.lean).
  GIVEN WITH THE SEED: the statements are not yours to turn. If you find one false, say at which input.
  Laid BY PROGRAM, IN A SANDBOX (cutbox-rows.mjs): the forced cells as the released guide's own fill.sh prints them over the translation e877407ab92fa2dc… (all of the seat's roots in one cut). By AI agents, Wed Nov 11 2026. No macro, syntax, notation, axiom, sorry.
-/
import Derived.Test.YtfeglklggadndaaChecked
import GoSem.Claim
import GoSem.ClaimJoined
import GoSem.ClaimMapViews
import Derived.JoinedTies
import Derived.KernelRfl
namespace Go.Proofs.Ytfeglklggadndaa
/- THE CELL 'sum', in the pinned program and in every row, IS THE sha256 OF THE DUMP (.gsa) THAT YtfeglklggadndaaProg.lean LOADS. Nothing in Lean hashes anything: it is a label: what it is worth is what the hold of that sum in a sandbox is worth. -/
noncomputable def Try.pinned : Pinned := { name := "ytfeglklggadndaa", sum := "e877407ab92fa2dc76f9dcd5ab3d5f7983e06167b3636c86d2012b71d2beacf8", checked := Try.checked }
namespace Rows
def none {H : Type} : Left H := { results := [], args := [] }

/-- 'collimatorlaw06.PrefixWrites': WHATEVER THE INPUT: true; the input reads as it did. -/
def prefixWritesSpec : ChangeSpec := { name := "prefixWrites", fn := fun _ => fun
  | [d1, d2] => { results := [.lit (.bool true)], args := [d1, d2] }
  | _ => none }
def prefixWritesRow : OpenClaim := { program := "ytfeglklggadndaa", sum := "e877407ab92fa2dc76f9dcd5ab3d5f7983e06167b3636c86d2012b71d2beacf8", func := "collimator/collimatorlaw06.PrefixWrites", spec := "prefixWrites", unfollowed := true, recurses := true, apart := false }
def PrefixWritesSaid : Prop := prefixWritesRow.holds Try.pinned (OpenSpec.ofChange prefixWritesSpec)

/-- ITS FALSE NEIGHBOUR: 'it returns false'. Refute it at one input. -/
def prefixWritesWrong : ChangeSpec := { name := "prefixWrites", fn := fun _ => fun
  | [d1, d2] => { results := [.lit (.bool false)], args := [d1, d2] }
  | _ => none }
def PrefixWritesWrongFalsely : Prop := prefixWritesRow.holds Try.pinned (OpenSpec.ofChange prefixWritesWrong)

/-- 'collimatorlaw06.PrefixNil': WHATEVER THE INPUT: true; the input reads as it did. -/
def prefixNilSpec : ChangeSpec := { name := "prefixNil", fn := fun _ => fun
  | [d1, d2] => { results := [.lit (.bool true)], args := [d1, d2] }
  | _ => none }
def prefixNilRow : OpenClaim := { program := "ytfeglklggadndaa", sum := "e877407ab92fa2dc76f9dcd5ab3d5f7983e06167b3636c86d2012b71d2beacf8", func := "collimator/collimatorlaw06.PrefixNil", spec := "prefixNil", unfollowed := true, recurses := true, apart := false }
def PrefixNilSaid : Prop := prefixNilRow.holds Try.pinned (OpenSpec.ofChange prefixNilSpec)

/-- ITS FALSE NEIGHBOUR: 'it returns false'. Refute it at one input. -/
def prefixNilWrong : ChangeSpec := { name := "prefixNil", fn := fun _ => fun
  | [d1, d2] => { results := [.lit (.bool false)], args := [d1, d2] }
  | _ => none }
def PrefixNilWrongFalsely : Prop := prefixNilRow.holds Try.pinned (OpenSpec.ofChange prefixNilWrong)

/-- 'collimatorlaw06.PrefixReads': WHATEVER THE INPUT: true; the input reads as it did. -/
def prefixReadsSpec : ChangeSpec := { name := "prefixReads", fn := fun _ => fun
  | [d1, d2, d3] => { results := [.lit (.bool true)], args := [d1, d2, d3] }
  | _ => none }
def prefixReadsRow : OpenClaim := { program := "ytfeglklggadndaa", sum := "e877407ab92fa2dc76f9dcd5ab3d5f7983e06167b3636c86d2012b71d2beacf8", func := "collimator/collimatorlaw06.PrefixReads", spec := "prefixReads", unfollowed := true, recurses := true, apart := false }
def PrefixReadsSaid : Prop := prefixReadsRow.holds Try.pinned (OpenSpec.ofChange prefixReadsSpec)

/-- ITS FALSE NEIGHBOUR: 'it returns false'. Refute it at one input. -/
def prefixReadsWrong : ChangeSpec := { name := "prefixReads", fn := fun _ => fun
  | [d1, d2, d3] => { results := [.lit (.bool false)], args := [d1, d2, d3] }
  | _ => none }
def PrefixReadsWrongFalsely : Prop := prefixReadsRow.holds Try.pinned (OpenSpec.ofChange prefixReadsWrong)

/-- 'collimatorlaw06.PrefixBack': WHATEVER THE INPUT: true; the input reads as it did. -/
def prefixBackSpec : ChangeSpec := { name := "prefixBack", fn := fun _ => fun
  | [d1, d2, d3] => { results := [.lit (.bool true)], args := [d1, d2, d3] }
  | _ => none }
def prefixBackRow : OpenClaim := { program := "ytfeglklggadndaa", sum := "e877407ab92fa2dc76f9dcd5ab3d5f7983e06167b3636c86d2012b71d2beacf8", func := "collimator/collimatorlaw06.PrefixBack", spec := "prefixBack", unfollowed := true, recurses := true, apart := false }
def PrefixBackSaid : Prop := prefixBackRow.holds Try.pinned (OpenSpec.ofChange prefixBackSpec)

/-- ITS FALSE NEIGHBOUR: 'it returns false'. Refute it at one input. -/
def prefixBackWrong : ChangeSpec := { name := "prefixBack", fn := fun _ => fun
  | [d1, d2, d3] => { results := [.lit (.bool false)], args := [d1, d2, d3] }
  | _ => none }
def PrefixBackWrongFalsely : Prop := prefixBackRow.holds Try.pinned (OpenSpec.ofChange prefixBackWrong)

/- THE SECOND FORM. 'bulk': how many values and letters a reading holds, each counted each time it is reached (what is shared counts as often as it is met; a slice's spare places count too). A statement '..UptoSaid' is the law's where the arguments, and the package variables that the reading takes, are together of bulk at most 1048576: NARROWER than '..Said'. Prove '..Said' where nothing that the law and all that it calls make is longer than what came in: it says more and counts as full. Else prove '..UptoSaid'. A law counts once. -/
mutual
def uptoBulk {H : Type} : DataW H → Nat
  | .lit (.string bytes) => bytes.length + 1
  | .lit _ => 1
  | .nil => 1
  | .ptr d => uptoBulk d + 1
  | .slice elems spare => uptoBulkAll elems + uptoBulkAll spare + 1
  | .agg parts => uptoBulkAll parts + 1
  | .iface _ d => uptoBulk d + 1
  | .map entries => uptoBulkEntries entries + 1
  | .held _ => 1
def uptoBulkAll {H : Type} : List (DataW H) → Nat
  | [] => 0
  | d :: r => uptoBulk d + uptoBulkAll r
def uptoBulkEntries {H : Type} : List (Lit × DataW H) → Nat
  | [] => 0
  | x :: r => uptoBulkEntry x + uptoBulkEntries r
def uptoBulkEntry {H : Type} : Lit × DataW H → Nat
  | (.string bytes, d) => bytes.length + uptoBulk d + 1
  | (_, d) => uptoBulk d + 1
 end
def uptoSmall : (H : Type) → List (DataW H) → Bool := fun _ ds => decide (uptoBulkAll ds ≤ 1048576)
def OpenSpec.upto (s : _root_.Go.ChangeSpec) : _root_.Go.OpenSpec := { _root_.Go.OpenSpec.ofChange s with cond := some uptoSmall }

/-- 'collimatorlaw06.PrefixWrites', WHERE WHAT IT READS IS OF BULK AT MOST 1048576: true; the input reads as it did. -/
def prefixWritesUptoRow : OpenClaim := { program := "ytfeglklggadndaa", sum := "e877407ab92fa2dc76f9dcd5ab3d5f7983e06167b3636c86d2012b71d2beacf8", func := "collimator/collimatorlaw06.PrefixWrites", spec := "prefixWrites", unfollowed := true, recurses := true, apart := false, narrowed := true }
def PrefixWritesUptoSaid : Prop := prefixWritesUptoRow.holds Try.pinned (OpenSpec.upto prefixWritesSpec)

/-- 'collimatorlaw06.PrefixNil', WHERE WHAT IT READS IS OF BULK AT MOST 1048576: true; the input reads as it did. -/
def prefixNilUptoRow : OpenClaim := { program := "ytfeglklggadndaa", sum := "e877407ab92fa2dc76f9dcd5ab3d5f7983e06167b3636c86d2012b71d2beacf8", func := "collimator/collimatorlaw06.PrefixNil", spec := "prefixNil", unfollowed := true, recurses := true, apart := false, narrowed := true }
def PrefixNilUptoSaid : Prop := prefixNilUptoRow.holds Try.pinned (OpenSpec.upto prefixNilSpec)

/-- 'collimatorlaw06.PrefixReads', WHERE WHAT IT READS IS OF BULK AT MOST 1048576: true; the input reads as it did. -/
def prefixReadsUptoRow : OpenClaim := { program := "ytfeglklggadndaa", sum := "e877407ab92fa2dc76f9dcd5ab3d5f7983e06167b3636c86d2012b71d2beacf8", func := "collimator/collimatorlaw06.PrefixReads", spec := "prefixReads", unfollowed := true, recurses := true, apart := false, narrowed := true }
def PrefixReadsUptoSaid : Prop := prefixReadsUptoRow.holds Try.pinned (OpenSpec.upto prefixReadsSpec)

/-- 'collimatorlaw06.PrefixBack', WHERE WHAT IT READS IS OF BULK AT MOST 1048576: true; the input reads as it did. -/
def prefixBackUptoRow : OpenClaim := { program := "ytfeglklggadndaa", sum := "e877407ab92fa2dc76f9dcd5ab3d5f7983e06167b3636c86d2012b71d2beacf8", func := "collimator/collimatorlaw06.PrefixBack", spec := "prefixBack", unfollowed := true, recurses := true, apart := false, narrowed := true }
def PrefixBackUptoSaid : Prop := prefixBackUptoRow.holds Try.pinned (OpenSpec.upto prefixBackSpec)

end Rows
end Go.Proofs.Ytfeglklggadndaa
