/-
  No cell of these rows narrows 'for every input' (looked for: loops, veiled, ifaces, maps, wideKeys, modest, calm, conditions, laid).
  DERIVED. THE GIVEN ROWS OF THIS SEAT. 3 by the template 'for every input the law returns true; each argument reads behind the call as it read before'; 0 by the template 'total and deterministic' (their statements: YtfnkhcibcffcmaaTotals.lean).
  GIVEN WITH THE SEED: the statements are not yours to turn. If you find one false, say at which input.
  Laid BY PROGRAM, IN A SANDBOX (cutbox-rows.mjs): the forced cells as the released guide's own fill.sh prints them over the translation ae0fc24dc64052c2… (all of the seat's roots in one cut). By AI agents, Wed Nov 11 2026. No macro, syntax, notation, axiom, sorry.
-/
import Derived.Test.YtfnkhcibcffcmaaChecked
import GoSem.Claim
import GoSem.ClaimJoined
import GoSem.ClaimMapViews
import Derived.JoinedTies
import Derived.KernelRfl
namespace Go.Proofs.Ytfnkhcibcffcmaa
/- THE CELL 'sum', in the pinned program and in every row, IS THE sha256 OF THE DUMP (.gsa) THAT YtfnkhcibcffcmaaProg.lean LOADS. Nothing in Lean hashes anything: it is a label: what it is worth is what the hold of that sum in a sandbox is worth. -/
noncomputable def Try.pinned : Pinned := { name := "ytfnkhcibcffcmaa", sum := "ae0fc24dc64052c274a8859a9e4ec7866be3f3f3c6b69d8627195f509b936026", checked := Try.checked }
namespace Rows
def none {H : Type} : Left H := { results := [], args := [] }

/-- 'collimatorlaw19.SubsetMakes': WHATEVER THE INPUT: true; the input reads as it did. -/
def subsetMakesSpec : ChangeSpec := { name := "subsetMakes", fn := fun _ => fun
  | [d] => { results := [.lit (.bool true)], args := [d] }
  | _ => none }
def subsetMakesRow : OpenClaim := { program := "ytfnkhcibcffcmaa", sum := "ae0fc24dc64052c274a8859a9e4ec7866be3f3f3c6b69d8627195f509b936026", func := "collimator/collimatorlaw19.SubsetMakes", spec := "subsetMakes", unfollowed := true, recurses := true, plainKeys := false, apart := false }
def SubsetMakesSaid : Prop := subsetMakesRow.holds Try.pinned (OpenSpec.ofChange subsetMakesSpec)

/-- ITS FALSE NEIGHBOUR: 'it returns false'. Refute it at one input. -/
def subsetMakesWrong : ChangeSpec := { name := "subsetMakes", fn := fun _ => fun
  | [d] => { results := [.lit (.bool false)], args := [d] }
  | _ => none }
def SubsetMakesWrongFalsely : Prop := subsetMakesRow.holds Try.pinned (OpenSpec.ofChange subsetMakesWrong)

/-- 'collimatorlaw19.SubsetSame': WHATEVER THE INPUT: true; the input reads as it did. -/
def subsetSameSpec : ChangeSpec := { name := "subsetSame", fn := fun _ => fun
  | [d1, d2] => { results := [.lit (.bool true)], args := [d1, d2] }
  | _ => none }
def subsetSameRow : OpenClaim := { program := "ytfnkhcibcffcmaa", sum := "ae0fc24dc64052c274a8859a9e4ec7866be3f3f3c6b69d8627195f509b936026", func := "collimator/collimatorlaw19.SubsetSame", spec := "subsetSame", unfollowed := true, recurses := true, plainKeys := false, apart := false }
def SubsetSameSaid : Prop := subsetSameRow.holds Try.pinned (OpenSpec.ofChange subsetSameSpec)

/-- ITS FALSE NEIGHBOUR: 'it returns false'. Refute it at one input. -/
def subsetSameWrong : ChangeSpec := { name := "subsetSame", fn := fun _ => fun
  | [d1, d2] => { results := [.lit (.bool false)], args := [d1, d2] }
  | _ => none }
def SubsetSameWrongFalsely : Prop := subsetSameRow.holds Try.pinned (OpenSpec.ofChange subsetSameWrong)

/-- 'collimatorlaw19.SubsetReached': WHATEVER THE INPUT: true; the input reads as it did. -/
def subsetReachedSpec : ChangeSpec := { name := "subsetReached", fn := fun _ => fun
  | [d] => { results := [.lit (.bool true)], args := [d] }
  | _ => none }
def subsetReachedRow : OpenClaim := { program := "ytfnkhcibcffcmaa", sum := "ae0fc24dc64052c274a8859a9e4ec7866be3f3f3c6b69d8627195f509b936026", func := "collimator/collimatorlaw19.SubsetReached", spec := "subsetReached", unfollowed := true, recurses := true, plainKeys := false, apart := false }
def SubsetReachedSaid : Prop := subsetReachedRow.holds Try.pinned (OpenSpec.ofChange subsetReachedSpec)

/-- ITS FALSE NEIGHBOUR: 'it returns false'. Refute it at one input. -/
def subsetReachedWrong : ChangeSpec := { name := "subsetReached", fn := fun _ => fun
  | [d] => { results := [.lit (.bool false)], args := [d] }
  | _ => none }
def SubsetReachedWrongFalsely : Prop := subsetReachedRow.holds Try.pinned (OpenSpec.ofChange subsetReachedWrong)

/- THE SECOND FORM. 'bulk': how many values and letters a reading holds, each counted each time it is reached (what is shared counts as often as it is met; a slice's spare places count too). A statement '..UptoSaid' is the law's where the arguments, and the package variables that the reading takes, are together of bulk at most 1048576: NARROWER than '..Said'. Prove '..Said' where nothing that the law and all that it calls make is longer than what came in: it says more and counts as full. Else prove '..UptoSaid'. A law counts once. -/
mutual
def uptoBulk {H : Type} : DataW H → Nat
  | .lit (.string bytes) => bytes.length + 1
  | .lit _ => 1
  | .nil => 1
  | .ptr d => uptoBulk d + 1
  | .slice elems spare => uptoBulkAll elems + uptoBulkAll spare + 1
  | .agg parts => uptoBulkAll parts + 1
  | .iface _ d => uptoBulk d + 1
  | .map entries => uptoBulkEntries entries + 1
  | .held _ => 1
def uptoBulkAll {H : Type} : List (DataW H) → Nat
  | [] => 0
  | d :: r => uptoBulk d + uptoBulkAll r
def uptoBulkEntries {H : Type} : List (Lit × DataW H) → Nat
  | [] => 0
  | x :: r => uptoBulkEntry x + uptoBulkEntries r
def uptoBulkEntry {H : Type} : Lit × DataW H → Nat
  | (.string bytes, d) => bytes.length + uptoBulk d + 1
  | (_, d) => uptoBulk d + 1
 end
def uptoSmall : (H : Type) → List (DataW H) → Bool := fun _ ds => decide (uptoBulkAll ds ≤ 1048576)
def OpenSpec.upto (s : _root_.Go.ChangeSpec) : _root_.Go.OpenSpec := { _root_.Go.OpenSpec.ofChange s with cond := some uptoSmall }

/-- 'collimatorlaw19.SubsetMakes', WHERE WHAT IT READS IS OF BULK AT MOST 1048576: true; the input reads as it did. -/
def subsetMakesUptoRow : OpenClaim := { program := "ytfnkhcibcffcmaa", sum := "ae0fc24dc64052c274a8859a9e4ec7866be3f3f3c6b69d8627195f509b936026", func := "collimator/collimatorlaw19.SubsetMakes", spec := "subsetMakes", unfollowed := true, recurses := true, plainKeys := false, apart := false, narrowed := true }
def SubsetMakesUptoSaid : Prop := subsetMakesUptoRow.holds Try.pinned (OpenSpec.upto subsetMakesSpec)

/-- 'collimatorlaw19.SubsetSame', WHERE WHAT IT READS IS OF BULK AT MOST 1048576: true; the input reads as it did. -/
def subsetSameUptoRow : OpenClaim := { program := "ytfnkhcibcffcmaa", sum := "ae0fc24dc64052c274a8859a9e4ec7866be3f3f3c6b69d8627195f509b936026", func := "collimator/collimatorlaw19.SubsetSame", spec := "subsetSame", unfollowed := true, recurses := true, plainKeys := false, apart := false, narrowed := true }
def SubsetSameUptoSaid : Prop := subsetSameUptoRow.holds Try.pinned (OpenSpec.upto subsetSameSpec)

/-- 'collimatorlaw19.SubsetReached', WHERE WHAT IT READS IS OF BULK AT MOST 1048576: true; the input reads as it did. -/
def subsetReachedUptoRow : OpenClaim := { program := "ytfnkhcibcffcmaa", sum := "ae0fc24dc64052c274a8859a9e4ec7866be3f3f3c6b69d8627195f509b936026", func := "collimator/collimatorlaw19.SubsetReached", spec := "subsetReached", unfollowed := true, recurses := true, plainKeys := false, apart := false, narrowed := true }
def SubsetReachedUptoSaid : Prop := subsetReachedUptoRow.holds Try.pinned (OpenSpec.upto subsetReachedSpec)

end Rows
end Go.Proofs.Ytfnkhcibcffcmaa
