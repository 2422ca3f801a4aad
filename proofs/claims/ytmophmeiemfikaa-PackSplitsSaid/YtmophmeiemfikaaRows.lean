/-
  No cell of these rows narrows 'for every input' (looked for: loops, veiled, ifaces, maps, wideKeys, modest, calm, conditions, laid).
  DERIVED. THE GIVEN ROWS OF THIS SEAT. 9 by the template 'for every input the law returns true; each argument reads behind the call as it read before'; 0 by the template 'total and deterministic' (their statements: YtmophmeiemfikaaTotals.lean).
  GIVEN WITH THE SEED: the statements are not yours to turn. If you find one false, say at which input.
  Laid BY PROGRAM, IN A SANDBOX (cutbox-rows.mjs): the forced cells as the released guide's own fill.sh prints them over the translation 80884e872f9d219b… (all of the seat's roots in one cut). By AI agents, Wed Nov 11 2026. No macro, syntax, notation, axiom, sorry.
-/
import Derived.Test.YtmophmeiemfikaaChecked
import GoSem.Claim
import GoSem.ClaimJoined
import GoSem.ClaimMapViews
import Derived.JoinedTies
import Derived.KernelRfl
namespace Go.Proofs.Ytmophmeiemfikaa
/- THE CELL 'sum', in the pinned program and in every row, IS THE sha256 OF THE DUMP (.gsa) THAT YtmophmeiemfikaaProg.lean LOADS. Nothing in Lean hashes anything: it is a label: what it is worth is what the hold of that sum in a sandbox is worth. -/
noncomputable def Try.pinned : Pinned := { name := "ytmophmeiemfikaa", sum := "80884e872f9d219b5087d1f92d368c186cefc0e9f841f706c753d288c7a5d498", checked := Try.checked }
namespace Rows
def none {H : Type} : Left H := { results := [], args := [] }

/-- 'collimatorlaw11.PackTexts': WHATEVER THE INPUT: true; the input reads as it did. -/
def packTextsSpec : ChangeSpec := { name := "packTexts", fn := fun _ => fun
  | [d] => { results := [.lit (.bool true)], args := [d] }
  | _ => none }
def packTextsRow : OpenClaim := { program := "ytmophmeiemfikaa", sum := "80884e872f9d219b5087d1f92d368c186cefc0e9f841f706c753d288c7a5d498", func := "collimator/collimatorlaw11.PackTexts", spec := "packTexts", unfollowed := true, recurses := true, apart := false }
def PackTextsSaid : Prop := packTextsRow.holds Try.pinned (OpenSpec.ofChange packTextsSpec)

/-- ITS FALSE NEIGHBOUR: 'it returns false'. Refute it at one input. -/
def packTextsWrong : ChangeSpec := { name := "packTexts", fn := fun _ => fun
  | [d] => { results := [.lit (.bool false)], args := [d] }
  | _ => none }
def PackTextsWrongFalsely : Prop := packTextsRow.holds Try.pinned (OpenSpec.ofChange packTextsWrong)

/-- 'collimatorlaw11.PackOps': WHATEVER THE INPUT: true; the input reads as it did. -/
def packOpsSpec : ChangeSpec := { name := "packOps", fn := fun _ => fun
  | [d1, d2] => { results := [.lit (.bool true)], args := [d1, d2] }
  | _ => none }
def packOpsRow : OpenClaim := { program := "ytmophmeiemfikaa", sum := "80884e872f9d219b5087d1f92d368c186cefc0e9f841f706c753d288c7a5d498", func := "collimator/collimatorlaw11.PackOps", spec := "packOps", unfollowed := true, recurses := true, apart := false }
def PackOpsSaid : Prop := packOpsRow.holds Try.pinned (OpenSpec.ofChange packOpsSpec)

/-- ITS FALSE NEIGHBOUR: 'it returns false'. Refute it at one input. -/
def packOpsWrong : ChangeSpec := { name := "packOps", fn := fun _ => fun
  | [d1, d2] => { results := [.lit (.bool false)], args := [d1, d2] }
  | _ => none }
def PackOpsWrongFalsely : Prop := packOpsRow.holds Try.pinned (OpenSpec.ofChange packOpsWrong)

/-- 'collimatorlaw11.PackCopies': WHATEVER THE INPUT: true; the input reads as it did. -/
def packCopiesSpec : ChangeSpec := { name := "packCopies", fn := fun _ => fun
  | [d1, d2] => { results := [.lit (.bool true)], args := [d1, d2] }
  | _ => none }
def packCopiesRow : OpenClaim := { program := "ytmophmeiemfikaa", sum := "80884e872f9d219b5087d1f92d368c186cefc0e9f841f706c753d288c7a5d498", func := "collimator/collimatorlaw11.PackCopies", spec := "packCopies", unfollowed := true, recurses := true, apart := false }
def PackCopiesSaid : Prop := packCopiesRow.holds Try.pinned (OpenSpec.ofChange packCopiesSpec)

/-- ITS FALSE NEIGHBOUR: 'it returns false'. Refute it at one input. -/
def packCopiesWrong : ChangeSpec := { name := "packCopies", fn := fun _ => fun
  | [d1, d2] => { results := [.lit (.bool false)], args := [d1, d2] }
  | _ => none }
def PackCopiesWrongFalsely : Prop := packCopiesRow.holds Try.pinned (OpenSpec.ofChange packCopiesWrong)

/-- 'collimatorlaw10.InflateSteps': WHATEVER THE INPUT: true; the input reads as it did. -/
def inflateStepsSpec : ChangeSpec := { name := "inflateSteps", fn := fun _ => fun
  | [d1, d2] => { results := [.lit (.bool true)], args := [d1, d2] }
  | _ => none }
def inflateStepsRow : OpenClaim := { program := "ytmophmeiemfikaa", sum := "80884e872f9d219b5087d1f92d368c186cefc0e9f841f706c753d288c7a5d498", func := "collimator/collimatorlaw10.InflateSteps", spec := "inflateSteps", unfollowed := true, recurses := true, apart := false }
def InflateStepsSaid : Prop := inflateStepsRow.holds Try.pinned (OpenSpec.ofChange inflateStepsSpec)

/-- ITS FALSE NEIGHBOUR: 'it returns false'. Refute it at one input. -/
def inflateStepsWrong : ChangeSpec := { name := "inflateSteps", fn := fun _ => fun
  | [d1, d2] => { results := [.lit (.bool false)], args := [d1, d2] }
  | _ => none }
def InflateStepsWrongFalsely : Prop := inflateStepsRow.holds Try.pinned (OpenSpec.ofChange inflateStepsWrong)

/-- 'collimatorlaw10.InflateFrom': WHATEVER THE INPUT: true; the input reads as it did. -/
def inflateFromSpec : ChangeSpec := { name := "inflateFrom", fn := fun _ => fun
  | [d1, d2, d3] => { results := [.lit (.bool true)], args := [d1, d2, d3] }
  | _ => none }
def inflateFromRow : OpenClaim := { program := "ytmophmeiemfikaa", sum := "80884e872f9d219b5087d1f92d368c186cefc0e9f841f706c753d288c7a5d498", func := "collimator/collimatorlaw10.InflateFrom", spec := "inflateFrom", unfollowed := true, recurses := true, apart := false }
def InflateFromSaid : Prop := inflateFromRow.holds Try.pinned (OpenSpec.ofChange inflateFromSpec)

/-- ITS FALSE NEIGHBOUR: 'it returns false'. Refute it at one input. -/
def inflateFromWrong : ChangeSpec := { name := "inflateFrom", fn := fun _ => fun
  | [d1, d2, d3] => { results := [.lit (.bool false)], args := [d1, d2, d3] }
  | _ => none }
def InflateFromWrongFalsely : Prop := inflateFromRow.holds Try.pinned (OpenSpec.ofChange inflateFromWrong)

/-- 'collimatorlaw10.InflatePreset': WHATEVER THE INPUT: true; the input reads as it did. -/
def inflatePresetSpec : ChangeSpec := { name := "inflatePreset", fn := fun _ => fun
  | [d1, d2, d3] => { results := [.lit (.bool true)], args := [d1, d2, d3] }
  | _ => none }
def inflatePresetRow : OpenClaim := { program := "ytmophmeiemfikaa", sum := "80884e872f9d219b5087d1f92d368c186cefc0e9f841f706c753d288c7a5d498", func := "collimator/collimatorlaw10.InflatePreset", spec := "inflatePreset", unfollowed := true, recurses := true, apart := false }
def InflatePresetSaid : Prop := inflatePresetRow.holds Try.pinned (OpenSpec.ofChange inflatePresetSpec)

/-- ITS FALSE NEIGHBOUR: 'it returns false'. Refute it at one input. -/
def inflatePresetWrong : ChangeSpec := { name := "inflatePreset", fn := fun _ => fun
  | [d1, d2, d3] => { results := [.lit (.bool false)], args := [d1, d2, d3] }
  | _ => none }
def InflatePresetWrongFalsely : Prop := inflatePresetRow.holds Try.pinned (OpenSpec.ofChange inflatePresetWrong)

/-- 'collimatorlaw10.InflateNil': WHATEVER THE INPUT: true; the input reads as it did. -/
def inflateNilSpec : ChangeSpec := { name := "inflateNil", fn := fun _ => fun
  | [d] => { results := [.lit (.bool true)], args := [d] }
  | _ => none }
def inflateNilRow : OpenClaim := { program := "ytmophmeiemfikaa", sum := "80884e872f9d219b5087d1f92d368c186cefc0e9f841f706c753d288c7a5d498", func := "collimator/collimatorlaw10.InflateNil", spec := "inflateNil", unfollowed := true, recurses := true, apart := false }
def InflateNilSaid : Prop := inflateNilRow.holds Try.pinned (OpenSpec.ofChange inflateNilSpec)

/-- ITS FALSE NEIGHBOUR: 'it returns false'. Refute it at one input. -/
def inflateNilWrong : ChangeSpec := { name := "inflateNil", fn := fun _ => fun
  | [d] => { results := [.lit (.bool false)], args := [d] }
  | _ => none }
def InflateNilWrongFalsely : Prop := inflateNilRow.holds Try.pinned (OpenSpec.ofChange inflateNilWrong)

/-- 'collimatorlaw11.PackBack': WHATEVER THE INPUT: true; the input reads as it did. -/
def packBackSpec : ChangeSpec := { name := "packBack", fn := fun _ => fun
  | [d] => { results := [.lit (.bool true)], args := [d] }
  | _ => none }
def packBackRow : OpenClaim := { program := "ytmophmeiemfikaa", sum := "80884e872f9d219b5087d1f92d368c186cefc0e9f841f706c753d288c7a5d498", func := "collimator/collimatorlaw11.PackBack", spec := "packBack", unfollowed := true, recurses := true, apart := false }
def PackBackSaid : Prop := packBackRow.holds Try.pinned (OpenSpec.ofChange packBackSpec)

/-- ITS FALSE NEIGHBOUR: 'it returns false'. Refute it at one input. -/
def packBackWrong : ChangeSpec := { name := "packBack", fn := fun _ => fun
  | [d] => { results := [.lit (.bool false)], args := [d] }
  | _ => none }
def PackBackWrongFalsely : Prop := packBackRow.holds Try.pinned (OpenSpec.ofChange packBackWrong)

/-- 'collimatorlaw11.PackSplits': WHATEVER THE INPUT: true; the input reads as it did. -/
def packSplitsSpec : ChangeSpec := { name := "packSplits", fn := fun _ => fun
  | [d1, d2] => { results := [.lit (.bool true)], args := [d1, d2] }
  | _ => none }
def packSplitsRow : OpenClaim := { program := "ytmophmeiemfikaa", sum := "80884e872f9d219b5087d1f92d368c186cefc0e9f841f706c753d288c7a5d498", func := "collimator/collimatorlaw11.PackSplits", spec := "packSplits", unfollowed := true, recurses := true, apart := false }
def PackSplitsSaid : Prop := packSplitsRow.holds Try.pinned (OpenSpec.ofChange packSplitsSpec)

/-- ITS FALSE NEIGHBOUR: 'it returns false'. Refute it at one input. -/
def packSplitsWrong : ChangeSpec := { name := "packSplits", fn := fun _ => fun
  | [d1, d2] => { results := [.lit (.bool false)], args := [d1, d2] }
  | _ => none }
def PackSplitsWrongFalsely : Prop := packSplitsRow.holds Try.pinned (OpenSpec.ofChange packSplitsWrong)

/- THE SECOND FORM. 'bulk': how many values and letters a reading holds, each counted each time it is reached (what is shared counts as often as it is met; a slice's spare places count too). A statement '..UptoSaid' is the law's where the arguments, and the package variables that the reading takes, are together of bulk at most 1048576: NARROWER than '..Said'. Prove '..Said' where nothing that the law and all that it calls make is longer than what came in: it says more and counts as full. Else prove '..UptoSaid'. A law counts once. -/
mutual
def uptoBulk {H : Type} : DataW H → Nat
  | .lit (.string bytes) => bytes.length + 1
  | .lit _ => 1
  | .nil => 1
  | .ptr d => uptoBulk d + 1
  | .slice elems spare => uptoBulkAll elems + uptoBulkAll spare + 1
  | .agg parts => uptoBulkAll parts + 1
  | .iface _ d => uptoBulk d + 1
  | .map entries => uptoBulkEntries entries + 1
  | .held _ => 1
def uptoBulkAll {H : Type} : List (DataW H) → Nat
  | [] => 0
  | d :: r => uptoBulk d + uptoBulkAll r
def uptoBulkEntries {H : Type} : List (Lit × DataW H) → Nat
  | [] => 0
  | x :: r => uptoBulkEntry x + uptoBulkEntries r
def uptoBulkEntry {H : Type} : Lit × DataW H → Nat
  | (.string bytes, d) => bytes.length + uptoBulk d + 1
  | (_, d) => uptoBulk d + 1
 end
def uptoSmall : (H : Type) → List (DataW H) → Bool := fun _ ds => decide (uptoBulkAll ds ≤ 1048576)
def OpenSpec.upto (s : _root_.Go.ChangeSpec) : _root_.Go.OpenSpec := { _root_.Go.OpenSpec.ofChange s with cond := some uptoSmall }

/-- 'collimatorlaw11.PackTexts', WHERE WHAT IT READS IS OF BULK AT MOST 1048576: true; the input reads as it did. -/
def packTextsUptoRow : OpenClaim := { program := "ytmophmeiemfikaa", sum := "80884e872f9d219b5087d1f92d368c186cefc0e9f841f706c753d288c7a5d498", func := "collimator/collimatorlaw11.PackTexts", spec := "packTexts", unfollowed := true, recurses := true, apart := false, narrowed := true }
def PackTextsUptoSaid : Prop := packTextsUptoRow.holds Try.pinned (OpenSpec.upto packTextsSpec)

/-- 'collimatorlaw11.PackOps', WHERE WHAT IT READS IS OF BULK AT MOST 1048576: true; the input reads as it did. -/
def packOpsUptoRow : OpenClaim := { program := "ytmophmeiemfikaa", sum := "80884e872f9d219b5087d1f92d368c186cefc0e9f841f706c753d288c7a5d498", func := "collimator/collimatorlaw11.PackOps", spec := "packOps", unfollowed := true, recurses := true, apart := false, narrowed := true }
def PackOpsUptoSaid : Prop := packOpsUptoRow.holds Try.pinned (OpenSpec.upto packOpsSpec)

/-- 'collimatorlaw11.PackCopies', WHERE WHAT IT READS IS OF BULK AT MOST 1048576: true; the input reads as it did. -/
def packCopiesUptoRow : OpenClaim := { program := "ytmophmeiemfikaa", sum := "80884e872f9d219b5087d1f92d368c186cefc0e9f841f706c753d288c7a5d498", func := "collimator/collimatorlaw11.PackCopies", spec := "packCopies", unfollowed := true, recurses := true, apart := false, narrowed := true }
def PackCopiesUptoSaid : Prop := packCopiesUptoRow.holds Try.pinned (OpenSpec.upto packCopiesSpec)

/-- 'collimatorlaw10.InflateSteps', WHERE WHAT IT READS IS OF BULK AT MOST 1048576: true; the input reads as it did. -/
def inflateStepsUptoRow : OpenClaim := { program := "ytmophmeiemfikaa", sum := "80884e872f9d219b5087d1f92d368c186cefc0e9f841f706c753d288c7a5d498", func := "collimator/collimatorlaw10.InflateSteps", spec := "inflateSteps", unfollowed := true, recurses := true, apart := false, narrowed := true }
def InflateStepsUptoSaid : Prop := inflateStepsUptoRow.holds Try.pinned (OpenSpec.upto inflateStepsSpec)

/-- 'collimatorlaw10.InflateFrom', WHERE WHAT IT READS IS OF BULK AT MOST 1048576: true; the input reads as it did. -/
def inflateFromUptoRow : OpenClaim := { program := "ytmophmeiemfikaa", sum := "80884e872f9d219b5087d1f92d368c186cefc0e9f841f706c753d288c7a5d498", func := "collimator/collimatorlaw10.InflateFrom", spec := "inflateFrom", unfollowed := true, recurses := true, apart := false, narrowed := true }
def InflateFromUptoSaid : Prop := inflateFromUptoRow.holds Try.pinned (OpenSpec.upto inflateFromSpec)

/-- 'collimatorlaw10.InflatePreset', WHERE WHAT IT READS IS OF BULK AT MOST 1048576: true; the input reads as it did. -/
def inflatePresetUptoRow : OpenClaim := { program := "ytmophmeiemfikaa", sum := "80884e872f9d219b5087d1f92d368c186cefc0e9f841f706c753d288c7a5d498", func := "collimator/collimatorlaw10.InflatePreset", spec := "inflatePreset", unfollowed := true, recurses := true, apart := false, narrowed := true }
def InflatePresetUptoSaid : Prop := inflatePresetUptoRow.holds Try.pinned (OpenSpec.upto inflatePresetSpec)

/-- 'collimatorlaw10.InflateNil', WHERE WHAT IT READS IS OF BULK AT MOST 1048576: true; the input reads as it did. -/
def inflateNilUptoRow : OpenClaim := { program := "ytmophmeiemfikaa", sum := "80884e872f9d219b5087d1f92d368c186cefc0e9f841f706c753d288c7a5d498", func := "collimator/collimatorlaw10.InflateNil", spec := "inflateNil", unfollowed := true, recurses := true, apart := false, narrowed := true }
def InflateNilUptoSaid : Prop := inflateNilUptoRow.holds Try.pinned (OpenSpec.upto inflateNilSpec)

/-- 'collimatorlaw11.PackBack', WHERE WHAT IT READS IS OF BULK AT MOST 1048576: true; the input reads as it did. -/
def packBackUptoRow : OpenClaim := { program := "ytmophmeiemfikaa", sum := "80884e872f9d219b5087d1f92d368c186cefc0e9f841f706c753d288c7a5d498", func := "collimator/collimatorlaw11.PackBack", spec := "packBack", unfollowed := true, recurses := true, apart := false, narrowed := true }
def PackBackUptoSaid : Prop := packBackUptoRow.holds Try.pinned (OpenSpec.upto packBackSpec)

/-- 'collimatorlaw11.PackSplits', WHERE WHAT IT READS IS OF BULK AT MOST 1048576: true; the input reads as it did. -/
def packSplitsUptoRow : OpenClaim := { program := "ytmophmeiemfikaa", sum := "80884e872f9d219b5087d1f92d368c186cefc0e9f841f706c753d288c7a5d498", func := "collimator/collimatorlaw11.PackSplits", spec := "packSplits", unfollowed := true, recurses := true, apart := false, narrowed := true }
def PackSplitsUptoSaid : Prop := packSplitsUptoRow.holds Try.pinned (OpenSpec.upto packSplitsSpec)

end Rows
end Go.Proofs.Ytmophmeiemfikaa
