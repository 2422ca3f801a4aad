/-
  No cell of these rows narrows 'for every input' (looked for: loops, veiled, ifaces, maps, wideKeys, modest, calm, conditions, laid).
  DERIVED. THE GIVEN ROWS OF THIS SEAT. 4 by the template 'for every input the law returns true; each argument reads behind the call as it read before'; 0 by the template 'total and deterministic' (their statements: YtjeclleophlliaaTotals.lean).
  GIVEN WITH THE SEED: the statements are not yours to turn. If you find one false, say at which input.
  Laid BY PROGRAM, IN A SANDBOX (cutbox-rows.mjs): the forced cells as the released guide's own fill.sh prints them over the translation 4beff518c335ac56… (all of the seat's roots in one cut). By AI agents, Wed Nov 11 2026. No macro, syntax, notation, axiom, sorry.
-/
import Derived.Test.YtjeclleophlliaaChecked
import GoSem.Claim
import GoSem.ClaimJoined
import GoSem.ClaimMapViews
import Derived.JoinedTies
import Derived.KernelRfl
namespace Go.Proofs.Ytjeclleophlliaa
/- THE CELL 'sum', in the pinned program and in every row, IS THE sha256 OF THE DUMP (.gsa) THAT YtjeclleophlliaaProg.lean LOADS. Nothing in Lean hashes anything: it is a label: what it is worth is what the hold of that sum in a sandbox is worth. -/
noncomputable def Try.pinned : Pinned := { name := "ytjeclleophlliaa", sum := "4beff518c335ac56bc372930577fcabc3ac1872c3c47e9e4fd9f0ac2916e4234", checked := Try.checked }
namespace Rows
def none {H : Type} : Left H := { results := [], args := [] }

/-- 'collimatorlaw20.MiniMakes': WHATEVER THE INPUT: true; the input reads as it did. -/
def miniMakesSpec : ChangeSpec := { name := "miniMakes", fn := fun _ => fun
  | [d] => { results := [.lit (.bool true)], args := [d] }
  | _ => none }
def miniMakesRow : OpenClaim := { program := "ytjeclleophlliaa", sum := "4beff518c335ac56bc372930577fcabc3ac1872c3c47e9e4fd9f0ac2916e4234", func := "collimator/collimatorlaw20.MiniMakes", spec := "miniMakes", apart := false }
def MiniMakesSaid : Prop := miniMakesRow.holds Try.pinned (OpenSpec.ofChange miniMakesSpec)

/-- ITS FALSE NEIGHBOUR: 'it returns false'. Refute it at one input. -/
def miniMakesWrong : ChangeSpec := { name := "miniMakes", fn := fun _ => fun
  | [d] => { results := [.lit (.bool false)], args := [d] }
  | _ => none }
def MiniMakesWrongFalsely : Prop := miniMakesRow.holds Try.pinned (OpenSpec.ofChange miniMakesWrong)

/-- 'collimatorlaw20.MiniSame': WHATEVER THE INPUT: true; the input reads as it did. -/
def miniSameSpec : ChangeSpec := { name := "miniSame", fn := fun _ => fun
  | [d1, d2] => { results := [.lit (.bool true)], args := [d1, d2] }
  | _ => none }
def miniSameRow : OpenClaim := { program := "ytjeclleophlliaa", sum := "4beff518c335ac56bc372930577fcabc3ac1872c3c47e9e4fd9f0ac2916e4234", func := "collimator/collimatorlaw20.MiniSame", spec := "miniSame", apart := false }
def MiniSameSaid : Prop := miniSameRow.holds Try.pinned (OpenSpec.ofChange miniSameSpec)

/-- ITS FALSE NEIGHBOUR: 'it returns false'. Refute it at one input. -/
def miniSameWrong : ChangeSpec := { name := "miniSame", fn := fun _ => fun
  | [d1, d2] => { results := [.lit (.bool false)], args := [d1, d2] }
  | _ => none }
def MiniSameWrongFalsely : Prop := miniSameRow.holds Try.pinned (OpenSpec.ofChange miniSameWrong)

/-- 'collimatorlaw20.MiniApart': WHATEVER THE INPUT: true; the input reads as it did. -/
def miniApartSpec : ChangeSpec := { name := "miniApart", fn := fun _ => fun
  | [d] => { results := [.lit (.bool true)], args := [d] }
  | _ => none }
def miniApartRow : OpenClaim := { program := "ytjeclleophlliaa", sum := "4beff518c335ac56bc372930577fcabc3ac1872c3c47e9e4fd9f0ac2916e4234", func := "collimator/collimatorlaw20.MiniApart", spec := "miniApart", apart := false }
def MiniApartSaid : Prop := miniApartRow.holds Try.pinned (OpenSpec.ofChange miniApartSpec)

/-- ITS FALSE NEIGHBOUR: 'it returns false'. Refute it at one input. -/
def miniApartWrong : ChangeSpec := { name := "miniApart", fn := fun _ => fun
  | [d] => { results := [.lit (.bool false)], args := [d] }
  | _ => none }
def MiniApartWrongFalsely : Prop := miniApartRow.holds Try.pinned (OpenSpec.ofChange miniApartWrong)

/-- 'collimatorlaw20.MiniOrder': WHATEVER THE INPUT: true; the input reads as it did. -/
def miniOrderSpec : ChangeSpec := { name := "miniOrder", fn := fun _ => fun
  | [d1, d2] => { results := [.lit (.bool true)], args := [d1, d2] }
  | _ => none }
def miniOrderRow : OpenClaim := { program := "ytjeclleophlliaa", sum := "4beff518c335ac56bc372930577fcabc3ac1872c3c47e9e4fd9f0ac2916e4234", func := "collimator/collimatorlaw20.MiniOrder", spec := "miniOrder", apart := false }
def MiniOrderSaid : Prop := miniOrderRow.holds Try.pinned (OpenSpec.ofChange miniOrderSpec)

/-- ITS FALSE NEIGHBOUR: 'it returns false'. Refute it at one input. -/
def miniOrderWrong : ChangeSpec := { name := "miniOrder", fn := fun _ => fun
  | [d1, d2] => { results := [.lit (.bool false)], args := [d1, d2] }
  | _ => none }
def MiniOrderWrongFalsely : Prop := miniOrderRow.holds Try.pinned (OpenSpec.ofChange miniOrderWrong)

/- THE SECOND FORM. 'bulk': how many values and letters a reading holds, each counted each time it is reached (what is shared counts as often as it is met; a slice's spare places count too). A statement '..UptoSaid' is the law's where the arguments, and the package variables that the reading takes, are together of bulk at most 1048576: NARROWER than '..Said'. Prove '..Said' where nothing that the law and all that it calls make is longer than what came in: it says more and counts as full. Else prove '..UptoSaid'. A law counts once. -/
mutual
def uptoBulk {H : Type} : DataW H → Nat
  | .lit (.string bytes) => bytes.length + 1
  | .lit _ => 1
  | .nil => 1
  | .ptr d => uptoBulk d + 1
  | .slice elems spare => uptoBulkAll elems + uptoBulkAll spare + 1
  | .agg parts => uptoBulkAll parts + 1
  | .iface _ d => uptoBulk d + 1
  | .map entries => uptoBulkEntries entries + 1
  | .held _ => 1
def uptoBulkAll {H : Type} : List (DataW H) → Nat
  | [] => 0
  | d :: r => uptoBulk d + uptoBulkAll r
def uptoBulkEntries {H : Type} : List (Lit × DataW H) → Nat
  | [] => 0
  | x :: r => uptoBulkEntry x + uptoBulkEntries r
def uptoBulkEntry {H : Type} : Lit × DataW H → Nat
  | (.string bytes, d) => bytes.length + uptoBulk d + 1
  | (_, d) => uptoBulk d + 1
 end
def uptoSmall : (H : Type) → List (DataW H) → Bool := fun _ ds => decide (uptoBulkAll ds ≤ 1048576)
def OpenSpec.upto (s : _root_.Go.ChangeSpec) : _root_.Go.OpenSpec := { _root_.Go.OpenSpec.ofChange s with cond := some uptoSmall }

/-- 'collimatorlaw20.MiniMakes', WHERE WHAT IT READS IS OF BULK AT MOST 1048576: true; the input reads as it did. -/
def miniMakesUptoRow : OpenClaim := { program := "ytjeclleophlliaa", sum := "4beff518c335ac56bc372930577fcabc3ac1872c3c47e9e4fd9f0ac2916e4234", func := "collimator/collimatorlaw20.MiniMakes", spec := "miniMakes", apart := false, narrowed := true }
def MiniMakesUptoSaid : Prop := miniMakesUptoRow.holds Try.pinned (OpenSpec.upto miniMakesSpec)

/-- 'collimatorlaw20.MiniSame', WHERE WHAT IT READS IS OF BULK AT MOST 1048576: true; the input reads as it did. -/
def miniSameUptoRow : OpenClaim := { program := "ytjeclleophlliaa", sum := "4beff518c335ac56bc372930577fcabc3ac1872c3c47e9e4fd9f0ac2916e4234", func := "collimator/collimatorlaw20.MiniSame", spec := "miniSame", apart := false, narrowed := true }
def MiniSameUptoSaid : Prop := miniSameUptoRow.holds Try.pinned (OpenSpec.upto miniSameSpec)

/-- 'collimatorlaw20.MiniApart', WHERE WHAT IT READS IS OF BULK AT MOST 1048576: true; the input reads as it did. -/
def miniApartUptoRow : OpenClaim := { program := "ytjeclleophlliaa", sum := "4beff518c335ac56bc372930577fcabc3ac1872c3c47e9e4fd9f0ac2916e4234", func := "collimator/collimatorlaw20.MiniApart", spec := "miniApart", apart := false, narrowed := true }
def MiniApartUptoSaid : Prop := miniApartUptoRow.holds Try.pinned (OpenSpec.upto miniApartSpec)

/-- 'collimatorlaw20.MiniOrder', WHERE WHAT IT READS IS OF BULK AT MOST 1048576: true; the input reads as it did. -/
def miniOrderUptoRow : OpenClaim := { program := "ytjeclleophlliaa", sum := "4beff518c335ac56bc372930577fcabc3ac1872c3c47e9e4fd9f0ac2916e4234", func := "collimator/collimatorlaw20.MiniOrder", spec := "miniOrder", apart := false, narrowed := true }
def MiniOrderUptoSaid : Prop := miniOrderUptoRow.holds Try.pinned (OpenSpec.upto miniOrderSpec)

end Rows
end Go.Proofs.Ytjeclleophlliaa
