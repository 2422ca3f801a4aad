/- PROVED: PackCopies returns true for every text and every byte, and leaves its arguments as they were. Conditions: none. -/
import Derived.Test.YtmophmeiemfikaaMI
import Derived.Test.YtmophmeiemfikaaRows
import Derived.WalkKit
import Derived.WalkSpells
import Derived.WalkLawsBesides
import Derived.Deep.QuietTactic
import Derived.BigQuiet
import Derived.Lib.Hide
import Derived.Laws.Small
import Derived.Deep.LoopGhost
import Derived.Laws.BitsLemmas
import Derived.Deep.DeepCutAuto
import Derived.Laws.IdiomStrings
import Derived.Deep.CutBlock
import Derived.Deep.CutRange
import Derived.SizedLaws
import Derived.ProofKit
import Derived.OpenShut
import Derived.Deep.Slices
import Derived.ChangeSlices
import Derived.WideKeyArgs
import Derived.ChangeMaps5
namespace Go.Proofs.Ytmophmeiemfikaa
open Go.ChangeShapes Go.WideShapes Go.ChangeAt Go.RowKit Go.Cm

theorem own : ownKnob Try.prog.godebug = none := by kernel_rfl
theorem laid : laidOutB Try.prog = true := by kernel_rfl

set_option maxRecDepth 100000 in
theorem packCopies_lifted (os : Os) (started : os.Started) (H : Type) (enc : TypeId × Value → H) :
    ReturnsInHanded {} Try.checked os 5 .any (Rows.packCopiesSpec.pre6 enc Try.prog Try.f5 Rows.packCopiesRow.domain false) (Rows.packCopiesSpec.post enc Try.prog Try.f5 false true false false) := by
  refine returnsInHanded_of_change_sized (C := Try.checked) own started (by kernel_rfl) Try.func5
    (ChangeSpec.witness6 (enc := enc) (C := Try.checked) false ⟨#[], #[.string ⟨#[]⟩, .int .u8 0], []⟩ 8 (by kernel_rfl) (by kernel_rfl) (by kernel_rfl) (by kernel_rfl)) ?_
  intro W base args ds gs before hval0 hW _ hsz _
  have hval : ∀ (j : Nat) t v, Try.f5.params[j]? = some t → args[j]? = some v → Value.okWide Try.prog W .any base t v := hval0
  have hW' := hW
  obtain ⟨p, q, hA0, hV, rfl, hfz, hnd⟩ := hW
  have hA : DataW.TrodAll enc Try.prog W 0 (fun _ => true) true Try.f5.params.toList args.toList ds p := hA0
  rw [Try.params5] at hA hval
  obtain ⟨v1, v2, d1, d2, p1, p2, rfl, rfl, rfl, h1, h2⟩ := trodAll_two hA
  obtain ⟨rfl, rfl⟩ := trodVars_none hV
  obtain ⟨s, rfl, rfl, rfl, -⟩ := Go.ChangeMaps.open_string Try.underlying9 (hval 0 9 v1 rfl rfl) h1
  obtain ⟨n, rfl, rfl, rfl, hwf⟩ := open_int Try.underlying5 (hval 1 5 v2 rfl rfl) h2
  have hs63 : s.size ≤ 140737488351232 := by
    have := sized_string hsz (j := 0) (t := 9) (bytes := s.data.toList) (by rw [Try.params5]; rfl) rfl
    rw [reach_is] at this
    simpa using this
  have hn : 0 ≤ n ∧ n ≤ 255 := by
    simpa [Lit.wf, IntKind.min, IntKind.max, IntKind.signed, IntKind.bits] using hwf
  obtain ⟨m, rfl⟩ := Int.eq_ofNat_of_zero_le hn.1
  clear hA0 hval0
  simp only [List.append_nil] at hW'
  refine (packCopies s m (by omega) W).mono fun e W' ⟨he, x, hw⟩ => ?_
  subst he
  have hb : Below W.heap.size W W' := hw ▸ ext_below W x
  exact ⟨_, rfl, post_of_below (pa := [] ++ []) (pv := []) hW' (fun _ _ _ => trodAll_mk1 (shut_bool Try.underlying4 _)) (fun sp hsp => trodAll_mk2 (Go.ChangeMaps.shut_string Try.underlying9 (by unfold maxLen; omega)) (shut_int Try.underlying5 hwf)) (fun _ _ => rfl) (by simp) hb (ok_one (by kernel_rfl) rfl (okWide_bool_mk Try.underlying4 _))⟩

theorem packCopies_holds : Rows.PackCopiesSaid :=
  OpenClaim.holds_of_wide 5 Try.f5 rfl rfl rfl rfl rfl rfl rfl ⟨rfl, rfl, rfl, rfl, rfl⟩ rfl rfl rfl rfl rfl (by kernel_rfl) Try.func5 (by kernel_rfl)
    (of_decide_eq_true (by kernel_rfl)) (by unfold Func.isWrapper; first | (rw [if_pos (by decide +kernel)]; kernel_rfl) | (rw [if_neg (by decide +kernel)]; exact ⟨rfl, rfl⟩))
    (fun os started H enc _ => packCopies_lifted os started H enc)
#print axioms packCopies_holds
end Go.Proofs.Ytmophmeiemfikaa
