/- PROVED: SubsetSame returns true for every list of trees and every text, and leaves its arguments as they were. Conditions: none. -/
import Derived.Test.YtfnkhcibcffcmaaHA
import Derived.Test.YtfnkhcibcffcmaaGL
import Derived.ChangeMaps5
namespace Go.Proofs.Ytfnkhcibcffcmaa
open Go.ChangeShapes Go.WideShapes Go.ChangeAt Go.RowKit Go.Cm

theorem own : ownKnob Try.prog.godebug = none := by kernel_rfl
theorem laid : laidOutB Try.prog = true := by kernel_rfl

set_option maxRecDepth 100000 in
theorem subsetSame_lifted (os : Os) (started : os.Started) (H : Type) (enc : TypeId × Value → H) :
    ReturnsInHanded {} Try.checked os 4 .any (Rows.subsetSameSpec.pre6 enc Try.prog Try.f4 Rows.subsetSameRow.domain false) (Rows.subsetSameSpec.post enc Try.prog Try.f4 false true false false) := by
  refine returnsInHanded_of_change_sized (C := Try.checked) own started (by kernel_rfl) Try.func4
    (ChangeSpec.witness6 (enc := enc) (C := Try.checked) false ⟨#[], #[.slice none 0 0, .string ⟨#[]⟩], []⟩ 8 (by kernel_rfl) (by kernel_rfl) (by kernel_rfl) (by kernel_rfl)) ?_
  intro W base args ds gs before hval0 hW _ hsz _
  have hval : ∀ (j : Nat) t v, Try.f4.params[j]? = some t → args[j]? = some v → Value.okWide Try.prog W .any base t v := hval0
  have hW' := hW
  obtain ⟨p, q, hA0, hV, rfl, hfz, hnd⟩ := hW
  have hA : DataW.TrodAll enc Try.prog W 0 (fun _ => true) true Try.f4.params.toList args.toList ds p := hA0
  rw [Try.params4] at hA hval
  obtain ⟨v0, v1, d0, d1, p0, p1, rfl, rfl, rfl, h0, h1⟩ := trodAll_two hA
  obtain ⟨rfl, rfl⟩ := trodVars_none hV
  obtain ⟨s, rfl, rfl, rfl, -⟩ := Go.ChangeMaps.open_string Try.underlying9 (hval 1 9 v1 rfl rfl) h1
  have hs63 : s.size ≤ 140737488351232 := by
    have := sized_string hsz (j := 1) (t := 9) (bytes := s.data.toList) (by rw [Try.params4]; rfl) rfl
    rw [reach_is] at this
    simpa using this
  have hw0 : ∀ n ∈ d0.weights Try.prog 39, n ≤ reachBytes := fun n hn => by
    have := List.all_eq_true.1 hsz n (DataW.weights_mem_each (j := 0) (t := 39) (by rw [Try.params4]; rfl) rfl n hn)
    simpa using this
  obtain ⟨ll, hd, hq⟩ := open_trees (hval 0 39 v0 rfl rfl) h0 hw0
  clear hA0 hval0
  simp only [List.append_nil] at hW'
  have hlt : ∀ x ∈ p0, x.block < W.heap.size := fun x hx => hW'.lt x (by simp [hx])
  refine (subsetSame hd hq s hs63).mono fun e W' ⟨he, x, hw⟩ => ?_
  subst he
  have hb : Below W.heap.size W W' := hw ▸ ext_below W x
  have hstay : ∀ sp : Nat → Bool, (∀ x ∈ p0, sp x.block = true) → DataW.Trod enc Try.prog W' 0 sp true 39 v0 d0 p0 := fun sp hsp =>
    WideElems.Trod_stays laid (by kernel_rfl) (of_decide_eq_true (by kernel_rfl)) h0 (fun x hx => hb.same (hlt x hx)) hsp
  exact ⟨_, rfl, post_of_below (pa := p0 ++ []) (pv := []) hW' (fun _ _ _ => trodAll_mk1 (shut_bool Try.underlying4 _)) (fun sp hsp => trodAll_mk2 (hstay sp (fun x hx => hsp x (by simp [hx]))) (Go.ChangeMaps.shut_string Try.underlying9 (by unfold maxLen; omega))) (fun _ _ => rfl) (by simp) hb (ok_one (by kernel_rfl) rfl (okWide_bool_mk Try.underlying4 _))⟩

theorem subsetSame_holds : Rows.SubsetSameSaid :=
  OpenClaim.holds_of_wide 4 Try.f4 rfl rfl rfl rfl rfl rfl rfl ⟨rfl, rfl, rfl, rfl, rfl⟩ rfl rfl rfl rfl rfl (by kernel_rfl) Try.func4 (by kernel_rfl)
    (of_decide_eq_true (by kernel_rfl)) (by unfold Func.isWrapper; first | (rw [if_pos (by decide +kernel)]; kernel_rfl) | (rw [if_neg (by decide +kernel)]; exact ⟨rfl, rfl⟩))
    (fun os started H enc _ => subsetSame_lifted os started H enc)
#print axioms subsetSame_holds
end Go.Proofs.Ytfnkhcibcffcmaa
