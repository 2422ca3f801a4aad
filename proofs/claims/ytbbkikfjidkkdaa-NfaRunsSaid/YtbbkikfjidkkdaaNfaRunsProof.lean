/- PROVED: NfaRuns returns true for every automaton, every list of states and every text, and leaves its arguments as they were. Conditions: none. -/
import Derived.Test.YtbbkikfjidkkdaaGR
import Derived.Test.YtbbkikfjidkkdaaGS
import Derived.ChangeMaps5
namespace Go.Proofs.Ytbbkikfjidkkdaa
open Go.ChangeShapes Go.WideShapes Go.ChangeAt Go.RowKit Go.Cm

theorem own : ownKnob Try.prog.godebug = none := by kernel_rfl
theorem laid : laidOutB Try.prog = true := by kernel_rfl

set_option maxRecDepth 100000 in
theorem nfaRuns_lifted (os : Os) (started : os.Started) (H : Type) (enc : TypeId × Value → H) :
    ReturnsInHanded {} Try.checked os 6 .any (Rows.nfaRunsSpec.pre6 enc Try.prog Try.f6 Rows.nfaRunsRow.domain false) (Rows.nfaRunsSpec.post enc Try.prog Try.f6 false true false false) := by
  refine returnsInHanded_of_change_sized (C := Try.checked) own started (by kernel_rfl) Try.func6
    (ChangeSpec.witness6 (enc := enc) (C := Try.checked) false ⟨#[], #[.agg #[.slice none 0 0, .int .i64 0, .slice none 0 0], .slice none 0 0, .string ⟨#[]⟩], []⟩ 8 (by kernel_rfl) (by kernel_rfl) (by kernel_rfl) (by kernel_rfl)) ?_
  intro W base args ds gs before hval0 hW _ hsz _
  have hval : ∀ (j : Nat) t v, Try.f6.params[j]? = some t → args[j]? = some v → Value.okWide Try.prog W .any base t v := hval0
  have hW' := hW
  obtain ⟨p, q, hA0, hV, rfl, hfz, hnd⟩ := hW
  have hA : DataW.TrodAll enc Try.prog W 0 (fun _ => true) true Try.f6.params.toList args.toList ds p := hA0
  rw [Try.params6] at hA hval
  obtain ⟨v0, v1, v2, d0, d1, d2, p0, p1, p2, rfl, rfl, rfl, h0, h1, h2⟩ := trodAll_three hA
  obtain ⟨rfl, rfl⟩ := trodVars_none hV
  have hw0 : ∀ n ∈ d0.weights Try.prog 28, n ≤ reachBytes := fun n hn => by
    have := List.all_eq_true.1 hsz n (DataW.weights_mem_each (j := 0) (t := 28) (by rw [Try.params6]; rfl) rfl n hn)
    simpa using this
  have hw1 : ∀ n ∈ d1.weights Try.prog 26, n ≤ reachBytes := fun n hn => by
    have := List.all_eq_true.1 hsz n (DataW.weights_mem_each (j := 1) (t := 26) (by rw [Try.params6]; rfl) rfl n hn)
    simpa using this
  obtain ⟨A, e, F, r, rfl, hn, hsw⟩ := open_nfa (hval 0 28 v0 rfl rfl) h0 hw0
  obtain ⟨l, hl⟩ := open_ints (hval 1 26 v1 rfl rfl) h1 hw1
  obtain ⟨s, rfl, rfl, rfl, -⟩ := Go.ChangeMaps.open_string Try.underlying9 (hval 2 9 v2 rfl rfl) h2
  have hs63 : s.size ≤ 140737488351232 := by
    have := sized_string hsz (j := 2) (t := 9) (bytes := s.data.toList) (by rw [Try.params6]; rfl) rfl
    rw [reach_is] at this
    simpa using this
  clear hA0 hval0
  simp only [List.append_nil] at hW'
  have hlt : ∀ x ∈ p0 ++ p1, x.block < W.heap.size := fun x hx => hW'.lt x (by simp at hx ⊢; exact hx)
  refine (nfaRuns hn (fun a x hx => (hsw a x hx).set) hl s hs63).mono fun e W' ⟨he, x, hw⟩ => ?_
  subst he
  have hb : Below W.heap.size W W' := hw ▸ ext_below W x
  have hstay0 : ∀ sp : Nat → Bool, (∀ x ∈ p0, sp x.block = true) → DataW.Trod enc Try.prog W' 0 sp true 28 (.agg A) d0 p0 := fun sp hsp =>
    WideElems.Trod_stays laid (by kernel_rfl) (of_decide_eq_true (by kernel_rfl)) h0 (fun x hx => hb.same (hlt x (by simp [hx]))) hsp
  have hstay1 : ∀ sp : Nat → Bool, (∀ x ∈ p1, sp x.block = true) → DataW.Trod enc Try.prog W' 0 sp true 26 v1 d1 p1 := fun sp hsp =>
    WideElems.Trod_stays laid (by kernel_rfl) (of_decide_eq_true (by kernel_rfl)) h1 (fun x hx => hb.same (hlt x (by simp [hx]))) hsp
  exact ⟨_, rfl, post_of_below (pa := p0 ++ (p1 ++ [])) (pv := []) hW' (fun _ _ _ => trodAll_mk1 (shut_bool Try.underlying4 _)) (fun sp hsp => trodAll_mk3 (hstay0 sp (fun x hx => hsp x (by simp [hx]))) (hstay1 sp (fun x hx => hsp x (by simp [hx]))) (Go.ChangeMaps.shut_string Try.underlying9 (by unfold maxLen; omega))) (fun _ _ => rfl) (by simp) hb (ok_one (by kernel_rfl) rfl (okWide_bool_mk Try.underlying4 _))⟩

theorem nfaRuns_holds : Rows.NfaRunsSaid :=
  OpenClaim.holds_of_wide 6 Try.f6 rfl rfl rfl rfl rfl rfl rfl ⟨rfl, rfl, rfl, rfl, rfl⟩ rfl rfl rfl rfl rfl (by kernel_rfl) Try.func6 (by kernel_rfl)
    (of_decide_eq_true (by kernel_rfl)) (by unfold Func.isWrapper; first | (rw [if_pos (by decide +kernel)]; kernel_rfl) | (rw [if_neg (by decide +kernel)]; exact ⟨rfl, rfl⟩))
    (fun os started H enc _ => nfaRuns_lifted os started H enc)
#print axioms nfaRuns_holds
end Go.Proofs.Ytbbkikfjidkkdaa
