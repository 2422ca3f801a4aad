/- PROVED: BlockBack returns true for every head and every byte, and leaves its arguments as they were. Conditions: none. -/
import Derived.Test.YticlfmakdblbkaaGP
import Derived.Test.YticlfmakdblbkaaGK
namespace Go.Proofs.Yticlfmakdblbkaa
open Go.ChangeShapes Go.WideShapes Go.ChangeAt Go.RowKit Go.Cm

theorem own : ownKnob Try.prog.godebug = none := by kernel_rfl
theorem laid : laidOutB Try.prog = true := by kernel_rfl

set_option maxRecDepth 100000 in
theorem blockBack_lifted (os : Os) (started : os.Started) (H : Type) (enc : TypeId × Value → H) :
    ReturnsInHanded {} Try.checked os 7 .any (Rows.blockBackSpec.pre6 enc Try.prog Try.f7 Rows.blockBackRow.domain false) (Rows.blockBackSpec.post enc Try.prog Try.f7 false true false false) := by
  refine returnsInHanded_of_change_sized (C := Try.checked) own started (by kernel_rfl) Try.func7
    (ChangeSpec.witness6 (enc := enc) (C := Try.checked) false ⟨#[], #[.agg zH, .int .u8 0], []⟩ 8 (by kernel_rfl) (by kernel_rfl) (by kernel_rfl) (by kernel_rfl)) ?_
  intro W base args ds gs before hval0 hW _ hsz _
  have hval : ∀ (j : Nat) t v, Try.f7.params[j]? = some t → args[j]? = some v → Value.okWide Try.prog W .any base t v := hval0
  have hW' := hW
  obtain ⟨p, q, hA0, hV, rfl, hfz, hnd⟩ := hW
  have hA : DataW.TrodAll enc Try.prog W 0 (fun _ => true) true Try.f7.params.toList args.toList ds p := hA0
  rw [Try.params7] at hA hval
  obtain ⟨v0, v1, d0, d1, p0, p1, rfl, rfl, rfl, h0, h1⟩ := trodAll_two hA
  obtain ⟨rfl, rfl⟩ := trodVars_none hV
  have hw0 : ∀ n ∈ d0.weights Try.prog 36, n ≤ reachBytes := fun n hn => by
    have := List.all_eq_true.1 hsz n (DataW.weights_mem_each (j := 0) (t := 36) (by rw [Try.params7]; rfl) rfl n hn)
    simpa using this
  obtain ⟨f, k, z, u1, u2, l1, l2, rfl, hl1, hl2⟩ := open_head (hval 0 36 v0 rfl rfl) h0 hw0
  obtain ⟨n, rfl, rfl, rfl, hwf⟩ := open_int Try.underlying5 (hval 1 5 v1 rfl rfl) h1
  have hn : 0 ≤ n ∧ n ≤ 255 := by
    simp [Lit.wf, IntKind.min, IntKind.max, IntKind.signed, IntKind.bits] at hwf
    omega
  obtain ⟨a, rfl⟩ : ∃ a : Nat, n = (a : Nat) := ⟨n.toNat, by omega⟩
  clear hA0 hval0
  simp only [List.append_nil] at hW'
  have hlt : ∀ x ∈ p0 ++ [], x.block < W.heap.size := fun x hx => hW'.lt x (by simpa using hx)
  refine (blockBack f k z u1 u2 l1 l2 a (by omega) W hl1 hl2).mono fun e W' ⟨he, x, hw⟩ => ?_
  subst he
  have hb : Below W.heap.size W W' := hw ▸ ext_below W x
  have hstay0 : ∀ sp : Nat → Bool, (∀ x ∈ p0, sp x.block = true) → DataW.Trod enc Try.prog W' 0 sp true 36 (.agg #[.bool f, .int .i64 k, .int .i64 z, u1, u2]) d0 p0 := fun sp hsp =>
    WideElems.Trod_stays laid (by kernel_rfl) (of_decide_eq_true (by kernel_rfl)) h0 (fun x hx => hb.same (hlt x (by simp [hx]))) hsp
  exact ⟨_, rfl, post_of_below (pa := p0 ++ []) (pv := []) hW' (fun _ _ _ => trodAll_mk1 (shut_bool Try.underlying4 _)) (fun sp hsp => trodAll_mk2 (hstay0 sp (fun x hx => hsp x (by simp [hx]))) (shut_int Try.underlying5 hwf)) (fun _ _ => rfl) (by simp) hb (ok_one (by kernel_rfl) rfl (okWide_bool_mk Try.underlying4 _))⟩

theorem blockBack_holds : Rows.BlockBackSaid :=
  OpenClaim.holds_of_wide 7 Try.f7 rfl rfl rfl rfl rfl rfl rfl ⟨rfl, rfl, rfl, rfl, rfl⟩ rfl rfl rfl rfl rfl (by kernel_rfl) Try.func7 (by kernel_rfl)
    (of_decide_eq_true (by kernel_rfl)) (by unfold Func.isWrapper; first | (rw [if_pos (by decide +kernel)]; kernel_rfl) | (rw [if_neg (by decide +kernel)]; exact ⟨rfl, rfl⟩))
    (fun os started H enc _ => blockBack_lifted os started H enc)
#print axioms blockBack_holds
end Go.Proofs.Yticlfmakdblbkaa
