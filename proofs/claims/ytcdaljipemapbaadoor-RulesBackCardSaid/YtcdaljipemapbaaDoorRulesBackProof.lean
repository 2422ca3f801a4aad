/- PROVED: RulesBack returns true for every text, and leaves its arguments as they were. Conditions: none. -/
import Derived.Test.YtcdaljipemapbaaDoorRows
import Derived.WalkKit
import Derived.WalkSpells
import Derived.WalkLawsBesides
import Derived.Deep.QuietTactic
import Derived.BigQuiet
import Derived.Lib.Hide
import Derived.Laws.Small
import Derived.Deep.LoopGhost
import Derived.Laws.RangeAny
import Derived.Shelf.Abstract
import Derived.Laws.Bits64b
import Derived.Lib.TrailingZeros
import Derived.Deep.DeepCutAuto
import Derived.Laws.BitsLemmas
import Derived.Deep.CutBlock
import Derived.LaidEql
import Derived.Stop.Asserts
import Derived.RowKitTokens
import Derived.LaidLaws
import Derived.LaidHandle
import Derived.Stop.Joined
import Derived.LaidSub
import Derived.Lib.LaidTab
import Derived.SizedLaws
import Derived.ProofKit
import Derived.OpenShut
import Derived.Deep.Slices
import Derived.ChangeSlices
import Derived.WideKeyArgs
import Derived.Test.YtcdaljipemapbaaDoorTie
import Derived.Test.YtcdaljipemapbaaDoorCards
import Derived.ChangeSame
import Derived.ChangeVars
import Derived.JoinedOf
import Derived.SevenTiedAt
import Derived.ChangeMaps5
import Derived.Test.YtcdaljipemapbaaDoorRXTI
namespace Go.Proofs.YtcdaljipemapbaaDoor
open Go.ChangeShapes Go.WideShapes Go.ChangeAt Go.RowKit Go.Cm

theorem own:ownKnob Tryd.prog.godebug=none:=by kernel_rfl
theorem laid:laidOutB Tryd.prog=true:=by kernel_rfl

set_option maxRecDepth 100000 in
theorem rulesBack_lifted(os:Os)(started:os.Started)(H:Type)(enc:TypeId×Value->H):
    ReturnsInHanded {} Tryd.checked os 4 .any (fun w args=>(Rows.rulesBackSpec.pre enc Tryd.prog Tryd.f4 Rows.rulesBackRow.domain false w args/\laidMetH Tryd.prog bA w)/\sizedMet enc Tryd.prog Tryd.f4 (OpenSpec.ofChange Rows.rulesBackSpec) false w args) (Rows.rulesBackSpec.post enc Tryd.prog Tryd.f4 false true false false):=by
  refine returnsInHanded_of_change_and (C:=Tryd.checked) (X:=fun w _=>laidMetH Tryd.prog bA w) (fun _ _ _ hh h=>h.of_heap hh) own started (by kernel_rfl) Tryd.func4
    (ChangeSpec.witness_at (enc:=enc) (C:=Tryd.checked) (os:=os) (X:=fun w _=>laidMetH Tryd.prog bA w) false (cT os) #[.string ⟨#[]⟩] 8 rfl (by kernel_rfl) (by kernel_rfl) (by kernel_rfl) (by kernel_rfl) (by kernel_rfl) (aJ os _)) ?_
  intro W base args ds gs before vF hW _ hsz vI _
  have hLW:j6 W:=j6.ofR vI
  have hTW:jn W:=jn.ofR vI
  have hval:∀(j:Nat) t v,Tryd.f4.params[j]? =some t->args[j]? =some v->Value.okWide Tryd.prog W .any base t v:=vF
  have hW':=hW
  obtain⟨p,q,hA0,hV,rfl,hfz,hnd⟩:=hW
  have hA:DataW.TrodAll enc Tryd.prog W 0 (fun _=>true) true Tryd.f4.params.toList args.toList ds p:=hA0
  rw[Tryd.params4]at hA hval
  obtain⟨v0,d0,rfl,rfl,h0⟩:=trodAll_one hA
  obtain⟨rfl,rfl⟩:=trodVars_none hV
  obtain⟨s0,rfl,rfl,rfl,-⟩:=Go.ChangeMaps.open_string Tryd.underlying9 (hval 0 9 v0 rfl rfl) h0
  have hs0:s0.size<=140737488351232:=by
    have:=sized_string hsz (j:=0) (t:=9) (bytes:=s0.data.toList) (by rw[Tryd.params4];rfl) rfl
    rw[aN]at this
    simpa using this
  clear hA0 vF
  simp only[List.append_nil]at hW'
  refine(kR hLW hTW hs0).mono fun e W' ⟨he,hb⟩=>?_
  subst he
  exact⟨_,rfl,jW (pa:=[]) (pv:=[]) hW' (fun _ _ _=>trodAll_mk1 (shut_bool Tryd.underlying4 _)) (fun sp hsp=>trodAll_mk1 (Go.ChangeMaps.shut_string Tryd.underlying9 (by unfold maxLen;omega))) (fun _ _=>rfl) (by simp) hb (ok_one (by kernel_rfl) rfl (okWide_bool_mk Tryd.underlying4 _))⟩

theorem rulesBack_holds:Rows.RulesBackSaid:=
  OpenClaim.holds_of_wide 4 Tryd.f4 rfl rfl rfl rfl rfl rfl rfl ⟨rfl,rfl,rfl,rfl,rfl⟩ rfl rfl rfl rfl rfl (by kernel_rfl) Tryd.func4 (by kernel_rfl)
    (of_decide_eq_true (by kernel_rfl)) (by unfold Func.isWrapper;first|(rw[if_pos (by decide+kernel)];kernel_rfl)|(rw[if_neg (by decide+kernel)];exact⟨rfl,rfl⟩))
    (fun os started H enc _=>rulesBack_lifted os started H enc)
theorem rulesBack_card:Rows.RulesBackCardSaid:=
  Claim7.holds_tied_plain_at .later [] [.data,.handle,.sentinel,.sentinel,.sentinel,.sentinel,.sentinel] true (true,"898f4ba5c6ce1896d4be0f7d6f064a5d1951e82017b1db4e225741c89d5d05a1") true
    rulesBack_holds (fun _ h=>by cases h) (by kernel_rfl) (fun _ h=>by cases h) rulesBack_row_tie rfl ⟨rfl,rfl⟩ (by kernel_rfl) rfl
    (fun f fn hf hfn=>by
      obtain rfl:f=4:=qk ((show Tryd.prog.funcNamed "collimator/collimatorlaw16.RulesBack" =some 4 by kernel_rfl).symm.trans hf) |>.symm
      obtain rfl:fn=Tryd.f4:=(qk (Tryd.func4.symm.trans hfn)).symm
      refine⟨by kernel_rfl,fun j t ht=>?_⟩
      rw[Tryd.params4]at ht
      have ht3:t=9:=by
        rcases j with _|j
        · exact by simpa using ht.symm
        · simp at ht
      rcases ht3 with rfl
      · exact(show Tryd.prog.wantsStandIn 9=false by kernel_rfl)
    )
    (by kernel_rfl)
#print axioms rulesBack_card
end Go.Proofs.YtcdaljipemapbaaDoor
