/- PROVED: RulesShows returns true for every list of rules and text, and leaves its arguments as they were. Conditions: none. -/
import Derived.Test.YtcdaljipemapbaaDoorRows
import Derived.WalkKit
import Derived.WalkSpells
import Derived.WalkLawsBesides
import Derived.Deep.QuietTactic
import Derived.BigQuiet
import Derived.Lib.Hide
import Derived.Laws.Small
import Derived.Deep.LoopGhost
import Derived.Laws.RangeAny
import Derived.Shelf.Abstract
import Derived.Laws.Bits64b
import Derived.Lib.TrailingZeros
import Derived.Deep.DeepCutAuto
import Derived.Laws.BitsLemmas
import Derived.Deep.CutBlock
import Derived.LaidEql
import Derived.Stop.Asserts
import Derived.RowKitTokens
import Derived.SizedLaws
import Derived.ProofKit
import Derived.OpenShut
import Derived.Deep.Slices
import Derived.ChangeSlices
import Derived.WideKeyArgs
import Derived.LaidLaws
import Derived.LaidHandle
import Derived.Stop.Joined
import Derived.LaidSub
import Derived.Lib.LaidTab
import Derived.Test.YtcdaljipemapbaaDoorTie
import Derived.Test.YtcdaljipemapbaaDoorCards
import Derived.ChangeSame
import Derived.ChangeVars
import Derived.JoinedOf
import Derived.SevenTiedAt
import Derived.ChangeMaps5
import Derived.Test.YtcdaljipemapbaaDoorRXTK
namespace Go.Proofs.YtcdaljipemapbaaDoor
open Go.ChangeShapes Go.WideShapes Go.ChangeAt Go.RowKit Go.Cm

theorem own:ownKnob Tryd.prog.godebug=none:=by kernel_rfl
theorem laid:laidOutB Tryd.prog=true:=by kernel_rfl

set_option maxRecDepth 100000 in
theorem rulesShows_lifted(os:Os)(started:os.Started)(H:Type)(enc:TypeId×Value->H):
    ReturnsInHanded {} Tryd.checked os 3 .any (fun w args=>(Rows.rulesShowsSpec.pre enc Tryd.prog Tryd.f3 Rows.rulesShowsRow.domain false w args/\laidMetH Tryd.prog bA w)/\sizedMet enc Tryd.prog Tryd.f3 (OpenSpec.ofChange Rows.rulesShowsSpec) false w args) (Rows.rulesShowsSpec.post enc Tryd.prog Tryd.f3 false true false false):=by
  refine returnsInHanded_of_change_and (C:=Tryd.checked) (X:=fun w _=>laidMetH Tryd.prog bA w) (fun _ _ _ hh h=>h.of_heap hh) own started (by kernel_rfl) Tryd.func3
    (ChangeSpec.witness_at (enc:=enc) (C:=Tryd.checked) (os:=os) (X:=fun w _=>laidMetH Tryd.prog bA w) false (cT os) #[.slice none 0 0,.string ⟨#[]⟩] 8 rfl (by kernel_rfl) (by kernel_rfl) (by kernel_rfl) (by kernel_rfl) (by kernel_rfl) (aJ os _)) ?_
  intro W base args ds gs before vF hW _ hsz vI _
  have hLW:j6 W:=j6.ofR vI
  have hTW:jn W:=jn.ofR vI
  have hval:∀(j:Nat) t v,Tryd.f3.params[j]? =some t->args[j]? =some v->Value.okWide Tryd.prog W .any base t v:=vF
  have hW':=hW
  obtain⟨p,q,hA0,hV,rfl,hfz,hnd⟩:=hW
  have hA:DataW.TrodAll enc Tryd.prog W 0 (fun _=>true) true Tryd.f3.params.toList args.toList ds p:=hA0
  rw[Tryd.params3]at hA hval
  obtain⟨v0,v1,d0,d1,p0,p1,rfl,rfl,rfl,h0,h1⟩:=trodAll_two hA
  obtain⟨rfl,rfl⟩:=trodVars_none hV
  have hw0:∀n∈d0.weights Tryd.prog 22,n<=reachBytes:=fun n hn=>by
    have:=List.all_eq_true.1 hsz n (DataW.weights_mem_each (j:=0) (t:=22) (by rw[Tryd.params3];rfl) rfl n hn)
    simpa using this
  obtain⟨l0,hl0,hf0⟩:=kT (hval 0 22 v0 rfl rfl) h0 hw0
  obtain⟨s1,rfl,rfl,rfl,-⟩:=Go.ChangeMaps.open_string Tryd.underlying9 (hval 1 9 v1 rfl rfl) h1
  have hs1:s1.size<=140737488351232:=by
    have:=sized_string hsz (j:=1) (t:=9) (bytes:=s1.data.toList) (by rw[Tryd.params3];rfl) rfl
    rw[aN]at this
    simpa using this
  clear hA0 vF
  simp only[List.append_nil]at hW'
  have hlt:∀x∈p0++[],x.block<W.heap.size:=fun x hx=>hW'.lt x (by simpa using hx)
  refine(hU hLW hTW hl0 hf0 hs1).mono fun e W' ⟨he,hb⟩=>?_
  subst he
  have wS:∀sp:Nat->Bool,(∀x∈p0,sp x.block=true)->DataW.Trod enc Tryd.prog W' 0 sp true 22 _ d0 p0:=fun sp hsp=>
    WideElems.Trod_stays laid (by kernel_rfl) (of_decide_eq_true (by kernel_rfl)) h0 (fun x hx=>hb.same (hlt x (by simp[hx]))) hsp
  exact⟨_,rfl,jW (pa:=p0++[]) (pv:=[]) hW' (fun _ _ _=>trodAll_mk1 (shut_bool Tryd.underlying4 _)) (fun sp hsp=>trodAll_mk2 (wS sp (fun x hx=>hsp x (by simp[hx]))) (Go.ChangeMaps.shut_string Tryd.underlying9 (by unfold maxLen;omega))) (fun _ _=>rfl) (by simp) hb (ok_one (by kernel_rfl) rfl (okWide_bool_mk Tryd.underlying4 _))⟩

theorem rulesShows_holds:Rows.RulesShowsSaid:=
  OpenClaim.holds_of_wide 3 Tryd.f3 rfl rfl rfl rfl rfl rfl rfl ⟨rfl,rfl,rfl,rfl,rfl⟩ rfl rfl rfl rfl rfl (by kernel_rfl) Tryd.func3 (by kernel_rfl)
    (of_decide_eq_true (by kernel_rfl)) (by unfold Func.isWrapper;first|(rw[if_pos (by decide+kernel)];kernel_rfl)|(rw[if_neg (by decide+kernel)];exact⟨rfl,rfl⟩))
    (fun os started H enc _=>rulesShows_lifted os started H enc)
theorem rulesShows_card:Rows.RulesShowsCardSaid:=
  Claim7.holds_tied_plain_at .later [] [.data,.handle,.sentinel,.sentinel,.sentinel,.sentinel,.sentinel] true (true,"898f4ba5c6ce1896d4be0f7d6f064a5d1951e82017b1db4e225741c89d5d05a1") true
    rulesShows_holds (fun _ h=>by cases h) (by kernel_rfl) (fun _ h=>by cases h) rulesShows_row_tie rfl ⟨rfl,rfl⟩ (by kernel_rfl) rfl
    (fun f fn hf hfn=>by
      obtain rfl:f=3:=qk ((show Tryd.prog.funcNamed "collimator/collimatorlaw16.RulesShows" =some 3 by kernel_rfl).symm.trans hf) |>.symm
      obtain rfl:fn=Tryd.f3:=(qk (Tryd.func3.symm.trans hfn)).symm
      refine⟨by kernel_rfl,fun j t ht=>?_⟩
      rw[Tryd.params3]at ht
      have ht3:t=22\/t=9:=by
        rcases j with _|_|j
        · exact .inl (by simpa using ht.symm)
        · exact .inr ((by simpa using ht.symm))
        · simp at ht
      rcases ht3 with rfl|rfl
      · exact(show Tryd.prog.wantsStandIn 22=false by kernel_rfl)
      · exact(show Tryd.prog.wantsStandIn 9=false by kernel_rfl)
    )
    (by kernel_rfl)
#print axioms rulesShows_card
end Go.Proofs.YtcdaljipemapbaaDoor
