/- PROVED: CompileTrees returns true for every list of rules, and leaves its arguments as they were. Conditions: none. -/
import Derived.Test.YtdffpnabpoogbaaGreatDoorRows
import Derived.WalkKit
import Derived.WalkSpells
import Derived.WalkLawsBesides
import Derived.Deep.QuietTactic
import Derived.BigQuiet
import Derived.Lib.Hide
import Derived.Maps.OwnSet
import Derived.Deep.Quiet
import Derived.Deep.LoopGhost
import Derived.Deep.DeepCutAuto
import Derived.Deep.CutRange
import Derived.Laws.EntriesVeiled
import Derived.Laws.Small
import Derived.Maps.Own
import Derived.Maps.OwnOps
import Derived.Maps.Views
import Derived.StringKeys
import Derived.SizedLaws
import Derived.ProofKit
import Derived.OpenShut
import Derived.Deep.Slices
import Derived.ChangeSlices
import Derived.WideKeyArgs
import Derived.DeepKeys4
import Derived.Laws.IdiomCopy
import Derived.Laws.RangeAny
import Derived.Shelf.Abstract
import Derived.Laws.Bits64b
import Derived.Lib.TrailingZeros
import Derived.Laws.BitsLemmas
import Derived.Deep.CutBlock
import Derived.LaidEql
import Derived.Stop.Asserts
import Derived.RowKitTokens
import Derived.Laws.Tables
import Derived.LaidLaws
import Derived.LaidHandle
import Derived.Stop.Joined
import Derived.LaidSub
import Derived.Lib.LaidTab
import Derived.Test.YtdffpnabpoogbaaGreatDoorTie
import Derived.Test.YtdffpnabpoogbaaGreatDoorCards
import Derived.ChangeSame
import Derived.ChangeVars
import Derived.JoinedOf
import Derived.SevenTiedAt
import Derived.ChangeMaps5
import Derived.Test.YtdffpnabpoogbaaGreatDoorCTXW
namespace Go.Proofs.YtdffpnabpoogbaaGreatDoor
open Go.ChangeShapes Go.WideShapes Go.ChangeAt Go.RowKit Go.Cm

theorem own:ownKnob Tryz.prog.godebug=none:=by kernel_rfl
theorem laid:laidOutB Tryz.prog=true:=by kernel_rfl

set_option maxRecDepth 100000 in
theorem compileTrees_lifted(os:Os)(started:os.Started)(H:Type)(enc:TypeId×Value->H):
    ReturnsInHanded {} Tryz.checked os 3 .any (fun w args=>(Rows.compileTreesSpec.pre enc Tryz.prog Tryz.f3 Rows.compileTreesRow.domain false w args/\laidMetH Tryz.prog K7 w)/\sizedMet enc Tryz.prog Tryz.f3 (OpenSpec.ofChange Rows.compileTreesSpec) false w args) (Rows.compileTreesSpec.post enc Tryz.prog Tryz.f3 false true false false):=by
  refine returnsInHanded_of_change_and (C:=Tryz.checked) (X:=fun w _=>laidMetH Tryz.prog K7 w) (fun _ _ _ hh h=>h.of_heap hh) own started (by kernel_rfl) Tryz.func3
    (ChangeSpec.witness_at (enc:=enc) (C:=Tryz.checked) (os:=os) (X:=fun w _=>laidMetH Tryz.prog K7 w) false (q1f os) #[.slice none 0 0] 8 rfl (by kernel_rfl) (by kernel_rfl) (by kernel_rfl) (by kernel_rfl) (by kernel_rfl) (T7 os _)) ?_
  intro W base args ds gs before qdC hW _ hsz qea _
  have hLW:gJ W:=gJ.ofR qea
  have hTW:iZ W:=iZ.ofR qea
  have hval:∀(j:Nat) t v,Tryz.f3.params[j]? =some t->args[j]? =some v->Value.okWide Tryz.prog W .any base t v:=qdC
  have hW':=hW
  obtain⟨p,q,hA0,hV,rfl,hfz,hnd⟩:=hW
  have hA:DataW.TrodAll enc Tryz.prog W 0 (fun _=>true) true Tryz.f3.params.toList args.toList ds p:=hA0
  rw[Tryz.params3]at hA hval
  obtain⟨v0,d0,rfl,rfl,h0⟩:=trodAll_one hA
  obtain⟨rfl,rfl⟩:=trodVars_none hV
  have hw0:∀n∈d0.weights Tryz.prog 22,n<=reachBytes:=fun n hn=>by
    have:=List.all_eq_true.1 hsz n (DataW.weights_mem_each (j:=0) (t:=22) (by rw[Tryz.params3];rfl) rfl n hn)
    simpa using this
  obtain⟨l0,hl0,hf0⟩:=q1V (hval 0 22 v0 rfl rfl) h0 hw0
  clear hA0 qdC
  simp only[j4]at hW'
  have hlt:∀x∈p,x.block<W.heap.size:=fun x hx=>hW'.lt x (by simpa using hx)
  refine(K3 hLW hTW hl0 hf0).mono fun e W' ⟨he,hb⟩=>?_
  subst he
  have qdF:∀sp:Nat->Bool,(∀x∈p,sp x.block=true)->DataW.Trod enc Tryz.prog W' 0 sp true 22 _ d0 p:=fun sp hsp=>
    WideElems.Trod_stays laid (by kernel_rfl) (j9 (by kernel_rfl)) h0 (fun x hx=>hb.same (hlt x (by simp[hx]))) hsp
  exact⟨_,rfl,G9 (pa:=p) (pv:=[]) hW' (fun _ _ _=>trodAll_mk1 (shut_bool Tryz.underlying4 _)) (fun sp hsp=>trodAll_mk1 (qdF sp (fun x hx=>hsp x (by simp[hx])))) (fun _ _=>rfl) (by simp) hb (ok_one (by kernel_rfl) rfl (okWide_bool_mk Tryz.underlying4 _))⟩

theorem compileTrees_holds:Rows.CompileTreesSaid:=
  OpenClaim.holds_of_wide 3 Tryz.f3 rfl rfl rfl rfl rfl rfl rfl ⟨rfl,rfl,rfl,rfl,rfl⟩ rfl rfl rfl rfl rfl (by kernel_rfl) Tryz.func3 (by kernel_rfl)
    (j9 (by kernel_rfl)) (by unfold Func.isWrapper;first|(rw[qt (by decide+kernel)];kernel_rfl)|(rw[qr (by decide+kernel)];exact⟨rfl,rfl⟩))
    (fun os started H enc _=>compileTrees_lifted os started H enc)
theorem compileTrees_card:Rows.CompileTreesCardSaid:=
  Claim7.holds_tied_plain_at .later [] [.data,.handle,.sentinel,.sentinel,.sentinel,.sentinel,.sentinel] true (true,"a8565f1b3aee4c3ba910ee149bbd611269aa9ea6adbc4b47d258a8b7a5a7c3c8") true
    compileTrees_holds (fun _ h=>by cases h) (by kernel_rfl) (fun _ h=>by cases h) compileTrees_row_tie rfl ⟨rfl,rfl⟩ (by kernel_rfl) rfl
    (fun f fn hf hfn=>by
      obtain rfl:f=3:=qo ((show Tryz.prog.funcNamed "collimator/collimatorlaw22.CompileTrees" =some 3 by kernel_rfl).symm.trans hf) |>.symm
      obtain rfl:fn=Tryz.f3:=(qo (Tryz.func3.symm.trans hfn)).symm
      refine⟨by kernel_rfl,fun j t ht=>?_⟩
      rw[Tryz.params3]at ht
      have ht3:t=22:=by
        rcases j with _|j
        · exact by simpa using ht.symm
        · simp at ht
      rcases ht3 with rfl
      · exact(show Tryz.prog.wantsStandIn 22=false by kernel_rfl)
    )
    (by kernel_rfl)
#print axioms compileTrees_card
end Go.Proofs.YtdffpnabpoogbaaGreatDoor
