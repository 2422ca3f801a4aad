/- PROVED: GzipBack returns true for every case, and leaves its arguments as they were. Conditions: none. -/
import Derived.Test.YtnelgjehpbjloaaGreatDoorRows
import Derived.WalkKit
import Derived.WalkSpells
import Derived.WalkLawsBesides
import Derived.Deep.QuietTactic
import Derived.BigQuiet
import Derived.Lib.Hide
import Derived.Laws.Small
import Derived.Deep.LoopGhost
import Derived.Laws.BitsLemmas
import Derived.Deep.DeepCutAuto
import Derived.Laws.IdiomStrings
import Derived.Deep.CutBlock
import Derived.Deep.CutRange
import Derived.LaidEql
import Derived.Stop.Asserts
import Derived.RowKitTokens
import Derived.Laws.BitsAllLaws
import Derived.Laws.Closers25b
import Derived.Laws.CopyOwn
import Derived.Laws.EntriesVeiled
import Derived.Shelf.Abstract
import Derived.WalkMore
import Derived.SizedLaws
import Derived.ProofKit
import Derived.OpenShut
import Derived.Deep.Slices
import Derived.ChangeSlices
import Derived.WideKeyArgs
import Derived.LaidLaws
import Derived.LaidHandle
import Derived.Stop.Joined
import Derived.Test.YtnelgjehpbjloaaGreatDoorTie
import Derived.Test.YtnelgjehpbjloaaGreatDoorCards
import Derived.ChangeSame
import Derived.ChangeVars
import Derived.JoinedOf
import Derived.SevenTiedAt
import Derived.ChangeMaps5
import Derived.Test.YtnelgjehpbjloaaGreatDoorGXV
namespace Go.Proofs.YtnelgjehpbjloaaGreatDoor
open Go.ChangeShapes Go.WideShapes Go.ChangeAt Go.RowKit Go.Cm

theorem own:ownKnob Tryz.prog.godebug=none:=by kernel_rfl
theorem laid:laidOutB Tryz.prog=true:=by kernel_rfl

set_option maxRecDepth 100000 in
theorem gzipBack_lifted(os:Os)(started:os.Started)(H:Type)(enc:TypeId×Value->H):
    ReturnsInHanded {} Tryz.checked os 4 .any (fun w args=>(Rows.gzipBackSpec.pre enc Tryz.prog Tryz.f4 Rows.gzipBackRow.domain false w args/\laidMetH Tryz.prog oD w)/\sizedMet enc Tryz.prog Tryz.f4 (OpenSpec.ofChange Rows.gzipBackSpec) false w args) (Rows.gzipBackSpec.post enc Tryz.prog Tryz.f4 false true false false):=by
  refine returnsInHanded_of_change_and (C:=Tryz.checked) (X:=fun w _=>laidMetH Tryz.prog oD w) (fun _ _ _ hh h=>h.of_heap hh) own started (by kernel_rfl) Tryz.func4
    (ChangeSpec.witness_at (enc:=enc) (C:=Tryz.checked) (os:=os) (X:=fun w _=>laidMetH Tryz.prog oD w) false (tK os) #[.agg #[.int .i64 0,.string ⟨#[]⟩,.string ⟨#[]⟩,.string ⟨#[]⟩,.int .i64 0,.int .i64 0,.bool false,.bool false,.int .i64 0,.slice none 0 0,.int .i64 0,.string ⟨#[]⟩]] 8 rfl (by kernel_rfl) (by kernel_rfl) (by kernel_rfl) (by kernel_rfl) (by kernel_rfl) (iN os _)) ?_
  intro W base args ds gs before q9p hW _ hsz q9X _
  have hLW:jK W:=jK.of q9X
  have hval:∀(j:Nat) t v,Tryz.f4.params[j]? =some t->args[j]? =some v->Value.okWide Tryz.prog W .any base t v:=q9p
  have hW':=hW
  obtain⟨p,q,hA0,hV,rfl,hfz,hnd⟩:=hW
  have hA:DataW.TrodAll enc Tryz.prog W 0 (fun _=>true) true Tryz.f4.params.toList args.toList ds p:=hA0
  rw[Tryz.params4]at hA hval
  obtain⟨v0,d0,rfl,rfl,h0⟩:=trodAll_one hA
  obtain⟨rfl,rfl⟩:=trodVars_none hV
  have hw0:∀n∈d0.weights Tryz.prog 34,n<=reachBytes:=fun n hn=>by
    have:=List.all_eq_true.1 hsz n (DataW.weights_mem_each (j:=0) (t:=34) (by rw[Tryz.params4];rfl) rfl n hn)
    simpa using this
  obtain⟨hh,vl,ll,kc,cx,rfl,qew,hd1,hq1,qeq,hk1,hk2,hcx⟩:=X6 (hval 0 34 v0 rfl rfl) h0 hw0
  clear hA0 q9p
  simp only[List.append_nil]at hW'
  have hlt:∀x∈p,x.block<W.heap.size:=fun x hx=>hW'.lt x (by simpa using hx)
  refine(q3I hLW qew hd1 hq1 qeq ⟨hk1,hk2⟩ hcx).mono fun e W' ⟨he,x,hw⟩=>?_
  subst he
  have hb:Below W.heap.size W W':=hw▸qu W x
  have qam:∀sp:Nat->Bool,(∀x∈p,sp x.block=true)->DataW.Trod enc Tryz.prog W' 0 sp true 34 _ d0 p:=fun sp hsp=>
    WideElems.Trod_stays laid (by kernel_rfl) (of_decide_eq_true (by kernel_rfl)) h0 (fun x hx=>hb.same (hlt x (by simp[hx]))) hsp
  exact⟨_,rfl,eT (pa:=p) (pv:=[]) hW' (fun _ _ _=>trodAll_mk1 (shut_bool Tryz.underlying4 _)) (fun sp hsp=>trodAll_mk1 (qam sp (fun x hx=>hsp x (by simp[hx])))) (fun _ _=>rfl) (by simp) hb (ok_one (by kernel_rfl) rfl (okWide_bool_mk Tryz.underlying4 _))⟩

theorem gzipBack_holds:Rows.GzipBackSaid:=
  OpenClaim.holds_of_wide 4 Tryz.f4 rfl rfl rfl rfl rfl rfl rfl ⟨rfl,rfl,rfl,rfl,rfl⟩ rfl rfl rfl rfl rfl (by kernel_rfl) Tryz.func4 (by kernel_rfl)
    (of_decide_eq_true (by kernel_rfl)) (by unfold Func.isWrapper;first|(rw[if_pos (by decide+kernel)];kernel_rfl)|(rw[if_neg (by decide+kernel)];exact⟨rfl,rfl⟩))
    (fun os started H enc _=>gzipBack_lifted os started H enc)
theorem gzipBack_card:Rows.GzipBackCardSaid:=
  Claim7.holds_tied_plain_at .later [] [.handle,.sentinel,.sentinel,.sentinel,.sentinel,.sentinel] true (true,"249f5f2d5cf8b9bcb553b74af1e856ccd92d0694cce8b37b30168555f4eca119") true
    gzipBack_holds (fun _ h=>by cases h) (by kernel_rfl) (fun _ h=>by cases h) gzipBack_row_tie rfl ⟨rfl,rfl⟩ (by kernel_rfl) rfl
    (fun f fn hf hfn=>by
      obtain rfl:f=4:=ql ((show Tryz.prog.funcNamed "collimator/collimatorlaw13.GzipBack" =some 4 by kernel_rfl).symm.trans hf) |>.symm
      obtain rfl:fn=Tryz.f4:=(ql (Tryz.func4.symm.trans hfn)).symm
      refine⟨by kernel_rfl,fun j t ht=>?_⟩
      rw[Tryz.params4]at ht
      have ht3:t=34:=by
        rcases j with _|j
        · exact by simpa using ht.symm
        · simp at ht
      rcases ht3 with rfl
      · exact(show Tryz.prog.wantsStandIn 34=false by kernel_rfl)
    )
    (by kernel_rfl)
#print axioms gzipBack_card
end Go.Proofs.YtnelgjehpbjloaaGreatDoor
