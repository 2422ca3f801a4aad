/- PROVED: GzipSums returns true for every bytes, place and bit, and leaves its arguments as they were. Conditions: none. -/
import Derived.Test.YtnelgjehpbjloaaGreatDoorRows
import Derived.WalkKit
import Derived.WalkSpells
import Derived.WalkLawsBesides
import Derived.Deep.QuietTactic
import Derived.BigQuiet
import Derived.Lib.Hide
import Derived.Laws.Small
import Derived.Deep.LoopGhost
import Derived.Laws.BitsLemmas
import Derived.Deep.DeepCutAuto
import Derived.Laws.IdiomStrings
import Derived.Deep.CutBlock
import Derived.Deep.CutRange
import Derived.LaidEql
import Derived.Stop.Asserts
import Derived.RowKitTokens
import Derived.Laws.BitsAllLaws
import Derived.Laws.Closers25b
import Derived.Laws.CopyOwn
import Derived.Laws.EntriesVeiled
import Derived.Shelf.Abstract
import Derived.WalkMore
import Derived.LaidLaws
import Derived.LaidHandle
import Derived.Stop.Joined
import Derived.SizedLaws
import Derived.ProofKit
import Derived.OpenShut
import Derived.Deep.Slices
import Derived.ChangeSlices
import Derived.WideKeyArgs
import Derived.Test.YtnelgjehpbjloaaGreatDoorTie
import Derived.Test.YtnelgjehpbjloaaGreatDoorCards
import Derived.ChangeSame
import Derived.ChangeVars
import Derived.JoinedOf
import Derived.SevenTiedAt
import Derived.ChangeMaps5
import Derived.Test.YtnelgjehpbjloaaGreatDoorGXU
namespace Go.Proofs.YtnelgjehpbjloaaGreatDoor
open Go.ChangeShapes Go.WideShapes Go.ChangeAt Go.RowKit Go.Cm

theorem own:ownKnob Tryz.prog.godebug=none:=by kernel_rfl
theorem laid:laidOutB Tryz.prog=true:=by kernel_rfl

set_option maxRecDepth 100000 in
theorem gzipSums_lifted(os:Os)(started:os.Started)(H:Type)(enc:TypeId×Value->H):
    ReturnsInHanded {} Tryz.checked os 5 .any (fun w args=>(Rows.gzipSumsSpec.pre enc Tryz.prog Tryz.f5 Rows.gzipSumsRow.domain false w args/\laidMetH Tryz.prog oD w)/\sizedMet enc Tryz.prog Tryz.f5 (OpenSpec.ofChange Rows.gzipSumsSpec) false w args) (Rows.gzipSumsSpec.post enc Tryz.prog Tryz.f5 false true false false):=by
  refine returnsInHanded_of_change_and (C:=Tryz.checked) (X:=fun w _=>laidMetH Tryz.prog oD w) (fun _ _ _ hh h=>h.of_heap hh) own started (by kernel_rfl) Tryz.func5
    (ChangeSpec.witness_at (enc:=enc) (C:=Tryz.checked) (os:=os) (X:=fun w _=>laidMetH Tryz.prog oD w) false (tK os) #[.string ⟨#[]⟩,.int .u8 0,.int .u8 0] 8 rfl (by kernel_rfl) (by kernel_rfl) (by kernel_rfl) (by kernel_rfl) (by kernel_rfl) (iN os _)) ?_
  intro W base args ds gs before q9p hW _ hsz q9X _
  have hLW:jK W:=jK.of q9X
  have hval:∀(j:Nat) t v,Tryz.f5.params[j]? =some t->args[j]? =some v->Value.okWide Tryz.prog W .any base t v:=q9p
  have hW':=hW
  obtain⟨p,q,hA0,hV,rfl,hfz,hnd⟩:=hW
  have hA:DataW.TrodAll enc Tryz.prog W 0 (fun _=>true) true Tryz.f5.params.toList args.toList ds p:=hA0
  rw[Tryz.params5]at hA hval
  obtain⟨v0,v1,v2,d0,d1,d2,p0,p1,p2,rfl,rfl,rfl,h0,h1,h2⟩:=trodAll_three hA
  obtain⟨rfl,rfl⟩:=trodVars_none hV
  obtain⟨s0,rfl,rfl,rfl,-⟩:=Go.ChangeMaps.open_string Tryz.underlying9 (hval 0 9 v0 rfl rfl) h0
  have hs0:s0.size<=140737488351232:=by
    have:=sized_string hsz (j:=0) (t:=9) (bytes:=s0.data.toList) (by rw[Tryz.params5];rfl) rfl
    rw[oF]at this
    simpa using this
  obtain⟨m1,rfl,rfl,rfl,qgf⟩:=open_int Tryz.underlying5 (hval 1 5 v1 rfl rfl) h1
  have hm1:0<=m1/\m1<=255:=by
    simpa[Lit.wf,IntKind.min,IntKind.max,IntKind.signed,IntKind.bits]using qgf
  obtain⟨n1,rfl⟩:=Int.eq_ofNat_of_zero_le hm1.1
  obtain⟨m2,rfl,rfl,rfl,qge⟩:=open_int Tryz.underlying5 (hval 2 5 v2 rfl rfl) h2
  have hm2:0<=m2/\m2<=255:=by
    simpa[Lit.wf,IntKind.min,IntKind.max,IntKind.signed,IntKind.bits]using qge
  obtain⟨n2,rfl⟩:=Int.eq_ofNat_of_zero_le hm2.1
  clear hA0 q9p
  simp only[List.append_nil]at hW'
  refine(q3F (by omega) (by omega) (by omega) hLW).mono fun e W' ⟨he,x,hw⟩=>?_
  subst he
  have hb:Below W.heap.size W W':=hw▸qu W x
  exact⟨_,rfl,eT (pa:=[]++([]++[])) (pv:=[]) hW' (fun _ _ _=>trodAll_mk1 (shut_bool Tryz.underlying4 _)) (fun sp hsp=>trodAll_mk3 (Go.ChangeMaps.shut_string Tryz.underlying9 (by unfold maxLen;omega)) (shut_int Tryz.underlying5 qgf) (shut_int Tryz.underlying5 qge)) (fun _ _=>rfl) (by simp) hb (ok_one (by kernel_rfl) rfl (okWide_bool_mk Tryz.underlying4 _))⟩

theorem gzipSums_holds:Rows.GzipSumsSaid:=
  OpenClaim.holds_of_wide 5 Tryz.f5 rfl rfl rfl rfl rfl rfl rfl ⟨rfl,rfl,rfl,rfl,rfl⟩ rfl rfl rfl rfl rfl (by kernel_rfl) Tryz.func5 (by kernel_rfl)
    (of_decide_eq_true (by kernel_rfl)) (by unfold Func.isWrapper;first|(rw[if_pos (by decide+kernel)];kernel_rfl)|(rw[if_neg (by decide+kernel)];exact⟨rfl,rfl⟩))
    (fun os started H enc _=>gzipSums_lifted os started H enc)
theorem gzipSums_card:Rows.GzipSumsCardSaid:=
  Claim7.holds_tied_plain_at .later [] [.handle,.sentinel,.sentinel,.sentinel,.sentinel,.sentinel] true (true,"249f5f2d5cf8b9bcb553b74af1e856ccd92d0694cce8b37b30168555f4eca119") true
    gzipSums_holds (fun _ h=>by cases h) (by kernel_rfl) (fun _ h=>by cases h) gzipSums_row_tie rfl ⟨rfl,rfl⟩ (by kernel_rfl) rfl
    (fun f fn hf hfn=>by
      obtain rfl:f=5:=ql ((show Tryz.prog.funcNamed "collimator/collimatorlaw13.GzipSums" =some 5 by kernel_rfl).symm.trans hf) |>.symm
      obtain rfl:fn=Tryz.f5:=(ql (Tryz.func5.symm.trans hfn)).symm
      refine⟨by kernel_rfl,fun j t ht=>?_⟩
      rw[Tryz.params5]at ht
      have ht3:t=9\/t=5\/t=5:=by
        rcases j with _|_|_|j
        · exact .inl (by simpa using ht.symm)
        · exact .inr (.inl (by simpa using ht.symm))
        · exact .inr (.inr ((by simpa using ht.symm)))
        · simp at ht
      rcases ht3 with rfl|rfl|rfl
      · exact(show Tryz.prog.wantsStandIn 9=false by kernel_rfl)
      · exact(show Tryz.prog.wantsStandIn 5=false by kernel_rfl)
      · exact(show Tryz.prog.wantsStandIn 5=false by kernel_rfl)
    )
    (by kernel_rfl)
#print axioms gzipSums_card
end Go.Proofs.YtnelgjehpbjloaaGreatDoor
