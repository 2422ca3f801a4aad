/- PROVED: DerivMakes returns true for every list of trees and every text, and leaves its arguments as they were. Conditions: none. -/
import Derived.Test.YtiladjhipahiiaaRows
import Derived.WalkKit
import Derived.WalkSpells
import Derived.WalkLawsBesides
import Derived.Deep.QuietTactic
import Derived.BigQuiet
import Derived.Lib.Hide
import Derived.Deep.LoopGhost
import Derived.Deep.DeepCutAuto
import Derived.Deep.CutRange
import Derived.Laws.EntriesVeiled
import Derived.Laws.Small
import Derived.Maps.Own
import Derived.Maps.OwnOps
import Derived.Maps.OwnSet
import Derived.Maps.Views
import Derived.Laws.Bits64b
import Derived.Lib.TrailingZeros
import Derived.Shelf.Abstract
import Derived.Deep.Quiet
import Derived.StringKeys
import Derived.SizedLaws
import Derived.ProofKit
import Derived.OpenShut
import Derived.Deep.Slices
import Derived.ChangeSlices
import Derived.WideKeyArgs
import Derived.DeepKeys4
import Derived.Laws.IdiomCopy
import Derived.Laws.Tables
import Derived.Laws.RangeAny
import Derived.Laws.BitsLemmas
import Derived.Deep.CutBlock
import Derived.LaidEql
import Derived.Stop.Asserts
import Derived.RowKitTokens
import Derived.ChangeMaps5
import Derived.Test.YtiladjhipahiiaaDMXN
namespace Go.Proofs.Ytiladjhipahiiaa
open Go.ChangeShapes Go.WideShapes Go.ChangeAt Go.RowKit Go.Cm

theorem own:ownKnob Try.prog.godebug=none:=by kernel_rfl
theorem laid:laidOutB Try.prog=true:=by kernel_rfl

set_option maxRecDepth 100000 in
theorem derivMakes_lifted(os:Os)(started:os.Started)(H:Type)(enc:TypeId×Value->H):
    ReturnsInHanded {} Try.checked os 3 .any (Rows.derivMakesSpec.pre6 enc Try.prog Try.f3 Rows.derivMakesRow.domain false) (Rows.derivMakesSpec.post enc Try.prog Try.f3 false true false false):=by
  refine returnsInHanded_of_change_sized (C:=Try.checked) own started (by kernel_rfl) Try.func3
    (ChangeSpec.witness6 (enc:=enc) (C:=Try.checked) false ⟨#[],#[.slice none 0 0,.string ⟨#[]⟩],[]⟩ 8 (by kernel_rfl) (by kernel_rfl) (by kernel_rfl) (by kernel_rfl)) ?_
  intro W base args ds gs before q7A hW _ hsz _
  have hval:∀(j:Nat) t v,Try.f3.params[j]? =some t->args[j]? =some v->Value.okWide Try.prog W .any base t v:=q7A
  have hW':=hW
  obtain⟨p,q,hA0,hV,rfl,hfz,hnd⟩:=hW
  have hA:DataW.TrodAll enc Try.prog W 0 (fun _=>true) true Try.f3.params.toList args.toList ds p:=hA0
  rw[Try.params3]at hA hval
  obtain⟨v0,v1,d0,d1,p0,p1,rfl,rfl,rfl,h0,h1⟩:=trodAll_two hA
  obtain⟨rfl,rfl⟩:=trodVars_none hV
  obtain⟨s,rfl,rfl,rfl,-⟩:=Go.ChangeMaps.open_string Try.underlying9 (hval 1 9 v1 rfl rfl) h1
  have q7m:s.size<=140737488351232:=by
    have:=sized_string hsz (j:=1) (t:=9) (bytes:=s.data.toList) (by rw[Try.params3];rfl) rfl
    rw[vR]at this
    simpa using this
  have hw0:∀n∈d0.weights Try.prog 22,n<=reachBytes:=fun n hn=>by
    have:=List.all_eq_true.1 hsz n (DataW.weights_mem_each (j:=0) (t:=22) (by rw[Try.params3];rfl) rfl n hn)
    simpa using this
  obtain⟨ll,hd,hq⟩:=L0 (hval 0 22 v0 rfl rfl) h0 hw0
  clear hA0 q7A
  simp only[j6]at hW'
  have hlt:∀x∈p0,x.block<W.heap.size:=fun x hx=>hW'.lt x (by simp[hx])
  refine(L7 hd hq s q7m).mono fun e W' ⟨he,x,hw⟩=>?_
  subst he
  have hb:Below W.heap.size W W':=hw▸aC W x
  have q8N:∀sp:Nat->Bool,(∀x∈p0,sp x.block=true)->DataW.Trod enc Try.prog W' 0 sp true 22 v0 d0 p0:=fun sp hsp=>
    WideElems.Trod_stays laid (by kernel_rfl) (jb (by kernel_rfl)) h0 (fun x hx=>hb.same (hlt x hx)) hsp
  exact⟨_,rfl,vP (pa:=p0++[]) (pv:=[]) hW' (fun _ _ _=>trodAll_mk1 (shut_bool Try.underlying4 _)) (fun sp hsp=>trodAll_mk2 (q8N sp (fun x hx=>hsp x (by simp[hx]))) (Go.ChangeMaps.shut_string Try.underlying9 (by unfold maxLen;omega))) (fun _ _=>rfl) (by simp) hb (ok_one (by kernel_rfl) rfl (okWide_bool_mk Try.underlying4 _))⟩

theorem derivMakes_holds:Rows.DerivMakesSaid:=
  OpenClaim.holds_of_wide 3 Try.f3 rfl rfl rfl rfl rfl rfl rfl ⟨rfl,rfl,rfl,rfl,rfl⟩ rfl rfl rfl rfl rfl (by kernel_rfl) Try.func3 (by kernel_rfl)
    (jb (by kernel_rfl)) (by unfold Func.isWrapper;first|(rw[qv (by decide+kernel)];kernel_rfl)|(rw[qu (by decide+kernel)];exact⟨rfl,rfl⟩))
    (fun os started H enc _=>derivMakes_lifted os started H enc)
#print axioms derivMakes_holds
end Go.Proofs.Ytiladjhipahiiaa
