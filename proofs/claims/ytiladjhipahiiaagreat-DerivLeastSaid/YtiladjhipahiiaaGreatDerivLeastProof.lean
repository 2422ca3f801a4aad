/- PROVED: DerivLeast returns true for every list of trees, and leaves its argument as it was. Conditions: none. -/
import Derived.Test.YtiladjhipahiiaaGreatRows
import Derived.WalkKit
import Derived.WalkSpells
import Derived.WalkLawsBesides
import Derived.Deep.QuietTactic
import Derived.BigQuiet
import Derived.Lib.Hide
import Derived.Deep.LoopGhost
import Derived.Deep.DeepCutAuto
import Derived.Deep.CutRange
import Derived.Laws.EntriesVeiled
import Derived.Laws.Small
import Derived.Maps.Own
import Derived.Maps.OwnOps
import Derived.Maps.OwnSet
import Derived.Maps.Views
import Derived.Laws.Bits64b
import Derived.Lib.TrailingZeros
import Derived.Shelf.Abstract
import Derived.Deep.Quiet
import Derived.StringKeys
import Derived.SizedLaws
import Derived.ProofKit
import Derived.OpenShut
import Derived.Deep.Slices
import Derived.ChangeSlices
import Derived.WideKeyArgs
import Derived.DeepKeys4
import Derived.Laws.IdiomCopy
import Derived.Laws.Tables
import Derived.Laws.RangeAny
import Derived.Laws.BitsLemmas
import Derived.Deep.CutBlock
import Derived.LaidEql
import Derived.Stop.Asserts
import Derived.RowKitTokens
import Derived.ChangeMaps5
import Derived.Test.YtiladjhipahiiaaGreatDLXO
namespace Go.Proofs.YtiladjhipahiiaaGreat
open Go.ChangeShapes Go.WideShapes Go.ChangeAt Go.RowKit Go.Cm

theorem own:ownKnob Tryz.prog.godebug=none:=by kernel_rfl
theorem laid:laidOutB Tryz.prog=true:=by kernel_rfl

set_option maxRecDepth 100000 in
theorem derivLeast_lifted(os:Os)(started:os.Started)(H:Type)(enc:TypeId×Value->H):
    ReturnsInHanded {} Tryz.checked os 3 .any (Rows.derivLeastSpec.pre6 enc Tryz.prog Tryz.f3 Rows.derivLeastRow.domain false) (Rows.derivLeastSpec.post enc Tryz.prog Tryz.f3 false true false false):=by
  refine returnsInHanded_of_change_sized (C:=Tryz.checked) own started (by kernel_rfl) Tryz.func3
    (ChangeSpec.witness6 (enc:=enc) (C:=Tryz.checked) false ⟨#[],#[.slice none 0 0],[]⟩ 8 (by kernel_rfl) (by kernel_rfl) (by kernel_rfl) (by kernel_rfl)) ?_
  intro W base args ds gs before qeO hW _ hsz _
  have hval:∀(j:Nat) t v,Tryz.f3.params[j]? =some t->args[j]? =some v->Value.okWide Tryz.prog W .any base t v:=qeO
  have hW':=hW
  obtain⟨p,q,hA0,hV,rfl,hfz,hnd⟩:=hW
  have hA:DataW.TrodAll enc Tryz.prog W 0 (fun _=>true) true Tryz.f3.params.toList args.toList ds p:=hA0
  rw[Tryz.params3]at hA hval
  obtain⟨v0,d0,rfl,rfl,h0⟩:=trodAll_one hA
  obtain⟨rfl,rfl⟩:=trodVars_none hV
  have hw0:∀n∈d0.weights Tryz.prog 22,n<=reachBytes:=fun n hn=>by
    have:=List.all_eq_true.1 hsz n (DataW.weights_mem_each (j:=0) (t:=22) (by rw[Tryz.params3];rfl) rfl n hn)
    simpa using this
  obtain⟨ll,hd,hq⟩:=q3y (hval 0 22 v0 rfl rfl) h0 hw0
  clear hA0 qeO
  simp only[j7]at hW'
  have hlt:∀x∈p,x.block<W.heap.size:=fun x hx=>hW'.lt x hx
  refine(q3W hd hq).mono fun e W' ⟨he,x,hw⟩=>?_
  subst he
  have hb:Below W.heap.size W W':=hw▸aE W x
  have qgq:∀sp:Nat->Bool,(∀x∈p,sp x.block=true)->DataW.Trod enc Tryz.prog W' 0 sp true 22 v0 d0 p:=fun sp hsp=>
    WideElems.Trod_stays laid (by kernel_rfl) (jc (by kernel_rfl)) h0 (fun x hx=>hb.same (hlt x hx)) hsp
  exact⟨_,rfl,V4 (pa:=p) (pv:=[]) hW' (fun _ _ _=>trodAll_mk1 (shut_bool Tryz.underlying4 _)) (fun sp hsp=>trodAll_mk1 (qgq sp hsp)) (fun _ _=>rfl) (by simp) hb (ok_one (by kernel_rfl) rfl (okWide_bool_mk Tryz.underlying4 _))⟩

theorem derivLeast_holds:Rows.DerivLeastSaid:=
  OpenClaim.holds_of_wide 3 Tryz.f3 rfl rfl rfl rfl rfl rfl rfl ⟨rfl,rfl,rfl,rfl,rfl⟩ rfl rfl rfl rfl rfl (by kernel_rfl) Tryz.func3 (by kernel_rfl)
    (jc (by kernel_rfl)) (by unfold Func.isWrapper;first|(rw[qw (by decide+kernel)];kernel_rfl)|(rw[qv (by decide+kernel)];exact⟨rfl,rfl⟩))
    (fun os started H enc _=>derivLeast_lifted os started H enc)
#print axioms derivLeast_holds
end Go.Proofs.YtiladjhipahiiaaGreat
