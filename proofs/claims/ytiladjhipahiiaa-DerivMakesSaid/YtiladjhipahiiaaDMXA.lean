/- Walks of functions and plain facts, joined and squeezed by a program. Conditions: as each says. -/
import Derived.Test.YtiladjhipahiiaaRows
import Derived.WalkKit
import Derived.WalkSpells
import Derived.WalkLawsBesides
import Derived.Deep.QuietTactic
import Derived.BigQuiet
import Derived.Lib.Hide
import Derived.Laws.Small
import Derived.Maps.OwnSet
import Derived.Deep.Quiet
import Derived.Maps.Own
import Derived.Maps.OwnOps
import Derived.Maps.Views
import Derived.SizedLaws
import Derived.ProofKit
import Derived.OpenShut
import Derived.Deep.Slices
import Derived.ChangeSlices
import Derived.WideKeyArgs
import Derived.Laws.IdiomCopy
import Derived.Laws.BitsLemmas
import Derived.LaidEql
import Derived.Stop.Asserts
import Derived.RowKitTokens
import Derived.Test.YtiladjhipahiiaaDMX0
set_option maxHeartbeats 8000000
set_option maxRecDepth 100000
set_option linter.unusedSimpArgs false
open Go.Proofs.Try
namespace Go.Cm
open Go.RowKit
theorem ZmA0{P:Prop}(h:P:=by
 go_wp2
 all_goals go_ret
 all_goals exact⟨fK (cG HF.o).symm,(aF aS)⟩):P:=h
theorem ZmA1{P:Prop}(h:P:=by
 clear hok;go_enter func8,ntmps8;go_wp2
 all_goals go_ret
 all_goals exact⟨fK (cG HF.o).symm,(aF aS)⟩):P:=h
theorem ZmA2{P:Prop}(h:P:=by cases oa<;>simp[Builtin.append_,run_underlying ht,sizeOf,typeInfo,hi,Builtin.lenOf,Builtin.firstCells,loadCells,loadCellsFrom,hnc,storeCells]):P:=h
theorem ZmA3{P:Prop}(h:P:=by cases oa<;>simp[Builtin.append_,run_underlying ht,sizeOf,typeInfo,hi,Builtin.lenOf,Builtin.firstCells,loadCells,loadCellsFrom]):P:=h
theorem ZmA4{P:Prop}(h:P:=by
 rename_i hw
 simp only[hw,jH]at h1;rcases h1 with h1|⟨-,h1⟩
 ·exact .inl (mQ (fun _ _ _ h=>h) rJ h1)
 exact(rJ h1).elim):P:=h
theorem ZmA5{P:Prop}(h:P:=by simp[Instr.entryStore,MapKept.run_getObj_map hb1,hfi,asInt,asIntOf,Result.andThen,MapKept.run_setObj_map _ hb1,hw2]):P:=h
theorem ZmA6{P:Prop}(h:P:=by rw[List.nodup_append];exact⟨hnd,by simp,fun x hx y hy e=>hn (by simp at hy;rw[<-hy,<-e];exact hx)⟩):P:=h
theorem ZmA7{P:Prop}(h:P:=by have hlt:=h.lt;obtain⟨es,clock,hb,r⟩:=h;exact⟨es,clock,(hg.block b hlt hne).trans hb,r⟩):P:=h
theorem ZmA8{P:Prop}(h:P:=by
 go_wp2
 all_goals go_ret
 all_goals exact⟨fK (cG fun hv=>hy (HX.o hv)).symm,(aF aS)⟩):P:=h
theorem ZmA9{P:Prop}(h:P:=by obtain⟨vs,h1,h2,h3⟩:=h;exact⟨vs,h1.up hb,h2,fun i hi=>(h3 i hi).up hb⟩):P:=h
theorem ZmA10{P:Prop}(h:P:=by obtain⟨es,clock,hb,-⟩:=h;exact(Array.getElem?_eq_some_iff.1 hb).1):P:=h
theorem ZmA11{P:Prop}(h:P:=by unfold isAgg;rw[Sem.run_bind,run_underlying hu w];cases d<;>simp_all):P:=h
theorem ZmA12{P:Prop}(h:P:=by
 have:(ints cl).length=256:=by rw[bE,h]
 rw[qt,jh (by omega),this];rfl):P:=h
noncomputable def ext(w x:World):World:=@ite _ (Below w.heap.size w x) (Classical.propDecidable _) x w
theorem aC(w x:World):Below w.heap.size w (ext w x):=by
 unfold ext;split
 ·assumption
 exact qn _ _
theorem q35{w x:World}(h:Below w.heap.size w x):ext w x=x:=by
 unfold ext;rw[qv h]
theorem aF{w x:World}(h:Below w.heap.size w x):∃y,x=ext w y:=⟨x,(q35 h).symm⟩
theorem aE{w w':World}(h:∃x,w'=ext w x):Below w.heap.size w w':=by
 obtain⟨x,rfl⟩:=h;exact aC w x
theorem aW(w:World)(n:Nat):Below w.heap.size w (w.drewN n):=⟨rfl,rfl,rfl,qb _,fun _ _=>rfl⟩
theorem dK{w x y:World}(h:Below w.heap.size w x)(k:Below x.heap.size x y):Below w.heap.size w y:=h.trans (k.mono h.size)
theorem yI(w x y:World):∃z,ext (ext w x) y=ext w z:=aF (dK (aC w x) (aC _ y))
theorem aB(w:World)(o:Obj):Below w.heap.size w (w.alloc o):=(qn _ _).alloc (qb _) o
theorem cB(w:World):∃x,w=ext w x:=aF (qn _ _)
@[go_sem] theorem cell?_ext(w x:World)(b o:Nat)(h:b<w.heap.size):(ext w x).cell? ⟨b,o,none⟩=w.cell? ⟨b,o,none⟩:=(aC w x).cell (p:=⟨b,o,none⟩) h
@[go_sem] theorem frozen?_ext(w x:World)(b o:Nat)(h:b<w.heap.size):(ext w x).frozen? ⟨b,o,none⟩=w.frozen? ⟨b,o,none⟩:=(aC w x).frozen (p:=⟨b,o,none⟩) h
theorem fX(w x:World):w.heap.size<=(ext w x).heap.size:=(aC w x).size
theorem zV(w x:World)(b:Nat)(h:b<w.heap.size):(ext w x).heap[b]? =w.heap[b]? :=(aC w x).block b h
@[go_sem] theorem cell?_ext_alloc_old(w x:World)(a:Obj)(b o:Nat)(h:b<w.heap.size):(ext (w.alloc a) x).cell? ⟨b,o,none⟩=w.cell? ⟨b,o,none⟩:=by
 rw[cell?_ext _ _ _ _ (by simp;omega),World.cell?_alloc_past _ _ _ h]
@[go_sem] theorem cell?_ext_alloc_new(w x:World)(c:Array Value)(t:TypeId)(o:Nat):(ext (w.alloc (.cells c t)) x).cell? ⟨w.heap.size,o,none⟩=c[o]? :=by
 rw[cell?_ext _ _ _ _ (by simp),World.cell?_alloc_new]
structure Hd(w:World)(oa:Option Addr)(len cap b off:Nat):Prop where
 hat:0<len->oa=some ⟨b,off,none⟩
 hcap:len<=cap
 hmax:cap<=maxLen
 hsml:len<=140737488351232
 hblk:0<len->b<w.heap.size
theorem Hd.len{w:World}{oa:Option Addr}{len cap b off:Nat}(h:Hd w oa len cap b off):len<=9223372036854775807:=by
 have h1:=h.hsml;omega
def Sl(w:World)(v:Value)(l:List Value):Prop:=
 ∃oa cap b off,v=.slice oa l.length cap/\Hd w oa l.length cap b off/\∀i,i<l.length->w.cell? ⟨b,off+i,none⟩=some (l.getD i undef)
theorem Sl.up{w w':World}{v:Value}{l:List Value}(h:Sl w v l)(hb:Below w.heap.size w w'):Sl w' v l:=by
 obtain⟨oa,cap,b,off,rfl,hd,hc⟩:=h;refine⟨oa,cap,b,off,rfl,⟨hd.hat,hd.hcap,hd.hmax,hd.hsml,fun h=>qe (hd.hblk h) hb.size⟩,fun i hi=>?_⟩;rw[hb.cell (p:=⟨b,off+i,none⟩) (hd.hblk (by omega))];exact hc i hi
theorem Sl.nil(w:World):Sl w (.slice none 0 0) []:=⟨none,0,0,0,rfl,⟨fun h=>absurd h (jI 0),qb _,by simp[maxLen],by simp,fun h=>absurd h (jI 0)⟩,fun i hi=>absurd hi (qB i)⟩
theorem aZ{P:Program}{w:World}{oa:Option Addr}{b off len cap:Nat}(T E:TypeId)(hT:P.underlying T=some (.slice E))(hE:(P.info? E).map (·.size)=some 1)(h:Hd w oa len cap b off):
  ∀(W:World) (k:IntKind) (i:Int),0<=i->i<len->(Instr.indexAt T (.slice oa len cap) (.int k i)).run P W=.ok (.pointer (some ⟨b,off+i.toNat,none⟩)) W:=by
 intro W k i h0 h1;rw[h.hat (by omega)];have he:P.elem T=E:=by simp[Program.elem,hT]
 rw[run_indexAt_slice W T ⟨b,off,none⟩ len cap k i (by rw[he];exact hT),qv ⟨h0,h1⟩,he];cases hq:P.info? E with
 |none=>simp[hq]at hE
 |some inf=>
  have hs:inf.size=1:=by simpa[hq]using hE
  simp[sizeOf,typeInfo,hq,hs,Result.andThen,Addr.add]
def ints(l:List Int):List Value:=l.map (Value.int .i64)
@[simp] theorem bE(l:List Int):(ints l).length=l.length:=by simp[ints]
theorem rI(l:List Int)(i:Nat)(h:i<l.length):(ints l).getD i undef=.int .i64 (l.getD i 0):=by
 simp[ints,List.getD,h]
def fN(w:World)(v:Value)(l:List Int):Prop:=Sl w v (ints l)
theorem fN.up{w w':World}{v:Value}{l:List Int}(h:fN w v l)(hb:Below w.heap.size w w'):fN w' v l:=Sl.up h hb
theorem fN.open{w:World}{v:Value}{l:List Int}(h:fN w v l):
  ∃oa cap b off,v=.slice oa l.length cap/\Hd w oa l.length cap b off/\∀i,i<l.length->w.cell? ⟨b,off+i,none⟩=some (.int .i64 (l.getD i 0)):=by
 obtain⟨oa,cap,b,off,rfl,hd,hc⟩:=h;simp only[bE]at hd hc⊢;exact⟨oa,cap,b,off,rfl,hd,fun i hi=>by rw[hc i hi,rI l i hi]⟩
def mC(w:World)(v:Value)(ll:List (List Int)):Prop:=
 ∃vs,Sl w v vs/\vs.length=ll.length/\∀i,i<ll.length->fN w (vs.getD i undef) (ll.getD i [])
theorem mC.up{w w':World}{v:Value}{l:List (List Int)}(h:mC w v l)(hb:Below w.heap.size w w'):mC w' v l:=by
 exact ZmA9
theorem mC.open{w:World}{v:Value}{ll:List (List Int)}(h:mC w v ll):
  ∃oa cap b off,v=.slice oa ll.length cap/\Hd w oa ll.length cap b off/\∀i,i<ll.length->
   ∃oi ci bi fi,w.cell? ⟨b,off+i,none⟩=some (.slice oi (ll.getD i []).length ci)/\Hd w oi (ll.getD i []).length ci bi fi/\
    (∀j,j<(ll.getD i []).length->w.cell? ⟨bi,fi+j,none⟩=some (.int .i64 ((ll.getD i []).getD j 0)))/\fN w (.slice oi (ll.getD i []).length ci) (ll.getD i []):=by
 obtain⟨vs,⟨oa,cap,b,off,rfl,hd,hc⟩,h2,h3⟩:=h;rw[h2]at hd hc⊢;refine⟨oa,cap,b,off,rfl,hd,fun i hi=>?_⟩;have h4:=h3 i hi;obtain⟨oi,ci,bi,fi,he,hdi,hci⟩:=h4.open;refine⟨oi,ci,bi,fi,?_,hdi,hci,?_⟩
 ·rw[hc i hi,he]
 rw[<-he];exact h4
theorem cW{P:Program}(w:World)(g off n:Nat)(t ty:TypeId)(cs:Array Value)(fr:Nat×Nat)(d:TypeDesc)(hg:w.heap[g]? =some (.cells cs t fr))
  (hu:P.underlying ty=some d) (hd:(match d with|.struct _|.array _ _=>true|_=>false)=true) (hi:(P.info? ty).map (·.size)=some n) (hs:off+n<=cs.size):
  (loadVar ty ⟨g,off,none⟩).run P w=.ok (.agg (cs.extract off (off+n))) w:=by
 have hlen:(cs.extract off (off+n)).toList.length=n:=by simp;omega
 have hl:(loadCells ⟨g,off,none⟩ (cs.extract off (off+n)).toList.length).run P w=.ok (cs.extract off (off+n)).toList.toArray w:=
  run_loadCells_list (P:=P) w ⟨g,off,none⟩ (cs.extract off (off+n)).toList (fun j v hv=>by
   have qbJ:(⟨g,off,none⟩:Addr).add j=⟨g,off+j,none⟩:=by unfold Addr.add;split<;>simp_all
   rw[qbJ,cell_of_row w g (off+j) cs t fr hg]
   have hj:j<n:=by
    have:=(List.getElem?_eq_some_iff.1 hv).1;omega
   rw[<-hv];simp[hj])
 rw[hlen]at hl;simp only[Array.toArray_toList]at hl;cases hq:P.info? ty with
 |none=>simp[hq]at hi
 |some i=>
  have hs':i.size=n:=by simpa[hq]using hi
  have hagg:(isAgg ty).run P w=.ok true w:=by
   exact ZmA11
  simp[loadVar,Sem.run_bind,hagg,sizeOf,typeInfo,hq,hs',hl]
theorem l9{P:Program}{ops:Array Oper}{rest:List Oper}{o:Oper}{a:Act}{w:World}{Q:Exit->Act->World->Prop}(hgd:o.guard=none)(ty:TypeId)(x:Operand)(ho:o.op=.load ty x)
  (g off n:Nat) (hx:a.eval x=.pointer (some ⟨g,off,none⟩)) (t:TypeId) (cs B:Array Value) (fr:Nat×Nat) (d:TypeDesc) (hg:w.heap[g]? =some (.cells cs t fr))
  (hu:P.underlying ty=some d) (hd:(match d with|.struct _|.array _ _=>true|_=>false)=true) (hi:(P.info? ty).map (·.size)=some n) (hs:off+n<=cs.size) (hB:cs.extract off (off+n)=B)
  (h:wpList P ops Q rest (a.put o.dst (.agg B)) w):wpList P ops Q (o::rest) a w:=by
 subst hB;refine wpList_plain hgd fun K hK=>?_;unfold Oper.wp execOp;simp only[ho,hx,Instr.loadAt,Instr.sureAddr,Sem.run_bind,Sem.run_pure,Result.andThen_ok,cW w g off n t ty cs fr d hg hu hd hi hs];exact hK _ _ h
theorem uE{B:Nat}{w v:World}(h:Below B w v)(n:Nat):Below B w (v.drewN n):=h.trans ⟨rfl,rfl,rfl,qb _,fun _ _=>rfl⟩
theorem yJ{B:Nat}{w v:World}(h:Below B w v)(hB:B<=v.heap.size)(x:World):Below B w (ext v x):=h.trans ((aC v x).mono hB)
theorem dW{w v:World}(h:Below w.heap.size w v)(x:World):Below w.heap.size w (ext v x):=yJ h h.size x
theorem q0d{w v:World}(h:Below w.heap.size w v)(o:Obj):Below w.heap.size w (v.alloc o):=h.alloc h.size o
theorem cC{P:Program}{f:FuncId}{args:Array Value}{w x:World}{v:Value}
  (h:Calls P f args (ext w x) fun e w'=>e=.returned v/\∃y,w'=ext (ext w x) y):Calls P f args (ext w x) fun e w'=>e=.returned v/\∃y,w'=ext w y:=
 h.mono fun _ _ ⟨he,y,hy⟩=>⟨he,by rw[hy];exact yI w x y⟩
theorem bL{P:Program}{id:Nat}{Q:Exit->Act->World->Prop}{a:Act}{w:World}{l:List Oper}(hm:P.follows .mixedOrders=true)(hB:Region.lexB .any l.toArray=true)
  (h:wpQuiet P l.toArray (fun w'=>∃x,w'=ext w x) (fun a'=>∀w',(∃x,w'=ext w x)->Q .normal a' w') l a):(Code.region id l.toArray true).wp P Q a w:=
 wp_region_quiet (C:=fun w'=>∃x,w'=ext w x) hm hB (aF (aW w 1)) (by simpa using h)
theorem aS{B:Nat}{a w:World}(h:Below B a w:=by repeat(first|exact qn _ _|assumption|refine uE ?_ _|refine qo ?_|refine dW ?_ _|refine q0d ?_ _)):Below B a w:=h
end Go.Cm
namespace Go.Cm
open Go.RowKit
def M3(C:World->Prop)(K:Act->World->Prop):Exit->Act->World->Prop
 |.normal,a,w=>C w/\K a w
 |_,_,_=>False
def noQ:Exit->Act->World->Prop:=fun _ _ _=>False
def aD(P:Program)(ops:Array Oper)(C:World->Prop)(Q:Act->World->Prop):List Oper->Act->World->Prop
 |[],a,w=>Q a w
 |o::rest,a,w=>wpList P ops (M3 C (aD P ops C Q rest)) [o] a w
section
variable {P : Program} {ops : Array Oper} {md : Region.Mode} {C : World → Prop}
def kQ(P:Program)(md:Region.Mode)(ops:Array Oper)(C:World->Prop)(Q:Act->World->Prop):Nat->Array Bool->Act->World->Prop
 |0,listed,a,w=>C w/\Region.ready md ops listed=[]/\Q a w
 |fuel+1,listed,a,w=>C w/\(Region.ready md ops listed=[]->Q a w)/\
  ∀i∈Region.ready md ops listed,wpOp P ops noQ i (kQ P md ops C Q fuel (listed.setIfInBounds i true)) a w
theorem mQ{o:Oper}{a:Act}{w:World}{K:Act->World->Prop}{Q1 Q2:Exit->Act->World->Prop}(h1:∀c a w,¬Q1 (.panic c) a w)(h2:¬LetsOut Q1)(h:o.wp P a w K Q1):o.wp P a w K Q2:=by
 unfold Oper.wp at*;generalize (execOp a.eval o).run P w=r at*;cases r with
 |ok n w'=>
  cases n<;>simp only[Oper.upon]at h⊢ <;>
   first
    |exact h
    |exact Calls.mono h (fun e w'' he=>by cases e<;>first|exact he|exact(h1 _ _ _ he).elim|exact(h2 he).elim)
    |exact Rows.mono h (fun _ _ he=>he)
 |halt x w'=>cases x<;>simp only[Oper.upon]at h⊢ <;>first|exact h.elim|exact(h1 _ _ _ h).elim
theorem rJ:¬LetsOut noQ:=fun⟨_,_,h⟩=>h
theorem lT{K:Act->World->Prop}:¬LetsOut (M3 C K):=fun⟨_,_,h⟩=>h
theorem oD{Q:Act->World->Prop}{Q':Exit->Act->World->Prop}(hQ:∀a w,C w->Q a w->Q' .normal a w):∀(fuel:Nat) (listed:Array Bool) (a:Act) (w:World),
  kQ P md ops C Q fuel listed a w->wpAny P md ops Q' fuel listed a w
 |0,_,_,_,h=>⟨h.2.1,hQ _ _ h.1 h.2.2⟩
 |fuel+1,listed,a,w,h=>⟨fun h0=>hQ _ _ h.1 (h.2.1 h0),fun i hi=>by
   have h1:=wpOp_mono (fun a w=>oD (Q':=Q') hQ fuel _ a w) (h.2.2 i hi);unfold wpOp at h1⊢;split
   ·rename_i ho;simpa[ho]using h1
   rename_i o ho;simp only[ho]at h1;split
   ·exact ZmA4
   rename_i hw;simpa[hw]using h1⟩
def oY:Op->Bool
 |.call c=>(match c.callee with|.builtin .len|.builtin .cap|.builtin .min|.builtin .max=>true|_=>false)
 |.go _|.defer _|.panic _|.send .. |.recv .. |.select .. =>false
 |_=>true
theorem yK{s:Sem Value}{w w':World}{f:FuncId}{args:Array Value}:(s>>=fun x=>pure (Next.value x):Sem Next).run P w≠.ok (.enter f args) w':=by
 rw[Sem.run_bind];cases s.run P w<;>simp[Result.andThen]
theorem yL{s:Sem Unit}{w w':World}{f:FuncId}{args:Array Value}:(s>>=fun _=>pure Next.skip:Sem Next).run P w≠.ok (.enter f args) w':=by
 rw[Sem.run_bind];cases s.run P w<;>simp[Result.andThen]
def Yin(P:Program)(ops:Array Oper)(C:World->Prop)(o:Oper)(v:Value)(a:Act):Prop:=
 (Region.wanted o (yielded ops a.tmps)=true/\∀w,C w->(execOp a.eval o).run P w=.ok (.value v) w\/((execOp a.eval o).run P w=.ok .skip w/\v=undef))\/
 (Region.wanted o (yielded ops a.tmps)=false/\v=undef)
theorem Yin.of_same{o:Oper}{v:Value}{a a':Act}(hy:Yin P ops C o v a)(he:execOp a'.eval o=execOp a.eval o)
  (hw:Region.wanted o (yielded ops a'.tmps)=Region.wanted o (yielded ops a.tmps)):Yin P ops C o v a':=by
 unfold Yin at*;rw[he,hw];exact hy
theorem Yin.wpOp{i:Nat}{o:Oper}{v:Value}{a:Act}{w:World}(hC:C w)(hi:ops[i]? =some o)(hy:Yin P ops C o v a)
  {K:Act->World->Prop} (h:K (a.put o.dst v) w):wpOp P ops noQ i K a w:=by
 unfold Go.wpOp;simp only[hi];rcases hy with⟨hw,hv⟩|⟨hw,rfl⟩
 ·simp only[hw,jH,Oper.wp]
  rcases hv w hC with hx|⟨hx,he⟩
  ·rw[hx];exact .inl h
  subst he;rw[hx];exact .inl h
 simp only[hw,qS,jr];exact h
theorem M4{j:Nat}{oi oj:Oper}{v:Value}(hj:ops[j]? =some oj)(hap:oi.apart ops oj=true)
  (hsi:∀cs b,oi.op≠.select cs b) (hsj:∀cs b,oj.op≠.select cs b) {K:Act->World->Prop} {a:Act} {w:World}
  (hy:Yin P ops C oi v a) (h:wpOp P ops noQ j K (a.put oi.dst v) w):
  wpOp P ops noQ j (fun a' w'=>Yin P ops C oi v a'/\K (a'.put oi.dst v) w') a w:=by
 obtain⟨h1,h2,h3⟩:=Oper.apart_spec hap
 have keep:∀(a:Act),Yin P ops C oi v a->∀u,Yin P ops C oi v (a.put oj.dst u):=fun a hy u=>
  hy.of_same (execOp_put oi hsi a oj.dst u h3) (wanted_put oi a oj.dst u h3)
 have keepD:∀d,Yin P ops C oi v {a with defers:=d::a.defers}:=fun d=>hy.of_same rfl rfl;unfold wpOp at*;simp only[hj]at*;rw[wanted_put oj a oi.dst v h1]at h;split
 ·rename_i hw
  simp only[hw,jH]at h;rcases h with h|⟨_,q8S⟩
  case inr=>exact(rJ q8S).elim
  refine .inl ?_;unfold Oper.wp at*;rw[execOp_put oj hsj a oi.dst v h1]at h;generalize (execOp a.eval oj).run P w=r at*;cases r with
  |ok n w'=>
   cases n<;>simp only[Oper.upon]at h⊢
   case value u=>exact⟨keep a hy u,by rw[<-Act.put_comm a v u h2];exact h⟩
   case skip=>exact⟨keep a hy _,by rw[<-Act.put_comm a v undef h2];exact h⟩
   case defer d=>
    refine⟨keep _ (keepD d) _,?_⟩;rw[<-Act.put_comm _ v undef h2,<-Act.put_defers];exact h
   case enter f args=>
    refine Calls.mono h fun e w'' he=>?_;cases e with
    |returned u=>exact⟨keep a hy u,by rw[<-Act.put_comm a v u h2];exact he⟩
    |panicked c=>exact(he:False).elim
    |outgrown=>exact he
   case row row args=>exact Rows.mono h fun u w'' he=>⟨keep a hy u,by rw[<-Act.put_comm a v u h2];exact he⟩
  |halt x w'=>
   cases x<;>simp only[Oper.upon]at h⊢
   case panic u=>exact(h:False).elim
 rename_i hw;simp only[hw]at h;exact⟨keep a hy _,by rw[<-Act.put_comm a v undef h2];exact h⟩
theorem oZ{Q:Act->World->Prop}{i:Nat}{oi:Oper}{v:Value}(hi:ops[i]? =some oi)(q7F:∀(j:Nat) (o:Oper) cs b,ops[j]? =some o->o.op≠.select cs b):
  ∀(fuel:Nat) (listed:Array Bool) (a:Act) (w:World),
   (∀j oj,ops[j]? =some oj->j≠i->listed.getD j true=false->(∀e∈oj.after,Region.binds md e=true->e.on≠i)->oi.apart ops oj=true)->
   i∈Region.ready md ops listed->Yin P ops C oi v a->
   kQ P md ops C Q fuel (listed.setIfInBounds i true) (a.put oi.dst v) w->kQ P md ops C Q (fuel+1) listed a w:=by
 intro fuel
 induction fuel with
 |zero=>
  intro listed a w _ hr hy H;refine⟨H.1,fun h=>(by rw[h]at hr;cases hr),fun j hj=>?_⟩;by_cases hji:j=i
  ·subst hji;exact hy.wpOp H.1 hi H
  have:=ready_mono hj hji;rw[H.2.1]at this;cases this
 |succ fuel ih=>
  intro listed a w q6D hr hy H;refine⟨H.1,fun h=>(by rw[h]at hr;cases hr),fun j hj=>?_⟩;by_cases hji:j=i
  ·subst hji;exact hy.wpOp H.1 hi H
  have h1:=H.2.2 j (ready_mono hj hji);obtain⟨q7U,oj,hoj,hall⟩:=mem_ready.1 hj
  have q8Q:∀e∈oj.after,Region.binds md e=true->e.on≠i:=fun e he hb heq=>by
   have h1:=hall e he hb;have h0:=(mem_ready.1 hr).1;rw[heq]at h1;rcases jP i listed.size with h'|h'
   ·simp[h']at h0 h1;rw[h0]at h1;cases h1
   simp[jt h']at h1
  have h2:=M4 hoj (q6D j oj hoj hji q7U q8Q) (fun cs b=>q7F i oi cs b hi) (fun cs b=>q7F j oj cs b hoj) hy h1
  have q6C:∀k ok,ops[k]? =some ok->k≠i->(listed.setIfInBounds j true).getD k true=false->
    (∀e∈ok.after,Region.binds md e=true->e.on≠i)->oi.apart ops ok=true:=fun k ok hk hki hun hno=>by
   refine q6D k ok hk hki ?_ hno;by_cases hjk:j=k
   ·subst hjk;exact q7U
   rw[getD_set_ne true hjk]at hun;exact hun
  refine wpOp_mono (fun a' w' h3=>ih (listed.setIfInBounds j true) a' w' q6C (ready_mono hr (Ne.symm hji)) h3.1 ?_) h2;rw[Array.setIfInBounds_comm _ _ hji];exact h3.2
def lA(l:List Oper)(o:List Nat):List Oper:=o.map fun i=>l.getD i default
theorem pk:(∀l i o,lA l (i::o)=l.getD i default::lA l o)/\(∀l,lA l []=[])/\(∀(x:Oper) xs d,(x::xs).getD 0 d=x)/\∀(x:Oper) xs n d,(x::xs).getD (n+1) d=xs.getD n d:=⟨fun _ _ _=>rfl,fun _=>rfl,fun _ _ _=>rfl,fun _ _ _ _=>rfl⟩
def q1Z(md:Region.Mode)(ops:Array Oper):List Nat->Array Bool->Bool
 |[],listed=>Region.ready md ops listed==[]
 |i::r,listed=>Region.ready md ops listed==[i]&&q1Z md ops r (listed.setIfInBounds i true)
def q36(md:Region.Mode)(ops:Array Oper)(o2:List Nat):List Nat->Array Bool->Bool
 |[],listed=>q1Z md ops o2 listed
 |i::r,listed=>(Region.ready md ops listed).contains i&&Region.free md ops listed i&&((ops[i]?).map (fun o=>oY o.op)).getD false&&q36 md ops o2 r (listed.setIfInBounds i true)
theorem oE{o:Oper}{a:Act}{K:Act->Prop}(hn:oY o.op=true)
  (h:if Region.wanted o (yielded ops a.tmps)then o.quiet P a C K else K (a.put o.dst undef)):∃v,Yin P ops C o v a/\K (a.put o.dst v):=by
 by_cases hw:Region.wanted o (yielded ops a.tmps)=true
 ·simp only[hw,jH]at h
  obtain⟨v,h1,h2⟩:=h;refine⟨v,.inl ⟨hw,fun w hC=>?_⟩,h2⟩;have h3:=h1 w hC;unfold Oper.quietAt at h3;generalize hr:(execOp a.eval o).run P w=r at h3;cases r with
  |halt x w'=>simp[Oper.quietUpon]at h3
  |ok n w'=>
   cases n<;>simp only[Oper.quietUpon]at h3
   case value u=>obtain⟨rfl,rfl⟩:=h3;exact .inl rfl
   case skip=>obtain⟨rfl,rfl⟩:=h3;exact .inr ⟨rfl,rfl⟩
   case enter f args=>
    exfalso
    revert hr
    unfold execOp
    cases ho:o.op<;>simp only[ho,oY]at hn⊢ <;>
     first
      |(cases hn;done)
      |exact yK
      |exact yL
      |skip
    ·simp
    ·simp
    ·rw[Sem.run_bind];cases(asBool _).run P w<;>simp[Result.andThen]
    ·split
     all_goals first|(simp;done)|skip
     all_goals first|(unfold runtimePanic;simp;done)|skip
     split
     all_goals first|(simp;done)|(unfold runtimePanic;simp;done)|skip
     simp only[Sem.run_bind];cases(program).run P w with
     |halt=>simp[Result.andThen]
     |ok p w1=>
      simp only[Result.andThen];cases(nilAhead _ _ _ _).run P w1 with
      |halt=>simp
      |ok q w2=>
       simp only[];split<;>simp[unsupported]
    rename_i c;unfold resolve;split at hn
    all_goals first|(cases hn;done)|skip
    all_goals rename_i qbz;simp only[qbz,Sem.run_bind,Sem.run_pure,Result.andThen_ok,invoke,builtin]
    all_goals
     generalize Sem.run P _ w=r;cases r<;>simp[Result.andThen]
 simp only[hw]at h;exact⟨undef,.inr ⟨by simpa using hw,rfl⟩,h⟩
noncomputable def chg(w:World)(row:Option Nat)(x:World):World:=@ite _ (w.grownBy x row) (Classical.propDecidable _) x w
theorem fR{B:Nat}{w v:World}(h:Below B w v):Below B w v.drew:=h.trans ⟨rfl,rfl,rfl,qb _,fun _ _=>rfl⟩
theorem fS(w:World)(row:Option Nat):w.grownBy w row:=⟨rfl,rfl,rfl,qb _,fun _ _ _=>rfl⟩
theorem aK{w x y:World}{row:Option Nat}(h:w.grownBy x row)(k:x.grownBy y row):w.grownBy y row:=
 ⟨k.os.trans h.os,k.tape.trans h.tape,k.output.trans h.output,qc h.size k.size,fun i hi hr=>(k.block i (qe hi h.size) hr).trans (h.block i hi hr)⟩
theorem aI{w x:World}(h:Below w.heap.size w x)(row:Option Nat):w.grownBy x row:=⟨h.os,h.tape,h.output,h.size,fun k hk _=>h.block k hk⟩
theorem eK(w:World)(row:Option Nat):w.grownBy w.drew row:=aI (aW w 1) row
theorem rK(w x:World)(row:Option Nat):w.grownBy (chg w row x) row:=by
 unfold chg;split
 ·assumption
 exact fS w row
theorem q37{w x:World}{row:Option Nat}(h:w.grownBy x row):chg w row x=x:=by unfold chg;rw[qv h]
theorem cO{w x:World}{row:Option Nat}(h:w.grownBy x row):∃y,x=chg w row y:=⟨x,(q37 h).symm⟩
@[go_sem] theorem cell?_chg(w x:World)(row:Option Nat)(b o:Nat)(h:b<w.heap.size)(hr:some b≠row):(chg w row x).cell? ⟨b,o,none⟩=w.cell? ⟨b,o,none⟩:=World.cell?_of_block ((rK w x row).block b h hr)
@[go_sem] theorem frozen?_chg(w x:World)(row:Option Nat)(b o:Nat)(h:b<w.heap.size)(hr:some b≠row):(chg w row x).frozen? ⟨b,o,none⟩=w.frozen? ⟨b,o,none⟩:=World.frozen?_of_block ((rK w x row).block b h hr)
end
end Go.Cm
namespace Go.Cm
open Go.RowKit Go.Proofs
def Own(w:World)(B:Nat)(E:TypeId)(v:Value)(xs:List Value):Prop:=
 w.ownsRow B E 1 v xs.length xs/\xs.length<=140737488351232
theorem Own.nil(w:World)(B:Nat)(E:TypeId):Own w B E (.slice none 0 0) []:=⟨World.ownsRow_nil w B E 1,by simp⟩
theorem Own.sl{w:World}{B:Nat}{E:TypeId}{v:Value}{xs:List Value}(h:Own w B E v xs):Sl w v xs:=by
 obtain⟨⟨_,h⟩,hl⟩:=h;rcases h with⟨rfl,h0⟩|⟨g,cap,cur,rfl,hb,hg,hnc,hcm,hcs,q5U⟩
 ·obtain rfl:xs=[]:=List.length_eq_zero_iff.1 h0
  exact Sl.nil w
 refine⟨some ⟨g,0,none⟩,cap,g,0,rfl,⟨fun _=>rfl,hnc,hcm,hl,fun _=>(Array.getElem?_eq_some_iff.1 hg).1⟩,fun i hi=>?_⟩;rw[cell_of_row w g (0+i) cur E (0,0) hg,qH]
 have h1:xs[i]? =cur[i]? :=by
  rw[<-q5U,List.getElem?_take,qv (by omega)];simp
 rw[<-h1];simp[List.getD,hi]
theorem Own.keep{w w':World}{B:Nat}{E:TypeId}{v:Value}{xs:List Value}{row:Option Nat}(h:Own w B E v xs)(hg:w.grownBy w' row)(hne:v.ownBlock=none\/v.ownBlock≠row):Own w' B E v xs:=⟨h.1.kept hg hne,h.2⟩
theorem Own.up{w w':World}{B:Nat}{E:TypeId}{v:Value}{xs:List Value}(h:Own w B E v xs)(hb:Below w.heap.size w w'):Own w' B E v xs:=
 h.keep (row:=none) ⟨hb.os,hb.tape,hb.output,hb.size,fun k hk _=>hb.block k hk⟩ (by cases v.ownBlock<;>simp)
theorem Own.lt{w:World}{B:Nat}{E:TypeId}{v:Value}{xs:List Value}(h:Own w B E v xs):∀k,v.ownBlock=some k->B<=k/\k<w.heap.size:=h.1.lt
theorem iW{B:Nat}{w0 w w':World}{E:TypeId}{v:Value}{xs:List Value}(h:Below B w0 w)(hB:B<=w.heap.size)(ho:Own w B E v xs)(hg:w.grownBy w' v.ownBlock):Below B w0 w':=
 h.grown hg hB fun k hk=>(ho.lt k hk).1
theorem Own.cases{w:World}{B:Nat}{E:TypeId}{v:Value}{xs:List Value}(h:Own w B E v xs):
  ∃oa cap g,v=.slice oa xs.length cap/\Hd w oa xs.length cap g 0/\(0<xs.length->v.ownBlock=some g/\B<=g)/\(∀i,i<xs.length->w.cell? ⟨g,i,none⟩=some (xs.getD i undef))/\(∀i,i<xs.length->w.frozen? ⟨g,i,none⟩=false)/\
   ∀i u,i<xs.length->Own (w.setCell ⟨g,i,none⟩ u) B E v (xs.set i u)/\w.grownBy (w.setCell ⟨g,i,none⟩ u) (some g):=by
 obtain⟨⟨h0,h⟩,hl⟩:=h;rcases h with⟨rfl,hx⟩|⟨g,cap,cur,rfl,hb,hg,hnc,hcm,hcs,q5U⟩
 ·obtain rfl:xs=[]:=List.length_eq_zero_iff.1 hx
  exact⟨none,0,0,rfl,⟨fun h=>absurd h (jI 0),qb _,by simp[maxLen],by simp,fun h=>absurd h (jI 0)⟩,fun h=>absurd h (jI 0),fun i hi=>absurd hi (qB i),fun i hi=>absurd hi (qB i),fun i u hi=>absurd hi (qB i)⟩
 have hown:w.ownsRow B E 1 (.slice (some ⟨g,0,none⟩) xs.length cap) xs.length xs:=⟨h0,.inr ⟨g,cap,cur,rfl,hb,hg,hnc,hcm,hcs,q5U⟩⟩;refine⟨some ⟨g,0,none⟩,cap,g,rfl,⟨fun _=>rfl,hnc,hcm,hl,fun _=>(Array.getElem?_eq_some_iff.1 hg).1⟩,fun _=>⟨rfl,hb⟩,fun i hi=>?_,fun i hi=>hown.frozenAt i,fun i u hi=>?_⟩
 ·rw[hown.cellAt i (by omega)];simp[List.getD,hi]
 have:=hown.stored i u;refine⟨⟨?_,by simpa using hl⟩,this.2⟩;rw[ja];exact this.1
theorem gH(b off j:Nat):(⟨b,off,none⟩:Addr).add j=⟨b,off+j,none⟩:=by unfold Addr.add;split<;>simp_all
theorem q20{P:Program}(w:World)(B:Nat)(t ty E:TypeId)(z:Value)(bytes:Nat)(ht:P.underlying t=some (.slice E))(q5X:(P.info? E).map (fun i=>(i.zero,i.size,i.bytes))=some (some z,1,bytes))(hz:z.cells.size=1)(hby:bytes<=24)
  (v:Value) (xs:List Value) (hown:Own w B E v xs) (xv:Value) (news:List Value) (hx:Sl w xv news) (h1:∀u∈news,u.oneCell'=true) (hlen:xs.length+news.length<=4294967296) (hB:B<=w.heap.size):
  ∃v' w',(Builtin.append_ #[t,t] ty #[v,xv]).run P w=.ok v' w'/\Own w' B E v' (xs++news)/\w.grownBy w' v.ownBlock/\(∀k,v'.ownBlock=some k->v.ownBlock=some k\/w.heap.size<=k):=by
 obtain⟨i0,hi,hz0,hz1,hz2⟩:∃i0,P.info? E=some i0/\i0.zero=some z/\i0.size=1/\i0.bytes=bytes:=by
  cases hq:P.info? E with
  |none=>simp[hq]at q5X
  |some i0=>simp[hq]at q5X;exact⟨i0,rfl,q5X.1,q5X.2.1,q5X.2.2⟩
 have hl1:xs.length+news.length<=maxLen:=by simp only[maxLen];omega
 have hl2:(xs.length+news.length)*bytes<=140737488355328:=by
  have:=Nat.mul_le_mul hlen hby;omega
 obtain⟨oa,cx,b,off,rfl,hd,hc⟩:=hx;have q63:xs.length+news.length<=140737488351232:=by omega
 rcases hown with⟨hrow,hsm⟩;by_cases hn:news=[]
 ·subst hn
  refine⟨v,w,?_,⟨by simpa using hrow,by simpa using hsm⟩,⟨rfl,rfl,rfl,qb _,fun _ _ _=>rfl⟩,fun k hk=>.inl hk⟩;rcases hrow.2 with⟨rfl,hx0⟩|⟨g,cap,cur,rfl,_,_,hnc,_⟩
  ·exact ZmA3
  exact ZmA2
 have q69:0<news.length:=List.length_pos_iff.2 hn;obtain rfl:=hd.hat q69
 have hnews:∀j u,news[j]? =some u->w.cell? ((⟨b,off,none⟩:Addr).add j)=some u:=fun j u hu=>by
  have hj:=(List.getElem?_eq_some_iff.1 hu).1;rw[gH,hc j hj];simp[List.getD,hu]
 rcases hrow.2 with⟨rfl,hx0⟩|⟨g,cap,cur,rfl,hbg,hg,hnc,hcm,hcs,q5U⟩
 ·obtain rfl:xs=[]:=List.length_eq_zero_iff.1 hx0
  obtain⟨v',w',hr,ho,hgr,-⟩:=run_append_own (P:=P) w w.heap.size t ty E i0 z 1 bytes ht hi hz0 hz1 hz2 hz (by decide) (.slice none 0 0) 0 [] (World.ownsRow_nil _ _ _ _) ⟨b,off,none⟩ news.length cx news (by simp) hnews h1 (by simpa using hl1) (by simpa using hl2) (qb _);have hk:=ho.lt;refine⟨v',w',hr,⟨⟨by simp,?_⟩,by simp only[List.nil_append];omega⟩,hgr,fun k hk'=>.inr (hk k hk').1⟩;simp only[qH,List.nil_append]at ho;rcases ho.2 with⟨h1,h2⟩|⟨g,cap,cur,h1,h2,h3⟩
  ·exact .inl ⟨h1,by simpa using h2⟩
  exact .inr ⟨g,cap,cur,h1,by omega,by simpa using h3⟩
 by_cases hroom:xs.length+news.length<=cap
 ·obtain⟨w',hr,ho,hgr⟩:=run_append_fits (P:=P) w B t ty E i0 1 ht hi hz1 g xs.length cap xs ⟨hrow.1,.inr ⟨g,cap,cur,rfl,hbg,hg,hnc,hcm,hcs,q5U⟩⟩ ⟨b,off,none⟩ news.length cx news (by simp) hnews h1 hroom
  exact⟨_,w',hr,⟨by rw[qj];exact ho,by rw[qj];exact q63⟩,hgr,fun k hk=>.inl hk⟩
 have holds:∀j u,xs[j]? =some u->w.cell? ((⟨g,0,none⟩:Addr).add j)=some u:=World.ownsRow.cells (g:=g) hrow rfl;have q9O:xs.length+news.length<=9223372036854775807:=by omega
 have hr:=run_append_grow (P:=P) w t ty E i0 z ht hi hz0 ⟨g,0,none⟩ xs.length cap xs (by rw[hz1];exact hrow.1) holds ⟨b,off,none⟩ news.length cx news (by rw[hz1];simp) hnews (by omega) (by omega) (growslice_fits (by omega) (by rw[hz2];exact hl2));have hge:=grownCap_ge w (xs.length+news.length) cap E;have q90:grownCap w (xs.length+news.length) cap E<=maxLen:=grownCap_le_maxLen w _ cap E hl1;refine⟨_,_,hr,⟨⟨by simp,.inr ⟨w.heap.size,_,_,by rw[qj],hB,heap_alloc_new w.drew _,by rw[qj];exact hge,q90,?_,?_⟩⟩,by rw[qj];exact q63⟩,⟨rfl,rfl,rfl,by simp,fun k hk _=>Below.heap_alloc w.drew _ k hk⟩,fun k hk=>.inr (by simp[Value.ownBlock]at hk;omega)⟩
 ·simp only[Array.size_append,jB,size_zeroCells,hz]
  omega
 simp only[Array.toList_append,qk];rw[<-qk,Nat.mul_one];exact List.take_left
theorem bU{P:Program}{ops:Array Oper}{rest:List Oper}{o:Oper}{a:Act}{w:World}{Q:Exit->Act->World->Prop}(hgd:o.guard=none)(s x:Operand)(t:TypeId)
  (ho:o.op=.call {callee:=.builtin .append,args:=#[s,x],argTypes:=#[t,t]})
  (B E:TypeId) (z:Value) (bytes:Nat) (ht:P.underlying t=some (.slice E)) (q5X:(P.info? E).map (fun i=>(i.zero,i.size,i.bytes))=some (some z,1,bytes)) (hz:z.cells.size=1) (hby:bytes<=24)
  (v:Value) (xs:List Value) (hs:a.eval s=v) (hown:Own w B E v xs) (xv:Value) (news:List Value) (hxe:a.eval x=xv) (hx:Sl w xv news) (h1:∀u∈news,u.oneCell'=true) (hlen:xs.length+news.length<=4294967296) (hB:B<=w.heap.size)
  (h:∀v' w',Own w' B E v' (xs++news)->w.grownBy w' v.ownBlock->(∀k,v'.ownBlock=some k->v.ownBlock=some k\/w.heap.size<=k)->wpList P ops Q rest (a.put o.dst v') w'):wpList P ops Q (o::rest) a w:=by
 obtain⟨v',w',hr,h2,h3,h4⟩:=q20 (P:=P) w B t o.type E z bytes ht q5X hz hby v xs hown xv news hx h1 hlen hB;refine wpList_plain hgd fun K hK=>?_;unfold Oper.wp execOp;simp only[ho,resolve,invoke,builtin,Sem.run_bind,Sem.run_pure,Result.andThen_ok,List.map_toArray,qI,js,hs,hxe,hr];exact hK _ _ (h v' w' h2 h3 h4)
theorem fZ(w:World)(c:Array Value)(E:TypeId)(hc:c.size<=4294967296):Sl (w.alloc (.cells c E)) (.slice (some ⟨w.heap.size,0,none⟩) c.size c.size) c.toList:=by
 refine⟨some ⟨w.heap.size,0,none⟩,c.size,w.heap.size,0,by simp,⟨fun _=>rfl,by simp,by simp only[maxLen];omega,by simp;omega,fun _=>by simp⟩,fun i hi=>?_⟩;have hi':i<c.size:=by simpa using hi
 rw[qH,World.cell?_alloc_new];simp[List.getD,hi']
theorem cX(w:World)(B:Nat)(c:Array Value)(E:TypeId)(hc:c.size<=4294967296)(hB:B<=w.heap.size):Own (w.alloc (.cells c E)) B E (.slice (some ⟨w.heap.size,0,none⟩) c.size c.size) c.toList:=by
 have h:=World.ownsRow_lit (base:=B) (e:=E) (size:=1) w c c.size hB (by simp only[maxLen];omega) (by simp);exact⟨by simpa using h,by simp;omega⟩
theorem q38{P:Program}(t E:TypeId)(z:Value)(bytes n:Nat)(ht:P.underlying t=some (.slice E))(q5X:(P.info? E).map (fun i=>(i.zero,i.size,i.bytes))=some (some z,1,bytes))(hz:z.cells=#[z])(hby:bytes<=24)(hn:n<=4294967296):
  ∀W:World,(Instr.makeSlice t (.int .i64 (n:Int)) (.int .i64 (n:Int))).run P W=.ok (.slice (some ⟨W.heap.size,0,none⟩) n n) (W.alloc (.cells (madeCells #[z] n) E)):=by
 intro W
 obtain⟨i0,hi,hz0,hz1,hz2⟩:∃i0,P.info? E=some i0/\i0.zero=some z/\i0.size=1/\i0.bytes=bytes:=by
  cases hq:P.info? E with
  |none=>simp[hq]at q5X
  |some i0=>simp[hq]at q5X;exact⟨i0,rfl,q5X.1,q5X.2.1,q5X.2.2⟩
 have hb:bytes*n<=24*4294967296:=Nat.mul_le_mul hby hn
 have hb':(i0.bytes:Int)*(n:Int)<=281474976710656:=by
  rw[hz2,<-Int.natCast_mul];omega
 have hr:=run_make (P:=P) W t E i0 z ht hi hz0 .i64 .i64 n n (by omega) (Int.le_refl _) hb' (by omega);simp only[qC,hz1,hz,Nat.mul_one]at hr;exact hr
theorem q0e(W:World)(B E:TypeId)(z:Value)(n:Nat)(hB:B<=W.heap.size)(hn:n<=4294967296):Own (W.alloc (.cells (madeCells #[z] n) E)) B E (.slice (some ⟨W.heap.size,0,none⟩) n n) (List.replicate n z):=by
 have h:=cX W B (madeCells #[z] n) E (by rw[size_madeCells];simpa using hn) hB;rw[toList_madeCells_one]at h;rw[size_madeCells]at h;simpa using h
section
variable {w : World} {B : Nat} {E : TypeId} {g n cap : Nat} {xs : List Value}
theorem Own.len(h:Own w B E (.slice (some ⟨g,0,none⟩) n cap) xs):n=xs.length:=by
 rcases h.1.2 with⟨h1,_⟩|⟨g',cap',cur,h1,_⟩
 ·cases h1
 simp at h1;exact h1.2.1
theorem Own.row(h:Own w B E (.slice (some ⟨g,0,none⟩) n cap) xs):w.ownsRow B E 1 (.slice (some ⟨g,0,none⟩) xs.length cap) xs.length xs:=by
 have:=h.len;subst this;exact h.1
theorem Own.cell(h:Own w B E (.slice (some ⟨g,0,none⟩) n cap) xs){i:Nat}(hi:i<xs.length):w.cell? ⟨g,i,none⟩=some (xs.getD i undef):=by
 rw[h.row.cellAt i (by omega)];simp[List.getD,hi]
theorem Own.free(h:Own w B E (.slice (some ⟨g,0,none⟩) n cap) xs)(i:Nat):w.frozen? ⟨g,i,none⟩=false:=h.row.frozenAt i
theorem Own.store(h:Own w B E (.slice (some ⟨g,0,none⟩) n cap) xs)(i:Nat)(u:Value):Own (w.setCell ⟨g,i,none⟩ u) B E (.slice (some ⟨g,0,none⟩) n cap) (xs.set i u)/\w.grownBy (w.setCell ⟨g,i,none⟩ u) (some g):=by
 have h1:=h.row.stored i u;have hl:=h.len;subst hl;exact⟨⟨by rw[ja];exact h1.1,by rw[ja];exact h.2⟩,h1.2⟩
theorem Own.blk(h:Own w B E (.slice (some ⟨g,0,none⟩) n cap) xs):B<=g/\g<w.heap.size:=h.lt g rfl
end
theorem Own.mono{w:World}{B B' E:Nat}{v:Value}{xs:List Value}(h:Own w B E v xs)(hB:B'<=B):Own w B' E v xs:=
 ⟨⟨h.1.1,h.1.2.imp id fun⟨g,cap,cur,h1,h2,h3⟩=>⟨g,cap,cur,h1,by omega,h3⟩⟩,h.2⟩
theorem Own.upB{w w':World}{B E n:Nat}{v:Value}{xs:List Value}(h:Own w B E v xs)(hn:w.heap.size<=n)(hb:Below n w w'):Own w' B E v xs:=h.up (hb.mono hn)
def rL(w:World)(v:Value)(ll:List (List Value)):Prop:=∃vs,Sl w v vs/\vs.length=ll.length/\∀i,i<ll.length->Sl w (vs.getD i undef) (ll.getD i [])
theorem rL.up{w w':World}{v:Value}{ll:List (List Value)}(h:rL w v ll)(hb:Below w.heap.size w w'):rL w' v ll:=by
 exact ZmA9
theorem rL.open{w:World}{v:Value}{ll:List (List Value)}(h:rL w v ll):
  ∃oa cap b off,v=.slice oa ll.length cap/\Hd w oa ll.length cap b off/\∀i,i<ll.length->
   ∃oi ci bi fi,w.cell? ⟨b,off+i,none⟩=some (.slice oi (ll.getD i []).length ci)/\Hd w oi (ll.getD i []).length ci bi fi/\
    (∀j,j<(ll.getD i []).length->w.cell? ⟨bi,fi+j,none⟩=some ((ll.getD i []).getD j undef))/\Sl w (.slice oi (ll.getD i []).length ci) (ll.getD i []):=by
 obtain⟨vs,⟨oa,cap,b,off,rfl,hd,hc⟩,h2,h3⟩:=h;rw[h2]at hd hc⊢;refine⟨oa,cap,b,off,rfl,hd,fun i hi=>?_⟩;have h4:=h3 i hi;obtain⟨oi,ci,bi,fi,he,hdi,hci⟩:=h4;refine⟨oi,ci,bi,fi,?_,hdi,hci,?_⟩
 ·rw[hc i hi,he]
 rw[<-he];exact h3 i hi
theorem uF(ll:List (List Int))(i:Nat):(ll.map ints).getD i []=ints (ll.getD i []):=by
 simp only[qt,qT];cases ll[i]? <;>simp[ints]
theorem rL.ints{w:World}{v:Value}{ll:List (List Int)}(h:rL w v (ll.map ints)):mC w v ll:=by
 obtain⟨vs,h1,h2,h3⟩:=h;refine⟨vs,h1,by simpa using h2,fun i hi=>?_⟩;have:=h3 i (by simpa using hi);rwa [uF]at this
structure f8(w:World)(B E E':Nat)(v:Value)(vs:List Value)(ll:List (List Value)):Prop where
 outer:Own w B E v vs
 len:vs.length=ll.length
 rows:∀i,i<ll.length->Own w B E' (vs.getD i undef) (ll.getD i [])
 apart:∀i j,i<ll.length->j<ll.length->i≠j->∀k,(vs.getD i undef).ownBlock=some k->(vs.getD j undef).ownBlock≠some k
 off:∀i,i<ll.length->∀k,(vs.getD i undef).ownBlock=some k->v.ownBlock≠some k
variable {w w' : World} {B E E' : Nat} {v : Value} {vs : List Value} {ll : List (List Value)}
theorem f8.nil(w:World)(B E E':Nat):f8 w B E E' (.slice none 0 0) [] []:=⟨Own.nil w B E,rfl,fun i hi=>absurd hi (qB i),fun i _ hi=>absurd hi (qB i),fun i hi=>absurd hi (qB i)⟩
theorem f8.rowsG(h:f8 w B E E' v vs ll):rL w v ll:=⟨vs,h.outer.sl,h.len,fun i hi=>(h.rows i hi).sl⟩
theorem aY{u:Value}{row:Option Nat}(h:∀k,u.ownBlock=some k->row≠some k):u.ownBlock=none\/u.ownBlock≠row:=by
 cases hu:u.ownBlock with
 |none=>exact .inl rfl
 |some k=>exact .inr (fun e=>h k hu e.symm)
theorem f8.keep(h:f8 w B E E' v vs ll){row:Option Nat}(hg:w.grownBy w' row)(hv:∀k,v.ownBlock=some k->row≠some k)(hr:∀i,i<ll.length->∀k,(vs.getD i undef).ownBlock=some k->row≠some k):f8 w' B E E' v vs ll:=
 ⟨h.outer.keep hg (aY hv),h.len,fun i hi=>(h.rows i hi).keep hg (aY (hr i hi)),h.apart,h.off⟩
theorem f8.up(h:f8 w B E E' v vs ll)(hb:Below w.heap.size w w'):f8 w' B E E' v vs ll:=
 h.keep (row:=none) (aI hb none) (fun _ _ e=>by cases e) (fun _ _ _ _ e=>by cases e)
def f8.free(v:Value)(vs:List Value)(row:Option Nat):Prop:=(∀k,v.ownBlock=some k->row≠some k)/\∀i,i<vs.length->∀k,(vs.getD i undef).ownBlock=some k->row≠some k
theorem f8.keep'(h:f8 w B E E' v vs ll){row:Option Nat}(hg:w.grownBy w' row)(hf:f8.free v vs row):f8 w' B E E' v vs ll:=
 h.keep hg hf.1 fun i hi=>hf.2 i (by rw[h.len];exact hi)
theorem f8.free_new(h:f8 w B E E' v vs ll){k:Nat}(hk:w.heap.size<=k):f8.free v vs (some k):=
 ⟨fun q hq e=>by have:=h.outer.lt q hq;injection e with e;omega,fun i hi q hq e=>by have:=(h.rows i (by rw[<-h.len];exact hi)).lt q hq;injection e with e;omega⟩
theorem f8.free_none:f8.free v vs none:=⟨fun _ _ e=>(by cases e),fun _ _ _ _ e=>(by cases e)⟩
theorem f8.free_below(h:f8 w B E E' v vs ll){k:Nat}(hk:k<B):f8.free v vs (some k):=
 ⟨fun q hq e=>by have:=h.outer.lt q hq;injection e with e;omega,fun i hi q hq e=>by have:=(h.rows i (by rw[<-h.len];exact hi)).lt q hq;injection e with e;omega⟩
theorem aV{α:Type}{l m:List α}{i:Nat}{d:α}(h:i<l.length):(l++m).getD i d=l.getD i d:=by simp[List.getD,qV h]
theorem bV{α:Type}{l:List α}{x d:α}:(l++[x]).getD l.length d=x:=by simp[List.getD]
theorem cE{α:Type}{l:List α}{i j:Nat}{x d:α}(h:i≠j):(l.set i x).getD j d=l.getD j d:=by simp[List.getD,h]
theorem cA{α:Type}{l:List α}{i:Nat}{x d:α}(h:i<l.length):(l.set i x).getD i d=x:=by simp[List.getD,h]
theorem f8.push(h:f8 w B E E' v vs ll){r:Value}{xs:List Value}(hr:Own w B E' r xs)(hf:f8.free v vs r.ownBlock){v':Value}{w0:World}(hw0:w.grownBy w0 none)(ho:Own w' B E v' (vs++[r]))(hg:w0.grownBy w' v.ownBlock)(hk:∀k,v'.ownBlock=some k->v.ownBlock=some k\/w0.heap.size<=k):
  f8 w' B E E' v' (vs++[r]) (ll++[xs]):=by
 have hg':w.grownBy w' v.ownBlock:=aK ⟨hw0.os,hw0.tape,hw0.output,hw0.size,fun k hk _=>hw0.block k hk (by simp)⟩ hg;have hvr:∀k,r.ownBlock=some k->v.ownBlock≠some k:=fun k hk e=>hf.1 k e hk;have hrow:∀i,i<ll.length->Own w' B E' (vs.getD i undef) (ll.getD i []):=fun i hi=>(h.rows i hi).keep hg' (aY (h.off i hi));have hl:=h.len
 have idx:∀i,i<(ll++[xs]).length->(i<ll.length/\(vs++[r]).getD i undef=vs.getD i undef/\(ll++[xs]).getD i []=ll.getD i [])\/(i=ll.length/\(vs++[r]).getD i undef=r/\(ll++[xs]).getD i []=xs):=by
  intro i hi;rw[qj,qD]at hi;rcases Nat.lt_succ_iff_lt_or_eq.1 hi with h1|rfl
  ·exact .inl ⟨h1,aV (by omega),aV h1⟩
  exact .inr ⟨rfl,by rw[<-hl];exact bV,bV⟩
 refine⟨ho,by simp[hl],fun i hi=>?_,fun i j hi hj hne k hik=>?_,fun i hi k hik=>?_⟩
 ·rcases idx i hi with⟨h1,e1,e2⟩|⟨h1,e1,e2⟩
  ·rw[e1,e2];exact hrow i h1
  rw[e1,e2];exact hr.keep hg' (aY hvr)
 ·rcases idx i hi with⟨h1,e1,e2⟩|⟨h1,e1,e2⟩<;>rcases idx j hj with⟨h3,e3,e4⟩|⟨h3,e3,e4⟩<;>rw[e1]at hik<;>rw[e3]
  ·exact h.apart i j h1 h3 hne k hik
  ·exact hf.2 i (by omega) k hik
  ·intro e;exact hf.2 j (by omega) k e hik
  omega
 have hsz:w.heap.size<=w0.heap.size:=hw0.size;rcases idx i hi with⟨h1,e1,e2⟩|⟨h1,e1,e2⟩<;>rw[e1]at hik<;>intro e
 ·rcases hk k e with h2|h2
  ·exact h.off i h1 k hik h2
  have:=(h.rows i h1).lt k hik;omega
 rcases hk k e with h2|h2
 ·exact hvr k hik h2
 have:=hr.lt k hik;omega
theorem f8.writeRow(h:f8 w B E E' v vs ll){i:Nat}(hi:i<ll.length){xs:List Value}(hr:Own w' B E' (vs.getD i undef) xs)(hg:w.grownBy w' (vs.getD i undef).ownBlock):f8 w' B E E' v vs (ll.set i xs):=by
 refine⟨h.outer.keep hg (aY fun k hk e=>h.off i hi k e hk),by simp[h.len],fun j hj=>?_,fun a b ha hb=>h.apart a b (by simpa using ha) (by simpa using hb),fun a ha=>h.off a (by simpa using ha)⟩;rw[ja]at hj;by_cases hij:i=j
 ·subst hij;rw[cA hi];exact hr
 rw[cE hij];exact(h.rows j hj).keep hg (aY fun k hk e=>h.apart i j hi hj hij k e hk)
theorem f8.setRow{g:Nat}{n cap:Nat}(h:f8 w B E E' (.slice (some ⟨g,0,none⟩) n cap) vs ll){i:Nat}(hi:i<ll.length){r:Value}{xs:List Value}(hr:Own w' B E' r xs)(hg:w.grownBy w' (vs.getD i undef).ownBlock)(hk:∀k,r.ownBlock=some k->(vs.getD i undef).ownBlock=some k\/w.heap.size<=k):
  f8 (w'.setCell ⟨g,i,none⟩ r) B E E' (.slice (some ⟨g,0,none⟩) n cap) (vs.set i r) (ll.set i xs)/\w'.grownBy (w'.setCell ⟨g,i,none⟩ r) (some g):=by
 have ho:Own w' B E (.slice (some ⟨g,0,none⟩) n cap) vs:=h.outer.keep hg (aY fun k hk e=>h.off i hi k e hk);obtain⟨h1,h2⟩:=ho.store i r;have hgb:=h.outer.blk;have hvi:i<vs.length:=by rw[h.len];exact hi
 have hrg:∀k,r.ownBlock=some k->k≠g:=fun k hk' e=>by
  rcases hk k hk' with h3|h3
  ·exact h.off i hi k h3 (by rw[e];rfl)
  omega
 refine⟨⟨h1,by simp[h.len],fun j hj=>?_,fun a b ha hb hne k hak=>?_,fun a ha k hak=>?_⟩,h2⟩
 ·rw[ja]at hj
  by_cases hij:i=j
  ·subst hij;rw[cA hvi,cA hi]
   exact hr.keep h2 (aY fun k hk' e=>hrg k hk' (by injection e with e;exact e.symm))
  rw[cE hij,cE hij];exact((h.rows j hj).keep hg (aY fun k hk e=>h.apart i j hi hj hij k e hk)).keep h2 (aY fun k hk' e=>h.off j hj k hk' (by simpa[Value.ownBlock]using e))
 ·rw[ja]at ha hb
  by_cases hia:i=a<;>by_cases hib:i=b
  ·omega
  ·subst hia
   rw[cA hvi]at hak;rw[cE hib];rcases hk k hak with h3|h3
   ·exact h.apart i b hi hb hib k h3
   intro e;have:=(h.rows b hb).lt k e;omega
  ·subst hib
   rw[cE hia]at hak;rw[cA hvi];intro e;rcases hk k e with h3|h3
   ·exact h.apart a i ha hi (fun q=>hia q.symm) k hak h3
   have:=(h.rows a ha).lt k hak;omega
  rw[cE hia]at hak;rw[cE hib];exact h.apart a b ha hb hne k hak
 rw[ja]at ha;by_cases hia:i=a
 ·subst hia;rw[cA hvi]at hak
  intro e;simp[Value.ownBlock]at e;exact hrg k hak e.symm
 rw[cE hia]at hak;exact h.off a ha k hak
theorem Own.storeList{B:Nat}{E:TypeId}{g n cap:Nat}(ys:List Value):∀{w:World} {xs:List Value} (o:Nat),Own w B E (.slice (some ⟨g,0,none⟩) n cap) xs->o+ys.length<=xs.length->
  Own (w.setCells g o ys) B E (.slice (some ⟨g,0,none⟩) n cap) (xs.take o++ys++xs.drop (o+ys.length))/\w.grownBy (w.setCells g o ys) (some g):=by
 induction ys with
 |nil=>intro w xs o h hl;simp only[World.setCells];exact⟨by simpa using h,fS w _⟩
 |cons y ys ih=>
  intro w xs o h hl;rw[qz]at hl;obtain⟨h1,h2⟩:=h.store o y;obtain⟨h3,h4⟩:=ih (o+1) h1 (by rw[ja];omega);refine⟨?_,aK h2 h4⟩
  have e:(xs.set o y).take (o+1)++ys++(xs.set o y).drop (o+1+ys.length)=xs.take o++y::ys++xs.drop (o+(y::ys).length):=by
   rw[List.take_set,qL (by omega),List.set_append_right _ _ (by simp[Nat.min_le_left]),List.drop_set_of_lt (by omega)];simp[Nat.min_eq_left (show o<=xs.length by omega),show o+1+ys.length=o+(ys.length+1) by omega]
  rw[<-e];exact h3
theorem bD{P:Program}{ops:Array Oper}{rest:List Oper}{o:Oper}{a:Act}{w:World}{Q:Exit->Act->World->Prop}(hgd:o.guard=none)(ty:TypeId)(x y:Operand)(ho:o.op=.store ty x y)
  (B E g n cap:Nat) (hx:a.eval x=.pointer (some ⟨g,0,none⟩)) (C:Array Value) (hy:a.eval y=.agg C) (hi:(P.info? ty).map (·.size)=some C.size) (xs:List Value) (hown:Own w B E (.slice (some ⟨g,0,none⟩) n cap) xs) (hle:C.size<=xs.length) (h1:∀u∈C.toList,u.oneCell'=true)
  (h:∀w',Own w' B E (.slice (some ⟨g,0,none⟩) n cap) (C.toList++xs.drop C.size)->w.grownBy w' (some g)->wpList P ops Q rest (a.put o.dst undef) w'):wpList P ops Q (o::rest) a w:=by
 have hst:=run_storeCells_cells (P:=P) g 0 C.toList 0 w (fun j hj=>by
   rw[qQ]at hj;rw[qH,hown.cell (by omega)];rfl) (fun j _=>by rw[qH];exact hown.free j) h1
 have hl:=hown.storeList C.toList 0 (by simpa using hle);rw[List.take_zero,List.nil_append,qH,qQ]at hl;refine wpList_plain hgd fun K hK=>?_
 have hsz:(sizeOf ty).run P w=.ok C.size w:=by
  cases hq:P.info? ty with
  |none=>simp[hq]at hi
  |some i=>simp[hq]at hi;simp[sizeOf,typeInfo,hq,hi]
 unfold Oper.wp execOp;simp only[ho,hx,hy,Instr.storeAt,Instr.sureAddr,storeVar,Value.cells,Sem.run_bind,Sem.run_pure,Result.andThen_ok,hsz,ne_eq,not_true_eq_false,jr,hst];exact hK _ _ (h _ hl.1 hl.2)
structure oG(w:World)(T n g:Nat)(cl:List Int):Prop where
 own:Own w g T (.slice (some ⟨g,0,none⟩) n n) (ints cl)
 len:cl.length=n
section
variable {w w' : World} {T n g : Nat} {cl : List Int}
theorem oG.keep{row:Option Nat}(h:oG w T n g cl)(hg:w.grownBy w' row)(hne:row≠some g):oG w' T n g cl:=⟨h.own.keep hg (.inr (fun e=>hne e.symm)),h.len⟩
theorem oG.up(h:oG w T n g cl)(hb:Below w.heap.size w w'):oG w' T n g cl:=⟨h.own.up hb,h.len⟩
theorem oG.lt(h:oG w T n g cl):g<w.heap.size:=(h.own.lt g rfl).2
theorem oG.cell(h:oG w T n g cl){c:Nat}(hc:c<n):w.cell? ⟨g,c,none⟩=some (.int .i64 (cl.getD c 0)):=by
 rw[h.own.cell (by rw[bE,h.len];exact hc),rI _ _ (by rw[h.len];exact hc)]
theorem oG.free(h:oG w T n g cl)(c:Nat):w.frozen? ⟨g,c,none⟩=false:=h.own.free c
theorem oG.set(h:oG w T n g cl)(c:Nat)(k:Int):oG (w.setCell ⟨g,c,none⟩ (.int .i64 k)) T n g (cl.set c k)/\w.grownBy (w.setCell ⟨g,c,none⟩ (.int .i64 k)) (some g):=by
 obtain⟨h1,h2⟩:=h.own.store c (.int .i64 k);have e:(ints cl).set c (.int .i64 k)=ints (cl.set c k):=by simp[ints,aA]
 rw[e]at h1;exact⟨⟨h1,by simp[h.len]⟩,h2⟩
theorem oG.open(h:oG w T n g cl):∃A,w.heap[g]? =some (.cells A T (0,0))/\A.size=n/\A.toList=ints cl:=by
 rcases h.own.1.2 with⟨h1,_⟩|⟨g',cap,cur,h1,_,hg,hnc,hcm,hcs,q5U⟩
 ·cases h1
 simp only[Value.slice.injEq,jA,Addr.mk.injEq,and_true]at h1;obtain⟨rfl,h2,rfl⟩:=h1;have hl:(ints cl).length=n:=by rw[bE,h.len]
 have hs:cur.size=n:=by omega
 refine⟨cur,hg,hs,?_⟩;rw[<-q5U,qE];rw[qQ];omega
theorem q0f(w:World)(T:Nat)(A:Array Value)(cl:List Int)(hA:A.toList=ints cl)(hn:cl.length<=4294967296):oG (w.alloc (.cells A T)) T cl.length w.heap.size cl:=by
 have hs:A.size=cl.length:=by rw[<-qQ,hA,bE]
 have h:=cX w w.heap.size A T (by rw[hs];exact hn) (qb _);rw[hA,hs]at h;exact⟨h,rfl⟩
end
theorem mR{P:Program}{ops:Array Oper}{rest:List Oper}{o:Oper}{a:Act}{w:World}{Q:Exit->Act->World->Prop}(hgd:o.guard=none)(T n:Nat)(x:Operand)(ho:o.op=.load T x)
  (g:Nat) (hx:a.eval x=.pointer (some ⟨g,0,none⟩)) (A:Array Value) (hs:A.size=n) (hg:w.heap[g]? =some (.cells A T (0,0))) (d:TypeDesc) (hu:P.underlying T=some d) (hd:(match d with|.struct _|.array _ _=>true|_=>false)=true) (hi:(P.info? T).map (·.size)=some n)
  (h:wpList P ops Q rest (a.put o.dst (.agg A)) w):wpList P ops Q (o::rest) a w:=
 l9 hgd T x ho g 0 n hx T A A (0,0) d hg hu hd hi (by rw[hs];omega) (by rw[<-hs];simp) h
theorem sY{P:Program}{C:World->Prop}{o:Oper}{a:Act}{K:Act->Prop}(T n:Nat)(x:Operand)(ho:o.op=.load T x)(g:Nat)(hx:a.eval x=.pointer (some ⟨g,0,none⟩))(A:Array Value)(hs:A.size=n)
  (hg:∀w',C w'->w'.heap[g]? =some (.cells A T (0,0))) (d:TypeDesc) (hu:P.underlying T=some d) (hd:(match d with|.struct _|.array _ _=>true|_=>false)=true) (hi:(P.info? T).map (·.size)=some n) (h:K (a.put o.dst (.agg A))):o.quiet P a C K:=by
 refine⟨.agg A,fun w' hw'=>?_,h⟩;have hl:=cW (P:=P) w' g 0 n T T A (0,0) d (hg w' hw') hu hd hi (by rw[hs];omega);unfold Oper.quietAt execOp;simp only[ho,hx,Instr.loadAt,Instr.sureAddr,Sem.run_bind,Sem.run_pure,Result.andThen_ok,hl,Oper.quietUpon];exact⟨trivial,by rw[<-hs];simp⟩
theorem kR{P:Program}{fn:Func}{tmps:Array Value}{w:World}{a t b:Nat}{ad:Addr}{v:Value}(hf:fn.results=#[.cell a t,.tmp b])(ha:tmps.getD a undef=.pointer (some ad))(hl:(loadVar t ad).run P w=.ok v w):
  (results fn tmps).run P w=.ok (.tuple #[v,tmps.getD b undef]) w:=by
 have ha':tmps[a]?.getD undef=.pointer (some ad):=by simpa using ha
 simp[results,hf,asAddr,ha',hl]
theorem bB{P:Program}{fn:Func}{tmps:Array Value}{w:World}{ds:List Deferred}{s b t:Nat}{ad:Addr}{x y:Value}{R:Ending->World->Prop}(hf:fn.results=#[.cell s t,.tmp b])(ha:tmps.getD s undef=.pointer (some ad))(hb:tmps.getD b undef=y)(hd:ds=[])
  (hl:(loadVar t ad).run P w=.ok x w) (h:R (.returned (.tuple #[x,y])) w):bodyPost P fn R .ret ⟨tmps,ds⟩ w:=
 bodyPost_ret (v:=.tuple #[x,y]) (by rw[kR hf ha hl,hb]) hd h
theorem oG.load{P:Program}{w:World}{T n g:Nat}{cl:List Int}(h:oG w T n g cl)(d:TypeDesc)(hu:P.underlying T=some d)(hd:(match d with|.struct _|.array _ _=>true|_=>false)=true)(hi:(P.info? T).map (·.size)=some n):
  (loadVar T ⟨g,0,none⟩).run P w=.ok (.agg (ints cl).toArray) w:=by
 obtain⟨A,hg,hs,hA⟩:=h.open;have hl:=cW (P:=P) w g 0 n T T A (0,0) d hg hu hd hi (by omega);have e:A.extract 0 (0+n)=(ints cl).toArray:=by rw[qH,<-hs,Array.extract_size,<-hA]
 rw[e]at hl;exact hl
def SlK(k:Nat)(w:World)(v:Value)(l:List (List Value)):Prop:=
 ∃oa cap b off,v=.slice oa l.length cap/\Hd w oa l.length cap b off/\∀i,i<l.length->∀c,c<k->w.cell? ⟨b,off+i*k+c,none⟩=some ((l.getD i []).getD c undef)
theorem SlK.up{k:Nat}{w w':World}{v:Value}{l:List (List Value)}(h:SlK k w v l)(hb:Below w.heap.size w w'):SlK k w' v l:=by
 obtain⟨oa,cap,b,off,rfl,hd,hc⟩:=h;refine⟨oa,cap,b,off,rfl,⟨hd.hat,hd.hcap,hd.hmax,hd.hsml,fun h=>qe (hd.hblk h) hb.size⟩,fun i hi c hcl=>?_⟩;rw[hb.cell (p:=⟨b,off+i*k+c,none⟩) (hd.hblk (by omega))];exact hc i hi c hcl
theorem SlK.nil(k:Nat)(w:World):SlK k w (.slice none 0 0) []:=⟨none,0,0,0,rfl,⟨fun h=>absurd h (jI 0),qb _,by simp[maxLen],by simp,fun h=>absurd h (jI 0)⟩,fun i hi=>absurd hi (qB i)⟩
theorem pV{P:Program}{E:TypeId}{k:Nat}(hE:(P.info? E).map (·.size)=some k)(W:World):(sizeOf E).run P W=.ok k W:=by
 cases hq:P.info? E with
 |none=>simp[hq]at hE
 |some inf=>
  have hs:inf.size=k:=by simpa[hq]using hE
  simp[sizeOf,typeInfo,hq,hs]
theorem lU{P:Program}{w:World}{oa:Option Addr}{b off len cap:Nat}(k:Nat)(T E:TypeId)(hT:P.underlying T=some (.slice E))(hE:(P.info? E).map (·.size)=some k)(h:Hd w oa len cap b off):
  ∀(W:World) (kd:IntKind) (i:Int),0<=i->i<len->(Instr.indexAt T (.slice oa len cap) (.int kd i)).run P W=.ok (.pointer (some ⟨b,off+i.toNat*k,none⟩)) W:=by
 intro W kd i h0 h1;rw[h.hat (by omega)];have he:P.elem T=E:=by simp[Program.elem,hT]
 rw[run_indexAt_slice W T ⟨b,off,none⟩ len cap kd i (by rw[he];exact hT),qv ⟨h0,h1⟩,he,pV hE];simp[Result.andThen,Addr.add]
theorem mS{P:Program}{k:Nat}(t E:TypeId)(ht:P.underlying t=some (.slice E))(hE:(P.info? E).map (·.size)=some k):P.underlying t=some (.slice (P.elem t))/\∀W:World,(sizeOf (P.elem t)).run P W=.ok k W:=by
 have he:P.elem t=E:=by simp[Program.elem,ht]
 refine⟨by rw[he];exact ht,fun W=>?_⟩;rw[he];exact pV hE W
theorem SlK.high{P:Program}{k:Nat}{w:World}{v:Value}{l:List (List Value)}(h:SlK k w v l)(t E:TypeId)(ht:P.underlying t=some (.slice E))(hE:(P.info? E).map (·.size)=some k)(n:Nat)(hn:n<=l.length):
  ∃u,(∀W:World,(Instr.sliceAt t v (some (.int .i64 (n:Int))) none none).run P W=.ok u W)/\SlK k w u (l.drop n):=by
 obtain⟨oa,cap,b,off,rfl,hd,hc⟩:=h;obtain⟨h1,h2⟩:=mS t E ht hE;have hcap:=hd.hcap;have hl:(l.drop n).length=l.length-n:=by rw[j3]
 refine⟨sliced oa n l.length cap k,fun W=>?_,?_⟩
 ·rw[run_sliceAt_slice (P:=P) (t:=t) (h:=h1),run_slice_l (t:=t) (ht:=h1) (h0:=by omega) (h1:=by omega),h2]
  simp[Result.andThen]
 refine⟨if cap=n then oa else oa.map (·.add (n*k)),cap-n,b,off+n*k,by rw[hl];simp[sliced],⟨fun h0=>?_,by omega,by have:=hd.hmax;omega,by have:=hd.hsml;omega,fun h0=>hd.hblk (by omega)⟩,fun i hi c hcl=>?_⟩
 ·rw[hl]at h0
  rw[qu (by omega),hd.hat (by omega)];simp[gH]
 rw[hl]at hi;have:=hc (n+i) (by omega) c hcl;rw[jL,<-jJ]at this;rw[this];simp[List.getD]
theorem SlK.mid{P:Program}{k:Nat}{w:World}{v:Value}{l:List (List Value)}(h:SlK k w v l)(t E:TypeId)(ht:P.underlying t=some (.slice E))(hE:(P.info? E).map (·.size)=some k)(n m:Nat)(hn:n<=m)(hm:m<=l.length):
  ∃u,(∀W:World,(Instr.sliceAt t v (some (.int .i64 (n:Int))) (some (.int .i64 (m:Int))) none).run P W=.ok u W)/\SlK k w u ((l.drop n).take (m-n)):=by
 obtain⟨oa,cap,b,off,rfl,hd,hc⟩:=h;obtain⟨h1,h2⟩:=mS t E ht hE;have hcap:=hd.hcap;have hl:((l.drop n).take (m-n)).length=m-n:=by rw[qW,j3];omega
 refine⟨sliced oa n m cap k,fun W=>?_,?_⟩
 ·rw[run_sliceAt_slice (P:=P) (t:=t) (h:=h1),run_slice_lh (t:=t) (ht:=h1) (h0:=by omega) (h1:=by omega) (h2:=by omega),h2]
  simp[Result.andThen]
 refine⟨if cap=n then oa else oa.map (·.add (n*k)),cap-n,b,off+n*k,by rw[hl];simp[sliced],⟨fun h0=>?_,by omega,by have:=hd.hmax;omega,by have:=hd.hsml;omega,fun h0=>hd.hblk (by omega)⟩,fun i hi c hcl=>?_⟩
 ·rw[hl]at h0
  rw[qu (by omega),hd.hat (by omega)];simp[gH]
 rw[hl]at hi;have:=hc (n+i) (by omega) c hcl;rw[jL,<-jJ]at this;rw[this];simp[List.getD,hi]
theorem eL{P:Program}(w:World)(g off n:Nat)(ty:TypeId)(C:Array Value)(d:TypeDesc)(hc:∀c,c<n->w.cell? ⟨g,off+c,none⟩=some (C.getD c undef))(hs:C.size=n)
  (hu:P.underlying ty=some d) (hd:(match d with|.struct _|.array _ _=>true|_=>false)=true) (hi:(P.info? ty).map (·.size)=some n):
  (loadVar ty ⟨g,off,none⟩).run P w=.ok (.agg C) w:=by
 have hl:(loadCells ⟨g,off,none⟩ C.toList.length).run P w=.ok C.toList.toArray w:=
  run_loadCells_list (P:=P) w ⟨g,off,none⟩ C.toList (fun j v hv=>by
   rw[gH]
   have hj:j<n:=by
    have:=(List.getElem?_eq_some_iff.1 hv).1;rw[qQ]at this;omega
   rw[hc j hj];simp only[j8]at hv;simp[qR,hv])
 rw[qQ,hs]at hl;simp only[Array.toArray_toList]at hl
 have hagg:(isAgg ty).run P w=.ok true w:=by
  exact ZmA11
 simp[loadVar,Sem.run_bind,hagg,pV hi,hl]
theorem aJ{P:Program}{ops:Array Oper}{rest:List Oper}{o:Oper}{a:Act}{w:World}{Q:Exit->Act->World->Prop}(hgd:o.guard=none)(ty:TypeId)(x:Operand)(ho:o.op=.load ty x)
  (g off n:Nat) (hx:a.eval x=.pointer (some ⟨g,off,none⟩)) (C:Array Value) (d:TypeDesc) (hc:∀c,c<n->w.cell? ⟨g,off+c,none⟩=some (C.getD c undef)) (hs:C.size=n)
  (hu:P.underlying ty=some d) (hd:(match d with|.struct _|.array _ _=>true|_=>false)=true) (hi:(P.info? ty).map (·.size)=some n)
  (h:wpList P ops Q rest (a.put o.dst (.agg C)) w):wpList P ops Q (o::rest) a w:=by
 refine wpList_plain hgd fun K hK=>?_;unfold Oper.wp execOp;simp only[ho,hx,Instr.loadAt,Instr.sureAddr,Sem.run_bind,Sem.run_pure,Result.andThen_ok,eL w g off n ty C d hc hs hu hd hi];exact hK _ _ h
theorem bP{P:Program}{C:World->Prop}{o:Oper}{a:Act}{K:Act->Prop}(T n:Nat)(x:Operand)(ho:o.op=.load T x)(g off:Nat)(hx:a.eval x=.pointer (some ⟨g,off,none⟩))(A:Array Value)(hs:A.size=n)
  (hg:∀w',C w'->∀c,c<n->w'.cell? ⟨g,off+c,none⟩=some (A.getD c undef)) (d:TypeDesc) (hu:P.underlying T=some d) (hd:(match d with|.struct _|.array _ _=>true|_=>false)=true) (hi:(P.info? T).map (·.size)=some n) (h:K (a.put o.dst (.agg A))):o.quiet P a C K:=by
 refine⟨.agg A,fun w' hw'=>?_,h⟩;have hl:=eL (P:=P) w' g off n T A d (hg w' hw') hs hu hd hi;unfold Oper.quietAt execOp;simp only[ho,hx,Instr.loadAt,Instr.sureAddr,Sem.run_bind,Sem.run_pure,Result.andThen_ok,hl,Oper.quietUpon];exact⟨trivial,trivial⟩
def d4(k:Nat)(w:World)(B:Nat)(E:TypeId)(v:Value)(l:List (List Value)):Prop:=
 w.ownsRow B E k v l.length l.flatten/\l.length<=140737488351232/\∀x∈l,x.length=k
theorem d4.nil(k:Nat)(w:World)(B:Nat)(E:TypeId):d4 k w B E (.slice none 0 0) []:=⟨World.ownsRow_nil w B E k,by simp,by simp⟩
theorem mH{k:Nat}{l:List (List Value)}(h:∀x∈l,x.length=k):l.flatten.length=l.length*k:=by
 induction l with
 |nil=>simp
 |cons x l ih=>
  rw[List.flatten_cons,qj,ih (fun y hy=>h y (qX _ hy)),h x jg,qz,Nat.succ_mul,Nat.add_comm]
theorem oH{k:Nat}{l:List (List Value)}(h:∀x∈l,x.length=k):∀(i c:Nat),i<l.length->c<k->l.flatten[i*k+c]? =(l.getD i [])[c]? :=by
 induction l with
 |nil=>intro i c hi;simp at hi
 |cons x l ih=>
  intro i c hi hc;have hx:=h x jg;rw[List.flatten_cons];cases i with
  |zero=>rw[Nat.zero_mul,qH,qV (by omega)];simp
  |succ i=>
   rw[jh (by rw[hx,Nat.succ_mul];omega),hx,show(i+1)*k+c-k=i*k+c by rw[Nat.succ_mul];omega,ih (fun y hy=>h y (qX _ hy)) i c (by simpa using hi) hc];simp
theorem d4.sl{k:Nat}{w:World}{B:Nat}{E:TypeId}{v:Value}{l:List (List Value)}(h:d4 k w B E v l):SlK k w v l:=by
 obtain⟨⟨_,h⟩,hl,hk⟩:=h;rcases h with⟨rfl,h0⟩|⟨g,cap,cur,rfl,hb,hg,hnc,hcm,hcs,q5U⟩
 ·obtain rfl:l=[]:=List.length_eq_zero_iff.1 h0
  exact SlK.nil k w
 refine⟨some ⟨g,0,none⟩,cap,g,0,rfl,⟨fun _=>rfl,hnc,hcm,hl,fun _=>(Array.getElem?_eq_some_iff.1 hg).1⟩,fun i hi c hc=>?_⟩;rw[cell_of_row w g (0+i*k+c) cur E (0,0) hg,qH]
 have hlt:i*k+c<l.length*k:=by
  have h1:(i+1)*k<=l.length*k:=Nat.mul_le_mul_right k hi;rw[Nat.succ_mul]at h1;omega
 have h1:l.flatten[i*k+c]? =cur[i*k+c]? :=by
  rw[<-q5U,List.getElem?_take,qv hlt];simp
 rw[<-h1,oH hk i c hi hc];have hxl:c<(l.getD i []).length:=by rw[hk _ (by simp[List.getD,hi])];exact hc
 generalize l.getD i []=y at*;simp[List.getD,hxl]
theorem d4.keep{k:Nat}{w w':World}{B:Nat}{E:TypeId}{v:Value}{l:List (List Value)}{row:Option Nat}(h:d4 k w B E v l)(hg:w.grownBy w' row)(hne:v.ownBlock=none\/v.ownBlock≠row):d4 k w' B E v l:=⟨h.1.kept hg hne,h.2⟩
theorem d4.up{k:Nat}{w w':World}{B:Nat}{E:TypeId}{v:Value}{l:List (List Value)}(h:d4 k w B E v l)(hb:Below w.heap.size w w'):d4 k w' B E v l:=
 h.keep (row:=none) ⟨hb.os,hb.tape,hb.output,hb.size,fun k hk _=>hb.block k hk⟩ (by cases v.ownBlock<;>simp)
theorem d4.lt{k:Nat}{w:World}{B:Nat}{E:TypeId}{v:Value}{l:List (List Value)}(h:d4 k w B E v l):∀q,v.ownBlock=some q->B<=q/\q<w.heap.size:=h.1.lt
theorem d4.mono{k:Nat}{w:World}{B B' E:Nat}{v:Value}{l:List (List Value)}(h:d4 k w B E v l)(hB:B'<=B):d4 k w B' E v l:=
 ⟨⟨h.1.1,h.1.2.imp id fun⟨g,cap,cur,h1,h2,h3⟩=>⟨g,cap,cur,h1,by omega,h3⟩⟩,h.2⟩
theorem q0g{P:Program}{k:Nat}(w:World)(B:Nat)(t ty E:TypeId)(z:Value)(bytes:Nat)(ht:P.underlying t=some (.slice E))(q5X:(P.info? E).map (fun i=>(i.zero,i.size,i.bytes))=some (some z,k,bytes))(hz:z.cells.size=k)(hk:0<k)(hby:bytes<=128)
  (v:Value) (xs:List (List Value)) (hown:d4 k w B E v xs) (xv:Value) (news:List (List Value)) (hx:SlK k w xv news) (hnk:∀x∈news,x.length=k) (h1:∀u∈news.flatten,u.oneCell'=true) (hlen:xs.length+news.length<=1000000000) (hB:B<=w.heap.size):
  ∃v' w',(Builtin.append_ #[t,t] ty #[v,xv]).run P w=.ok v' w'/\d4 k w' B E v' (xs++news)/\w.grownBy w' v.ownBlock/\(∀q,v'.ownBlock=some q->v.ownBlock=some q\/w.heap.size<=q):=by
 obtain⟨i0,hi,hz0,hz1,hz2⟩:∃i0,P.info? E=some i0/\i0.zero=some z/\i0.size=k/\i0.bytes=bytes:=by
  cases hq:P.info? E with
  |none=>simp[hq]at q5X
  |some i0=>simp[hq]at q5X;exact⟨i0,rfl,q5X.1,q5X.2.1,q5X.2.2⟩
 have hl1:xs.length+news.length<=maxLen:=by simp only[maxLen];omega
 have hl2:(xs.length+news.length)*bytes<=140737488355328:=by
  have:=Nat.mul_le_mul hlen hby;omega
 obtain⟨oa,cx,b,off,rfl,hd,hc⟩:=hx;obtain⟨hrow,hsm,hxk⟩:=hown;have q5Z:news.flatten.length=news.length*k:=mH hnk
 have hall:∀x∈xs++news,x.length=k:=fun x hx=>by
  rcases List.mem_append.1 hx with h|h
  ·exact hxk x h
  exact hnk x h
 have q63:(xs++news).length<=140737488351232:=by rw[qj];omega
 by_cases hn:news=[]
 ·subst hn
  refine⟨v,w,?_,⟨by simpa using hrow,by simpa using hsm,by simpa using hxk⟩,⟨rfl,rfl,rfl,qb _,fun _ _ _=>rfl⟩,fun k hk=>.inl hk⟩;rcases hrow.2 with⟨rfl,hx0⟩|⟨g,cap,cur,rfl,_,_,hnc,_⟩
  ·exact ZmA3
  exact ZmA2
 have q69:0<news.length:=List.length_pos_iff.2 hn;obtain rfl:=hd.hat q69
 have hnews:∀j u,news.flatten[j]? =some u->w.cell? ((⟨b,off,none⟩:Addr).add j)=some u:=fun j u hu=>by
  have hj:=(List.getElem?_eq_some_iff.1 hu).1;rw[q5Z]at hj;have hdm:j=j/k*k+j%k:=by rw[Nat.mul_comm];exact(Nat.div_add_mod j k).symm
  have hq:j/k<news.length:=(Nat.div_lt_iff_lt_mul hk).2 hj;have hm:=jU j hk;rw[gH,hdm,<-jJ,hc (j/k) hq (j%k) hm];rw[hdm,oH hnk _ _ hq hm]at hu;rw[qt,hu];rfl
 rcases hrow.2 with⟨rfl,hx0⟩|⟨g,cap,cur,rfl,hbg,hg,hnc,hcm,hcs,q5U⟩
 ·obtain rfl:xs=[]:=List.length_eq_zero_iff.1 hx0
  obtain⟨v',w',hr,ho,hgr,-⟩:=run_append_own (P:=P) w w.heap.size t ty E i0 z k bytes ht hi hz0 hz1 hz2 hz hk (.slice none 0 0) 0 [] (World.ownsRow_nil _ _ _ _) ⟨b,off,none⟩ news.length cx news.flatten q5Z hnews h1 (by simpa using hl1) (by simpa using hl2) (qb _);have hkk:=ho.lt;refine⟨v',w',hr,⟨⟨by simpa using q5Z,?_⟩,q63,hall⟩,hgr,fun q hq=>.inr (hkk q hq).1⟩;simp only[qH,List.nil_append]at ho;rcases ho.2 with⟨h1,h2⟩|⟨g,cap,cur,h1,h2,h3⟩
  ·exact .inl ⟨h1,by simpa using h2⟩
  exact .inr ⟨g,cap,cur,h1,by omega,by simpa using h3⟩
 by_cases hroom:xs.length+news.length<=cap
 ·obtain⟨w',hr,ho,hgr⟩:=run_append_fits (P:=P) w B t ty E i0 k ht hi hz1 g xs.length cap xs.flatten ⟨hrow.1,.inr ⟨g,cap,cur,rfl,hbg,hg,hnc,hcm,hcs,q5U⟩⟩ ⟨b,off,none⟩ news.length cx news.flatten q5Z hnews h1 hroom
  exact⟨_,w',hr,⟨by rw[qj,jw];exact ho,q63,hall⟩,hgr,fun k hk=>.inl hk⟩
 have holds:∀j u,xs.flatten[j]? =some u->w.cell? ((⟨g,0,none⟩:Addr).add j)=some u:=World.ownsRow.cells (g:=g) hrow rfl;have hxl:xs.flatten.length=xs.length*k:=mH hxk;have hr:=run_append_grow (P:=P) w t ty E i0 z ht hi hz0 ⟨g,0,none⟩ xs.length cap xs.flatten (by rw[hz1];exact hxl) holds ⟨b,off,none⟩ news.length cx news.flatten (by rw[hz1];exact q5Z) hnews (by omega) (by omega) (growslice_fits (by omega) (by rw[hz2];exact hl2));have hge:=grownCap_ge w (xs.length+news.length) cap E;have q90:grownCap w (xs.length+news.length) cap E<=maxLen:=grownCap_le_maxLen w _ cap E hl1;refine⟨_,_,hr,⟨⟨by rw[qj,jw,qj,hxl,q5Z,jL],.inr ⟨w.heap.size,_,_,by rw[qj],hB,heap_alloc_new w.drew _,by rw[qj];exact hge,q90,?_,?_⟩⟩,q63,hall⟩,⟨rfl,rfl,rfl,by simp,fun k hk _=>Below.heap_alloc w.drew _ k hk⟩,fun k hk=>.inr (by simp[Value.ownBlock]at hk;omega)⟩
 ·simp only[Array.size_append,jB,size_zeroCells,hz,hxl,q5Z,<-jL]
  congr 1;omega
 simp only[Array.toList_append,qk,qj,jw];rw[<-qk,jL,<-hxl,<-q5Z,<-qj];exact List.take_left
theorem dI{P:Program}{ops:Array Oper}{rest:List Oper}{o:Oper}{a:Act}{w:World}{Q:Exit->Act->World->Prop}(k:Nat)(hgd:o.guard=none)(s x:Operand)(t:TypeId)
  (ho:o.op=.call {callee:=.builtin .append,args:=#[s,x],argTypes:=#[t,t]})
  (B E:TypeId) (z:Value) (bytes:Nat) (ht:P.underlying t=some (.slice E)) (q5X:(P.info? E).map (fun i=>(i.zero,i.size,i.bytes))=some (some z,k,bytes)) (hz:z.cells.size=k) (hk:0<k) (hby:bytes<=128)
  (v:Value) (xs:List (List Value)) (hs:a.eval s=v) (hown:d4 k w B E v xs) (xv:Value) (news:List (List Value)) (hxe:a.eval x=xv) (hx:SlK k w xv news) (hnk:∀x∈news,x.length=k) (h1:∀u∈news.flatten,u.oneCell'=true) (hlen:xs.length+news.length<=1000000000) (hB:B<=w.heap.size)
  (h:∀v' w',d4 k w' B E v' (xs++news)->w.grownBy w' v.ownBlock->(∀q,v'.ownBlock=some q->v.ownBlock=some q\/w.heap.size<=q)->wpList P ops Q rest (a.put o.dst v') w'):wpList P ops Q (o::rest) a w:=by
 obtain⟨v',w',hr,h2,h3,h4⟩:=q0g (P:=P) w B t o.type E z bytes ht q5X hz hk hby v xs hown xv news hx hnk h1 hlen hB;refine wpList_plain hgd fun K hK=>?_;unfold Oper.wp execOp;simp only[ho,resolve,invoke,builtin,Sem.run_bind,Sem.run_pure,Result.andThen_ok,List.map_toArray,qI,js,hs,hxe,hr];exact hK _ _ (h v' w' h2 h3 h4)
theorem oI(k:Nat)(w:World)(c:Array Value)(E:TypeId)(l:List (List Value))(hl:c.toList=l.flatten)(hk:∀x∈l,x.length=k)(hc:l.length<=4294967296):SlK k (w.alloc (.cells c E)) (.slice (some ⟨w.heap.size,0,none⟩) l.length l.length) l:=by
 refine⟨some ⟨w.heap.size,0,none⟩,l.length,w.heap.size,0,rfl,⟨fun _=>rfl,qb _,by simp only[maxLen];omega,by omega,fun _=>by simp⟩,fun i hi x hx=>?_⟩;rw[qH,World.cell?_alloc_new,<-j8,hl,oH hk i x hi hx];have hxl:x<(l.getD i []).length:=by rw[hk _ (by simp[List.getD,hi])];exact hx
 generalize l.getD i []=y at*;simp[List.getD,hxl]
theorem iX(k:Nat)(w:World)(B:Nat)(c:Array Value)(E:TypeId)(l:List (List Value))(hl:c.toList=l.flatten)(hk:∀x∈l,x.length=k)(hc:l.length<=4294967296)(hB:B<=w.heap.size):d4 k (w.alloc (.cells c E)) B E (.slice (some ⟨w.heap.size,0,none⟩) l.length l.length) l:=by
 have hs:c.size=l.length*k:=by rw[<-qQ,hl,mH hk]
 have h:=World.ownsRow_lit (base:=B) (e:=E) (size:=k) w c l.length hB (by simp only[maxLen];omega) hs;rw[hl]at h;exact⟨h,by omega,hk⟩
end Go.Cm
namespace Go.Cm
structure Nd where
 kd:Int
 n:Int
 a:Int
 b:Int
 c:Int
 d:Int
 lo:Int
 hi:Int
inductive Fo where
 |nil:Fo
 |cons (x:Nd) (k r:Fo):Fo
def aT:Fo->List Nd
 |.nil=>[]
 |.cons x k r=>x::(aT k++aT r)
def cnt:Fo->Nat
 |.nil=>0
 |.cons _ _ r=>cnt r+1
def wf:Fo->Prop
 |.nil=>True
 |.cons x k r=>x.n=cnt k/\wf k/\wf r
def gT(p:Nd->Prop):Fo->Prop
 |.nil=>True
 |.cons x k r=>p x/\gT p k/\gT p r
theorem eW{p:Nd->Prop}:∀f,gT p f↔∀x∈aT f,p x
 |.nil=>by simp[gT,aT]
 |.cons x k r=>by
  rw[gT,eW k,eW r,aT]
  constructor
  ·rintro⟨h1,h2,h3⟩ y hy
   rcases List.mem_cons.1 hy with rfl|hy
   ·exact h1
   rcases List.mem_append.1 hy with hy|hy
   ·exact h2 y hy
   exact h3 y hy
  intro h;exact⟨h x jg,fun y hy=>h y (qX _ (j4 _ hy)),fun y hy=>h y (qX _ (List.mem_append_right _ hy))⟩
theorem cnt_le:∀f,cnt f<=(aT f).length
 |.nil=>by simp[cnt,aT]
 |.cons x k r=>by have:=cnt_le r;simp only[cnt,aT,qz,qj];omega
theorem fY:∀f,cnt f=0->f=.nil
 |.nil,_=>rfl
 |.cons _ _ _,h=>by simp[cnt]at h
def pG(L:Nat):Int->List Nd->Nat->Int
 |_,[],_=> -1
 |want,x::r,at_=>if x.n<0\/(L:Int)<x.n then -1 else if want+(x.n-1)=0 then at_+1 else pG L (want+(x.n-1)) r (at_+1)
theorem mI(L:Nat)(post:List Nd):∀(f:Fo),wf f->(aT f).length<=L->∀(w at_:Nat),0<cnt f+w->pG L ((cnt f+w:Nat):Int) (aT f++post) at_=if w=0 then(at_:Int)+(aT f).length else pG L w post (at_+(aT f).length)
 |.nil,_,_,w,at_,h=>by
  simp only[cnt,qH]at h;rw[qu (by omega)];simp[cnt,aT]
 |.cons x k r,hwf,hL,w,at_,h=>by
  obtain⟨hn,hk,hr⟩:=hwf;simp only[aT,qz,qj]at hL;have hck:=cnt_le k;simp only[aT,jl,pG,cnt,qk];rw[qu (by omega)];have e:((cnt r+1+w:Nat):Int)+(x.n-1)=((cnt k+(cnt r+w):Nat):Int):=by rw[hn];push_cast;omega
  rw[e];by_cases h0:cnt k+(cnt r+w)=0
  ·rw[qv (by omega),qv (by omega)]
   have hk0:=fY k (by omega);have hr0:=fY r (by omega);subst hk0;subst hr0;simp[aT]
  rw[qu (by omega),mI L (aT r++post) k hk (by omega) (cnt r+w) (at_+1) (by omega)];by_cases h1:cnt r+w=0
  ·rw[qv h1,qv (by omega)]
   have hr0:=fY r (by omega);subst hr0;simp only[aT,j6,qz]
   push_cast;omega
  rw[qu h1,mI L post r hr (by omega) w (at_+1+(aT k).length) (by omega)];simp only[qz,qj];by_cases h2:w=0
  ·rw[qv h2,qv h2];push_cast;omega
  rw[qu h2,qu h2]
  congr 1;omega
theorem wB(L:Nat)(post:List Nd)(x:Nd)(k:Fo)(hn:x.n=cnt k)(hk:wf k)(hL:1+(aT k).length<=L)(at_:Nat):pG L 1 (x::(aT k++post)) at_=(at_:Int)+(1+(aT k).length):=by
 have h:=mI L post (.cons x k .nil) ⟨hn,hk,trivial⟩ (by simp[aT];omega) 0 at_ (by simp[cnt]);simp only[aT,cnt,j6,jl,jH,qz]at h;have e:((0+1+0:Nat):Int)=1:=rfl;rw[e]at h;rw[h];push_cast;omega
theorem tA:∀(f:Fo) (n:Nat),wf f->n<=cnt f->∃a b,cnt a=n/\cnt b+n=cnt f/\aT f=aT a++aT b/\wf a/\wf b
 |f,0,hf,_=>⟨.nil,f,rfl,rfl,by simp[aT],trivial,hf⟩
 |.nil,n+1,_,h=>by simp[cnt]at h
 |.cons x k r,n+1,hf,h=>by
  obtain⟨h1,h2,h3⟩:=hf;obtain⟨a,b,e1,e2,e3,e4,e5⟩:=tA r n h3 (by simp[cnt]at h;omega);exact⟨.cons x k a,b,by simp[cnt,e1],by simp[cnt];omega,by simp[aT,e3],⟨h1,h2,e4⟩,e5⟩
theorem wC(L:Nat):∀(l:List Nd) (w at_:Nat),0<w->pG L w l at_=(at_:Int)+l.length->∃f,aT f=l/\wf f/\cnt f=w
 |[],w,at_,_,h=>by simp only[pG,qN]at h;omega
 |x::r,w,at_,hw,h=>by
  simp only[pG]at h;by_cases h1:x.n<0\/(L:Int)<x.n
  ·rw[qv h1]at h;omega
  rw[qu h1]at h;by_cases h2:(w:Int)+(x.n-1)=0
  ·rw[qv h2]at h
   have hr:r=[]:=List.length_eq_zero_iff.1 (by simp only[qz]at h;push_cast at h;omega);subst hr;exact⟨.cons x .nil .nil,by simp[aT],⟨by simp only[cnt];omega,trivial,trivial⟩,by simp only[cnt];omega⟩
  rw[qu h2]at h;obtain⟨m,hm⟩:∃m:Nat,x.n=m:=⟨x.n.toNat,by omega⟩;have e:(w:Int)+(x.n-1)=((w+m-1:Nat):Int):=by omega
  rw[e]at h;obtain⟨f,e1,e2,e3⟩:=wC L r (w+m-1) (at_+1) (by omega) (by rw[h];simp only[qz];push_cast;omega);obtain⟨a,b,c1,c2,c3,c4,c5⟩:=tA f m e2 (by omega);exact⟨.cons x a b,by rw[aT,<-c3,e1],⟨by rw[hm,c1],c4,c5⟩,by simp[cnt];omega⟩
def pH(x:Nd):Prop:=x.lo=0/\x.hi=0
def g8(x:Nd):Prop:=x.a=0/\x.b=0/\x.c=0/\x.d=0
instance(x:Nd):Decidable (pH x):=by unfold pH;infer_instance
instance(x:Nd):Decidable (g8 x):=by unfold g8;infer_instance
def okN(x:Nd):Prop:=
 (x.kd=1/\x.n=0/\¬g8 x/\pH x)\/(x.kd=2/\x.n=0/\g8 x/\pH x)\/((x.kd=3\/x.kd=4)/\2<=x.n/\g8 x/\pH x)\/((x.kd=5\/x.kd=6\/x.kd=7)/\x.n=1/\g8 x/\pH x)\/
  (x.kd=8/\x.n=1/\g8 x/\0<=x.lo/\x.lo<=30/\(x.hi= -1\/(x.lo<=x.hi/\x.hi<=30)))
instance(x:Nd):Decidable (okN x):=by unfold okN;infer_instance
def Chk(l:List Nd):Prop:=l.length<=400/\l.length≠0/\pG l.length 1 l 0=l.length/\∀x∈l,okN x
instance(l:List Nd):Decidable (Chk l):=by unfold Chk;infer_instance
theorem iY{l:List Nd}(h:Chk l):∃x k,l=x::aT k/\x.n=cnt k/\wf k/\okN x/\gT okN k/\(aT k).length<400:=by
 obtain⟨h1,h2,h3,h4⟩:=h;obtain⟨f,e1,e2,e3⟩:=wC l.length l 1 0 (by omega) (by simpa using h3);cases f with
 |nil=>simp[cnt]at e3
 |cons x k r=>
  have hr:=fY r (by simpa[cnt]using e3);subst hr;simp only[aT,j6]at e1;subst e1;refine⟨x,k,rfl,e2.1,e2.2.1,h4 x jg,(eW k).2 fun y hy=>h4 y (qX _ hy),?_⟩;simp at h1;omega
def dC(x:Nd):Int:=if x.hi<0 then max x.lo 1 else x.hi
def gU(x:Nd)(s:Int):Int:=min (if x.kd=1\/x.kd=2 then 2 else if x.kd=4\/x.kd=5\/x.kd=6\/x.kd=7 then s+2 else if x.kd=8 then 2+dC x*s else s) 1000000
def dM:Fo->Int
 |.nil=>0
 |.cons x k r=>gU x (dM k)+dM r
theorem lC{x:Nd}(h:okN x)(h8:x.kd=8):0<=dC x/\dC x<=30:=by
 unfold okN at h;unfold dC;split<;>omega
theorem f9{x:Nd}{s:Int}(h:okN x)(hs:0<=s):0<=gU x s/\gU x s<=1000000:=by
 unfold gU;by_cases h8:x.kd=8
 ·have:=lC h h8
  have h2:0<=dC x*s:=Int.mul_nonneg this.1 hs
  (repeat' split)<;>omega
 (repeat' split)<;>omega
theorem eM:∀f,gT okN f->0<=dM f/\dM f<=1000000*(aT f).length
 |.nil,_=>by simp[dM,aT]
 |.cons x k r,h=>by
  have h1:=eM k h.2.1;have h2:=eM r h.2.2;have h3:=f9 h.1 h1.1;simp only[dM,aT,qz,qj]
  push_cast
  omega
theorem uH:∀(f g:Fo) (p q:List Nd),wf f->wf g->cnt f=cnt g->aT f++p=aT g++q->f=g/\p=q
 |.nil,g,p,q,_,_,hc,h=>by
  have hg:=fY g (by simpa[cnt]using hc.symm);subst hg;exact⟨rfl,by simpa[aT]using h⟩
 |.cons x k r,.nil,p,q,_,_,hc,h=>by simp[cnt]at hc
 |.cons x k r,.cons y a b,p,q,hf,hg,hc,h=>by
  simp only[aT,jl,qk,List.cons.injEq]at h;obtain⟨rfl,h⟩:=h;have hkc:cnt k=cnt a:=by have h1:=hf.1;have h2:=hg.1;omega
  obtain⟨e1,h1⟩:=uH k a _ _ hf.2.1 hg.2.1 hkc h;obtain⟨e2,h2⟩:=uH r b _ _ hf.2.2 hg.2.2 (by simpa[cnt]using hc) h1;rw[e1,e2];exact⟨rfl,h2⟩
open Classical in
noncomputable def gL(l:List Nd):Fo:=if h:∃f,aT f=l/\wf f/\cnt f=1 then h.choose else .nil
theorem dR(x:Nd)(k:Fo)(hn:x.n=cnt k)(hk:wf k):gL (x::aT k)=.cons x k .nil:=by
 have h:∃f,aT f=x::aT k/\wf f/\cnt f=1:=⟨.cons x k .nil,by simp[aT],⟨hn,hk,trivial⟩,rfl⟩;unfold gL;rw[dif_pos h];obtain⟨h1,h2,h3⟩:=h.choose_spec;exact(uH _ (.cons x k .nil) [] [] h2 ⟨hn,hk,trivial⟩ h3 (by rw[h1];simp[aT])).1
noncomputable def eR(l:List Nd):Int:=if Chk l then dM (gL l)else 0
theorem uI(l:List Nd):0<=eR l/\eR l<=1000000:=by
 unfold eR;split
 ·next h=>
  obtain⟨x,k,rfl,h1,h2,h3,h4,-⟩:=iY h;rw[dR x k h1 h2];simp only[dM,Int.add_zero];exact f9 h3 (eM k h4).1
 omega
noncomputable def oC(ll:List (List Nd)):Int:=
 if ll.length=0 then 17 else if 32<ll.length then 3 else if¬∀l∈ll,Chk l then 4 else if 3000<1+(ll.map eR).sum then 3 else 0
end Go.Cm
namespace Go.Cm
open Go.RowKit
section
variable {P : Program} {ops : Array Oper} {md : Region.Mode} {C : World → Prop} {o3 : List Nat}
def q0a(o3:List Nat)(listed:Array Bool):Bool:=o3.any fun t=>listed.getD t false
def mT(P:Program)(md:Region.Mode)(ops:Array Oper)(C:World->Prop)(o3:List Nat)(Q:Act->World->Prop):Nat->Array Bool->Act->World->Prop
 |0,listed,a,w=>(q0a o3 listed=false->C w)/\Region.ready md ops listed=[]/\Q a w
 |fuel+1,listed,a,w=>(q0a o3 listed=false->C w)/\(Region.ready md ops listed=[]->Q a w)/\
  ∀i∈Region.ready md ops listed,wpOp P ops noQ i (mT P md ops C o3 Q fuel (listed.setIfInBounds i true)) a w
theorem tC{Q:Act->World->Prop}{Q':Exit->Act->World->Prop}(hQ:∀a w,Q a w->Q' .normal a w):∀(fuel:Nat) (listed:Array Bool) (a:Act) (w:World),
  mT P md ops C o3 Q fuel listed a w->wpAny P md ops Q' fuel listed a w
 |0,_,_,_,h=>⟨h.2.1,hQ _ _ h.2.2⟩
 |fuel+1,listed,a,w,h=>⟨fun h0=>hQ _ _ (h.2.1 h0),fun i hi=>by
   have h1:=wpOp_mono (fun a w=>tC (Q':=Q') hQ fuel _ a w) (h.2.2 i hi);unfold wpOp at h1⊢;split
   ·rename_i ho;simpa[ho]using h1
   rename_i o ho;simp only[ho]at h1;split
   ·exact ZmA4
   rename_i hw;simpa[hw]using h1⟩
def rP(md:Region.Mode)(ops:Array Oper)(listed:Array Bool):Prop:=∀(j:Nat) (oj:Oper),ops[j]? =some oj->listed.getD j false=true->∀e∈oj.after,Region.binds md e=true->listed.getD e.on false=true
theorem rP.set{listed:Array Bool}{j:Nat}(h:rP md ops listed)(hj:j∈Region.ready md ops listed):rP md ops (listed.setIfInBounds j true):=by
 obtain⟨_,oj,hoj,hall⟩:=mem_ready.1 hj;intro k ok hok hl e he hb;by_cases hjk:j=k
 ·subst hjk
  have:ok=oj:=qp (hok.symm.trans hoj);subst this;exact getD_set_true (hall e he hb)
 rw[getD_set_ne false hjk]at hl;exact getD_set_true (h k ok hok hl e he hb)
def anc(md:Region.Mode)(ops:Array Oper):Nat->Nat->Nat->Bool
 |0,_,_=>false
 |f+1,i,t=>match ops[t]? with
  |some o=>o.after.any fun e=>Region.binds md e&&(e.on==i||anc md ops f i e.on)
  |none=>false
theorem tD{listed:Array Bool}(hc:rP md ops listed){i:Nat}:∀(f t:Nat),anc md ops f i t=true->listed.getD t false=true->listed.getD i false=true
 |0,_,h,_=>by cases h
 |f+1,t,h,ht=>by
  unfold anc at h;split at h
  ·rename_i o ho
   obtain⟨e,he,hb⟩:=Array.any_eq_true'.1 h;simp only[qJ,Bool.or_eq_true,jZ]at hb;have h1:=hc t o ho ht e he hb.1;rcases hb.2 with h2|h2
   ·rw[<-h2];exact h1
   exact tD hc f e.on h2 h1
  cases h
theorem zX{listed:Array Bool}{i:Nat}(hi:i∉o3):q0a o3 (listed.setIfInBounds i true)=q0a o3 listed:=by
 unfold q0a
 induction o3 with
 |nil=>rfl
 |cons t o3 ih=>
  simp only[jK,not_or]at hi;simp only[List.any_cons];rw[ih hi.2,getD_set_ne false hi.1]
theorem tE{listed:Array Bool}{i f:Nat}(hc:rP md ops listed)(ha:∀t∈o3,anc md ops f i t=true)(hu:listed.getD i false=false):q0a o3 listed=false:=by
 cases h:q0a o3 listed with
 |false=>rfl
 |true=>
  obtain⟨t,ht,hl⟩:=List.any_eq_true.1 h;rw[tD hc f t (ha t ht) hl]at hu;cases hu
theorem uL{listed:Array Bool}{i:Nat}(h:listed.getD i true=false):i<listed.size/\listed.getD i false=false:=by
 rcases jP i listed.size with h'|h'
 ·exact⟨h',by simp[h']at h⊢;exact h⟩
 simp[jt h']at h
theorem wE{Q:Act->World->Prop}{i f:Nat}{oi:Oper}{v:Value}(hi:ops[i]? =some oi)(q7F:∀(j:Nat) (o:Oper) cs b,ops[j]? =some o->o.op≠.select cs b)(hi3:i∉o3)(ha:∀t∈o3,anc md ops f i t=true):
  ∀(fuel:Nat) (listed:Array Bool) (a:Act) (w:World),rP md ops listed->
   (∀j oj,ops[j]? =some oj->j≠i->listed.getD j true=false->(∀e∈oj.after,Region.binds md e=true->e.on≠i)->oi.apart ops oj=true)->
   i∈Region.ready md ops listed->Yin P ops C oi v a->
   mT P md ops C o3 Q fuel (listed.setIfInBounds i true) (a.put oi.dst v) w->mT P md ops C o3 Q (fuel+1) listed a w:=by
 intro fuel
 induction fuel with
 |zero=>
  intro listed a w hcl _ hr hy H;have hl:=tE hcl ha (uL (mem_ready.1 hr).1).2;have h1:=H.1;rw[zX hi3]at h1;refine⟨h1,fun h=>(by rw[h]at hr;cases hr),fun j hj=>?_⟩;by_cases hji:j=i
  ·subst hji;exact hy.wpOp (h1 hl) hi H
  have:=ready_mono hj hji;rw[H.2.1]at this;cases this
 |succ fuel ih=>
  intro listed a w hcl q6D hr hy H;have hl:=tE hcl ha (uL (mem_ready.1 hr).1).2;have h1:=H.1;rw[zX hi3]at h1;refine⟨h1,fun h=>(by rw[h]at hr;cases hr),fun j hj=>?_⟩;by_cases hji:j=i
  ·subst hji;exact hy.wpOp (h1 hl) hi H
  have h1:=H.2.2 j (ready_mono hj hji);obtain⟨q7U,oj,hoj,hall⟩:=mem_ready.1 hj
  have q8Q:∀e∈oj.after,Region.binds md e=true->e.on≠i:=fun e he hb heq=>by
   have h1:=hall e he hb;have h0:=(mem_ready.1 hr).1;rw[heq]at h1;rw[(uL h0).2]at h1;cases h1
  have h2:=M4 hoj (q6D j oj hoj hji q7U q8Q) (fun cs b=>q7F i oi cs b hi) (fun cs b=>q7F j oj cs b hoj) hy h1
  have q6C:∀k ok,ops[k]? =some ok->k≠i->(listed.setIfInBounds j true).getD k true=false->
    (∀e∈ok.after,Region.binds md e=true->e.on≠i)->oi.apart ops ok=true:=fun k ok hk hki hun hno=>by
   refine q6D k ok hk hki ?_ hno;by_cases hjk:j=k
   ·subst hjk;exact q7U
   rw[getD_set_ne true hjk]at hun;exact hun
  refine wpOp_mono (fun a' w' h3=>ih (listed.setIfInBounds j true) a' w' (hcl.set hj) q6C (ready_mono hr (Ne.symm hji)) h3.1 ?_) h2;rw[Array.setIfInBounds_comm _ _ hji];exact h3.2
theorem N0{listed:Array Bool}{i:Nat}(hi:i∈o3)(hs:i<listed.size):q0a o3 (listed.setIfInBounds i true)=true:=
 List.any_eq_true.2 ⟨i,hi,by simp[hs]⟩
theorem tF{Q K:Act->World->Prop}{C':World->Prop}{i n:Nat}{listed:Array Bool}{a:Act}{w:World}(hr:Region.ready md ops listed=[i])(hC:q0a o3 listed=false->C w)
  (hK:∀a' w',C' w'->K a' w'->mT P md ops C o3 Q n (listed.setIfInBounds i true) a' w') (h:wpList P ops (M3 C' K) [ops.toList.getD i default] a w):mT P md ops C o3 Q (n+1) listed a w:=by
 have him:i∈Region.ready md ops listed:=by rw[hr];simp
 obtain⟨_,o,ho,_⟩:=mem_ready.1 him;have hol:ops.toList.getD i default=o:=by rw[qt,j8,ho];rfl
 refine⟨hC,fun h0=>(by rw[hr]at h0;cases h0),fun j hj=>?_⟩;obtain rfl:j=i:=by rw[hr]at hj;simpa using hj
 rw[hol]at h;unfold wpList at h;unfold wpOp;simp only[ho];split
 ·rename_i hw
  rw[qv hw]at h;rcases h with h'|⟨-,h'⟩
  ·refine .inl (Oper.wp_mono ?_ (mQ (fun _ _ _ h=>h) lT h'))
   intro a' w' hh;obtain⟨hC',hk⟩:=(hh:M3 C' K .normal a' w');exact hK a' w' hC' hk
  exact(lT h').elim
 rename_i hw;rw[qu hw]at h;obtain⟨hC',hk⟩:=(h:M3 C' K .normal (a.put o.dst undef) w);exact hK _ _ hC' hk
theorem rQ{Q:Act->World->Prop}:∀(o:List Nat) (listed:Array Bool) (a:Act) (w:World),(∀t∈o,t∈o3)->q1Z md ops o listed=true->(q0a o3 listed=false->C w)->
  aD P ops (fun _=>True) Q (lA ops.toList o) a w->mT P md ops C o3 Q o.length listed a w
 |[],listed,a,w,_,hB,hC,h=>⟨hC,by simpa[q1Z]using hB,h⟩
 |i::r,listed,a,w,ho,hB,hC,h=>by
  simp only[q1Z,qJ,jZ]at hB;have him:i∈Region.ready md ops listed:=by rw[hB.1];simp
  have hs:=(uL (mem_ready.1 him).1).1;refine tF (C':=fun _=>True) hB.1 hC (fun a' w' _ hk=>rQ r _ a' w' (fun t ht=>ho t (by simp[ht])) hB.2 (fun hl=>by rw[N0 (ho i (by simp)) hs]at hl;cases hl) hk) ?_;simp only[lA,qI]at h;exact h
theorem tG{Q:Act->World->Prop}:∀(o2:List Nat) (listed:Array Bool) (a:Act) (w:World),q1Z md ops (o2++o3) listed=true->C w->
  aD P ops C (aD P ops (fun _=>True) Q (lA ops.toList o3)) (lA ops.toList o2) a w->mT P md ops C o3 Q (o2.length+o3.length) listed a w
 |[],listed,a,w,hB,hC,h=>by
  rw[qN,qH];exact rQ o3 listed a w (fun _ h=>h) hB (fun _=>hC) h
 |i::r,listed,a,w,hB,hC,h=>by
  simp only[jl,q1Z,qJ,jZ]at hB;rw[qz,Nat.add_right_comm];refine tF (C':=C) hB.1 (fun _=>hC) (fun a' w' hC' hk=>tG r _ a' w' hB.2 hC' hk) ?_;simp only[lA,qI]at h;exact h
def q0k(md:Region.Mode)(ops:Array Oper)(o1 o3:List Nat):Bool:=o1.all fun i=> !o3.contains i&&o3.all fun t=>anc md ops ops.size i t
theorem p4{Q:Act->World->Prop}(hs:Region.noSelect ops=true)(o2:List Nat){w:World}(hC:C w):∀(o1:List Nat) (listed:Array Bool) (a:Act),q0k md ops o1 o3=true->rP md ops listed->q36 md ops (o2++o3) o1 listed=true->
  wpQuiet P ops C (fun a'=>aD P ops C (aD P ops (fun _=>True) Q (lA ops.toList o3)) (lA ops.toList o2) a' w) (lA ops.toList o1) a->mT P md ops C o3 Q (o1.length+(o2.length+o3.length)) listed a w
 |[],listed,a,_,_,hB,h=>by
  rw[qN,qH];exact tG o2 listed a w (by simpa[q36]using hB) hC h
 |i::r,listed,a,hh,hcl,hB,h=>by
  simp only[q36,qJ]at hB;obtain⟨⟨⟨hr,hf⟩,hn⟩,hB'⟩:=hB;simp only[q0k,List.all_cons,qJ]at hh;have him:i∈Region.ready md ops listed:=by simpa using hr
  obtain⟨_,o,ho,_⟩:=mem_ready.1 him;have hol:ops.toList.getD i default=o:=by rw[qt,j8,ho];rfl
  simp only[lA,qI,hol]at h;have hn':oY o.op=true:=by simpa[ho]using hn
  obtain⟨v,hy,hK⟩:=oE (K:=wpQuiet P ops C (fun a'=>aD P ops C (aD P ops (fun _=>True) Q (lA ops.toList o3)) (lA ops.toList o2) a' w) (lA ops.toList r)) hn' h;rw[qz,Nat.add_right_comm]
  exact wE ho (Region.noSelect_spec hs) (by simpa using hh.1.1) (fun t ht=>(List.all_eq_true.1 hh.1.2) t ht) _ listed a w hcl (Region.free_spec ho hf) him hy
   (p4 hs o2 hC r _ _ (by simpa[q0k]using hh.2) (hcl.set him) hB' hK)
def q25(md:Region.Mode)(ops:Array Oper)(o1 o2 o3:List Nat):Bool:=
 Region.noSelect ops&&(o1.length+(o2.length+o3.length)==ops.size)&&q0k md ops o1 o3&&q36 md ops (o2++o3) o1 (Array.replicate ops.size false)
theorem yO(m j:Nat):(Array.replicate m false).getD j false=false:=by
 rcases jP j m with h|h<;>simp[h]
theorem bQ{id:Nat}{Q:Exit->Act->World->Prop}{a:Act}{w:World}{l:List Oper}(C:World->Prop)(o1 o2 o3:List Nat)(hm:P.follows .mixedOrders=true)(hB:q25 .any l.toArray o1 o2 o3=true)(hC:C w.drew)
  (h:wpQuiet P l.toArray C (fun a'=>aD P l.toArray C (aD P l.toArray (fun _=>True) (fun a'' w''=>Q .normal a'' w'') (lA l o3)) (lA l o2) a' w.drew) (lA l o1) a):(Code.region id l.toArray true).wp P Q a w:=by
 simp only[q25,qJ,jZ]at hB;obtain⟨⟨⟨hs,hlen⟩,hh⟩,hB⟩:=hB;refine wp_region_any hm ?_;have h1:=p4 (Q:=fun a'' w''=>Q .normal a'' w'') (md:=.any) (w:=w.drew) hs o2 hC o1 (Array.replicate l.toArray.size false) a hh (fun j oj _ hl=>by rw[yO]at hl;cases hl) hB (by simpa using h);rw[hlen]at h1;exact tC (fun a w hq=>hq) _ _ _ _ h1
theorem aH{id:Nat}{Q:Exit->Act->World->Prop}{a:Act}{w:World}{l:List Oper}(o1 o2 o3:List Nat)(hm:P.follows .mixedOrders=true)(hB:q25 .any l.toArray o1 o2 o3=true)
  (h:wpQuiet P l.toArray (fun w'=>∃x,w'=ext w x) (fun a'=>aD P l.toArray (fun w'=>∃x,w'=ext w x) (aD P l.toArray (fun _=>True) (fun a'' w''=>Q .normal a'' w'') (lA l o3)) (lA l o2) a' w.drew) (lA l o1) a):(Code.region id l.toArray true).wp P Q a w:=
 bQ (C:=fun w'=>∃x,w'=ext w x) o1 o2 o3 hm hB (aF (aW w 1)) h
end
end Go.Cm
namespace Go.Cm
open Go.RowKit
section
variable {P : Program} {ops : Array Oper} {md : Region.Mode} {C : World → Prop}
def q4n(md:Region.Mode)(ops:Array Oper)(k:Array Bool->Bool):List Nat->Array Bool->Bool
 |[],listed=>k listed
 |i::r,listed=>Region.ready md ops listed==[i]&&q4n md ops k r (listed.setIfInBounds i true)
def q4o(md:Region.Mode)(ops:Array Oper)(k:Array Bool->Bool):List Nat->Array Bool->Bool
 |[],listed=>k listed
 |i::r,listed=>(Region.ready md ops listed).contains i&&Region.free md ops listed i&&((ops[i]?).map (fun o=>oY o.op)).getD false&&q4o md ops k r (listed.setIfInBounds i true)
def q4p(md:Region.Mode)(ops:Array Oper):List (List Nat×List Nat)->Array Bool->Bool
 |[],listed=>Region.ready md ops listed==[]
 |ph::r,listed=>q4o md ops (q4n md ops (q4p md ops r) ph.2) ph.1 listed
def q2c:List (List Nat×List Nat)->Nat
 |[]=>0
 |ph::r=>ph.1.length+(ph.2.length+q2c r)
def O4(md:Region.Mode)(ops:Array Oper)(l:List (List Nat×List Nat)):Bool:=
 Region.noSelect ops&&(q2c l==ops.size)&&q4p md ops l (Array.replicate ops.size false)
def hU(P:Program)(ops:Array Oper)(C:World->Prop)(Q:Act->World->Prop):List (List Nat×List Nat)->Act->World->Prop
 |[],a,w=>Q a w
 |ph::r,a,w=>wpQuiet P ops C (fun a'=>aD P ops C (hU P ops C Q r) (lA ops.toList ph.2) a' w) (lA ops.toList ph.1) a
theorem mJ{Q K:Act->World->Prop}{k:Array Bool->Bool}{n:Nat}(hk:∀listed a w,k listed=true->C w->K a w->kQ P md ops C Q n listed a w):
  ∀(o2:List Nat) (listed:Array Bool) (a:Act) (w:World),q4n md ops k o2 listed=true->C w->
  aD P ops C K (lA ops.toList o2) a w->kQ P md ops C Q (o2.length+n) listed a w
 |[],listed,a,w,hB,hC,h=>by rw[qN,qH];exact hk listed a w hB hC h
 |i::r,listed,a,w,hB,hC,h=>by
  simp only[q4n,qJ,jZ]at hB;obtain⟨hr,hB'⟩:=hB;have him:i∈Region.ready md ops listed:=by rw[hr];simp
  obtain⟨_,o,ho,_⟩:=mem_ready.1 him;have hol:ops.toList.getD i default=o:=by rw[qt,j8,ho];rfl
  rw[qz,Nat.add_right_comm];refine⟨hC,fun h0=>(by rw[hr]at h0;cases h0),fun j hj=>?_⟩;obtain rfl:j=i:=by rw[hr]at hj;simpa using hj
  simp only[lA,qI,hol]at h;have h':wpList P ops (M3 C (aD P ops C K (lA ops.toList r))) [o] a w:=h;unfold wpList at h';unfold wpOp;simp only[ho];split
  ·rename_i hw
   rw[qv hw]at h';rcases h' with h'|⟨-,h'⟩
   ·refine .inl (Oper.wp_mono ?_ (mQ (fun _ _ _ h=>h) lT h'))
    intro a' w' hh;obtain⟨hC',hk'⟩:=(hh:M3 C (aD P ops C K (lA ops.toList r)) .normal a' w');exact mJ hk r _ a' w' hB' hC' hk'
   exact(lT h').elim
  rename_i hw;rw[qu hw]at h';obtain⟨hC',hk'⟩:=(h':M3 C (aD P ops C K (lA ops.toList r)) .normal (a.put o.dst undef) w);exact mJ hk r _ _ _ hB' hC' hk'
theorem rV{Q:Act->World->Prop}{K:Act->Prop}{k:Array Bool->Bool}{n:Nat}{w:World}(hs:Region.noSelect ops=true)(hk:∀listed a,k listed=true->K a->kQ P md ops C Q n listed a w):
  ∀(o1:List Nat) (listed:Array Bool) (a:Act),q4o md ops k o1 listed=true->
  wpQuiet P ops C K (lA ops.toList o1) a->kQ P md ops C Q (o1.length+n) listed a w
 |[],listed,a,hB,h=>by rw[qN,qH];exact hk listed a hB h
 |i::r,listed,a,hB,h=>by
  simp only[q4o,qJ]at hB;obtain⟨⟨⟨hr,hf⟩,hn⟩,hB'⟩:=hB;have him:i∈Region.ready md ops listed:=by simpa using hr
  obtain⟨_,o,ho,_⟩:=mem_ready.1 him;have hol:ops.toList.getD i default=o:=by rw[qt,j8,ho];rfl
  simp only[lA,qI,hol]at h;have hn':oY o.op=true:=by simpa[ho]using hn
  obtain⟨v,hy,hK⟩:=oE (K:=wpQuiet P ops C K (lA ops.toList r)) hn' h;rw[qz,Nat.add_right_comm];exact oZ ho (Region.noSelect_spec hs) _ listed a w (Region.free_spec ho hf) him hy (rV hs hk r _ _ hB' hK)
theorem rW{Q:Act->World->Prop}(hs:Region.noSelect ops=true):∀(l:List (List Nat×List Nat)) (listed:Array Bool) (a:Act) (w:World),q4p md ops l listed=true->C w->
  hU P ops C Q l a w->kQ P md ops C Q (q2c l) listed a w
 |[],listed,a,w,hB,hC,h=>⟨hC,by simpa[q4p]using hB,h⟩
 |ph::r,listed,a,w,hB,hC,h=>
  rV hs (fun listed' a' hB' hK=>mJ (K:=hU P ops C Q r) (fun l'' a'' w'' qbO qbN qbM=>rW hs r l'' a'' w'' qbO qbN qbM) ph.2 listed' a' w hB' hC hK) ph.1 listed a hB h
theorem pL{id:Nat}{Q:Exit->Act->World->Prop}{a:Act}{w:World}{l:List Oper}(C:World->Prop)(ps:List (List Nat×List Nat))(hm:P.follows .mixedOrders=true)(hB:O4 .any l.toArray ps=true)(hC:C w.drew)
  (h:hU P l.toArray C (fun a'' w''=>C w''->Q .normal a'' w'') ps a w.drew):(Code.region id l.toArray true).wp P Q a w:=by
 simp only[O4,qJ,jZ]at hB;obtain⟨⟨hs,hlen⟩,hB⟩:=hB;refine wp_region_any hm ?_;have h1:=rW (Q:=fun a'' w''=>C w''->Q .normal a'' w'') (md:=.any) hs ps (Array.replicate l.toArray.size false) a w.drew hB hC h;rw[hlen]at h1;exact oD (fun a w hC hq=>hq hC) _ _ _ _ h1
theorem uT{id:Nat}{Q:Exit->Act->World->Prop}{a:Act}{w:World}{l:List Oper}(ps:List (List Nat×List Nat))(hm:P.follows .mixedOrders=true)(hB:O4 .any l.toArray ps=true)
  (h:hU P l.toArray (fun w'=>∃x,w'=ext w x) (fun a'' w''=>(∃x,w''=ext w x)->Q .normal a'' w'') ps a w.drew):(Code.region id l.toArray true).wp P Q a w:=
 pL (C:=fun w'=>∃x,w'=ext w x) ps hm hB (aF (aW w 1)) h
end
end Go.Cm
namespace Go.Cm
open Go.RowKit
inductive Scr where
 |done
 |q (i:Nat) (s:Scr)
 |br (i:Nat) (s:Scr) (t:Scr)
 |no
def Scr.heads:Scr->List Nat
 |.br i _ t=>i::t.heads
 |_=>[]
def Scr.run(md:Region.Mode)(ops:Array Oper):Scr->Bool->Nat->Array Bool->Bool
 |.done,top,n,listed=>top&&n==0&&Region.ready md ops listed==[]
 |.q i s,top,n,listed=>top&&decide (0<n)&&(Region.ready md ops listed).contains i&&Region.free md ops listed i&&((ops[i]?).map (fun o=>oY o.op)).getD false&&s.run md ops true (n-1) (listed.setIfInBounds i true)
 |.br i s t,top,n,listed=>(!top||Region.ready md ops listed==i::t.heads)&&decide (0<n)&&((ops[i]?).isSome)&&s.run md ops true (n-1) (listed.setIfInBounds i true)&&t.run md ops false n listed
 |.no,top,_,_=> !top
def Scr.qs:List Nat->Scr->Scr
 |[],s=>s
 |i::r,s=>.q i (Scr.qs r s)
section
variable {P : Program} {ops : Array Oper} {md : Region.Mode} {C : World → Prop}
def aN(P:Program)(ops:Array Oper)(C:World->Prop)(Q:Act->World->Prop):Scr->Act->World->Prop
 |.done,a,w=>Q a w
 |.q i s,a,w=>wpQuiet P ops C (fun a'=>aN P ops C Q s a' w) (lA ops.toList [i]) a
 |.br i s t,a,w=>aD P ops C (aN P ops C Q s) (lA ops.toList [i]) a w/\aN P ops C Q t a w
 |.no,_,_=>True
theorem A7{i:Nat}{o:Oper}(ho:ops[i]? =some o):lA ops.toList [i]=[o]:=by
 have hol:ops.toList.getD i default=o:=by rw[qt,j8,ho];rfl
 show [ops.toList.getD i default]=[o];rw[hol]
theorem yT{K:Act->World->Prop}{K':Act->World->Prop}{i:Nat}{o:Oper}{a:Act}{w:World}(ho:ops[i]? =some o)(h:aD P ops C K [o] a w)(hk:∀a w,C w->K a w->K' a w):wpOp P ops noQ i K' a w:=by
 have h':wpList P ops (M3 C (aD P ops C K [])) [o] a w:=h;unfold wpList at h';unfold wpOp;simp only[ho];split
 ·rename_i hw
  rw[qv hw]at h';rcases h' with h'|⟨-,h'⟩
  ·refine .inl (Oper.wp_mono ?_ (mQ (fun _ _ _ h=>h) lT h'))
   intro a' w' hh;obtain⟨hC',hk'⟩:=(hh:M3 C (aD P ops C K []) .normal a' w');exact hk a' w' hC' hk'
  exact(lT h').elim
 rename_i hw;rw[qu hw]at h';obtain⟨hC',hk'⟩:=(h':M3 C (aD P ops C K []) .normal (a.put o.dst undef) w);exact hk _ _ hC' hk'
theorem J0{Q:Act->World->Prop}(hs:Region.noSelect ops=true):∀(s:Scr) (n:Nat) (listed:Array Bool) (a:Act) (w:World),C w->aN P ops C Q s a w->
  (s.run md ops true n listed=true->kQ P md ops C Q n listed a w)/\
  (s.run md ops false n listed=true->∀j∈s.heads,∃m,n=m+1/\wpOp P ops noQ j (kQ P md ops C Q m (listed.setIfInBounds j true)) a w):=by
 intro s
 induction s with
 |done=>
  intro n listed a w hC h;refine⟨fun hB=>?_,fun _ j hj=>by cases hj⟩;simp only[Scr.run,j5,qJ,jZ]at hB;obtain⟨rfl,hr⟩:=hB;exact⟨hC,hr,h⟩
 |no=>
  intro n listed a w hC h;exact⟨fun hB=>by simp[Scr.run]at hB,fun _ j hj=>by cases hj⟩
 |q i s ih=>
  intro n listed a w hC h;refine⟨fun hB=>?_,fun _ j hj=>by cases hj⟩;simp only[Scr.run,j5,qJ,jm]at hB;obtain⟨⟨⟨⟨h0,hr⟩,hf⟩,hn⟩,hB'⟩:=hB;obtain⟨m,rfl⟩:∃m,n=m+1:=⟨n-1,by omega⟩;have him:i∈Region.ready md ops listed:=by simpa using hr
  obtain⟨_,o,ho,_⟩:=mem_ready.1 him;have hn':oY o.op=true:=by simpa[ho]using hn
  have h':wpQuiet P ops C (fun a'=>aN P ops C Q s a' w) [o] a:=by
   have:=h;unfold aN at this;rwa [A7 ho]at this
  obtain⟨v,hy,hK⟩:=oE (K:=wpQuiet P ops C (fun a'=>aN P ops C Q s a' w) []) hn' h';exact oZ ho (Region.noSelect_spec hs) _ listed a w (Region.free_spec ho hf) him hy ((ih m _ _ w hC hK).1 hB')
 |br i s t ihs iht=>
  intro n listed a w hC h;obtain⟨h1,h2⟩:=h
  have key:s.run md ops true (n-1) (listed.setIfInBounds i true)=true->(ops[i]?).isSome=true->0<n->t.run md ops false n listed=true->∀j∈(Scr.br i s t).heads,∃m,n=m+1/\wpOp P ops noQ j (kQ P md ops C Q m (listed.setIfInBounds j true)) a w:=by
   intro hB1 hsome h0 hB2 j hj;obtain⟨m,rfl⟩:∃m,n=m+1:=⟨n-1,by omega⟩;rcases List.mem_cons.1 hj with rfl|hj
   ·obtain⟨o,ho⟩:=Option.isSome_iff_exists.1 hsome
    rw[A7 ho]at h1;exact⟨m,rfl,yT ho h1 fun a' w' hC' hk=>(ihs m _ a' w' hC' hk).1 hB1⟩
   exact(iht (m+1) listed a w hC h2).2 hB2 j hj
  constructor
  ·intro hB
   simp only[Scr.run,Bool.not_true,Bool.false_or,qJ,jZ,jm]at hB;obtain⟨⟨⟨⟨hr,h0⟩,hsome⟩,hB1⟩,hB2⟩:=hB;obtain⟨m,rfl⟩:∃m,n=m+1:=⟨n-1,by omega⟩;refine⟨hC,fun h0=>(by rw[hr]at h0;cases h0),fun j hj=>?_⟩;rw[hr]at hj;obtain⟨m',hm,hw⟩:=key hB1 hsome h0 hB2 j hj;obtain rfl:m=m':=by omega
   exact hw
  intro hB;simp only[Scr.run,Bool.not_false,Bool.true_or,j5,qJ,jm]at hB;obtain⟨⟨⟨h0,hsome⟩,hB1⟩,hB2⟩:=hB;exact key hB1 hsome h0 hB2
def q5b(md:Region.Mode)(ops:Array Oper)(s:Scr):Bool:=Region.noSelect ops&&s.run md ops true ops.size (Array.replicate ops.size false)
theorem fD{id:Nat}{Q:Exit->Act->World->Prop}{a:Act}{w:World}{l:List Oper}(C:World->Prop)(s:Scr)(hm:P.follows .mixedOrders=true)(hB:q5b .any l.toArray s=true)(hC:C w.drew)
  (h:aN P l.toArray C (fun a'' w''=>C w''->Q .normal a'' w'') s a w.drew):(Code.region id l.toArray true).wp P Q a w:=by
 simp only[q5b,qJ]at hB;obtain⟨hs,hB⟩:=hB;refine wp_region_any hm ?_;have h1:=(J0 (Q:=fun a'' w''=>C w''->Q .normal a'' w'') (md:=.any) hs s l.toArray.size (Array.replicate l.toArray.size false) a w.drew hC h).1 hB;exact oD (fun a w hC hq=>hq hC) _ _ _ _ h1
end
end Go.Cm
namespace Go.Cm
structure Dfa where
 cls:List Int
 next:List (List Int)
 rules:List Int
def bJ:Nat->List Int->Option Nat
 |n,[]=>some n
 |n,k::l=>if k<0\/(n:Int)<k then none else if k=n then bJ (n+1) l else bJ n l
theorem pM(n:Nat)(l:List Int)(k:Nat)(h:k<l.length):
  bJ n (l.drop k)=if l.getD k 0<0\/(n:Int)<l.getD k 0 then none else if l.getD k 0=n then bJ (n+1) (l.drop (k+1))else bJ n (l.drop (k+1)):=by
 rw[jC h];simp[bJ,List.getD,h]
def R0(n:Nat)(k:Nat)(r:Int)(row:List Int):Prop:= -1<=r/\r<32/\row.length=k/\∀j,j<row.length->0<=row.getD j 0/\row.getD j 0<n
def lH(d:Dfa):Prop:=1<=d.next.length/\d.next.length<=1000/\d.rules.length=d.next.length/\∃k,bJ 0 d.cls=some k/\∀i,i<d.next.length->R0 d.next.length k (d.rules.getD i 0) (d.next.getD i [])
open Classical in
noncomputable def wW(d:Dfa):Bool:=decide (lH d)
theorem kI{d:Dfa}(h:lH d):wW d=true:=by unfold wW;simpa using h
theorem cG{d:Dfa}(h:¬lH d):wW d=false:=by unfold wW;simpa using h
def fV(d:Dfa)(at_:Int):List UInt8->Int
 |[]=>at_
 |c::s=>fV d ((d.next.getD at_.toNat []).getD (d.cls.getD c.toNat 0).toNat 0) s
open Classical in
noncomputable def q1v(d:Dfa)(s:List UInt8):Int:=if lH d then fV d 0 s else -1
open Classical in
noncomputable def kU(d:Dfa)(s:List UInt8):Int:=if lH d then d.rules.getD (fV d 0 s).toNat 0 else -1
theorem cK{α:Type}(l:List α)(k:Nat)(d:α)(h:k<l.length):l.take (k+1)=l.take k++[l.getD k d]:=by
 rw[qL h,qt,qx h,qM]
theorem gN{α:Type}(l:List α)(k:Nat)(d:α)(h:k<l.length):l.getD k d∈l:=by
 simp[List.getD,h]
theorem gJ(l:List Int):∀n k,bJ n l=some k->n<=k/\k<=n+l.length:=by
 induction l with
 |nil=>intro n k h;simp[bJ]at h;simp;omega
 |cons a l ih=>
  intro n k h;simp only[bJ]at h;split at h
  ·cases h
  split at h
  ·have:=ih _ _ h;simp only[qz];omega
  have:=ih _ _ h;simp only[qz];omega
theorem t0(l:List Int):∀n k,bJ n l=some k->∀x∈l,0<=x/\x<k:=by
 induction l with
 |nil=>intro n k _ x hx;cases hx
 |cons a l ih=>
  intro n k h x hx;simp only[bJ]at h;split at h
  ·cases h
  rename_i hn;split at h
  ·have h2:=gJ l _ _ h
   rcases List.mem_cons.1 hx with rfl|hx
   ·omega
   exact ih _ _ h x hx
  have h2:=gJ l _ _ h;rcases List.mem_cons.1 hx with rfl|hx
  ·omega
  exact ih _ _ h x hx
end Go.Cm
namespace Go.Cm
section
variable {α : Type} [DecidableEq α]
def bG(ks:List α)(s:α):List α:=if s∈ks then ks else ks++[s]
def yE(l:List α):List α:=l.foldl bG []
theorem lY{ks:List α}{s x:α}:x∈bG ks s↔x∈ks\/x=s:=by
 unfold bG;split
 ·rename_i h;exact⟨.inl,fun q=>q.elim id (fun e=>e▸h)⟩
 simp
theorem wX{ks:List α}{s:α}(h:ks.Nodup):(bG ks s).Nodup:=by
 unfold bG;split
 ·exact h
 rename_i hn;rw[List.nodup_append];exact⟨h,by simp,fun a ha b hb e=>by simp at hb;subst hb;subst e;exact hn ha⟩
theorem R1(l:List α)(s:α):yE (l++[s])=bG (yE l) s:=by simp[yE,qY]
theorem J6(l:List α):(yE l).Nodup:=by
 have:∀(l ks:List α),ks.Nodup->(l.foldl bG ks).Nodup:=by
  intro l
  induction l with
  |nil=>intro ks h;exact h
  |cons a l ih=>intro ks h;exact ih _ (wX h)
 exact this l [] List.nodup_nil
theorem lZ (l : List α) (x : α) : x ∈ yE l ↔ x ∈ l := by
  have : ∀ (l ks : List α), x ∈ l.foldl bG ks ↔ x ∈ ks ∨ x ∈ l := by
    intro l
    induction l with
    | nil => intro ks; simp
    | cons a l ih => intro ks; rw [qK, ih, lY, jK]; constructor
                     · rintro ((h | h) | h)
                       · exact .inl h
                       · exact .inr (.inl h)
                       · exact .inr (.inr h)
                     · rintro (h | h | h)
                       · exact .inl (.inl h)
                       · exact .inl (.inr h)
                       · exact .inr h
  simpa [yE] using this l []
theorem q0B (l : List α) : (yE l).length ≤ l.length := by
  have : ∀ (l ks : List α), (l.foldl bG ks).length ≤ ks.length + l.length := by
    intro l
    induction l with
    | nil => intro ks; simp
    | cons a l ih => intro ks; have := ih (bG ks a); simp only [qK, qz]
                     have h2 : (bG ks a).length ≤ ks.length + 1 := by unfold bG; split <;> simp
                     omega
  simpa [yE] using this l []
def idx(ks:List α)(x:α):Nat:=ks.idxOf x
theorem cI{ks m:List α}{s:α}(h:s∈ks):idx (ks++m) s=idx ks s:=by
 unfold idx;rw[List.idxOf_append,qv h]
theorem e9{ks:List α}{s:α}(h:s∉ks):idx (ks++[s]) s=ks.length:=by
 unfold idx;rw[List.idxOf_append,qu h];simp
theorem fE{ks:List α}{x:α}(hx:x∈ks):idx ks x<ks.length:=List.idxOf_lt_length_of_mem hx
theorem kJ{ks:List α}{x:α}(hx:x∈ks):ks[idx ks x]'(fE hx)=x:=List.getElem_idxOf (fE hx)
end
end Go.Cm
namespace Go.Cm
def nl(l:List Nat):List Int:=l.map fun n:Nat=>(n:Int)
@[simp] theorem q3r(l:List Nat):(nl l).length=l.length:=by simp[nl]
def yX(out:List Nat)(tgt:Nat):List Nat:=if tgt∈out then out else out++[tgt]
theorem sD{out:List Nat}{tgt x:Nat}:x∈yX out tgt↔x∈out\/x=tgt:=by
 unfold yX;split
 ·rename_i h;exact⟨.inl,fun q=>q.elim id (fun e=>e▸h)⟩
 simp
end Go.Cm
namespace Go.Cm
section
variable {α β : Type} [DecidableEq β]
def aQ(f:α->β)(l:List α):List α:=l.foldl (fun ks s=>if f s∈ks.map f then ks else ks++[s]) []
theorem dJ(f:α->β)(l:List α)(s:α):aQ f (l++[s])=if f s∈(aQ f l).map f then aQ f l else aQ f l++[s]:=by
 unfold aQ;rw[qY];rfl
theorem gO{α:Type}{P:List α->Prop}(h0:P [])(h:∀l a,P l->P (l++[a]))(l:List α):P l:=by
 have:∀n (l:List α),l.length=n->P l:=by
  intro n
  induction n with
  |zero=>intro l hl;obtain rfl:=List.length_eq_zero_iff.1 hl;exact h0
  |succ n ih=>
   intro l hl;have hne:l≠[]:=by intro e;subst e;cases hl
   have:=List.dropLast_concat_getLast hne;rw[<-this];exact h _ _ (ih _ (by simp[hl]))
 exact this _ l rfl
theorem iN(f:α->β)(l:List α):(aQ f l).map f=yE (l.map f):=by
 induction l using gO with
 |h0=>rfl
 |h l s ih=>
  rw[qG,qI,js,R1,dJ,<-ih];unfold bG;split
  ·rfl
  simp
theorem iO{f:α->β}{l:List α}{x:α}(h:x∈aQ f l):x∈l:=by
 induction l using gO with
 |h0=>cases h
 |h l s ih=>
  rw[dJ]at h;split at h
  ·exact j4 _ (ih h)
  rcases List.mem_append.1 h with h|h
  ·exact j4 _ (ih h)
  exact List.mem_append_right _ h
theorem tP(f:α->β)(l:List α):(aQ f l).length<=l.length:=by
 have h:=qZ List.length (iN f l);rw[qA]at h;rw[h];have:=q0B (l.map f);rwa [qA]at this
theorem v6(f:α->β)(l m:List α):∃k,aQ f (l++m)=aQ f l++k:=by
 induction m using gO with
 |h0=>exact⟨[],by simp⟩
 |h m s ih=>
  obtain⟨k,hk⟩:=ih;rw[<-qk,dJ];split
  ·exact⟨k,hk⟩
  exact⟨k++[s],by rw[hk,qk]⟩
def kK(f:α->β)(l:List α)(s:α):Nat:=idx ((aQ f l).map f) (f s)
theorem C2{f:α->β}{l:List α}{s:α}(h:s∈l):kK f l s<(aQ f l).length:=by
 have:f s∈(aQ f l).map f:=by rw[iN,lZ];exact jd h
 have:=fE this;simpa[kK]using this
theorem lI{f:α->β}{l m:List α}{s:α}(h:s∈l):kK f (l++m) s=kK f l s:=by
 obtain⟨k,hk⟩:=v6 f l m;unfold kK;rw[hk,qG,cI];rw[iN,lZ];exact jd h
theorem wY{γ:Type} [DecidableEq γ]{f:α->β}{g:α->γ}{l:List α}(h:∀a∈l,∀b∈l,f a=f b↔g a=g b):aQ f l=aQ g l/\∀s∈l,kK f l s=kK g l s:=by
 have h1:aQ f l=aQ g l:=by
  have:∀m,(∀a∈m,a∈l)->aQ f m=aQ g m:=by
   intro m
   induction m using gO with
   |h0=>intro _;rfl
   |h m s ih=>
    intro hm;have ih:=ih fun a ha=>hm a (j4 _ ha);have hs:=hm s (by simp);rw[dJ,dJ,<-ih]
    have e:f s∈(aQ f m).map f↔g s∈(aQ f m).map g:=by
     simp only[jz]
     constructor
     ·rintro⟨a,ha,he⟩;exact⟨a,ha,(h a (hm a (j4 _ (iO ha))) s hs).1 he⟩
     rintro⟨a,ha,he⟩;exact⟨a,ha,(h a (hm a (j4 _ (iO ha))) s hs).2 he⟩
    simp only[e]
  exact this l fun _ h=>h
 refine⟨h1,fun s hs=>?_⟩;unfold kK;rw[<-h1]
 have:∀m:List α,(∀a∈m,a∈l)->idx (m.map f) (f s)=idx (m.map g) (g s):=by
  intro m;unfold idx
  induction m with
  |nil=>intro _;simp
  |cons a m ih=>
   intro hm;have e:=h a (hm a (by simp)) s hs;simp only[qI,List.idxOf_cons];by_cases hf:f a=f s
   ·have h1:(f a==f s)=true:=by simpa using hf
    have h2:(g a==g s)=true:=by simpa using e.1 hf
    rw[h1,h2];simp
   have h1:(f a==f s)=false:=by simpa using hf
   have h2:(g a==g s)=false:=by simpa using fun q=>hf (e.2 q)
   rw[h1,h2,ih fun a ha=>hm a (by simp[ha])]
 exact this _ fun a ha=>iO ha
end
section
variable {α β : Type} [DecidableEq β] {f : α → β} {l F : List α} {k q : Nat} {s z : α}
theorem lJ(hk:k<l.length)(hs:l.getD k z=s):l.take (k+1)=l.take k++[s]:=by
 rw[qL hk,<-hs];simp[List.getD,hk]
theorem C3(l:List β)(q:Nat)(x:β)(h:l[q]? =some x):l.idxOf x<=q:=by
 induction l generalizing q with
 |nil=>simp at h
 |cons a l ih=>
  rw[List.idxOf_cons];cases q with
  |zero=>simp at h;subst h;simp
  |succ q=>
   have:=ih q (by simpa using h);cases a==x
   ·simpa using this
   simp
theorem yY(hk:k<l.length)(hs:l.getD k z=s)(hF:aQ f (l.take k)=F)(hq:q<F.length)(h1:∀a,a<q->f (F.getD a z)≠f s)(h2:f (F.getD q z)=f s):aQ f (l.take (k+1))=F/\kK f l s=q:=by
 have e:=lJ hk hs;have hm:f s∈F.map f:=List.mem_map.2 ⟨F.getD q z,gN F q z hq,h2⟩;have h3:aQ f (l.take (k+1))=F:=by rw[e,dJ,hF,qv hm]
 refine⟨h3,?_⟩;have h4:=lI (f:=f) (l:=l.take (k+1)) (m:=l.drop (k+1)) (s:=s) (by rw[e];simp);rw[j7]at h4;rw[h4];unfold kK;rw[h3];unfold idx;have h5:(F.map f).idxOf (f s)<(F.map f).length:=List.idxOf_lt_length_of_mem hm;have h6:=List.getElem_idxOf h5;rw[qA]at h5;rw[ju]at h6;rcases Nat.lt_trichotomy ((F.map f).idxOf (f s)) q with h|h|h
 ·exact absurd (by rw[qt,qx h5];exact h6) (h1 _ h)
 ·exact h
 exfalso
 have h7:(F.map f)[q]? =some (f s):=by
  rw[qT,qx hq,jN,<-h2,qt,qx hq,qM]
 have h8:=C3 _ _ _ h7;omega
theorem R3(hk:k<l.length)(hs:l.getD k z=s)(hF:aQ f (l.take k)=F)(h1:∀a,a<F.length->f (F.getD a z)≠f s):aQ f (l.take (k+1))=F++[s]/\kK f l s=F.length:=by
 have e:=lJ hk hs
 have hm:f s∉F.map f:=fun h=>by
  obtain⟨x,hx,he⟩:=List.mem_map.1 h;obtain⟨a,ha,rfl⟩:=List.mem_iff_getElem.1 hx;exact h1 a ha (by rw[qt,qx ha];exact he)
 have h3:aQ f (l.take (k+1))=F++[s]:=by rw[e,dJ,hF,qu hm]
 refine⟨h3,?_⟩;have h4:=lI (f:=f) (l:=l.take (k+1)) (m:=l.drop (k+1)) (s:=s) (by rw[e];simp);rw[j7]at h4;rw[h4];unfold kK;rw[h3,qG,qI,js,e9 hm,qA]
end
theorem sE{α:Type} [DecidableEq α](l m:List α):yE (l++m)=m.foldl bG (yE l):=by unfold yE;rw[qY]
theorem bK{α:Type} [DecidableEq α](m l:List α):∃k,m.foldl bG l=l++k:=by
 induction m generalizing l with
 |nil=>exact⟨[],by simp⟩
 |cons a m ih=>
  obtain⟨k,hk⟩:=ih (bG l a);rw[qK,hk];unfold bG;split
  ·exact⟨k,rfl⟩
  exact⟨a::k,by simp⟩
theorem sF{α:Type} [DecidableEq α](l m:List α):∃k,yE (l++m)=yE l++k:=by
 rw[sE];exact bK m (yE l)
section
variable {α β : Type} [DecidableEq β] {f : α → β}
theorem iP(f:α->β):∀(m l:List α),bJ (aQ f l).length (nl (m.map (kK f (l++m))))=some (aQ f (l++m)).length
 |[],l=>by simp[nl,bJ]
 |a::m,l=>by
  have e:kK f (l++a::m) a=kK f (l++[a]) a:=by
   rw[show l++a::m=l++[a]++m by simp];exact lI (by simp)
  have ih:=iP f m (l++[a]);rw[show l++[a]++m=l++a::m by simp]at ih;simp only[nl,qI,bJ,e]at ih⊢;by_cases h:f a∈(aQ f l).map f
  ·have h1:aQ f (l++[a])=aQ f l:=by rw[dJ,qv h]
   have h2:=C2 (f:=f) (l:=l++[a]) (s:=a) (by simp);rw[h1]at h2 ih;rw[qu (by omega),qu (by omega)];exact ih
  have h1:aQ f (l++[a])=aQ f l++[a]:=by rw[dJ,qu h]
  have h2:kK f (l++[a]) a=(aQ f l).length:=by
   unfold kK;rw[h1,qG,qI,js,e9 h,qA]
  rw[h1,qj,qD]at ih;rw[qu (by omega),qv (by omega)];exact ih
end
end Go.Cm
namespace Go.Cm
open Go.RowKit Go.Proofs
theorem Own.whole{w:World}{B T g n:Nat}{xs:List Value}(h:Own w B T (.slice (some ⟨g,0,none⟩) n n) xs):∃A,w.heap[g]? =some (.cells A T (0,0))/\A.size=n/\A.toList=xs:=by
 have hl:=h.len;rcases h.1.2 with⟨h1,_⟩|⟨g',cap,cur,h1,_,hg,hnc,hcm,hcs,q5U⟩
 ·cases h1
 simp only[Value.slice.injEq,jA,Addr.mk.injEq,and_true]at h1;obtain⟨rfl,h2,rfl⟩:=h1;have hs:cur.size=n:=by omega
 refine⟨cur,hg,hs,?_⟩;rw[<-q5U,qE];rw[qQ];omega
theorem xD{P:Program}{fn:Func}{tmps:Array Value}{w:World}{a t:Nat}{ad:Addr}{v:Value}(hf:fn.results=#[.cell a t])(ha:tmps.getD a undef=.pointer (some ad))(hl:(loadVar t ad).run P w=.ok v w):
  (results fn tmps).run P w=.ok v w:=by
 have ha':tmps[a]?.getD undef=.pointer (some ad):=by simpa using ha
 simp[results,hf,asAddr,ha',hl]
theorem cL{P:Program}{fn:Func}{tmps:Array Value}{w:World}{ds:List Deferred}{s t:Nat}{ad:Addr}{x:Value}{R:Ending->World->Prop}(hf:fn.results=#[.cell s t])(ha:tmps.getD s undef=.pointer (some ad))(hd:ds=[])
  (hl:(loadVar t ad).run P w=.ok x w) (h:R (.returned x) w):bodyPost P fn R .ret ⟨tmps,ds⟩ w:=
 bodyPost_ret (v:=x) (xD hf ha hl) hd h
theorem vB{P:Program}{w:World}{B T g n:Nat}{xs:List Value}(h:Own w B T (.slice (some ⟨g,0,none⟩) n n) xs)(d:TypeDesc)(hu:P.underlying T=some d)(hd:(match d with|.struct _|.array _ _=>true|_=>false)=true)(hi:(P.info? T).map (·.size)=some n):
  (loadVar T ⟨g,0,none⟩).run P w=.ok (.agg xs.toArray) w:=by
 obtain⟨A,hg,hs,hA⟩:=h.whole;have hl:=cW (P:=P) w g 0 n T T A (0,0) d hg hu hd hi (by omega);have e:A.extract 0 (0+n)=xs.toArray:=by rw[qH,<-hs,Array.extract_size,<-hA]
 rw[e]at hl;exact hl
def dF(l:List UInt8):List Value:=l.map fun b=>.int .u8 (b.toNat:Int)
theorem vC(a b:List UInt8):dF (a++b)=dF a++dF b:=by simp[dF]
theorem fF(a:List UInt8):(dF a).length=a.length:=by simp[dF]
theorem K1(l:List UInt8):∀u∈dF l,u.oneCell'=true:=by
 intro u hu;simp only[dF,jz]at hu;obtain⟨b,-,rfl⟩:=hu;rfl
theorem eX{P:Program}(w:World)(src dst e:TypeId)(hs:P.underlying src=some (.slice e))(he:P.underlying e=some (.int .u8))(hd:P.underlying dst=some .string)
  (v:Value) (l:List UInt8) (h:Sl w v (dF l)):(convert src dst v).run P w=.ok (.string ⟨l.toArray⟩) w:=by
 obtain⟨oa,cap,b,off,rfl,hdr,hc⟩:=h;rw[fF]at hdr hc⊢;rw[run_convert_bytes_string w src dst e oa l.length cap hs he hd]
 have q8Z:∀(l:List UInt8) (s:ByteArray),(l.map fun b=>(b.toNat:Int)).foldl (fun r n=>r.push (UInt8.ofNat n.toNat)) s=⟨s.data++l.toArray⟩:=by
  intro l
  induction l with
  |nil=>intro s;simp
  |cons b l ih=>intro s;simp only[qI,qK,ih];simp[ByteArray.push]
 have hb:dF l=(l.map fun b=>(b.toNat:Int)).map (Value.int .u8):=by simp[dF]
 cases oa with
 |none=>
  have h0:l.length=0:=by
   rcases jE l.length with h|h
   ·exact h
   have:=hdr.hat h;cases this
  obtain rfl:l=[]:=List.length_eq_zero_iff.1 h0;unfold Conv.bytesToString;simp
  rfl
 |some ad=>
  have hl:(loadCells ad l.length).run P w=.ok ((l.map fun b=>(b.toNat:Int)).map (Value.int .u8)).toArray w:=by
   rcases jE l.length with h|h
   ·obtain rfl:l=[]:=List.length_eq_zero_iff.1 h
    simp[loadCells,loadCellsFrom]
   have:=hdr.hat h;obtain rfl:ad=⟨b,off,none⟩:=qp this;rw[<-hb]
   have h2:=run_loadCells_list (P:=P) w ⟨b,off,none⟩ (dF l) (fun j v hv=>by
    have hj:j<(dF l).length:=(List.getElem?_eq_some_iff.1 hv).1;rw[fF]at hj;rw[gH,hc j hj];simp[List.getD,hv])
   rwa [fF]at h2
  rw[run_bytesToString w ad l.length cap _ hl,q8Z];simp
theorem nO{P:Program}(w:World)(k:Nat)(s:ByteArray):(Builtin.firstCells k s.size (.string s)).run P w=.ok (dF s.data.toList).toArray w:=by
 unfold Builtin.firstCells;rw[Sem.run_pure];have h:(s.extract 0 s.size)=s:=by simp
 rw[h]
 congr 1
 apply Array.ext';simp[dF]
theorem z9{P:Program}(w:World)(B:Nat)(t u ty E:TypeId)(z:Value)(bytes:Nat)(ht:P.underlying t=some (.slice E))(hu:P.underlying u=some .string)(q5X:(P.info? E).map (fun i=>(i.zero,i.size,i.bytes))=some (some z,1,bytes))(hz:z.cells.size=1)(hby:bytes<=24)
  (v:Value) (xs:List Value) (hown:Own w B E v xs) (s:ByteArray) (hlen:xs.length+s.size<=4294967296) (hB:B<=w.heap.size):
  ∃v' w',(Builtin.append_ #[t,u] ty #[v,.string s]).run P w=.ok v' w'/\Own w' B E v' (xs++dF s.data.toList)/\w.grownBy w' v.ownBlock/\(∀k,v'.ownBlock=some k->v.ownBlock=some k\/w.heap.size<=k):=by
 obtain⟨i,hi,hz0,hz1,hz2⟩:∃i0,P.info? E=some i0/\i0.zero=some z/\i0.size=1/\i0.bytes=bytes:=by
  cases hq:P.info? E with
  |none=>simp[hq]at q5X
  |some i0=>simp[hq]at q5X;exact⟨i0,rfl,q5X.1,q5X.2.1,q5X.2.2⟩
 have hnl:(dF s.data.toList).length=s.size:=by rw[fF];simp
 have h1:=K1 s.data.toList;have hl1:xs.length+s.size<=maxLen:=by simp only[maxLen];omega
 have hl2:(xs.length+s.size)*bytes<=140737488355328:=by
  have:=Nat.mul_le_mul hlen hby;omega
 have hf:=fun w'=>nO (P:=P) w' 1 s;generalize dF s.data.toList=news at*;rcases hown with⟨hrow,hsm⟩;have hxl:=hrow.1;rw[Nat.mul_one]at hxl
 have grown:∀(old:Nat),old<xs.length+s.size->∀(row:Option Nat),
   (w.drew.alloc (.cells (xs.toArray++news.toArray++Builtin.zeroCells z.cells (grownCap w (xs.length+s.size) old E-(xs.length+s.size))) E)).ownsRow B E 1
    (.slice (some ⟨w.heap.size,0,none⟩) (xs.length+s.size) (grownCap w (xs.length+s.size) old E)) (xs.length+s.size) (xs++news)/\
   w.grownBy (w.drew.alloc (.cells (xs.toArray++news.toArray++Builtin.zeroCells z.cells (grownCap w (xs.length+s.size) old E-(xs.length+s.size))) E)) row:=by
  intro old ho row;have hge:=grownCap_ge w (xs.length+s.size) old E;have hcm:grownCap w (xs.length+s.size) old E<=maxLen:=grownCap_le_maxLen w (xs.length+s.size) old E hl1;refine⟨⟨by simp[hnl],.inr ⟨w.heap.size,_,_,rfl,hB,heap_alloc_new w.drew _,hge,hcm,?_,?_⟩⟩,⟨rfl,rfl,rfl,by simp,fun k hk _=>Below.heap_alloc w.drew _ k hk⟩⟩
  ·simp only[Array.size_append,jB,size_zeroCells,hz,hnl]
   omega
  simp only[Array.toList_append,qk];rw[<-qk,Nat.mul_one,<-hnl,<-qj];exact List.take_left
 have q63:(xs++news).length<=140737488351232:=by rw[qj,hnl];omega
 rcases hrow.2 with⟨rfl,hx0⟩|⟨g,cap,cur,rfl,hbg,hg,hnc,hcm,hcs,q5U⟩
 ·obtain rfl:xs=[]:=List.length_eq_zero_iff.1 hx0
  by_cases hs:s.size=0
  ·have hn:news=[]:=List.length_eq_zero_iff.1 (by rw[hnl,hs])
   subst hn;refine⟨.slice none 0 0,w,?_,Own.nil _ _ _,⟨rfl,rfl,rfl,qb _,fun _ _ _=>rfl⟩,fun k hk=>by simp[Value.ownBlock]at hk⟩;have hf0:=hf w;rw[hs]at hf0;simp[Builtin.append_,run_underlying ht,run_underlying hu,sizeOf,typeInfo,hi,hz1,Builtin.lenOf,hs,hf0]
  obtain⟨g1,g2⟩:=grown 0 (by simp;omega) (Value.ownBlock (.slice none 0 0));simp only[qN,qH,List.nil_append]at g1 g2 q63;refine⟨_,_,?_,⟨by simpa[hnl]using g1,by simpa using q63⟩,g2,fun k hk=>.inr (by simp[Value.ownBlock]at hk;omega)⟩;have q98:¬(9223372036854775807<(s.size:Int)):=by simp at hlen;omega
  have q99:¬(281474976710656<Builtin.nextslicecap s.size 0*i.bytes):=by rw[nextslicecap_zero (by omega),hz2];simp at hl2;omega
  have hf0:=hf w.drew;simp[Builtin.append_,run_underlying ht,run_underlying hu,sizeOf,typeInfo,zeroValue,hi,hz0,hz1,Builtin.lenOf,hs,q98,q99,Question.forced,run_firstCells_none,hf0,newRow,grownCap]
 by_cases hroom:xs.length+s.size<=cap
 ·have qbu:xs.length*1+news.length<=cur.size:=by rw[hnl,hcs];omega
  have hst:=run_storeCells_at P g (xs.length*1) E news 0 cur w hg (by simpa using qbu) h1;simp only[jD,Nat.mul_one]at hst;generalize hR:(cur.toList.take xs.length++news++cur.toList.drop (xs.length+news.length)).toArray=R at hst;refine⟨.slice (some ⟨g,0,none⟩) (xs.length+s.size) cap,w.setRow g R,?_,⟨⟨by simp[hnl],.inr ⟨g,cap,R,?_,hbg,setRow_heap w g cur R E _ hg,?_,hcm,?_,?_⟩⟩,q63⟩,⟨rfl,rfl,rfl,by simp,fun k _ hk=>setRow_other w g k _ (fun e=>hk (by simp[Value.ownBlock,e]))⟩,fun k hk=>.inl hk⟩
  ·have hf0:=hf w
   simp[Builtin.append_,run_underlying ht,run_underlying hu,sizeOf,typeInfo,hi,hz1,Builtin.lenOf,hroom,hf0,Addr.add_lit,hst]
  ·rw[qj,hnl]
  ·rw[qj,hnl];exact hroom
  ·rw[<-hR]
   simp only[jB,qj,qW,j3,qQ];omega
  rw[Nat.mul_one]at q5U;rw[Nat.mul_one,<-hR,q5U];exact List.take_left
 have holds:∀j u,xs[j]? =some u->w.cell? ((⟨g,0,none⟩:Addr).add j)=some u:=World.ownsRow.cells (g:=g) hrow rfl;obtain⟨g1,g2⟩:=grown cap (by omega) (Value.ownBlock (.slice (some ⟨g,0,none⟩) xs.length cap));refine⟨_,_,?_,⟨by rw[qj,hnl];exact g1,q63⟩,g2,fun k hk=>.inr (by simp[Value.ownBlock]at hk;omega)⟩;have hn:¬(xs.length+s.size<=cap):=hroom;have q98:¬(9223372036854775807<((xs.length:Int)+(s.size:Int))):=by omega
 have q99:¬(281474976710656<Builtin.nextslicecap (xs.length+s.size) cap*i.bytes):=by
  have:=growslice_fits (need:=xs.length+s.size) (old:=cap) (bytes:=bytes) (by omega) hl2;rw[hz2];omega
 have hf0:=hf w.drew;have hfo:=run_firstCells_some (P:=P) w.drew 1 xs.length ⟨g,0,none⟩ xs.length cap xs (by omega) (by simpa using holds);simp[Builtin.append_,run_underlying ht,run_underlying hu,sizeOf,typeInfo,zeroValue,hi,hz0,hz1,Builtin.lenOf,hn,q98,q99,Question.forced,hf0,hfo,newRow,grownCap]
 congr 2
 apply Array.ext';simp[qk]
theorem t6{P:Program}{ops:Array Oper}{rest:List Oper}{o:Oper}{a:Act}{w:World}{Q:Exit->Act->World->Prop}(hgd:o.guard=none)(s x:Operand)(t u:TypeId)
  (ho:o.op=.call {callee:=.builtin .append,args:=#[s,x],argTypes:=#[t,u]})
  (B E:TypeId) (z:Value) (bytes:Nat) (ht:P.underlying t=some (.slice E)) (hu:P.underlying u=some .string) (q5X:(P.info? E).map (fun i=>(i.zero,i.size,i.bytes))=some (some z,1,bytes)) (hz:z.cells.size=1) (hby:bytes<=24)
  (v:Value) (xs:List Value) (hs:a.eval s=v) (hown:Own w B E v xs) (tx:ByteArray) (hxe:a.eval x=.string tx) (hlen:xs.length+tx.size<=4294967296) (hB:B<=w.heap.size)
  (h:∀v' w',Own w' B E v' (xs++dF tx.data.toList)->w.grownBy w' v.ownBlock->(∀k,v'.ownBlock=some k->v.ownBlock=some k\/w.heap.size<=k)->wpList P ops Q rest (a.put o.dst v') w'):wpList P ops Q (o::rest) a w:=by
 obtain⟨v',w',hr,h2,h3,h4⟩:=z9 (P:=P) w B t u o.type E z bytes ht hu q5X hz hby v xs hown tx hlen hB;refine wpList_plain hgd fun K hK=>?_;unfold Oper.wp execOp;simp only[ho,resolve,invoke,builtin,Sem.run_bind,Sem.run_pure,Result.andThen_ok,List.map_toArray,qI,js,hs,hxe,hr];exact hK _ _ (h v' w' h2 h3 h4)
abbrev dG:=List UInt8
def bys(s:ByteArray):dG:=s.data.toList
theorem bH(s:ByteArray):(bys s).length=s.size:=by simp[bys]
theorem eY{P:Program}(T:TypeId)(hT:P.underlying T=some .string){s:ByteArray}{i:Nat}(h:i<s.size)(W:World):(Instr.index T (.string s) (.int .i64 i)).run P W=.ok (.int .u8 (((bys s).getD i 0).toNat:Nat)) W:=by
 rw[run_index_string W T s .i64 i hT,dif_pos ⟨by omega,by omega⟩]
 have:(bys s).getD i 0=s[i]:=by
  have hl:i<(bys s).length:=by rw[bH];exact h
  rw[qt,qx hl]
  rfl
 rw[this]
 rfl
theorem kO{a b:UInt8}(h:a≠b):((a.toNat:Int)==(b.toNat:Int))=false:=by
 have:a.toNat≠b.toNat:=fun e=>h (UInt8.toNat_inj.1 e);have h2:(a.toNat:Int)≠(b.toNat:Int):=by omega
 simpa using h2
end Go.Cm
namespace Go.Cm
structure PS where
 p:Nat
 e:Nat
 b:Nat
def bA(z:PS):PS:=⟨z.p+1,z.e,z.b⟩
def nxR(s:dG)(z:PS):Option UInt8:=if z.e=0/\z.p<s.length then some (s.getD z.p 0)else none
def b9(e a:Nat)(z:PS):PS:=if z.e=0 then⟨z.p,e,a⟩else z
def b7(s:dG)(c:UInt8)(z:PS):Bool×PS:=if nxR s z=some c then(true,bA z)else(false,z)
def kN(k:Int):Nd:=⟨k,0,0,0,0,0,0,0⟩
def wdR(x i:Nat):Nat:=x/2^(64*i)%2^64
def setN(x:Nat):Nd:=⟨1,0,wdR x 0,wdR x 1,wdR x 2,wdR x 3,0,0⟩
def f6(x:Nd)(kids:List (List Nd)):List Nd:={x with n:=kids.length}::kids.flatten
def m3(kd:Int):List (List Nd)->List Nd
 |[]=>f6 (kN 2) []
 |[l]=>l
 |l=>f6 (kN kd) l
def iD(a b:Nat):Nat:=(List.range 256).foldl (fun x c=>if a<=c/\c<=b then x|||2^c else x) 0
def gG(c:UInt8):Nat:=iD c.toNat c.toNat
def vZ(x:Nat):Nat:=2^256-1-x
def zC:Nat:=iD 48 57
def q5y:Nat:=gG 95|||(zC|||(iD 97 122|||iD 65 90))
def dgR(c:UInt8):Int:=if 48<=c.toNat/\c.toNat<=57 then c.toNat-48 else if 97<=c.toNat/\c.toNat<=102 then c.toNat-97+10 else -1
def okD(c:UInt8)(base:Int):Bool:=decide (0<=dgR c)&&decide (dgR c<base)
def mA(s:dG)(z:PS):Nat×PS:=
 let c:=(nxR s z).getD 0
 if okD c 10 then
  let d:=(nxR s (bA z)).getD 0
  if okD d 10 then(10*(dgR c).toNat+(dgR d).toNat,bA (bA z))else((dgR c).toNat,bA z)
 else(0,b9 15 z.p z)
def q2o(lo hi:Int):Bool:=decide (0<=lo)&&(decide (lo<=30)&&(decide (hi= -1)||(decide (lo<=hi)&&decide (hi<=30))))
def pN(s:dG)(low:Nat)(z:PS):Int×PS:=
 let t:=b7 s 44 z
 if t.1 then(if(nxR s t.2).getD 0=125 then(-1,t.2)else((mA s t.2).1,(mA s t.2).2))else(low,t.2)
def pO(s:dG)(z:PS):Nd×PS:=
 let l:=mA s (bA z)
 let h:=pN s l.1 l.2
 let t:=b7 s 125 h.2
 let z5:=if t.1 then t.2 else b9 15 t.2.p t.2
 (⟨8,0,0,0,0,0,l.1,h.1⟩,if q2o l.1 h.1 then z5 else b9 18 z.p z5)
def xL:dG:=[92,91,93,40,41,123,125,42,43,63,124,46,45,94,47,34]
def yG:dG:=[92,91,93,40,41,123,125,42,43,63,124,46]
def q3A(c:UInt8):Option Nat:=if c=100 then some zC else if c=119 then some q5y else none
def q3B(c:UInt8):Option UInt8:=if c=110 then some 10 else if c=116 then some 9 else if c=115 then some 32 else if c∈xL then some c else none
def q1K(s:dG)(i:Nat):Option UInt8:=
 if i+2<s.length/\okD (s.getD (i+1) 0) 16=true/\okD (s.getD (i+2) 0) 16=true then some (UInt8.ofNat (16*(dgR (s.getD (i+1) 0)).toNat+(dgR (s.getD (i+2) 0)).toNat))else none
def tV(s:dG)(z:PS):(Nat×Bool)×PS:=
 match nxR s (bA z)with
 |none=>((0,false),b9 15 (z.p+1) (bA z))
 |some c=>
  match q3A c with
  |some a=>((a,true),bA (bA z))
  |none=>
   match q3B c with
   |some b=>((gG b,false),bA (bA z))
   |none=>
    if c=120 then
     match q1K s (z.p+1)with
     |some b=>((gG b,false),⟨z.p+4,z.e,z.b⟩)
     |none=>((0,false),b9 15 (z.p+1) (bA (bA z)))
    else((0,false),b9 15 (z.p+1) (bA (bA z)))
def fO(s:dG)(z:PS):(Nat×Bool)×PS:=
 match nxR s z with
 |none=>((0,false),b9 15 z.p z)
 |some c=>if c=92 then tV s z else if c=45 then((0,false),b9 15 z.p z)else((gG c,false),bA z)
def D8(s:dG)(frm:Nat)(z:PS):Nat×PS:=
 let a:=fO s z
 let t:=b7 s 45 a.2
 if t.1 then
  match nxR s t.2 with
  |none=>(a.1.1,b9 16 frm t.2)
  |some c=>
   if c=93 then(a.1.1,b9 15 t.2.p t.2)
   else
    let b:=fO s t.2
    if b.2.e≠0 then(a.1.1,b.2)
    else if a.1.2||b.1.2||decide (Nat.log2 b.1.1<Nat.log2 a.1.1)then(a.1.1,b9 18 a.2.p b.2)
    else(iD (Nat.log2 a.1.1) (Nat.log2 b.1.1),b.2)
 else(a.1.1,t.2)
def sJ(s:dG)(frm:Nat):Nat->Nat->PS->Nat×PS
 |0,a,z=>(a,z)
 |f+1,a,z=>
  if z.e≠0 then(a,z)
  else
   let t:=b7 s 93 z
   if t.1 then(a,t.2)
   else if s.length<=t.2.p then(a,b9 16 frm t.2)
   else sJ s frm f (a|||(D8 s frm t.2).1) (D8 s frm t.2).2
def K5(s:dG)(frm:Nat)(z:PS):Nat×PS:=
 let t:=b7 s 94 z
 let r:=sJ s frm (s.length+1) 0 t.2
 let a:=if t.1 then vZ r.1 else r.1
 (a,if a=0 then b9 17 frm r.2 else r.2)
def zD(s:dG)(alt:PS->List Nd×PS)(z:PS):List Nd×PS:=
 let c:=(nxR s z).getD 0
 if c=92 then([setN (tV s z).1.1],(tV s z).2)
 else if c=40 then
  let l:=alt (bA z)
  let t:=b7 s 41 l.2
  (l.1,if t.1 then t.2 else b9 16 z.p t.2)
 else if c=91 then([setN (K5 s z.p (bA z)).1],(K5 s z.p (bA z)).2)
 else if c=46 then([setN (vZ (gG 10))],bA z)
 else if c∈yG then([],b9 15 z.p z)
 else([setN (gG c)],bA z)
def rD(s:dG):Nat->List Nd->PS->List Nd×PS
 |0,l,z=>(l,z)
 |f+1,l,z=>
  let c:=(nxR s z).getD 0
  if c=42 then rD s f (f6 (kN 5) [l]) (bA z)
  else if c=43 then rD s f (f6 (kN 6) [l]) (bA z)
  else if c=63 then rD s f (f6 (kN 7) [l]) (bA z)
  else if c=123 then rD s f (f6 (pO s z).1 [l]) (pO s z).2
  else(l,z)
def D9(s:dG)(alt:PS->List Nd×PS)(z:PS):List Nd×PS:=rD s (s.length+1) (zD s alt z).1 (zD s alt z).2
def inR(s:dG)(z:PS):Bool:=match nxR s z with|none=>false|some c=>decide (c≠124)&&decide (c≠41)
def vH(s:dG)(alt:PS->List Nd×PS):Nat->List (List Nd)->PS->List (List Nd)×PS
 |0,l,z=>(l,z)
 |f+1,l,z=>if inR s z then vH s alt f (l++[(D9 s alt z).1]) (D9 s alt z).2 else(l,z)
def lN(s:dG)(alt:PS->List Nd×PS)(z:PS):List Nd×PS:=(m3 3 (vH s alt (s.length+1) [] z).1,(vH s alt (s.length+1) [] z).2)
def pP(s:dG)(alt:PS->List Nd×PS):Nat->List (List Nd)->PS->List (List Nd)×PS
 |0,l,z=>(l,z)
 |f+1,l,z=>if(b7 s 124 z).1 then pP s alt f (l++[(lN s alt (b7 s 124 z).2).1]) (lN s alt (b7 s 124 z).2).2 else(l,z)
def mP(s:dG):Nat->PS->List Nd×PS
 |0,z=>([],z)
 |f+1,z=>
  let c:=lN s (mP s f) z
  let r:=pP s (mP s f) (s.length+1) [c.1] c.2
  (m3 4 r.1,r.2)
def q0O(s:dG):List Nd×Nat×Nat:=
 if 512<s.length then([],3,512)
 else
  let r:=mP s (s.length+1) ⟨0,0,0⟩
  let z:=if(nxR s r.2).isSome then b9 15 r.2.p r.2 else r.2
  if z.e≠0 then([],z.e,z.b)else if 400<r.1.length then([],3,0)else(r.1,0,0)
end Go.Cm
namespace Go.Cm
open Go.RowKit Go.Proofs Go.Maps
def pR(P:Program)(K:TypeId)(w:World)(b:Nat)(ks:List Value)(n:Nat):Prop:=
 ∃es clock,w.heap[b]? =some (.map es clock)/\es.toList.map (·.key)=ks/\(∀x∈es.toList,∃l,keyOf P K x.key=some l)/\(∀x∈es.toList,∃c:Int,x.val=.int .i64 c/\1<=c/\c<=n)/\(es.toList.map (·.born)).Nodup/\(∀x∈es.toList,x.born<clock)/\ks.Nodup
section
variable {P : Program} {K E T : TypeId} {w w' : World} {b n : Nat} {ks : List Value} {k : Value} {lk : Lit}
theorem pR.made(P:Program)(K:TypeId)(w:World):pR P K (w.alloc (.map #[] 0)) w.heap.size [] 0:=
 ⟨#[],0,(MapKept.heap_alloc w _).1,rfl,by simp,by simp,by simp,by simp,by simp⟩
theorem pR.lt(h:pR P K w b ks n):b<w.heap.size:=by
 exact ZmA10
theorem pR.keep(h:pR P K w b ks n){row:Option Nat}(hg:w.grownBy w' row)(hne:some b≠row):pR P K w' b ks n:=by
 exact ZmA7
theorem pR.up(h:pR P K w b ks n)(hb:Below w.heap.size w w'):pR P K w' b ks n:=h.keep (row:=none) (aI hb none) (by simp)
theorem pR.more(h:pR P K w b ks n):pR P K w b ks (n+1):=by
 obtain⟨es,clock,hb,h1,h2,h3,h4⟩:=h;exact⟨es,clock,hb,h1,h2,fun x hx=>by obtain⟨c,hc,h5,h6⟩:=h3 x hx;exact⟨c,hc,h5,by omega⟩,h4⟩
structure q4I(P:Program)(K T:TypeId)(w:World)(b:Nat)(ks:List Value)(n:Nat)(k:Value)(c:Int)(ks':List Value):Prop where
 step:∃(st:Int) (w1 w2:World),(Instr.mapEntry T (.map (some b)) k).run P w=.ok (.tuple #[.int .i64 c,.int .i64 st]) w1/\(Instr.lookup T (.map (some b)) k false).run P w=.ok (.int .i64 c) w/\(Instr.lookup T (.map (some b)) k false).run P w1=.ok (.int .i64 c) w1/\
  (Instr.entryStore T (.map (some b)) (.int .i64 st) (.int .i64 (c+1))).run P w1=.ok () w2/\(Instr.lookup T (.map (some b)) k false).run P w2=.ok (.int .i64 (c+1)) w2/\w.grownBy w1 (some b)/\w.grownBy w2 (some b)/\pR P K w2 b ks' (n+1)
theorem lP(w:World)(b:Nat)(o:Obj):w.grownBy {w with heap:=w.heap.setIfInBounds b o} (some b):=
 ⟨rfl,rfl,rfl,by simp,fun i _ hi=>by
  have:i≠b:=fun e=>hi (by rw[e]);simp[this.symm]⟩
theorem sO{es:Array MapEntry}{clock:Nat}(hb:w.heap[b]? =some (.map es clock))(o:Obj):({w with heap:=w.heap.setIfInBounds b o}:World).heap[b]? =some o:=by
 have:=(Array.getElem?_eq_some_iff.1 hb).1;simp[this]
theorem oU(Kd:Keyed P K)(hT:P.underlying T=some (.map K E))(hz:(zeroValue E).run P w=.ok (.int .i64 0) w)(hk:keyOf P K k=some lk){es:Array MapEntry}{clock:Nat}(hb:w.heap[b]? =some (.map es clock)):
  (((Instr.findKey K k es.toList).run P w=.ok none w->(Instr.lookup T (.map (some b)) k false).run P w=.ok (.int .i64 0) w)/\∀j v,(Instr.findKey K k es.toList).run P w=.ok (some (j,v)) w->(Instr.lookup T (.map (some b)) k false).run P w=.ok v w):=by
 refine⟨fun h=>?_,fun j v h=>?_⟩
 ·simp[Instr.lookup,run_underlying hT,MapKept.run_getObj_map hb,Kd.check w _ hk,h,hz,Result.andThen]
 simp[Instr.lookup,run_underlying hT,MapKept.run_getObj_map hb,Kd.check w _ hk,h,Result.andThen]
theorem tX{α β:Type}(l:List α)(j:Nat)(f:α->α)(g:α->β)(h:∀a,g (f a)=g a):(l.modify j f).map g=l.map g:=by
 refine List.ext_getElem? fun i=>?_;rw[qT,qT,List.getElem?_modify];cases l[i]? with
 |none=>rfl
 |some a=>
  simp only[jN,Option.map_eq_map];split
  ·rw[h]
  rfl
theorem oV{α:Type}{l:List α}{j:Nat}{f:α->α}{x:α}(h:x∈l.modify j f):x∈l\/∃a∈l,x=f a:=by
 obtain⟨i,hi⟩:=List.mem_iff_getElem?.1 h;rw[List.getElem?_modify]at hi;cases hl:l[i]? with
 |none=>rw[hl]at hi;cases hi
 |some a=>
  have ha:=List.mem_iff_getElem?.2 ⟨i,hl⟩;rw[hl]at hi;simp only[jN,Option.map_eq_map,jA]at hi;split at hi
  ·exact .inr ⟨a,ha,hi.symm⟩
  exact .inl (hi▸ha)
theorem zJ{α:Type}(l:List α)(a:α)(f:α->α):(l++[a]).modify l.length f=l++[f a]:=by
 refine List.ext_getElem? fun i=>?_;rw[List.getElem?_modify];rcases Nat.lt_trichotomy i l.length with h|h|h
 ·rw[qV h,qV h]
  cases l[i]? with
  |none=>rfl
  |some x=>simp;omega
 ·subst h;simp
 rw[qP (by simp;omega),qP (by simp;omega)];rfl
theorem vK{α:Type}{l:List α}(h:l.Nodup){i j:Nat}(hi:i<l.length)(hj:j<l.length)(hij:i<j):l[i]≠l[j]:=List.pairwise_iff_getElem.1 h i j hi hj hij
theorem zK(Kd:Keyed P K)(hk:keyOf P K k=some lk){l:List MapEntry}(hkl:∀x∈l,∃l,keyOf P K x.key=some l)(hnd:(l.map (·.key)).Nodup){j:Nat}{e0:MapEntry}(hj:l[j]? =some e0)(he:e0.key=k)(W:World):(Instr.findKey K k l).run P W=.ok (some (j,e0.val)) W:=by
 rcases Kd.find W hk l hkl with⟨-,hno⟩|⟨j',e1,f,hj',he'⟩
 ·exact absurd he (hno e0 (jy hj))
 obtain⟨h1,h2⟩:=List.getElem?_eq_some_iff.1 hj;obtain⟨h3,h4⟩:=List.getElem?_eq_some_iff.1 hj'
 have:j'=j:=by
  rcases Nat.lt_trichotomy j' j with h|h|h
  ·exact(vK hnd (i:=j') (j:=j) (by rw[qA];exact h3) (by rw[qA];exact h1) h (by rw[ju,ju,h2,h4,he,he'])).elim
  ·exact h
  exact(vK hnd (i:=j) (j:=j') (by rw[qA];exact h1) (by rw[qA];exact h3) h (by rw[ju,ju,h2,h4,he,he'])).elim
 subst this;rw[hj]at hj';injection hj' with e;rw[e];exact f
theorem q3K(Kd:Keyed P K)(hT:P.underlying T=some (.map K E))(hz:∀w,(zeroValue E).run P w=.ok (.int .i64 0) w)(hk:keyOf P K k=some lk)(h:pR P K w b ks n)(hn:k∉ks):q4I P K T w b ks n k 0 (ks++[k]):=by
 obtain⟨es,clock,hb,hks,hkl,hvl,hpb,hbl,hnd⟩:=h;have hne:∀x∈es.toList,x.key≠k:=fun x hx e=>hn (by rw[<-hks,<-e];exact jd hx);rcases Kd.find w hk es.toList hkl with⟨f1,-⟩|⟨j,e0,f2,hj,he⟩
 ·have hl0:=(oU (w:=w) Kd hT (hz w) hk hb).1 f1
  have hb1:=sO hb (.map (es.push ⟨k,.int .i64 0,clock⟩) (clock+1));obtain⟨w1,hw1⟩:∃w1:World,w1={w with heap:=w.heap.setIfInBounds b (.map (es.push ⟨k,.int .i64 0,clock⟩) (clock+1))}:=⟨_,rfl⟩
  have hr1:(Instr.mapEntry T (.map (some b)) k).run P w=.ok (.tuple #[.int .i64 0,.int .i64 clock]) w1:=by
   simp[Instr.mapEntry,run_underlying hT,MapKept.run_getObj_map hb,Kd.check w _ hk,f1,hz,Result.andThen,MapKept.run_setObj_map _ hb,hw1,goInt]
  have hg1:w.grownBy w1 (some b):=by rw[hw1];exact lP w b _
  rw[<-hw1]at hb1
  have hfi:(es.push ⟨k,.int .i64 0,clock⟩).findIdx? (fun e=>(e.born:Int)==(clock:Int))=some es.size:=by
   rw[Array.findIdx?_push]
   have h1:es.findIdx? (fun e=>(e.born:Int)==(clock:Int))=none:=by
    rw[Array.findIdx?_eq_none_iff];intro x hx;have:=hbl x (by simpa using hx);simp;omega
   rw[h1];simp
  have hb2:=sO hb1 (.map ((es.push ⟨k,.int .i64 0,clock⟩).modify es.size fun e=>{e with val:=.int .i64 (0+1)}) (clock+1));obtain⟨w2,hw2⟩:∃w2:World,w2={w1 with heap:=w1.heap.setIfInBounds b (.map ((es.push ⟨k,.int .i64 0,clock⟩).modify es.size fun e=>{e with val:=.int .i64 (0+1)}) (clock+1))}:=⟨_,rfl⟩
  have hr2:(Instr.entryStore T (.map (some b)) (.int .i64 (clock:Int)) (.int .i64 (0+1))).run P w1=.ok () w2:=by
   exact ZmA5
  have hg2:w1.grownBy w2 (some b):=by rw[hw2];exact lP w1 b _
  rw[<-hw2]at hb2;have e1:(es.push (⟨k,.int .i64 0,clock⟩:MapEntry)).toList=es.toList++[⟨k,.int .i64 0,clock⟩]:=by simp
  have e2:((es.push (⟨k,.int .i64 0,clock⟩:MapEntry)).modify es.size fun e=>{e with val:=.int .i64 (0+1)}).toList=es.toList++[⟨k,.int .i64 (0+1),clock⟩]:=by
   rw[Array.toList_modify,e1,<-qQ,zJ]
  have hk1:∀v,∀x∈es.toList++[(⟨k,v,clock⟩:MapEntry)],∃l,keyOf P K x.key=some l:=fun v x hx=>by
   rcases List.mem_append.1 hx with hx|hx
   ·exact hkl x hx
   rw[List.mem_singleton.1 hx];exact⟨lk,hk⟩
  have hfd:∀(W:World) (v:Value),∃j,(Instr.findKey K k (es.toList++[(⟨k,v,clock⟩:MapEntry)])).run P W=.ok (some (j,v)) W:=fun W v=>by
   rcases Kd.find W hk _ (hk1 v)with⟨-,hno⟩|⟨j,e0,f2,hj,he⟩
   ·exact absurd rfl (hno ⟨k,v,clock⟩ (by simp))
   rcases List.mem_append.1 (jy hj)with hx|hx
   ·exact absurd he (hne e0 hx)
   rw[List.mem_singleton.1 hx]at f2;exact⟨j,f2⟩
  obtain⟨j1,f1'⟩:=hfd w1 (.int .i64 0);obtain⟨j2,f2'⟩:=hfd w2 (.int .i64 (0+1));rw[<-e1]at f1';rw[<-e2]at f2';refine⟨(clock:Int),w1,w2,hr1,hl0,(oU (w:=w1) Kd hT (hz w1) hk hb1).2 _ _ f1',hr2,(oU (w:=w2) Kd hT (hz w2) hk hb2).2 _ _ f2',hg1,aK hg1 hg2,?_⟩;refine⟨_,_,hb2,by rw[e2];simp[hks],by rw[e2];exact hk1 _,?_,?_,?_,?_⟩
  ·rw[e2]
   intro x hx;rcases List.mem_append.1 hx with hx|hx
   ·obtain⟨c,hc,h1,h2⟩:=hvl x hx;exact⟨c,hc,h1,by omega⟩
   rw[List.mem_singleton.1 hx];exact⟨1,rfl,by omega,by omega⟩
  ·rw[e2,qG,List.nodup_append]
   refine⟨hpb,by simp,fun x hx y hy e=>?_⟩;obtain⟨z,hz1,rfl⟩:=List.mem_map.1 hx;simp at hy;have:=hbl z hz1;omega
  ·rw[e2]
   intro x hx;rcases List.mem_append.1 hx with hx|hx
   ·have:=hbl x hx;omega
   rw[List.mem_singleton.1 hx];show clock<clock+1;omega
  exact ZmA6
 exact absurd he (hne e0 (jy hj))
theorem q3L(Kd:Keyed P K)(hT:P.underlying T=some (.map K E))(hz:∀w,(zeroValue E).run P w=.ok (.int .i64 0) w)(hk:keyOf P K k=some lk)(h:pR P K w b ks n)(hn:k∈ks):∃c:Int,1<=c/\c<=n/\q4I P K T w b ks n k c ks:=by
 obtain⟨es,clock,hb,hks,hkl,hvl,hpb,hbl,hnd⟩:=h;rcases Kd.find w hk es.toList hkl with⟨-,hne⟩|⟨j,e0,f2,hj,he⟩
 ·rw[<-hks]at hn
  obtain⟨x,hx,e⟩:=List.mem_map.1 hn;exact absurd e (hne x hx)
 have q62:=jy hj;obtain⟨c,hc,hc1,hc2⟩:=hvl e0 q62;rw[hc]at f2;have hl0:=(oU (w:=w) Kd hT (hz w) hk hb).2 _ _ f2;have hja:es[j]? =some e0:=by simpa using hj
 have q8O:(es.modify j fun e=>{e with key:=k})=es:=by
  refine Array.ext_getElem? fun i=>?_;rw[Array.getElem?_modify];by_cases hji:j=i
  ·subst hji
   rw[qv rfl,hja,jN,<-he]
  rw[qu hji]
 have hb1:=sO hb (.map es clock);obtain⟨w1,hw1⟩:∃w1:World,w1={w with heap:=w.heap.setIfInBounds b (.map es clock)}:=⟨_,rfl⟩
 have hr1:(Instr.mapEntry T (.map (some b)) k).run P w=.ok (.tuple #[.int .i64 c,.int .i64 e0.born]) w1:=by
  simp[Instr.mapEntry,run_underlying hT,MapKept.run_getObj_map hb,Kd.check w _ hk,f2,hja,he,Kd.stays w hk,Result.andThen,MapKept.run_setObj_map _ hb,hw1,goInt,q8O]
 have hg1:w.grownBy w1 (some b):=by rw[hw1];exact lP w b _
 rw[<-hw1]at hb1
 have hlt:j<es.size:=by
  have:=(List.getElem?_eq_some_iff.1 hj).1;simpa using this
 have hfi:es.findIdx? (fun e=>(e.born:Int)==(e0.born:Int))=some j:=by
  rw[Array.findIdx?_eq_some_iff_getElem];have e1:es[j]=e0:=by rw[Array.getElem?_eq_getElem hlt]at hja;injection hja
  refine⟨hlt,by rw[e1];simp,fun i hi=>?_⟩;have hil:i<es.toList.length:=by rw[qQ];omega
  have h1:=vK hpb (i:=i) (j:=j) (by rw[qA];exact hil) (by rw[qA,qQ];exact hlt) hi;simp only[ju,Array.getElem_toList,e1]at h1;simp;omega
 have hb2:=sO hb1 (.map (es.modify j fun e=>{e with val:=.int .i64 (c+1)}) clock);obtain⟨w2,hw2⟩:∃w2:World,w2={w1 with heap:=w1.heap.setIfInBounds b (.map (es.modify j fun e=>{e with val:=.int .i64 (c+1)}) clock)}:=⟨_,rfl⟩
 have hr2:(Instr.entryStore T (.map (some b)) (.int .i64 (e0.born:Int)) (.int .i64 (c+1))).run P w1=.ok () w2:=by
  exact ZmA5
 have hg2:w1.grownBy w2 (some b):=by rw[hw2];exact lP w1 b _
 rw[<-hw2]at hb2;have e2:(es.modify j fun e=>{e with val:=.int .i64 (c+1)}).toList=es.toList.modify j fun e=>{e with val:=.int .i64 (c+1)}:=Array.toList_modify;have hm1:(es.modify j fun e=>{e with val:=.int .i64 (c+1)}).toList.map (·.key)=ks:=by rw[e2];exact(tX es.toList j (fun e:MapEntry=>{e with val:=.int .i64 (c+1)}) (fun e:MapEntry=>e.key) (fun _=>rfl)).trans hks
 have qa4:∀x∈(es.modify j fun e=>{e with val:=.int .i64 (c+1)}).toList,∃l,keyOf P K x.key=some l:=fun x hx=>by
  rw[e2]at hx;rcases oV hx with hx|⟨a,ha,rfl⟩
  ·exact hkl x hx
  exact hkl a ha
 have qbh:(es.toList.map (·.key)).Nodup:=by rw[hks];exact hnd
 have f1:=zK Kd hk hkl qbh hj he w1;rw[hc]at f1
 have hj2:((es.modify j fun e=>{e with val:=.int .i64 (c+1)}).toList)[j]? =some {e0 with val:=.int .i64 (c+1)}:=by
  rw[e2,List.getElem?_modify,hj];simp
 have f3:=zK Kd hk qa4 (by rw[hm1];exact hnd) hj2 he w2;refine⟨c,hc1,hc2,⟨_,w1,w2,hr1,hl0,(oU (w:=w1) Kd hT (hz w1) hk hb1).2 _ _ f1,hr2,(oU (w:=w2) Kd hT (hz w2) hk hb2).2 _ _ f3,hg1,aK hg1 hg2,?_⟩⟩;refine⟨_,_,hb2,hm1,qa4,fun x hx=>?_,?_,fun x hx=>?_,hnd⟩
 ·rw[e2]at hx
  rcases oV hx with hx|⟨a,ha,rfl⟩
  ·obtain⟨c',h1,h2,h3⟩:=hvl x hx;exact⟨c',h1,h2,by omega⟩
  exact⟨c+1,rfl,by omega,by omega⟩
 ·rw[e2]
  rw[show(es.toList.modify j fun e:MapEntry=>{e with val:=.int .i64 (c+1)}).map (·.born)=es.toList.map (·.born)from tX es.toList j (fun e:MapEntry=>{e with val:=.int .i64 (c+1)}) (fun e:MapEntry=>e.born) (fun _=>rfl)];exact hpb
 rw[e2]at hx;rcases oV hx with hx|⟨a,ha,rfl⟩
 ·exact hbl x hx
 exact hbl a ha
end
end Go.Cm
namespace Go.Cm
open Go.RowKit Go.Proofs Go.Maps
def zM{α:Type} [DecidableEq α](lit:α->Lit)(D:DataW Unit)(ks:List α):Prop:=
 Tidy D/\Maps.size D=ks.length/\(∀k,Maps.has D (lit k)=decide (k∈ks))/\∀k∈ks,D.atKey (lit k) (.lit (.int .i64 0))=.lit (.int .i64 (idx ks k:Nat))
structure q4K{α:Type}(lit:α->Lit):Prop where
 inj:∀a b,lit a=lit b->a=b
 key:∀a,WideAt.IsKeyLit (lit a)
section
variable {α : Type} [DecidableEq α] {lit : α → Lit} {D : DataW Unit} {ks : List α}
theorem zM.nil(lit:α->Lit):zM lit (.map []) ([]:List α):=⟨tidy_empty,rfl,fun k=>by simp[has_eq],fun k hk=>by cases hk⟩
theorem zM.snoc(h:zM lit D ks)(hl:q4K lit){k:α}(hk:k∉ks):zM lit (D.put (lit k) (.lit (.int .i64 (ks.length:Nat)))) (ks++[k]):=by
 obtain⟨h1,h2,h3,h4⟩:=h;refine⟨h1.put (hl.key k) _,?_,fun j=>?_,fun j hj=>?_⟩
 ·rw[size_put h1,h3 k];simp[hk,h2]
 ·by_cases hjk:j=k
  ·subst hjk;rw[has_put_same h1.isMap (hl.key j)];simp
  rw[has_put_other (fun e=>hjk (hl.inj _ _ e)),h3 j];simp[hjk]
 by_cases hjk:j=k
 ·subst hjk;rw[atKey_put_same h1.isMap (hl.key j),e9 hk]
 have hj':j∈ks:=by
  rcases List.mem_append.1 hj with h|h
  ·exact h
  simp at h;exact absurd h hjk
 rw[atKey_put_other (fun e=>hjk (hl.inj _ _ e)),h4 j hj',cI hj']
end
def iT{α:Type} [DecidableEq α](P:Program)(K E:TypeId)(lit:α->Lit)(w:World)(b:Nat)(ks:List α):Prop:=
 ∃D:DataW Unit,w.ownsMap P K (plainElem P E) b ks.length D/\zM lit D ks
section
variable {α : Type} [DecidableEq α] {P : Program} {K E : TypeId} {lit : α → Lit} {w w' : World} {b : Nat} {ks : List α}
theorem iT.made(w:World)(lit:α->Lit):iT P K E lit (w.alloc (.map #[] 0)) w.heap.size ([]:List α):=⟨_,World.ownsMap_made _ _ _ _,zM.nil lit⟩
theorem iT.keep(h:iT P K E lit w b ks){row:Option Nat}(hg:w.grownBy w' row)(hne:some b≠row):iT P K E lit w' b ks:=by
 obtain⟨D,h1,h2⟩:=h;exact⟨D,h1.kept hg hne,h2⟩
theorem iT.up(h:iT P K E lit w b ks)(hb:Below w.heap.size w w'):iT P K E lit w' b ks:=h.keep (row:=none) (aI hb none) (by simp)
theorem iT.lt(h:iT P K E lit w b ks):b<w.heap.size:=by obtain⟨D,h1,-⟩:=h;exact h1.lt
end
end Go.Cm
namespace Go.Cm
open Go.RowKit Go.Proofs Go.WideShapes Go.ChangeShapes Go.Deep
section
variable {H : Type} {enc : TypeId × Value → H} {P : Program}
theorem vP{f:Func}{s:ChangeSpec}{apart fresh q7c again:Bool}{W W':World}{args:Array Value}{v:Value}{ds gs:List (DataW H)}{before pa pv:List MemPlace}
  (hW:DataW.Whole enc P f.params.toList s.vars apart W args.toList ds gs before)
  (hres:∀(b:Nat) (sp:Nat->Bool) (hd:Bool),DataW.TrodAll enc P W' b sp hd f.resultTypes.toList (v.resultList f.resultTypes.size) (s.fn H (ds++gs)).results [])
  (q83:∀sp:Nat->Bool,(∀p∈before,sp p.block=true)->DataW.TrodAll enc P W' 0 sp true f.params.toList args.toList (s.fn H (ds++gs)).args pa)
  (q7z:∀sp:Nat->Bool,(∀p∈before,sp p.block=true)->DataW.TrodVars enc P W' sp s.vars (s.fn H (ds++gs)).vars pv)
  (hps:before=pa++pv) (hb:Below W.heap.size W W')
  (hok:∀(j:Nat) (t:TypeId) (r:Value),f.resultTypes[j]? =some t->(v.resultList f.resultTypes.size)[j]? =some r->Value.okWide P W' .any 0 t r):
  s.post enc P f apart fresh q7c again W args v W':=by
 have hlt:∀p∈before,p.block<W.heap.size:=fun p hp=>hW.lt p hp;have hold:∀p∈before,(fun b=>decide (b<W.heap.size)) p.block=true:=fun p hp=>by simpa using hlt p hp
 refine⟨ds,gs,before,[],pa,pv,hW,hres _ _ _,q83 _ hold,q7z _ hold,World.keptBut_mono (fun p hp=>⟨hp,?_⟩) (hb.frame (· ∈before)),fun _=>?_⟩
 ·rw[hps,List.mem_append]at hp
  exact Or.inr hp
 obtain⟨_,_,_,_,_,hz,hn⟩:=hW;refine⟨hok,_,_,([]++pa)++pv,⟨[]++pa,pv,trodAll_append (q83 _ (fun _ _=>rfl)) (hres _ _ _),q7z _ (fun _ _=>rfl),rfl,?_,?_⟩,?_⟩
 ·intro b off hp
  have hin:MemPlace.cell b off∈before:=by rw[hps];simpa using hp
  rw[hb.frozen (hlt _ hin)];exact hz b off hin
 ·intro ha
  have:=hn ha;rw[hps]at this;simpa using this
 intro p hp _;rw[hps];simpa using hp
end
section
variable {H : Type} {enc : TypeId × Value → H} {P : Program} {w : World} {base : Nat} {held : Bool}
theorem nW{t e:TypeId}{elems spare:List (DataW H)}(hu:P.underlying t=some (.slice e)):(DataW.slice elems spare).weights P t=(elems.length+spare.length)*P.bytesOf e::(DataW.weightsAll P e elems++DataW.weightsAll P e spare):=by
 simp[DataW.weights,hu]
theorem iE{e:TypeId}{d:DataW H}:∀{l:List (DataW H)},d∈l->∀n∈d.weights P e,n∈DataW.weightsAll P e l
 |a::l,h,n,hn=>by
  simp only[DataW.weightsAll,List.mem_append];rcases List.mem_cons.1 h with rfl|h
  ·exact .inl hn
  exact .inr (iE h n hn)
theorem vQ(b off j:Nat):(⟨b,off,none⟩:Addr).add j=⟨b,off+j,none⟩:=by unfold Addr.add;split<;>simp_all
theorem vR:reachBytes=140737488351232:=rfl
theorem q2C{t e:TypeId}{fuel:Nat}{cs:List Value}{x:DataW H×List MemPlace}(ht:P.underlying t=some (.slice e))(hc:P.cellsOf e=1)(hb:1<=P.bytesOf e)(h:DataW.trod enc P w base (fun _=>true) held fuel t cs=some x)(hw:∀n∈x.1.weights P t,n<=reachBytes):
  ∃(oa:Option Addr) (len cap b off:Nat) (V:Nat->Value) (D:Nat->DataW H),cs=[.slice oa len cap]/\Hd w oa len cap b off/\∀i,i<len->w.cell? ⟨b,off+i,none⟩=some (V i)/\(∃n p,DataW.trod enc P w base (fun _=>true) held n e [V i]=some (D i,p))/\∀n∈(D i).weights P e,n<=reachBytes:=by
 rcases open_slice1 ht hc h with⟨rfl,-⟩|⟨a,len,cap,m,n,V,D,Pl,rfl,-,hl,hm,hmm,rfl,hx⟩
 ·exact⟨none,0,0,0,0,fun _=>undef,fun _=>.nil,rfl,⟨fun h=>absurd h (jI 0),qb _,by simp[maxLen],by simp,fun h=>absurd h (jI 0)⟩,fun i hi=>absurd hi (qB i)⟩
 simp only[jH]at hmm;subst hmm;have hwt:=nW (P:=P) (elems:=(List.range len).map D) (spare:=(List.range (m-len)).map fun j=>D (len+j)) ht;simp only at hw;rw[hwt]at hw;have h1:=hw _ (jg ..);simp only[qA,List.length_range]at h1;have h2:m*1<=(len+(m-len))*P.bytesOf e:=Nat.mul_le_mul (by omega) hb;rw[vR]at h1;obtain⟨ab,ao,asp⟩:=a
 have hsp:0<len->asp=none:=fun h0=>by
  have h3:=(hx 0 (by omega)).1;simpa[Addr.add]using World.cell?_spot h3
 refine⟨some ⟨ab,ao,asp⟩,len,m,ab,ao,V,D,rfl,⟨fun h0=>by rw[hsp h0],hl,hm,by omega,fun h0=>?_⟩,fun i hi=>⟨?_,⟨n,Pl i,(hx i (by omega)).2⟩,fun k hk=>hw k (qX _ (j4 _ (iE (List.mem_map.2 ⟨i,List.mem_range.2 hi,rfl⟩) k hk)))⟩⟩
 ·have h3:=(hx 0 (by omega)).1
  have:=World.block_lt_of_cell? _ _ h3;simpa[Addr.add]using this
 have h3:=(hx i (by omega)).1;have h4:=hsp (by omega);subst h4;rwa [vQ]at h3
end
end Go.Cm
namespace Go.Cm
open Go.RowKit Go.Proofs Go.WideShapes Go.ChangeShapes Go.Deep
section
variable {H : Type} {enc : TypeId × Value → H} {P : Program} {w : World} {base : Nat} {held : Bool}
theorem q14{t e:TypeId}{fuel:Nat}{cs:List Value}{x:DataW H×List MemPlace}(k:Nat)(hk:0<k)(ht:P.underlying t=some (.slice e))(hc:P.cellsOf e=k)(hb:1<=P.bytesOf e)(h:DataW.trod enc P w base (fun _=>true) held fuel t cs=some x)(hw:∀n∈x.1.weights P t,n<=reachBytes):
  ∃(oa:Option Addr) (len cap b off:Nat) (C:Nat->List Value) (D:Nat->DataW H),cs=[.slice oa len cap]/\Hd w oa len cap b off/\∀i,i<len->(C i).length=k/\(∀c,c<k->w.cell? ⟨b,off+i*k+c,none⟩=some ((C i).getD c undef))/\(∃n p,DataW.trod enc P w base (fun _=>true) held n e (C i)=some (D i,p))/\∀n∈(D i).weights P e,n<=reachBytes:=by
 rcases open_slice ht h with⟨rfl,-⟩|⟨a,len,cap,m,n,D,Pl,rfl,-,hl,hm,hmm,rfl,hx⟩
 ·exact⟨none,0,0,0,0,fun _=>[],fun _=>.nil,rfl,⟨fun h=>absurd h (jI 0),qb _,by simp[maxLen],by simp,fun h=>absurd h (jI 0)⟩,fun i hi=>absurd hi (qB i)⟩
 simp only[jH]at hmm;subst hmm;rw[hc]at hx;have hwt:=nW (P:=P) (elems:=(List.range len).map D) (spare:=(List.range (m-len)).map fun j=>D (len+j)) ht;simp only at hw;rw[hwt]at hw;have h1:=hw _ (jg ..);simp only[qA,List.length_range]at h1;have h2:m*1<=(len+(m-len))*P.bytesOf e:=Nat.mul_le_mul (by omega) hb;rw[vR]at h1
 have hx2:∀i,i<m->∃cs',cs'.length=k/\(∀c,c<k->w.cell? ((a.add (i*k)).add c)=some (cs'.getD c undef))/\DataW.trod enc P w base (fun _=>true) held n e cs'=some (D i,Pl i):=fun i hi=>by
  obtain⟨cs',h3,h4⟩:=hx i hi;obtain⟨_,hlen,hcell⟩:=World.cells?_some h3;refine⟨cs',hlen,fun c hcl=>?_,h4⟩;rw[hcell c (by omega)];simp[List.getD,show c<cs'.length by omega]
 obtain⟨C,hC⟩:=choose_lt hx2;obtain⟨ab,ao,asp⟩:=a
 have hsp:0<len->asp=none:=fun h0=>by
  have h3:=(hC 0 (by omega)).2.1 0 hk;rw[Nat.zero_mul]at h3;simpa[Addr.add]using World.cell?_spot h3
 refine⟨some ⟨ab,ao,asp⟩,len,m,ab,ao,C,D,rfl,⟨fun h0=>by rw[hsp h0],hl,hm,by omega,fun h0=>?_⟩,fun i hi=>⟨(hC i (by omega)).1,fun c hcl=>?_,⟨n,Pl i,(hC i (by omega)).2.2⟩,fun k hk=>hw k (qX _ (j4 _ (iE (List.mem_map.2 ⟨i,List.mem_range.2 hi,rfl⟩) k hk)))⟩⟩
 ·have h3:=(hC 0 (by omega)).2.1 0 hk
  have:=World.block_lt_of_cell? _ _ h3;simpa[Addr.add]using this
 have h3:=(hC i (by omega)).2.1 c hcl;have h4:=hsp (by omega);subst h4;rw[vQ,vQ]at h3;exact h3
end
theorem q4M{α:Type}{l:List α}(h:l.length=4):∃a b c d,l=[a,b,c,d]:=by
 match l,h with
 |[a,b,c,d],_=>exact⟨a,b,c,d,rfl⟩
theorem q4N{α:Type}{l:List α}(h:l.length=8):∃a b c d e f g i,l=[a,b,c,d,e,f,g,i]:=by
 match l,h with
 |[a,b,c,d,e,f,g,i],_=>exact⟨a,b,c,d,e,f,g,i,rfl⟩
end Go.Cm
namespace Go.Cm
open Go.RowKit Go.Proofs Go.Maps
def pS(P:Program)(K:TypeId)(w:World)(b:Nat)(ks:List Value):Prop:=
 ∃es clock,w.heap[b]? =some (.map es clock)/\es.toList.map (·.key)=ks/\(∀x∈es.toList,∃l,keyOf P K x.key=some l)/\(∀(i:Nat) x,es.toList[i]? =some x->x.val=.int .i64 i)/\ks.Nodup
section
variable {P : Program} {K E T : TypeId} {w w' : World} {b : Nat} {ks : List Value} {k : Value} {lk : Lit}
theorem pS.made(P:Program)(K:TypeId)(w:World):pS P K (w.alloc (.map #[] 0)) w.heap.size []:=
 ⟨#[],0,(MapKept.heap_alloc w _).1,rfl,by simp,by simp,by simp⟩
theorem pS.lt(h:pS P K w b ks):b<w.heap.size:=by
 exact ZmA10
theorem pS.keep(h:pS P K w b ks){row:Option Nat}(hg:w.grownBy w' row)(hne:some b≠row):pS P K w' b ks:=by
 exact ZmA7
theorem pS.up(h:pS P K w b ks)(hb:Below w.heap.size w w'):pS P K w' b ks:=h.keep (row:=none) (aI hb none) (by simp)
theorem pS.len(h:pS P K w b ks)(hT:P.underlying T=some (.map K E))(ty:TypeId):(Builtin.len_ #[T] ty #[.map (some b)]).run P w=.ok (.int .i64 ks.length) w:=by
 obtain⟨es,clock,hb,hks,-⟩:=h;simp[Builtin.len_,run_underlying hT,MapKept.run_getObj_map hb,goInt,Result.andThen,<-hks]
theorem pS.lookNew(h:pS P K w b ks)(Kd:Keyed P K)(hT:P.underlying T=some (.map K E))(hz:(zeroValue E).run P w=.ok (.int .i64 0) w)(hk:keyOf P K k=some lk)(hn:k∉ks):
  (Instr.lookup T (.map (some b)) k true).run P w=.ok (.tuple #[.int .i64 0,.bool false]) w:=by
 obtain⟨es,clock,hb,hks,hkl,-⟩:=h;rcases Kd.find w hk es.toList hkl with⟨f1,-⟩|⟨j,e0,f2,hj,he⟩
 ·simp[Instr.lookup,run_underlying hT,MapKept.run_getObj_map hb,Kd.check w _ hk,f1,hz,Result.andThen]
 exact absurd (by rw[<-hks,<-he];exact jd (jy hj)) hn
theorem pS.lookOld(h:pS P K w b ks)(Kd:Keyed P K)(hT:P.underlying T=some (.map K E))(hk:keyOf P K k=some lk){i:Nat}(hi:ks[i]? =some k):
  (Instr.lookup T (.map (some b)) k true).run P w=.ok (.tuple #[.int .i64 i,.bool true]) w/\(Instr.lookup T (.map (some b)) k false).run P w=.ok (.int .i64 i) w:=by
 obtain⟨es,clock,hb,hks,hkl,hv,hnd⟩:=h;have hi2:(es.toList.map (·.key))[i]? =some k:=by rw[hks];exact hi
 rw[qT]at hi2;obtain⟨e0,h0,he⟩:=Option.map_eq_some_iff.1 hi2;have f:=zK Kd hk hkl (by rw[hks];exact hnd) h0 he w;rw[hv i e0 h0]at f
 constructor<;>simp[Instr.lookup,run_underlying hT,MapKept.run_getObj_map hb,Kd.check w _ hk,f,Result.andThen]
theorem pS.put(h:pS P K w b ks)(Kd:Keyed P K)(hT:P.underlying T=some (.map K E))(hk:keyOf P K k=some lk)(hn:k∉ks):
  ∃w',(Instr.mapUpdate T (.map (some b)) k (.int .i64 ks.length)).run P w=.ok () w'/\pS P K w' b (ks++[k])/\w.grownBy w' (some b):=by
 obtain⟨es,clock,hb,hks,hkl,hv,hnd⟩:=h;rcases Kd.find w hk es.toList hkl with⟨f1,-⟩|⟨j,e0,f2,hj,he⟩
 ·refine⟨_,?_,?_,lP w b (.map (es.push ⟨k,.int .i64 ks.length,clock⟩) (clock+1))⟩
  ·simp[Instr.mapUpdate,run_underlying hT,MapKept.run_getObj_map hb,Kd.check w _ hk,f1,Result.andThen,MapKept.run_setObj_map _ hb]
  have e1:(es.push (⟨k,.int .i64 ks.length,clock⟩:MapEntry)).toList=es.toList++[⟨k,.int .i64 ks.length,clock⟩]:=by simp
  refine⟨_,_,sO hb _,by rw[e1,qG,hks];rfl,?_,?_,?_⟩
  ·rw[e1]
   intro x hx;rcases List.mem_append.1 hx with hx|hx
   ·exact hkl x hx
   rw[List.mem_singleton.1 hx];exact⟨lk,hk⟩
  ·rw[e1]
   intro i x hx;by_cases hil:i<es.toList.length
   ·rw[qV hil]at hx
    exact hv i x hx
   rw[jh (by omega)]at hx;have h1:=(List.getElem?_eq_some_iff.1 hx).1;simp only[qD]at h1;have hie:i=es.toList.length:=by omega
   subst hie;rw[Nat.sub_self]at hx;simp only[List.getElem?_cons_zero,jA]at hx;rw[<-hx,<-hks,qA]
  exact ZmA6
 exact absurd (by rw[<-hks,<-he];exact jd (jy hj)) hn
end
end Go.Cm
namespace Go.Cm
open Go.RowKit Go.Proofs
theorem q18(x y:dG):(⟨x.toArray⟩:ByteArray)++⟨y.toArray⟩=⟨(x++y).toArray⟩:=by
 have h:((⟨x.toArray⟩:ByteArray)++⟨y.toArray⟩).data=(x++y).toArray:=by simp
 cases hz:((⟨x.toArray⟩:ByteArray)++⟨y.toArray⟩)with
 |mk d=>rw[hz]at h;simp only at h;rw[h]
theorem Y1{P:Program}(x y:dG)(hb:x.length+y.length<=9223372036854775807)(w:World):(Op.stringOp .add ⟨x.toArray⟩ ⟨y.toArray⟩).run P w=.ok (.string ⟨(x++y).toArray⟩) w:=by
 rw[run_string_add_sum _ _ _ (by simpa[ByteArray.size]using hb),q18]
structure zQ(w:World)(A:Array Value)(d:Dfa):Prop where
 hsize:A.size=258
 hlen:d.cls.length=256
 hcls:∀i,i<256->A[i]? =some (.int .i64 (d.cls.getD i 0))
 hnext:∃v,A[256]? =some v/\mC w v d.next
 hrules:∃v,A[257]? =some v/\fN w v d.rules
def xX(w:World)(v:Value)(d:Dfa):Prop:=∃A,v=.agg A/\zQ w A d
theorem zQ.up{w w':World}{A:Array Value}{d:Dfa}(h:zQ w A d)(hb:Below w.heap.size w w'):zQ w' A d:=
 ⟨h.hsize,h.hlen,h.hcls,h.hnext.imp fun _ h=>⟨h.1,h.2.up hb⟩,h.hrules.imp fun _ h=>⟨h.1,h.2.up hb⟩⟩
theorem xX.up{w w':World}{v:Value}{d:Dfa}(h:xX w v d)(hb:Below w.heap.size w w'):xX w' v d:=by
 obtain⟨A,rfl,h⟩:=h;exact⟨A,rfl,h.up hb⟩
theorem nY{ops:Array Oper}{rest:List Oper}{o:Oper}{a:Act}{w:World}{Q:Exit->Act->World->Prop}(hgd:o.guard=none)(x:Operand)(ho:o.op=.load 29 x)
  (g:Nat) (hx:a.eval x=.pointer (some ⟨g,0,none⟩)) (A:Array Value) (hs:A.size=258) (hg:w.heap[g]? =some (.cells A 29 (0,0)))
  (h:wpList prog ops Q rest (a.put o.dst (.agg A)) w):wpList prog ops Q (o::rest) a w:=
 l9 hgd 29 x ho g 0 258 hx 29 A A (0,0) _ hg underlying29 rfl (by kernel_rfl) (by rw[hs];decide) (by rw[<-hs];simp) h
theorem fK{a b:Bool}(h:a=b):Ending.returned (.bool a)=.returned (.bool b):=by rw[h]
theorem vS{a b:Int}(h:a=b):Ending.returned (.int .i64 a)=.returned (.int .i64 b):=by rw[h]
theorem zR(v:Value)(d:Dfa)(w:World)(h:xX w v d):Calls prog 8 #[v] w fun e w'=>e=.returned (.bool (wW d))/\∃x,w'=ext w x:=by
 obtain⟨A,rfl,hs,hl,hc,⟨vn,hn,hrow⟩,⟨vr,hr,hru⟩⟩:=h;obtain⟨oa,cap,b,off,rfl,hd,hro⟩:=hrow.open;obtain⟨oa',cap',b',off',rfl,hd',hrc⟩:=hru.open;have hix:=aZ (P:=prog) 26 27 underlying26 (by kernel_rfl) hd;have qcK:=aZ (P:=prog) 27 3 underlying27 (by kernel_rfl) hd';have hm:=hd.len;have hm':=hd'.len;have HS:=qa hs;clear hs;have HLc:=qa hl;clear hl;have HCL:=qa hc;clear hc;have HR:=qa hro;clear hro;have HRC:=qa hrc;clear hrc;by_cases hok:(1<=d.next.length/\d.next.length<=1000)/\d.rules.length=d.next.length
 ·obtain⟨⟨h1,h2⟩,h3⟩:=hok
  have h5:((d.rules.length:Int) != (d.next.length:Int))=false:=by simp[h3]
  have H3:=qa h3;clear h3;go_enter func8,ntmps8;go_wp2
  go_loop [4,5] (fun n i=>∃k m:Nat,k<=256/\m<=k/\i=.int .i64 k/\n=.int .i64 m/\bJ 0 d.cls=bJ m (d.cls.drop k)) (fun _ i=>256-(intOf i).toNat)
  case atStart=>exact⟨0,0,qd _,qb _,rfl,rfl,rfl⟩
  case round=>
   obtain⟨k,n,hk,hmk,rfl,rfl,heq⟩:=hrel;have HE:=qa heq;clear heq;by_cases hlt:k<256
   ·have HD:=qa (pM n d.cls k (by rw[HLc.o];exact hlt))
    have hAk:=HCL.o k hlt;generalize d.cls.getD k 0=y at*;by_cases h1:y<0
    ·have HF:Hid (¬lH d):=qa (fun hv=>by
      obtain⟨_,_,_,q,hq,-⟩:=hv;rw[HE.o,HD.o,qv (Or.inl h1)]at hq;cases hq)
     exact ZmA0
    by_cases h2:(n:Int)<y
    ·have HF:Hid (¬lH d):=qa (fun hv=>by
      obtain⟨_,_,_,q,hq,-⟩:=hv;rw[HE.o,HD.o,qv (Or.inr h2)]at hq;cases hq)
     exact ZmA0
    by_cases h3:y=n
    ·have h4:(y==(n:Int))=true:=by simpa using h3
     have H3:=qa h3;clear h3;go_wp2
     go_round
     case rel=>
      refine⟨k+1,n+1,by omega,by omega,by go_num,by go_num,?_⟩;have h5:=HD.o;rw[qu (by omega),qv H3.o]at h5;rw[HE.o,h5]
     case measure=>simp[intOf];omega
    have h4:(y==(n:Int))=false:=by simpa using h3
    go_wp2
    go_round
    case rel=>
     refine⟨k+1,n,by omega,by omega,by go_num,rfl,?_⟩;have h5:=HD.o;rw[qu (by omega),qu h3]at h5;rw[HE.o,h5]
    case measure=>simp[intOf];omega
   have HN:Hid (bJ 0 d.cls=some n):=qa (by
    have h5:=HE.o;rw[jo (by have:=HLc.o;omega)]at h5;rw[h5];rfl)
   clear HE;go_wp2
   go_loop [6] (fun i=>∃k:Nat,k<=d.next.length/\i=.int .i64 k/\∀j,j<k->R0 d.next.length n (d.rules.getD j 0) (d.next.getD j [])) (fun i=>d.next.length-(intOf i).toNat)
   case atStart=>exact⟨0,qd _,rfl,fun j hj=>absurd hj (qB j)⟩
   case round=>
    clear hk hmk hlt;obtain⟨k,hk,rfl,hall⟩:=hrel;have HA:=qa hall;clear hall;by_cases hlt:k<d.next.length
    ·obtain⟨oi,ci,bi,fi,hck,hdk,hcj,-⟩:=HR.o k hlt
     have hrk:=HRC.o k (by rw[H3.o];exact hlt);have qa1:k<d.rules.length:=by rw[H3.o];exact hlt
     have hb:=hd.hblk (by omega);have hb':=hd'.hblk (by omega);have hlk:=hdk.hsml;have q67:=aZ (P:=prog) 27 3 underlying27 (by kernel_rfl) hdk;have hblk:=hdk.hblk;have HD:=qa hdk;clear hdk;have HCJ:=qa hcj;clear hcj
     have HW:Hid (R0 d.next.length n (d.rules.getD k 0) (d.next.getD k [])->∀q,q<k+1->R0 d.next.length n (d.rules.getD q 0) (d.next.getD q [])):=qa (fun h q hq=>by
      rcases Nat.lt_succ_iff_lt_or_eq.1 hq with h1|rfl
      ·exact HA.o q h1
      exact h)
     have HV:Hid (lH d->R0 d.next.length n (d.rules.getD k 0) (d.next.getD k [])):=qa (fun hv=>by
      obtain⟨_,_,_,q,hq,hall⟩:=hv;have:q=n:=by have:=HN.o;rw[this]at hq;exact(qp hq).symm
      subst this;exact hall k hlt)
     generalize d.rules.getD k 0=r at*;generalize d.next.getD k []=row at*;by_cases q9R: -1<=r/\r<32/\row.length=n
     ·obtain⟨g1,g2,g3⟩:=q9R
      have g4:((row.length:Int) != (n:Int))=false:=by simp[g3]
      have g5:r<=31:=by omega
      have g6:n<=140737488351232:=by omega
      have G3:=qa g3;clear g3;go_wp2
      go_loop [7] (fun i=>∃j:Nat,j<=n/\i=.int .i64 j/\∀q,q<j->0<=row.getD q 0/\row.getD q 0<d.next.length) (fun i=>n-(intOf i).toNat)
      case atStart=>exact⟨0,qd _,rfl,fun j hj=>absurd hj (qB j)⟩
      case round=>
       obtain⟨j,hj,rfl,q84⟩:=hrel;have HJ:=qa q84;clear q84;by_cases q6d:j<n
       ·have q7P:j<row.length:=by rw[G3.o];exact q6d
        have hcell:=HCJ.o j q7P;have hbb:=hblk (by omega);have HX:Hid (lH d->0<=row.getD j 0/\row.getD j 0<d.next.length):=qa (fun hv=>(HV.o hv).2.2.2 j q7P)
        have HY:Hid ((0<=row.getD j 0/\row.getD j 0<d.next.length)->∀q,q<j+1->0<=row.getD q 0/\row.getD q 0<d.next.length):=qa (fun h q hq=>by
         rcases Nat.lt_succ_iff_lt_or_eq.1 hq with h1|rfl
         ·exact HJ.o q h1
         exact h)
        generalize row.getD j 0=y at*;by_cases hy:0<=y/\y<d.next.length
        ·obtain⟨y1,y2⟩:=hy
         go_wp2
         go_round
         case rel=>exact⟨j+1,by omega,by go_num,HY.o ⟨y1,y2⟩⟩
         case measure=>simp[intOf];omega
        by_cases y1:y<0
        ·exact ZmA8
        have y2:(d.next.length:Int)<=y:=by omega
        exact ZmA8
       go_wp2
       go_round
       case rel=>
        refine⟨k+1,by omega,by go_num,HW.o ⟨g1,g2,G3.o,?_⟩⟩;have hjj:j=row.length:=by have:=G3.o;omega
        rw[<-hjj];exact HJ.o
       case measure=>simp[intOf];omega
     have HF:Hid (¬lH d):=qa (fun hv=>q9R ⟨(HV.o hv).1,(HV.o hv).2.1,(HV.o hv).2.2.1⟩);by_cases g1: -1<=r
     ·by_cases g2:r<32
      ·have g4:((row.length:Int) != (n:Int))=true:=by simp;omega
       have g5:r<=31:=by omega
       exact ZmA0
      have g4:(31:Int)<r:=by omega
      exact ZmA0
     have g4:r< -1:=by omega
     exact ZmA0
    go_wp2;go_ret;have hkk:k=d.next.length:=by omega
    exact⟨fK (kI ⟨h1,h2,H3.o,n,HN.o,by rw[<-hkk];rw[<-hkk]at HA;exact HA.o⟩).symm,(aF aS)⟩
 have HF:Hid (¬lH d):=qa (fun hv=>hok ⟨⟨hv.1,hv.2.1⟩,hv.2.2.1⟩);by_cases h1:1<=d.next.length
 ·by_cases h2:d.next.length<=1000
  ·have h5:((d.rules.length:Int) != (d.next.length:Int))=true:=by simp;omega
   exact ZmA1
  have h5:(1000:Int)<d.next.length:=by omega
  exact ZmA1
 have h5:(d.next.length:Int)<1:=by omega
 exact ZmA1
theorem xY{d:Dfa}(h:lH d){i:Nat}(hi:i<d.next.length):(∀j,j<(d.next.getD i []).length->0<=(d.next.getD i []).getD j 0/\(d.next.getD i []).getD j 0<d.next.length)/\(d.next.getD i []).length<=256\/d.cls.length≠256:=by
 obtain⟨h1,h2,h3,k,hk,hr⟩:=h;obtain⟨-,-,hl,hj⟩:=hr i hi;by_cases hc:d.cls.length=256
 ·refine .inl ⟨hj,?_⟩
  have:=gJ d.cls 0 k hk;omega
 exact .inr hc
theorem vT(l:List Int):∀u∈ints l,u.oneCell'=true:=by
 intro u hu;simp only[ints,jz]at hu;obtain⟨b,-,rfl⟩:=hu;rfl
theorem G7(l:List Int)(i j:Nat)(x:Int):(l.set i x).getD j 0=if i=j/\i<l.length then x else l.getD j 0:=by
 simp only[qt,jO];by_cases h:i=j
 ·subst h
  by_cases h2:i<l.length
  ·simp[h2]
  simp[h2]
 simp[h]
def Y2(n:Nat)(met:List Int)(out:List Nat)(bound:Nat):Prop:=met.length=n/\∀x,x<n->0<=met.getD x 0/\met.getD x 0<=bound/\(0<met.getD x 0↔x∈out)
theorem Y2.start(n:Nat)(h:1<=n):Y2 n ((List.replicate n (0:Int)).set 0 1) [0] 1:=by
 refine⟨by simp,fun x hx=>?_⟩;rw[G7];have hr:(List.replicate n (0:Int)).getD x 0=0:=by simp[List.getD,hx]
 by_cases h0:0=x
 ·subst h0;simp;omega
 rw[qu (fun q=>h0 q.1),hr];simp;omega
theorem Y2.step{n:Nat}{met:List Int}{out:List Nat}{b q:Nat}(h:Y2 n met out b)(hq:q<n):Y2 n (met.set q (met.getD q 0+1)) (yX out q) (b+1):=by
 refine⟨by simp[h.1],fun x hx=>?_⟩;rw[G7];have h1:=h.2 x hx;have h2:=h.2 q hq;by_cases hx':q=x
 ·subst hx'
  rw[qv ⟨rfl,by rw[h.1];exact hq⟩];refine⟨by omega,by omega,fun _=>sD.2 (.inr rfl),fun _=>by omega⟩
 rw[qu (fun e=>hx' e.1)];refine⟨h1.1,by omega,?_⟩;rw[sD,h1.2.2];exact⟨.inl,fun q=>q.elim id (fun e=>absurd e.symm hx')⟩
structure lQ(w:World)(g:Nat)(nv rv:Value)(cl:List Int):Prop where
 own:Own w g 29 (.slice (some ⟨g,0,none⟩) 258 258) (ints cl++[nv,rv])
 len:cl.length=256
theorem lQ.keep{w w':World}{g:Nat}{nv rv:Value}{cl:List Int}{row:Option Nat}(h:lQ w g nv rv cl)(hg:w.grownBy w' row)(hne:row≠some g):lQ w' g nv rv cl:=⟨h.own.keep hg (.inr (fun e=>hne e.symm)),h.len⟩
theorem lQ.up{w w':World}{g:Nat}{nv rv:Value}{cl:List Int}(h:lQ w g nv rv cl)(hb:Below w.heap.size w w'):lQ w' g nv rv cl:=⟨h.own.up hb,h.len⟩
theorem lQ.lt{w:World}{g:Nat}{nv rv:Value}{cl:List Int}(h:lQ w g nv rv cl):g<w.heap.size:=(h.own.lt g rfl).2
theorem nZ{cl:List Int}{nv rv:Value}(h:cl.length=256):(ints cl++[nv,rv]).getD 256 undef=nv:=by
 exact ZmA12
theorem mG{cl:List Int}{nv rv:Value}(h:cl.length=256):(ints cl++[nv,rv]).getD 257 undef=rv:=by
 exact ZmA12
theorem xZ{cl:List Int}{nv rv:Value}(h:cl.length=256){c:Nat}(hc:c<256):(ints cl++[nv,rv]).getD c undef=.int .i64 (cl.getD c 0):=by
 rw[qt,qV (by rw[bE,h];exact hc),<-qt,rI _ _ (by rw[h];exact hc)]
section
variable {w : World} {g : Nat} {nv rv : Value} {cl : List Int}
theorem lQ.cellN(h:lQ w g nv rv cl):w.cell? ⟨g,256,none⟩=some nv:=by
 rw[h.own.cell (by simp[h.len]),nZ h.len]
theorem lQ.cellR(h:lQ w g nv rv cl):w.cell? ⟨g,257,none⟩=some rv:=by
 rw[h.own.cell (by simp[h.len]),mG h.len]
theorem lQ.free(h:lQ w g nv rv cl)(c:Nat):w.frozen? ⟨g,c,none⟩=false:=h.own.free c
theorem lQ.setR(h:lQ w g nv rv cl)(v:Value):lQ (w.setCell ⟨g,257,none⟩ v) g nv v cl/\w.grownBy (w.setCell ⟨g,257,none⟩ v) (some g):=by
 obtain⟨h1,h2⟩:=h.own.store 257 v;refine⟨⟨?_,h.len⟩,h2⟩;have hl:(ints cl).length=256:=by rw[bE,h.len]
 rw[List.set_append_right _ _ (by omega),hl]at h1;exact h1
theorem lQ.setN(h:lQ w g nv rv cl)(v:Value):lQ (w.setCell ⟨g,256,none⟩ v) g v rv cl/\w.grownBy (w.setCell ⟨g,256,none⟩ v) (some g):=by
 obtain⟨h1,h2⟩:=h.own.store 256 v;refine⟨⟨?_,h.len⟩,h2⟩;have hl:(ints cl).length=256:=by rw[bE,h.len]
 rw[List.set_append_right _ _ (by omega),hl]at h1;exact h1
theorem lQ.open(h:lQ w g nv rv cl):∃A,w.heap[g]? =some (.cells A 29 (0,0))/\A.size=258/\A.toList=ints cl++[nv,rv]:=by
 rcases h.own.1.2 with⟨h1,_⟩|⟨g',cap,cur,h1,_,hg,hnc,hcm,hcs,q5U⟩
 ·cases h1
 simp only[Value.slice.injEq,jA,Addr.mk.injEq,and_true]at h1;obtain⟨rfl,h2,rfl⟩:=h1;have hs:cur.size=258:=by omega
 refine⟨cur,hg,hs,?_⟩;rw[<-q5U,qE];simp[hs,h.len]
theorem q2G{A:Array Value}(hA:A.toList=ints cl++[nv,rv])(hl:cl.length=256){next:List (List Int)}{rules:List Int}(hn:mC w nv next)(hr:fN w rv rules):zQ w A ⟨cl,next,rules⟩:=by
 have hs:A.size=258:=by rw[<-qQ,hA];simp[hl]
 have hg:∀i,i<258->A[i]? =some ((ints cl++[nv,rv]).getD i undef):=fun i hi=>by
  rw[<-j8,hA,qt,qx (by simp[hl];omega)];rfl
 exact⟨hs,hl,fun i hi=>by rw[hg i (by omega),xZ hl hi],⟨nv,by rw[hg 256 (by omega),nZ hl],hn⟩,⟨rv,by rw[hg 257 (by omega),mG hl],hr⟩⟩
end
theorem q2H{cl:List Int}{nv rv:Value}(h1:nv.oneCell'=true)(h2:rv.oneCell'=true):∀u∈ints cl++[nv,rv],u.oneCell'=true:=by
 intro u hu;rcases List.mem_append.1 hu with h|h
 ·exact vT _ u h
 simp only[jK,List.not_mem_nil,or_false]at h;rcases h with rfl|rfl
 ·exact h1
 exact h2
theorem iU{ops:Array Oper}{rest:List Oper}{o:Oper}{a:Act}{w:World}{Q:Exit->Act->World->Prop}(hgd:o.guard=none)(x y:Operand)(ho:o.op=.store 29 x y)
  (g:Nat) (hx:a.eval x=.pointer (some ⟨g,0,none⟩)) (C:Array Value) (hy:a.eval y=.agg C) {nv rv nv' rv':Value} {cl cl':List Int} (hC:C.toList=ints cl'++[nv',rv']) (hl:cl'.length=256) (h1:nv'.oneCell'=true) (h2:rv'.oneCell'=true) (hB:lQ w g nv rv cl)
  (h:∀w',lQ w' g nv' rv' cl'->w.grownBy w' (some g)->wpList prog ops Q rest (a.put o.dst undef) w'):wpList prog ops Q (o::rest) a w:=by
 have hs:C.size=258:=by rw[<-qQ,hC,qj,bE,hl];rfl
 have q7x:(ints cl++[nv,rv]).length=258:=by rw[qj,bE,hB.len];rfl
 refine bD hgd 29 x y ho g 29 g 258 258 hx C hy (by rw[hs];kernel_rfl) (ints cl++[nv,rv]) hB.own (by rw[hs,q7x];exact qb _) (by rw[hC];exact q2H h1 h2) fun w' hw hg=>h w' ⟨?_,hl⟩ hg;rw[hs,jo (by rw[q7x];exact qb _),j6,hC]at hw;exact hw
def yH:Array Value:=(ints (List.replicate 256 0)++[Value.slice none 0 0,Value.slice none 0 0]).toArray
theorem vU(W:World):(zeroValue 29).run prog W=.ok (.agg yH) W:=by kernel_rfl
theorem Y3(W:World):(Instr.build 29 #[]).run prog W=.ok (.agg yH) W:=by kernel_rfl
theorem o6:yH.toList=ints (List.replicate 256 0)++[Value.slice none 0 0,Value.slice none 0 0]:=rfl
theorem o8:yH.size=258:=by
 rw[<-qQ,o6,qj,bE,qO];rfl
theorem zS(w:World):lQ (w.alloc (.cells yH 29)) w.heap.size (.slice none 0 0) (.slice none 0 0) (List.replicate 256 0):=by
 refine⟨?_,qO⟩;have h:=cX w w.heap.size yH 29 (by rw[o8];decide) (qb _);rw[o6,o8]at h;exact h
theorem vV{fn:Func}{tmps:Array Value}{w:World}{ds:List Deferred}{s b g:Nat}{nv rv y:Value}{cl:List Int}{next:List (List Int)}{rules:List Int}{R:Ending->World->Prop}(hf:fn.results=#[.cell s 29,.tmp b])(ha:tmps.getD s undef=.pointer (some ⟨g,0,none⟩))(hb:tmps.getD b undef=y)(hd:ds=[])
  (hB:lQ w g nv rv cl) (hn:mC w nv next) (hr:fN w rv rules) (h:∀v,xX w v ⟨cl,next,rules⟩->R (.returned (.tuple #[v,y])) w):bodyPost prog fn R .ret ⟨tmps,ds⟩ w:=by
 obtain⟨A,hg,hs,hA⟩:=hB.open;have hl:=cW (P:=prog) w g 0 258 29 29 A (0,0) _ hg underlying29 rfl (by kernel_rfl) (by rw[hs];decide);have e:A.extract 0 (0+258)=A:=by rw[qH,<-hs];simp
 rw[e]at hl;refine bodyPost_ret (v:=.tuple #[.agg A,y]) ?_ hd (h _ ⟨A,rfl,q2G hA hB.len hn hr⟩);rw[kR hf ha hl,hb]
theorem vW(w:World):mC w (.slice none 0 0) []:=⟨[],Sl.nil _,rfl,fun i hi=>absurd hi (qB i)⟩
end Go.Cm
namespace Go.Cm
def q2P(v:Nat):Nat->Nat
 |0=>0
 |n+1=>2*q2P v n+(v.testBit n).toNat
end Go.Cm
namespace Go.Cm
open Go.RowKit Go.Proofs
def Fr(g:Nat)(vb vb':Value)(w w':World):Prop:=(∀k,k<w.heap.size->k≠g->vb.ownBlock≠some k->w'.heap[k]? =w.heap[k]?)/\(∀k,vb'.ownBlock=some k->vb.ownBlock=some k\/w.heap.size<=k)/\w.heap.size<=w'.heap.size
theorem Fr.refl(g:Nat)(vb:Value)(w:World):Fr g vb vb w w:=⟨fun _ _ _ _=>rfl,fun _ h=>.inl h,qb _⟩
theorem Fr.step{g:Nat}{vb vb':Value}{w w1 w2:World}{row:Option Nat}(h:Fr g vb vb' w w1)(hg:w1.grownBy w2 row)(hr:∀k,row=some k->k=g\/vb'.ownBlock=some k):Fr g vb vb' w w2:=by
 refine⟨fun k hk h1 h2=>?_,h.2.1,qc h.2.2 hg.size⟩;rw[hg.block k (qe hk h.2.2) ?_,h.1 k hk h1 h2];intro e;rcases hr k e.symm with q|q
 ·exact h1 q
 rcases h.2.1 k q with z|z
 ·exact h2 z
 omega
theorem Fr.below{g:Nat}{vb vb':Value}{w w1 w2:World}(h:Fr g vb vb' w w1)(hb:Below w1.heap.size w1 w2):Fr g vb vb' w w2:=h.step (row:=none) (aI hb none) (fun k e=>by cases e)
theorem Fr.val{g:Nat}{vb vb' vc:Value}{w w1:World}{n:Nat}(h:Fr g vb vb' w w1)(hk:∀k,vc.ownBlock=some k->vb'.ownBlock=some k\/n<=k)(hn:w.heap.size<=n):Fr g vb vc w w1:=by
 refine⟨h.1,fun k hk'=>?_,h.2.2⟩;rcases hk k hk' with q|q
 ·exact h.2.1 k q
 exact .inr (by omega)
theorem Fr.trans{g:Nat}{vb vb' vc:Value}{w w1 w2:World}(h:Fr g vb vb' w w1)(k:Fr g vb' vc w1 w2):Fr g vb vc w w2:=by
 refine⟨fun q hq h1 h2=>?_,fun q hq=>?_,qc h.2.2 k.2.2⟩
 ·rw[k.1 q (qe hq h.2.2) h1 ?_,h.1 q hq h1 h2]
  intro e;rcases h.2.1 q e with z|z
  ·exact h2 z
  omega
 rcases k.2.1 q hq with z|z
 ·exact h.2.1 q z
 exact .inr (qc h.2.2 z)
end Go.Cm
namespace Go.Cm
def q1V(L:List Nat):Nat->Nat
 |0=>0
 |n+1=>if n=0 then 0 else 2*(q1V L n+L.count n)
def q4W(L:List Nat)(i:Nat):Nat:=(L.take i).count (L.getD i 0)
def q4b(L:List Nat)(i:Nat):Nat:=if L.getD i 0=0 then 0 else q1V L (L.getD i 0)+q4W L i
def q4s(L:List Nat)(V i:Nat):Prop:=L.getD i 0≠0/\q4b L i=q2P V (L.getD i 0)
end Go.Cm
namespace Go.Cm
structure Ent where
 s:Nat
 b:Nat
 t:Nat
def Ent.zero:Ent:=⟨0,0,0⟩
structure Sub where
 g:Nat
 m:Nat
 F:Nat->Ent
def q2Q(L:List Nat)(j x:Nat):Prop:=9<L.getD j 0/\q4b L j/2^(L.getD j 0-9)=q2P x 9
section
variable {L : List Nat}
structure q4c(L:List Nat)(i:Nat)(E:Nat->Ent)(fs:List Sub):Prop where
 low:∀x,x<512->(E x).t=0->(∀j,j<i->q4s L x j->L.getD j 0<=9->E x=⟨j,L.getD j 0,0⟩)/\((E x).b≠0->∃j,j<i/\q4s L x j/\L.getD j 0<=9)
 far:∀x k,x<512->(E x).t=k+1->∃f,fs[k]? =some f/\f.m<=6/\(∀j,j<L.length->q2Q L j x->L.getD j 0<=9+f.m)/\(∃j,j<i/\q2Q L j x)/\
  ∀y,y<2^f.m->(∀j,j<i->9<L.getD j 0->q4s L (x+512*y) j->f.F y=⟨j,L.getD j 0,0⟩)/\((f.F y).b≠0->∃j,j<i/\9<L.getD j 0/\q4s L (x+512*y) j)
 one:∀x y,x<512->y<512->(E x).t=(E y).t->(E x).t≠0->x=y
 all:∀j,j<i->∀x,x<512->q2Q L j x->(E x).t≠0
theorem q4c.start(L:List Nat):q4c L 0 (fun _=>Ent.zero) []:=
 ⟨fun x _ _=>⟨fun j hj=>absurd hj (qB j),fun h=>absurd rfl h⟩,fun x k _ h=>(by cases h),fun x y _ _ _ h=>absurd rfl h,fun j hj=>absurd hj (qB j)⟩
variable {i : Nat} {E : Nat → Ent} {fs : List Sub}
end
end Go.Cm
namespace Go.Cm
open Go.RowKit Go.Extern.Stop Go.Stop Go.Extern Go.Proofs
theorem rls(v x:Value):ReflectliteValue.set #[v,x]=(do
  let (some (dst,a,fl),some (src,b,_)):=(<-ReflectliteValue.parts v,<-ReflectliteValue.parts x)
   |unsupported (.noEntry "extern/(internal/reflectlite.Value).Set.zeroValue")
  if fl/ReflectliteValue.flagAddr%2==0 then unsupported (.noEntry "extern/(internal/reflectlite.Value).Set.unaddressable")
  let val<-loadVar src b
  if<-Rtype.directlyAssignable dst src then storeVar dst a val
  else if<-Rtype.implements dst src then
   if(<-Rtype.kind src)==20 then
    match val with
    |.nilIface=>unsupported (.noEntry "extern/reflectlite: a nil value of one interface type handed on as a value of another")
    |_=>storeVar dst a val
   else storeVar dst a (.iface src val)
  else panicString ("reflectlite.Set: value of type " ++(<-Rtype.spelt src)++ " is not assignable to type " ++(<-Rtype.spelt dst))
  pure (.tuple #[])):=rfl
end Go.Cm
namespace Go.Cm
open Go.RowKit Go.Proofs
theorem q1Y{d:Dfa}(h:lH d)(hl:d.cls.length=256){i:Nat}(hi:i<d.next.length){c:Nat}(hc:c<256):∃k:Nat,d.cls.getD c 0=k/\k<(d.next.getD i []).length:=by
 obtain⟨_,_,_,k,hk,hr⟩:=h;have h1:=t0 d.cls 0 k hk _ (gN d.cls c 0 (by omega));obtain⟨-,-,h2,-⟩:=hr i hi;exact⟨(d.cls.getD c 0).toNat,by omega,by omega⟩
theorem yB(d:Dfa)(s:List UInt8):∀(k:Nat) (a:Int),k<s.length->fV d a (s.take (k+1))=(d.next.getD (fV d a (s.take k)).toNat []).getD (d.cls.getD (s.getD k 0).toNat 0).toNat 0:=by
 induction s with
 |nil=>intro k a h;simp at h
 |cons c s ih=>
  intro k a h;cases k with
  |zero=>simp[fV]
  |succ k=>simp only[List.take_succ_cons,fV];rw[ih k _ (by simpa using h)];simp
theorem run(v:Value)(d:Dfa)(s:ByteArray)(w:World)(h:xX w v d)(q7m:s.size<=140737488351232):
  Calls prog 24 #[v,.string s] w fun e w'=>e=.returned (.int .i64 (q1v d s.data.toList))/\∃x,w'=ext w x:=by
 have hL:=fun w' (hb:Below w.heap.size w w')=>zR v d w' (h.up hb);obtain⟨A,rfl,hs,hl,hc,⟨vn,hn,hrow⟩,⟨vr,hr,hru⟩⟩:=h;obtain⟨oa,cap,b,off,rfl,hd,hro⟩:=hrow.open;have hix:=aZ (P:=prog) 26 27 underlying26 (by kernel_rfl) hd;have hm:=hd.len;have HL:=qa hL;clear hL;have HS:=qa hs;clear hs;have HC:=qa hc;clear hc;have HG:=qa (heap_alloc_new w (.cells A 29));have HR:=qa hro;clear hro;have HLC:=qa hl;clear hl;by_cases hv:lH d
 ·have hrb:=kI hv
  have HRI:Hid (q1v d s.data.toList=fV d 0 s.data.toList):=qa (by unfold q1v;rw[qv hv]);have hn1:=hv.1;have hn2:=hv.2.1;have HV:=qa hv;clear hv;have hb:=hd.hblk (by omega);go_enter func24,ntmps24
  go_wp2_with(first|(refine nY rfl _ rfl w.heap.size rfl A HS.o HG.o ?_)|(go_at_call 8;refine(HL.o _ (aB _ _)).mono ?_;rintro e w' ⟨rfl,x,rfl⟩;rw[hrb]))
  generalize hw1:ext (w.alloc (.cells A 29)) x=w1;have HB:=qa (show Below (w.heap.size+1) (w.alloc (.cells A 29)) w1 from hw1▸(aC _ _).mono (by simp));clear hw1
  go_loopw [5,6] (fun a i wr=>∃(k t:Nat),k<=s.size/\t<d.next.length/\i=.int .i64 k/\a=.int .i64 t/\Hid (fV d 0 (s.data.toList.take k)=t)/\∃n,wr=w1.drewN n) (fun _ i _=>s.size-(intOf i).toNat)
  case atStart=>exact⟨0,0,qd _,by omega,rfl,rfl,qa rfl,0,rfl⟩
  case round=>
   obtain⟨k,t,hk,ht,rfl,rfl,HRF,n,rfl⟩:=hrel;by_cases hlt:k<s.size
   ·obtain⟨oi,ci,bi,fi,hck,hdk,hcj,-⟩:=HR.o t ht
    have qa1:k<s.data.toList.length:=by simpa using hlt
    have HT:=qa (yB d s.data.toList k 0 qa1);have hch:(s.data.toList.getD k 0)=s[k]:=by simp[List.getD,hlt];rfl
    rw[hch]at HT;obtain⟨c,hcc,hcl⟩:=q1Y HV.o HLC.o ht (c:=s[k].toNat) (UInt8.toNat_lt s[k]);rw[HRF.o,hcc]at HT;have hAc:=HC.o s[k].toNat (UInt8.toNat_lt s[k]);rw[hcc]at hAc;obtain⟨hy1,hy2⟩:=((xY HV.o ht).resolve_right (fun h=>h HLC.o)).1 c hcl;have hbi:=hdk.hblk (by omega);have q67:=aZ (P:=prog) 27 3 underlying27 (by kernel_rfl) hdk;have qae:=hcj c hcl;simp only[qC]at HT;generalize (d.next.getD t []).getD c 0=y at*;generalize (d.next.getD t []).length=rl at*;obtain⟨q,rfl⟩:=jF hy1;have hc8:s[k].toNat<256:=UInt8.toNat_lt s[k]
    have hw1:w1.cell? ⟨b,off+t,none⟩=some (.slice oi rl ci):=by
     rw[HB.o.cell (p:=⟨b,off+t,none⟩) (je hb),World.cell?_alloc_past _ _ _ hb];exact hck
    have hw2:w1.cell? ⟨bi,fi+c,none⟩=some (.int .i64 (q:Int)):=by
     rw[HB.o.cell (p:=⟨bi,fi+c,none⟩) (je hbi),World.cell?_alloc_past _ _ _ hbi];exact qae
    have hw3:w1.cell? ⟨w.heap.size,256,none⟩=some (.slice oa d.next.length cap):=by
     rw[HB.o.cell (p:=⟨w.heap.size,256,none⟩) (qU _),World.cell?_alloc_new];exact hn
    have hw4:w1.cell? ⟨w.heap.size,s[k].toNat,none⟩=some (.int .i64 (c:Int)):=by
     rw[HB.o.cell (p:=⟨w.heap.size,s[k].toNat,none⟩) (qU _),World.cell?_alloc_new];exact hAc
    clear hcc hch hAc hck hcj qae hdk hy1;go_wp2
    go_quiet (fail)
    go_wp2
    go_roundw
    case rel=>exact⟨k+1,q,by omega,by omega,by go_num,rfl,qa HT.o,_,rfl⟩
    case measure=>simp[intOf];omega
   go_wp2;go_ret;have h1:=HRF.o;rw[qE (by simp;omega)]at h1;exact⟨vS (by rw[HRI.o,h1]),aF (uE ((aB w _).trans (HB.o.mono (by omega))) _)⟩
 have hrb:=cG hv;have HRI:Hid (q1v d s.data.toList= -1):=qa (by unfold q1v;rw[qu hv]);clear hv;go_enter func24,ntmps24
 go_wp2_with(first|(refine nY rfl _ rfl w.heap.size rfl A HS.o HG.o ?_)|(go_at_call 8;refine(HL.o _ (aB _ _)).mono ?_;rintro e w' ⟨rfl,x,rfl⟩;rw[hrb]))
 go_ret;exact⟨vS (by rw[HRI.o]),(aF aS)⟩
theorem t9{o:Oper}{a:Act}{w:World}{K:Act->Prop}(x:Operand)(ho:o.op=.load 29 x)(g:Nat)(hx:a.eval x=.pointer (some ⟨g,0,none⟩))(A:Array Value)(hs:A.size=258)
  (hg:w.heap[g]? =some (.cells A 29 (0,0))) (h:K (a.put o.dst (.agg A))):o.quiet prog a (fun w'=>∃x,w'=ext w x) K:=by
 refine⟨.agg A,fun w' hw'=>?_,h⟩;obtain⟨y,rfl⟩:=hw';have hlt:g<w.heap.size:=lt_of_block hg;have hg':(ext w y).heap[g]? =some (.cells A 29 (0,0)):=by rw[zV w y g hlt];exact hg
 have hl:=cW (P:=prog) (ext w y) g 0 258 29 29 A (0,0) _ hg' underlying29 rfl (by kernel_rfl) (by rw[hs];decide);unfold Oper.quietAt execOp;simp only[ho,hx,Instr.loadAt,Instr.sureAddr,Sem.run_bind,Sem.run_pure,Result.andThen_ok,hl,Oper.quietUpon];exact⟨trivial,by rw[<-hs];simp⟩
theorem after(v:Value)(d:Dfa)(s:ByteArray)(w:World)(h:xX w v d)(q7m:s.size<=140737488351232):
  Calls prog 9 #[v,.string s] w fun e w'=>e=.returned (.int .i64 (kU d s.data.toList))/\∃x,w'=ext w x:=by
 have hL:=fun w' (hb:Below w.heap.size w w')=>zR v d w' (h.up hb);have hR:=fun w' (hb:Below w.heap.size w w')=>run v d s w' (h.up hb) q7m;obtain⟨A,rfl,hs,hl,hc,⟨vn,hn,hrow⟩,⟨vr,hr,hru⟩⟩:=h;obtain⟨oa,cap,b,off,rfl,hd,hro⟩:=hru.open;have hix:=aZ (P:=prog) 27 3 underlying27 (by kernel_rfl) hd;have hm:=hd.len;have HL:=qa hL;clear hL;have HRn:=qa hR;clear hR;have HS:=qa hs;clear hs hc;have HG:=qa (heap_alloc_new w (.cells A 29));have HR:=qa hro;clear hro;have HLC:=qa hl;clear hl;by_cases hv:lH d
 ·have hrb:=kI hv
  obtain⟨t,hrun,ht⟩:∃t:Nat,q1v d s.data.toList=t/\t<d.next.length:=by
   have:∀(s:List UInt8) (a:Nat),a<d.next.length->∃t:Nat,fV d a s=t/\t<d.next.length:=by
    intro s
    induction s with
    |nil=>intro a ha;exact⟨a,rfl,ha⟩
    |cons c s ih=>
     intro a ha;obtain⟨k,hk,hkl⟩:=q1Y hv HLC.o ha (c:=c.toNat) (UInt8.toNat_lt c);obtain⟨h1,h2⟩:=((xY hv ha).resolve_right (fun h=>h HLC.o)).1 k hkl;obtain⟨q,hq⟩:=jF h1;simp only[fV,hk,qC,hq];exact ih q (by omega)
   unfold q1v;rw[qv hv];exact this _ 0 (by have:=hv.1;omega)
  rw[hrun]at HRn
  have HAI:Hid (kU d s.data.toList=d.rules.getD t 0):=qa (by
   unfold q1v at hrun;rw[qv hv]at hrun;unfold kU;rw[qv hv,hrun];rfl)
  have ht2:t<d.rules.length:=by rw[hv.2.2.1];exact ht
  have hb:=hd.hblk (by omega);have hcell:=HR.o t ht2;generalize d.rules.getD t 0=y at*;generalize d.rules.length=rl at*;clear hrun hv;go_enter func9,ntmps9
  go_wp2_with(first|(refine nY rfl _ rfl w.heap.size rfl A HS.o HG.o ?_)|(go_at_call 8;refine(HL.o _ (aB _ _)).mono ?_;rintro e w' ⟨rfl,x,rfl⟩;rw[hrb]))
  have hb2:Below w.heap.size w (ext (w.alloc (.cells A 29)) x):=aS;have hg2:(ext (w.alloc (.cells A 29)) x).heap[w.heap.size]? =some (.cells A 29 (0,0)):=by rw[zV _ _ _ (by simp)];exact HG.o
  have hrl:(ext (w.alloc (.cells A 29)) x).cell? ⟨w.heap.size,257,none⟩=some (.slice oa rl cap):=by rw[cell?_ext_alloc_new];exact hr
  have hsz:w.heap.size+1<=(ext (w.alloc (.cells A 29)) x).heap.size:=by have:=fX (w.alloc (.cells A 29)) x;simpa using this
  have hc2:(ext (w.alloc (.cells A 29)) x).cell? ⟨b,off+t,none⟩=some (.int .i64 y):=by rw[cell?_ext_alloc_old _ _ _ _ _ hb];exact hcell
  generalize ext (w.alloc (.cells A 29)) x=w1 at*;have HG2:=qa hg2;clear hg2;have HB2:=qa hb2;clear hb2;have hb3:w.heap.size<w1.heap.size:=hsz;have hb4:b<w1.heap.size:=by omega
  refine bL (by kernel_rfl) (by kernel_rfl) ?_
  repeat(first|(go_big_quiet_want;refine t9 _ rfl w.heap.size rfl A HS.o HG2.o ?_;go_simp;go_big_quiet_on)|go_big_quiet_step ((go_at_call 24;exact cC (HRn.o _ (dK HB2.o (aC _ _))))))
  refine wpQuiet_nil ?_;rintro w' ⟨x2,rfl⟩;go_wp2;go_ret;exact⟨vS (by rw[HAI.o]),aF (HB2.o.trans ((aC _ _).mono (by omega)))⟩
 have hrb:=cG hv;have HRI:Hid (kU d s.data.toList= -1):=qa (by unfold kU;rw[qu hv]);clear hv;go_enter func9,ntmps9
 go_wp2_with(first|(refine nY rfl _ rfl w.heap.size rfl A HS.o HG.o ?_)|(go_at_call 8;refine(HL.o _ (aB _ _)).mono ?_;rintro e w' ⟨rfl,x,rfl⟩;rw[hrb]))
 go_ret;exact⟨vS (by rw[HRI.o]),(aF aS)⟩
end Go.Cm
