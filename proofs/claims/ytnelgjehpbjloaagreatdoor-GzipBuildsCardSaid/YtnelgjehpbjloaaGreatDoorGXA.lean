/- Walks of functions and plain facts, joined and squeezed by a program. Conditions: as each says. -/
import Derived.Test.YtnelgjehpbjloaaGreatDoorRows
import Derived.WalkKit
import Derived.WalkSpells
import Derived.WalkLawsBesides
import Derived.Deep.QuietTactic
import Derived.BigQuiet
import Derived.Lib.Hide
import Derived.Laws.Small
import Derived.Deep.LoopGhost
import Derived.Laws.BitsLemmas
import Derived.SizedLaws
import Derived.ProofKit
import Derived.OpenShut
import Derived.Deep.Slices
import Derived.ChangeSlices
import Derived.WideKeyArgs
import Derived.Test.YtnelgjehpbjloaaGreatDoorGX0
set_option maxHeartbeats 8000000
set_option maxRecDepth 100000
set_option linter.unusedSimpArgs false
namespace Go.Cm
open Go.RowKit
noncomputable def ext(w x:World):World:=@ite _ (Below w.heap.size w x) (Classical.propDecidable _) x w
theorem qu(w x:World):Below w.heap.size w (ext w x):=by
 unfold ext;split
 ·assumption
 ·exact qj _ _
theorem q5Y{w x:World}(h:Below w.heap.size w x):ext w x=x:=by
 unfold ext;rw[if_pos h]
theorem qt{w x:World}(h:Below w.heap.size w x):∃y,x=ext w y:=⟨x,(q5Y h).symm⟩
theorem qr{w w':World}(h:∃x,w'=ext w x):Below w.heap.size w w':=by
 obtain⟨x,rfl⟩:=h;exact qu w x
theorem qC(w:World)(n:Nat):Below w.heap.size w (w.drewN n):=⟨rfl,rfl,rfl,q9 _,fun _ _=>rfl⟩
theorem qq{w x y:World}(h:Below w.heap.size w x)(k:Below x.heap.size x y):Below w.heap.size w y:=h.trans (k.mono h.size)
theorem q4i(w x y:World):∃z,ext (ext w x) y=ext w z:=qt (qq (qu w x) (qu _ y))
theorem qn(w:World)(o:Obj):Below w.heap.size w (w.alloc o):=(qj _ _).alloc (q9 _) o
theorem mS(w:World):∃x,w=ext w x:=qt (qj _ _)
@[go_sem] theorem cell?_ext(w x:World)(b o:Nat)(h:b<w.heap.size):(ext w x).cell? ⟨b,o,none⟩=w.cell? ⟨b,o,none⟩:=(qu w x).cell (p:=⟨b,o,none⟩) h
@[go_sem] theorem frozen?_ext(w x:World)(b o:Nat)(h:b<w.heap.size):(ext w x).frozen? ⟨b,o,none⟩=w.frozen? ⟨b,o,none⟩:=(qu w x).frozen (p:=⟨b,o,none⟩) h
theorem mT(w x:World):w.heap.size<=(ext w x).heap.size:=(qu w x).size
theorem rC(w x:World)(b:Nat)(h:b<w.heap.size):(ext w x).heap[b]? =w.heap[b]? :=(qu w x).block b h
@[go_sem] theorem cell?_ext_alloc_old(w x:World)(a:Obj)(b o:Nat)(h:b<w.heap.size):(ext (w.alloc a) x).cell? ⟨b,o,none⟩=w.cell? ⟨b,o,none⟩:=by
 rw[cell?_ext _ _ _ _ (by simp;omega),World.cell?_alloc_past _ _ _ h]
@[go_sem] theorem cell?_ext_alloc_new(w x:World)(c:Array Value)(t:TypeId)(o:Nat):(ext (w.alloc (.cells c t)) x).cell? ⟨w.heap.size,o,none⟩=c[o]? :=by
 rw[cell?_ext _ _ _ _ (by simp),World.cell?_alloc_new]
structure Hd(w:World)(oa:Option Addr)(len cap b off:Nat):Prop where
 hat:0<len->oa=some ⟨b,off,none⟩
 hcap:len<=cap
 hmax:cap<=maxLen
 hsml:len<=140737488351232
 hblk:0<len->b<w.heap.size
theorem Hd.len{w:World}{oa:Option Addr}{len cap b off:Nat}(h:Hd w oa len cap b off):len<=9223372036854775807:=by
 have h1:=h.hsml;omega
def Sl(w:World)(v:Value)(l:List Value):Prop:=
 ∃oa cap b off,v=.slice oa l.length cap/\Hd w oa l.length cap b off/\∀i,i<l.length->w.cell? ⟨b,off+i,none⟩=some (l.getD i undef)
theorem Sl.up{w w':World}{v:Value}{l:List Value}(h:Sl w v l)(hb:Below w.heap.size w w'):Sl w' v l:=by
 obtain⟨oa,cap,b,off,rfl,hd,hc⟩:=h;refine⟨oa,cap,b,off,rfl,⟨hd.hat,hd.hcap,hd.hmax,hd.hsml,fun h=>qd (hd.hblk h) hb.size⟩,fun i hi=>?_⟩
 rw[hb.cell (p:=⟨b,off+i,none⟩) (hd.hblk (by omega))]
 exact hc i hi
theorem Sl.nil(w:World):Sl w (.slice none 0 0) []:=⟨none,0,0,0,rfl,⟨fun h=>absurd h (Nat.lt_irrefl 0),q9 _,by simp[maxLen],by simp,fun h=>absurd h (Nat.lt_irrefl 0)⟩,fun i hi=>absurd hi (Nat.not_lt_zero i)⟩
theorem qQ{P:Program}{w:World}{oa:Option Addr}{b off len cap:Nat}(T E:TypeId)(hT:P.underlying T=some (.slice E))(hE:(P.info? E).map (·.size)=some 1)(h:Hd w oa len cap b off):
  ∀(W:World) (k:IntKind) (i:Int),0<=i->i<len->(Instr.indexAt T (.slice oa len cap) (.int k i)).run P W=.ok (.pointer (some ⟨b,off+i.toNat,none⟩)) W:=by
 intro W k i h0 h1;rw[h.hat (by omega)]
 have he:P.elem T=E:=by simp[Program.elem,hT]
 rw[run_indexAt_slice W T ⟨b,off,none⟩ len cap k i (by rw[he];exact hT),if_pos ⟨h0,h1⟩,he]
 cases hq:P.info? E with
 |none=>simp[hq]at hE
 |some inf=>
  have hs:inf.size=1:=by simpa[hq]using hE
  simp[sizeOf,typeInfo,hq,hs,Result.andThen,Addr.add]
def ints(l:List Int):List Value:=l.map (Value.int .i64)
@[simp] theorem bW(l:List Int):(ints l).length=l.length:=by simp[ints]
theorem eV(l:List Int)(i:Nat)(h:i<l.length):(ints l).getD i undef=.int .i64 (l.getD i 0):=by
 simp[ints,List.getD,h]
def qT(w:World)(v:Value)(l:List Int):Prop:=Sl w v (ints l)
theorem qT.up{w w':World}{v:Value}{l:List Int}(h:qT w v l)(hb:Below w.heap.size w w'):qT w' v l:=Sl.up h hb
theorem qT.open{w:World}{v:Value}{l:List Int}(h:qT w v l):
  ∃oa cap b off,v=.slice oa l.length cap/\Hd w oa l.length cap b off/\∀i,i<l.length->w.cell? ⟨b,off+i,none⟩=some (.int .i64 (l.getD i 0)):=by
 obtain⟨oa,cap,b,off,rfl,hd,hc⟩:=h;simp only[bW]at hd hc⊢
 exact⟨oa,cap,b,off,rfl,hd,fun i hi=>by rw[hc i hi,eV l i hi]⟩
def tW(w:World)(v:Value)(ll:List (List Int)):Prop:=
 ∃vs,Sl w v vs/\vs.length=ll.length/\∀i,i<ll.length->qT w (vs.getD i undef) (ll.getD i [])
theorem tW.up{w w':World}{v:Value}{l:List (List Int)}(h:tW w v l)(hb:Below w.heap.size w w'):tW w' v l:=by
 obtain⟨vs,h1,h2,h3⟩:=h
 exact⟨vs,h1.up hb,h2,fun i hi=>(h3 i hi).up hb⟩
theorem tW.open{w:World}{v:Value}{ll:List (List Int)}(h:tW w v ll):
  ∃oa cap b off,v=.slice oa ll.length cap/\Hd w oa ll.length cap b off/\∀i,i<ll.length->
   ∃oi ci bi fi,w.cell? ⟨b,off+i,none⟩=some (.slice oi (ll.getD i []).length ci)/\Hd w oi (ll.getD i []).length ci bi fi/\
    (∀j,j<(ll.getD i []).length->w.cell? ⟨bi,fi+j,none⟩=some (.int .i64 ((ll.getD i []).getD j 0)))/\qT w (.slice oi (ll.getD i []).length ci) (ll.getD i []):=by
 obtain⟨vs,⟨oa,cap,b,off,rfl,hd,hc⟩,h2,h3⟩:=h;rw[h2]at hd hc⊢;refine⟨oa,cap,b,off,rfl,hd,fun i hi=>?_⟩
 have h4:=h3 i hi;obtain⟨oi,ci,bi,fi,he,hdi,hci⟩:=h4.open;refine⟨oi,ci,bi,fi,?_,hdi,hci,?_⟩
 ·rw[hc i hi,he]
 ·rw[<-he];exact h4
theorem aG{P:Program}(w:World)(g off n:Nat)(t ty:TypeId)(cs:Array Value)(fr:Nat×Nat)(d:TypeDesc)(hg:w.heap[g]? =some (.cells cs t fr))
  (hu:P.underlying ty=some d) (hd:(match d with|.struct _|.array _ _=>true|_=>false)=true) (hi:(P.info? ty).map (·.size)=some n) (hs:off+n<=cs.size):
  (loadVar ty ⟨g,off,none⟩).run P w=.ok (.agg (cs.extract off (off+n))) w:=by
 have hlen:(cs.extract off (off+n)).toList.length=n:=by simp;omega
 have hl:(loadCells ⟨g,off,none⟩ (cs.extract off (off+n)).toList.length).run P w=.ok (cs.extract off (off+n)).toList.toArray w:=
  run_loadCells_list (P:=P) w ⟨g,off,none⟩ (cs.extract off (off+n)).toList (fun j v hv=>by
   have qau:(⟨g,off,none⟩:Addr).add j=⟨g,off+j,none⟩:=by unfold Addr.add;split<;>simp_all
   rw[qau,cell_of_row w g (off+j) cs t fr hg]
   have hj:j<n:=by
    have:=(List.getElem?_eq_some_iff.1 hv).1;omega
   rw[<-hv]
   simp[hj])
 rw[hlen]at hl;simp only[Array.toArray_toList]at hl
 cases hq:P.info? ty with
 |none=>simp[hq]at hi
 |some i=>
  have hs':i.size=n:=by simpa[hq]using hi
  have hagg:(isAgg ty).run P w=.ok true w:=by
   unfold isAgg;rw[Sem.run_bind,run_underlying hu w]
   cases d<;>simp_all
  simp[loadVar,Sem.run_bind,hagg,sizeOf,typeInfo,hq,hs',hl]
theorem jP{P:Program}{ops:Array Oper}{rest:List Oper}{o:Oper}{a:Act}{w:World}{Q:Exit->Act->World->Prop}(hgd:o.guard=none)(ty:TypeId)(x:Operand)(ho:o.op=.load ty x)
  (g off n:Nat) (hx:a.eval x=.pointer (some ⟨g,off,none⟩)) (t:TypeId) (cs B:Array Value) (fr:Nat×Nat) (d:TypeDesc) (hg:w.heap[g]? =some (.cells cs t fr))
  (hu:P.underlying ty=some d) (hd:(match d with|.struct _|.array _ _=>true|_=>false)=true) (hi:(P.info? ty).map (·.size)=some n) (hs:off+n<=cs.size) (hB:cs.extract off (off+n)=B)
  (h:wpList P ops Q rest (a.put o.dst (.agg B)) w):wpList P ops Q (o::rest) a w:=by
 subst hB;refine wpList_plain hgd fun K hK=>?_
 unfold Oper.wp execOp;simp only[ho,hx,Instr.loadAt,Instr.sureAddr,Sem.run_bind,Sem.run_pure,Result.andThen_ok,aG w g off n t ty cs fr d hg hu hd hi hs]
 exact hK _ _ h
theorem qw{B:Nat}{w v:World}(h:Below B w v)(n:Nat):Below B w (v.drewN n):=h.trans ⟨rfl,rfl,rfl,q9 _,fun _ _=>rfl⟩
theorem q7r{B:Nat}{w v:World}(h:Below B w v)(hB:B<=v.heap.size)(x:World):Below B w (ext v x):=h.trans ((qu v x).mono hB)
theorem qA{w v:World}(h:Below w.heap.size w v)(x:World):Below w.heap.size w (ext v x):=q7r h h.size x
theorem qs{w v:World}(h:Below w.heap.size w v)(o:Obj):Below w.heap.size w (v.alloc o):=h.alloc h.size o
theorem jx{P:Program}{f:FuncId}{args:Array Value}{w x:World}{v:Value}
  (h:Calls P f args (ext w x) fun e w'=>e=.returned v/\∃y,w'=ext (ext w x) y):Calls P f args (ext w x) fun e w'=>e=.returned v/\∃y,w'=ext w y:=
 h.mono fun _ _ ⟨he,y,hy⟩=>⟨he,by rw[hy];exact q4i w x y⟩
theorem qY{P:Program}{id:Nat}{Q:Exit->Act->World->Prop}{a:Act}{w:World}{l:List Oper}(hm:P.follows .mixedOrders=true)(hB:Region.lexB .any l.toArray=true)
  (h:wpQuiet P l.toArray (fun w'=>∃x,w'=ext w x) (fun a'=>∀w',(∃x,w'=ext w x)->Q .normal a' w') l a):(Code.region id l.toArray true).wp P Q a w:=
 wp_region_quiet (C:=fun w'=>∃x,w'=ext w x) hm hB (qt (qC w 1)) (by simpa using h)
end Go.Cm
namespace Go.Cm
open Go.RowKit
def J8(C:World->Prop)(K:Act->World->Prop):Exit->Act->World->Prop
 |.normal,a,w=>C w/\K a w
 |_,_,_=>False
def noQ:Exit->Act->World->Prop:=fun _ _ _=>False
def qy(P:Program)(ops:Array Oper)(C:World->Prop)(Q:Act->World->Prop):List Oper->Act->World->Prop
 |[],a,w=>Q a w
 |o::rest,a,w=>wpList P ops (J8 C (qy P ops C Q rest)) [o] a w
section
variable {P : Program} {ops : Array Oper} {md : Region.Mode} {C : World → Prop}
def fL(P:Program)(md:Region.Mode)(ops:Array Oper)(C:World->Prop)(Q:Act->World->Prop):Nat->Array Bool->Act->World->Prop
 |0,listed,a,w=>C w/\Region.ready md ops listed=[]/\Q a w
 |fuel+1,listed,a,w=>C w/\(Region.ready md ops listed=[]->Q a w)/\
  ∀i∈Region.ready md ops listed,wpOp P ops noQ i (fL P md ops C Q fuel (listed.setIfInBounds i true)) a w
theorem kN{o:Oper}{a:Act}{w:World}{K:Act->World->Prop}{Q1 Q2:Exit->Act->World->Prop}(h1:∀c a w,¬Q1 (.panic c) a w)(h2:¬LetsOut Q1)(h:o.wp P a w K Q1):o.wp P a w K Q2:=by
 unfold Oper.wp at*;generalize (execOp a.eval o).run P w=r at*
 cases r with
 |ok n w'=>
  cases n<;>simp only[Oper.upon]at h⊢ <;>
   first
    |exact h
    |exact Calls.mono h (fun e w'' he=>by cases e<;>first|exact he|exact(h1 _ _ _ he).elim|exact(h2 he).elim)
    |exact Rows.mono h (fun _ _ he=>he)
 |halt x w'=>cases x<;>simp only[Oper.upon]at h⊢ <;>first|exact h.elim|exact(h1 _ _ _ h).elim
theorem rO:¬LetsOut noQ:=fun⟨_,_,h⟩=>h
theorem fM{K:Act->World->Prop}:¬LetsOut (J8 C K):=fun⟨_,_,h⟩=>h
theorem kO{Q:Act->World->Prop}{Q':Exit->Act->World->Prop}(hQ:∀a w,C w->Q a w->Q' .normal a w):∀(fuel:Nat) (listed:Array Bool) (a:Act) (w:World),
  fL P md ops C Q fuel listed a w->wpAny P md ops Q' fuel listed a w
 |0,_,_,_,h=>⟨h.2.1,hQ _ _ h.1 h.2.2⟩
 |fuel+1,listed,a,w,h=>⟨fun h0=>hQ _ _ h.1 (h.2.1 h0),fun i hi=>by
   have h1:=wpOp_mono (fun a w=>kO (Q':=Q') hQ fuel _ a w) (h.2.2 i hi)
   unfold wpOp at h1⊢;split
   ·rename_i ho;simpa[ho]using h1
   ·rename_i o ho
    simp only[ho]at h1;split
    ·rename_i hw
     simp only[hw,if_true]at h1
     rcases h1 with h1|⟨-,h1⟩
     ·exact .inl (kN (fun _ _ _ h=>h) rO h1)
     ·exact(rO h1).elim
    ·rename_i hw;simpa[hw]using h1⟩
def mU:Op->Bool
 |.call c=>(match c.callee with|.builtin .len|.builtin .cap|.builtin .min|.builtin .max=>true|_=>false)
 |.go _|.defer _|.panic _|.send .. |.recv .. |.select .. =>false
 |_=>true
theorem E4{s:Sem Value}{w w':World}{f:FuncId}{args:Array Value}:(s>>=fun x=>pure (Next.value x):Sem Next).run P w≠.ok (.enter f args) w':=by
 rw[Sem.run_bind]
 cases s.run P w<;>simp[Result.andThen]
theorem E5{s:Sem Unit}{w w':World}{f:FuncId}{args:Array Value}:(s>>=fun _=>pure Next.skip:Sem Next).run P w≠.ok (.enter f args) w':=by
 rw[Sem.run_bind]
 cases s.run P w<;>simp[Result.andThen]
def Yin(P:Program)(ops:Array Oper)(C:World->Prop)(o:Oper)(v:Value)(a:Act):Prop:=
 (Region.wanted o (yielded ops a.tmps)=true/\∀w,C w->(execOp a.eval o).run P w=.ok (.value v) w\/((execOp a.eval o).run P w=.ok .skip w/\v=undef))\/
 (Region.wanted o (yielded ops a.tmps)=false/\v=undef)
theorem Yin.of_same{o:Oper}{v:Value}{a a':Act}(hy:Yin P ops C o v a)(he:execOp a'.eval o=execOp a.eval o)
  (hw:Region.wanted o (yielded ops a'.tmps)=Region.wanted o (yielded ops a.tmps)):Yin P ops C o v a':=by
 unfold Yin at*;rw[he,hw]
 exact hy
theorem Yin.wpOp{i:Nat}{o:Oper}{v:Value}{a:Act}{w:World}(hC:C w)(hi:ops[i]? =some o)(hy:Yin P ops C o v a)
  {K:Act->World->Prop} (h:K (a.put o.dst v) w):wpOp P ops noQ i K a w:=by
 unfold Go.wpOp;simp only[hi]
 rcases hy with⟨hw,hv⟩|⟨hw,rfl⟩
 ·simp only[hw,if_true,Oper.wp]
  rcases hv w hC with hx|⟨hx,he⟩
  ·rw[hx];exact .inl h
  ·subst he;rw[hx];exact .inl h
 ·simp only[hw,Bool.false_eq_true,if_false];exact h
theorem Y2{j:Nat}{oi oj:Oper}{v:Value}(hj:ops[j]? =some oj)(hap:oi.apart ops oj=true)
  (hsi:∀cs b,oi.op≠.select cs b) (hsj:∀cs b,oj.op≠.select cs b) {K:Act->World->Prop} {a:Act} {w:World}
  (hy:Yin P ops C oi v a) (h:wpOp P ops noQ j K (a.put oi.dst v) w):
  wpOp P ops noQ j (fun a' w'=>Yin P ops C oi v a'/\K (a'.put oi.dst v) w') a w:=by
 obtain⟨h1,h2,h3⟩:=Oper.apart_spec hap
 have keep:∀(a:Act),Yin P ops C oi v a->∀u,Yin P ops C oi v (a.put oj.dst u):=fun a hy u=>
  hy.of_same (execOp_put oi hsi a oj.dst u h3) (wanted_put oi a oj.dst u h3)
 have keepD:∀d,Yin P ops C oi v {a with defers:=d::a.defers}:=fun d=>hy.of_same rfl rfl
 unfold wpOp at*;simp only[hj]at*;rw[wanted_put oj a oi.dst v h1]at h;split
 ·rename_i hw
  simp only[hw,if_true]at h
  rcases h with h|⟨_,qeD⟩
  case inr=>exact(rO qeD).elim
  refine .inl ?_;unfold Oper.wp at*;rw[execOp_put oj hsj a oi.dst v h1]at h;generalize (execOp a.eval oj).run P w=r at*
  cases r with
  |ok n w'=>
   cases n<;>simp only[Oper.upon]at h⊢
   case value u=>exact⟨keep a hy u,by rw[<-Act.put_comm a v u h2];exact h⟩
   case skip=>exact⟨keep a hy _,by rw[<-Act.put_comm a v undef h2];exact h⟩
   case defer d=>
    refine⟨keep _ (keepD d) _,?_⟩;rw[<-Act.put_comm _ v undef h2,<-Act.put_defers]
    exact h
   case enter f args=>
    refine Calls.mono h fun e w'' he=>?_
    cases e with
    |returned u=>exact⟨keep a hy u,by rw[<-Act.put_comm a v u h2];exact he⟩
    |panicked c=>exact(he:False).elim
    |outgrown=>exact he
   case row row args=>exact Rows.mono h fun u w'' he=>⟨keep a hy u,by rw[<-Act.put_comm a v u h2];exact he⟩
  |halt x w'=>
   cases x<;>simp only[Oper.upon]at h⊢
   case panic u=>exact(h:False).elim
 ·rename_i hw
  simp only[hw]at h
  exact⟨keep a hy _,by rw[<-Act.put_comm a v undef h2];exact h⟩
theorem iW{Q:Act->World->Prop}{i:Nat}{oi:Oper}{v:Value}(hi:ops[i]? =some oi)(qcJ:∀(j:Nat) (o:Oper) cs b,ops[j]? =some o->o.op≠.select cs b):
  ∀(fuel:Nat) (listed:Array Bool) (a:Act) (w:World),
   (∀j oj,ops[j]? =some oj->j≠i->listed.getD j true=false->(∀e∈oj.after,Region.binds md e=true->e.on≠i)->oi.apart ops oj=true)->
   i∈Region.ready md ops listed->Yin P ops C oi v a->
   fL P md ops C Q fuel (listed.setIfInBounds i true) (a.put oi.dst v) w->fL P md ops C Q (fuel+1) listed a w:=by
 intro fuel
 induction fuel with
 |zero=>
  intro listed a w _ hr hy H;refine⟨H.1,fun h=>(by rw[h]at hr;cases hr),fun j hj=>?_⟩
  by_cases hji:j=i
  ·subst hji;exact hy.wpOp H.1 hi H
  ·have:=ready_mono hj hji
   rw[H.2.1]at this
   cases this
 |succ fuel ih=>
  intro listed a w qaq hr hy H;refine⟨H.1,fun h=>(by rw[h]at hr;cases hr),fun j hj=>?_⟩
  by_cases hji:j=i
  ·subst hji;exact hy.wpOp H.1 hi H
  ·have h1:=H.2.2 j (ready_mono hj hji)
   obtain⟨qcR,oj,hoj,hall⟩:=mem_ready.1 hj
   have qaH:∀e∈oj.after,Region.binds md e=true->e.on≠i:=fun e he hb heq=>by
    have h1:=hall e he hb;have h0:=(mem_ready.1 hr).1;rw[heq]at h1
    rcases Nat.lt_or_ge i listed.size with h'|h'
    ·simp[h']at h0 h1;rw[h0]at h1;cases h1
    ·simp[Array.getElem?_eq_none h']at h1
   have h2:=Y2 hoj (qaq j oj hoj hji qcR qaH) (fun cs b=>qcJ i oi cs b hi) (fun cs b=>qcJ j oj cs b hoj) hy h1
   have qap:∀k ok,ops[k]? =some ok->k≠i->(listed.setIfInBounds j true).getD k true=false->
     (∀e∈ok.after,Region.binds md e=true->e.on≠i)->oi.apart ops ok=true:=fun k ok hk hki hun hno=>by
    refine qaq k ok hk hki ?_ hno
    by_cases hjk:j=k
    ·subst hjk;exact qcR
    ·rw[getD_set_ne true hjk]at hun;exact hun
   refine wpOp_mono (fun a' w' h3=>ih (listed.setIfInBounds j true) a' w' qap (ready_mono hr (Ne.symm hji)) h3.1 ?_) h2
   rw[Array.setIfInBounds_comm _ _ hji]
   exact h3.2
def eI(l:List Oper)(o:List Nat):List Oper:=o.map fun i=>l.getD i default
theorem pk:(∀l i o,eI l (i::o)=l.getD i default::eI l o)/\(∀l,eI l []=[])/\(∀(x:Oper) xs d,(x::xs).getD 0 d=x)/\∀(x:Oper) xs n d,(x::xs).getD (n+1) d=xs.getD n d:=⟨fun _ _ _=>rfl,fun _=>rfl,fun _ _ _=>rfl,fun _ _ _ _=>rfl⟩
def q21(md:Region.Mode)(ops:Array Oper):List Nat->Array Bool->Bool
 |[],listed=>Region.ready md ops listed==[]
 |i::r,listed=>Region.ready md ops listed==[i]&&q21 md ops r (listed.setIfInBounds i true)
def q28(md:Region.Mode)(ops:Array Oper)(o2:List Nat):List Nat->Array Bool->Bool
 |[],listed=>q21 md ops o2 listed
 |i::r,listed=>(Region.ready md ops listed).contains i&&Region.free md ops listed i&&((ops[i]?).map (fun o=>mU o.op)).getD false&&q28 md ops o2 r (listed.setIfInBounds i true)
def q7g(md:Region.Mode)(ops:Array Oper)(o1 o2:List Nat):Bool:=
 Region.noSelect ops&&(o1.length+o2.length==ops.size)&&q28 md ops o2 o1 (Array.replicate ops.size false)
theorem oJ{Q:Act->World->Prop}:∀(o2:List Nat) (listed:Array Bool) (a:Act) (w:World),q21 md ops o2 listed=true->C w->
  qy P ops C Q (eI ops.toList o2) a w->fL P md ops C Q o2.length listed a w
 |[],listed,a,w,hB,hC,h=>⟨hC,by simpa[q21]using hB,h⟩
 |i::r,listed,a,w,hB,hC,h=>by
  simp only[q21,Bool.and_eq_true,beq_iff_eq]at hB;obtain⟨hr,hB'⟩:=hB;have him:i∈Region.ready md ops listed:=by rw[hr];simp
  obtain⟨_,o,ho,_⟩:=mem_ready.1 him;have hol:ops.toList.getD i default=o:=by rw[List.getD_eq_getElem?_getD,Array.getElem?_toList,ho];rfl
  rw[List.length_cons];refine⟨hC,fun h0=>(by rw[hr]at h0;cases h0),fun j hj=>?_⟩
  obtain rfl:j=i:=by rw[hr]at hj;simpa using hj
  simp only[eI,List.map_cons,hol]at h;have h':wpList P ops (J8 C (qy P ops C Q (eI ops.toList r))) [o] a w:=h;unfold wpList at h';unfold wpOp;simp only[ho];split
  ·rename_i hw
   rw[if_pos hw]at h'
   rcases h' with h'|⟨-,h'⟩
   ·refine .inl (Oper.wp_mono ?_ (kN (fun _ _ _ h=>h) fM h'))
    intro a' w' hh;obtain⟨hC',hk⟩:=(hh:J8 C (qy P ops C Q (eI ops.toList r)) .normal a' w')
    exact oJ r _ a' w' hB' hC' hk
   ·exact(fM h').elim
  ·rename_i hw
   rw[if_neg hw]at h';obtain⟨hC',hk⟩:=(h':J8 C (qy P ops C Q (eI ops.toList r)) .normal (a.put o.dst undef) w)
   exact oJ r _ _ _ hB' hC' hk
theorem kP{o:Oper}{a:Act}{K:Act->Prop}(hn:mU o.op=true)
  (h:if Region.wanted o (yielded ops a.tmps)then o.quiet P a C K else K (a.put o.dst undef)):∃v,Yin P ops C o v a/\K (a.put o.dst v):=by
 by_cases hw:Region.wanted o (yielded ops a.tmps)=true
 ·simp only[hw,if_true]at h
  obtain⟨v,h1,h2⟩:=h;refine⟨v,.inl ⟨hw,fun w hC=>?_⟩,h2⟩
  have h3:=h1 w hC;unfold Oper.quietAt at h3;generalize hr:(execOp a.eval o).run P w=r at h3
  cases r with
  |halt x w'=>simp[Oper.quietUpon]at h3
  |ok n w'=>
   cases n<;>simp only[Oper.quietUpon]at h3
   case value u=>obtain⟨rfl,rfl⟩:=h3;exact .inl rfl
   case skip=>obtain⟨rfl,rfl⟩:=h3;exact .inr ⟨rfl,rfl⟩
   case enter f args=>
    exfalso
    revert hr
    unfold execOp
    cases ho:o.op<;>simp only[ho,mU]at hn⊢ <;>
     first
      |(cases hn;done)
      |exact E4
      |exact E5
      |skip
    ·simp
    ·simp
    ·rw[Sem.run_bind];cases(asBool _).run P w<;>simp[Result.andThen]
    ·split
     all_goals first|(simp;done)|skip
     all_goals first|(unfold runtimePanic;simp;done)|skip
     split
     all_goals first|(simp;done)|(unfold runtimePanic;simp;done)|skip
     simp only[Sem.run_bind]
     cases(program).run P w with
     |halt=>simp[Result.andThen]
     |ok p w1=>
      simp only[Result.andThen]
      cases(nilAhead _ _ _ _).run P w1 with
      |halt=>simp
      |ok q w2=>
       simp only[];split<;>simp[unsupported]
    ·rename_i c
     unfold resolve;split at hn
     all_goals first|(cases hn;done)|skip
     all_goals rename_i qjM;simp only[qjM,Sem.run_bind,Sem.run_pure,Result.andThen_ok,invoke,builtin]
     all_goals
      generalize Sem.run P _ w=r
      cases r<;>simp[Result.andThen]
 ·simp only[hw]at h
  exact⟨undef,.inr ⟨by simpa using hw,rfl⟩,h⟩
theorem pG{Q:Act->World->Prop}(hs:Region.noSelect ops=true)(o2:List Nat){w:World}(hC:C w):∀(o1:List Nat) (listed:Array Bool) (a:Act),q28 md ops o2 o1 listed=true->
  wpQuiet P ops C (fun a'=>qy P ops C Q (eI ops.toList o2) a' w) (eI ops.toList o1) a->fL P md ops C Q (o1.length+o2.length) listed a w
 |[],listed,a,hB,h=>by
  rw[List.length_nil,Nat.zero_add]
  exact oJ o2 listed a w (by simpa[q28]using hB) hC h
 |i::r,listed,a,hB,h=>by
  simp only[q28,Bool.and_eq_true]at hB;obtain⟨⟨⟨hr,hf⟩,hn⟩,hB'⟩:=hB;have him:i∈Region.ready md ops listed:=by simpa using hr
  obtain⟨_,o,ho,_⟩:=mem_ready.1 him;have hol:ops.toList.getD i default=o:=by rw[List.getD_eq_getElem?_getD,Array.getElem?_toList,ho];rfl
  simp only[eI,List.map_cons,hol]at h;have hn':mU o.op=true:=by simpa[ho]using hn
  obtain⟨v,hy,hK⟩:=kP (K:=wpQuiet P ops C (fun a'=>qy P ops C Q (eI ops.toList o2) a' w) (eI ops.toList r)) hn' h
  rw[List.length_cons,Nat.add_right_comm]
  exact iW ho (Region.noSelect_spec hs) _ listed a w (Region.free_spec ho hf) him hy (pG hs o2 hC r _ _ hB' hK)
theorem mV{id:Nat}{Q:Exit->Act->World->Prop}{a:Act}{w:World}{l:List Oper}(C:World->Prop)(o1 o2:List Nat)(hm:P.follows .mixedOrders=true)(hB:q7g .any l.toArray o1 o2=true)(hC:C w.drew)
  (h:wpQuiet P l.toArray C (fun a'=>qy P l.toArray C (fun a'' w''=>C w''->Q .normal a'' w'') (eI l o2) a' w.drew) (eI l o1) a):(Code.region id l.toArray true).wp P Q a w:=by
 simp only[q7g,Bool.and_eq_true,beq_iff_eq]at hB;obtain⟨⟨hs,hlen⟩,hB⟩:=hB;refine wp_region_any hm ?_;have h1:=pG (Q:=fun a'' w''=>C w''->Q .normal a'' w'') (md:=.any) (w:=w.drew) hs o2 hC o1 (Array.replicate l.toArray.size false) a hB (by simpa using h)
 rw[hlen]at h1
 exact kO (fun a w hC hq=>hq hC) _ _ _ _ h1
theorem tN{id:Nat}{Q:Exit->Act->World->Prop}{a:Act}{w:World}{l:List Oper}(o1 o2:List Nat)(hm:P.follows .mixedOrders=true)(hB:q7g .any l.toArray o1 o2=true)
  (h:wpQuiet P l.toArray (fun w'=>∃x,w'=ext w x) (fun a'=>qy P l.toArray (fun w'=>∃x,w'=ext w x) (fun a'' w''=>(∃x,w''=ext w x)->Q .normal a'' w'') (eI l o2) a' w.drew) (eI l o1) a):(Code.region id l.toArray true).wp P Q a w:=
 mV (C:=fun w'=>∃x,w'=ext w x) o1 o2 hm hB (qt (qC w 1)) h
noncomputable def chg(w:World)(row:Option Nat)(x:World):World:=@ite _ (w.grownBy x row) (Classical.propDecidable _) x w
theorem qS{B:Nat}{w v:World}(h:Below B w v):Below B w v.drew:=h.trans ⟨rfl,rfl,rfl,q9 _,fun _ _=>rfl⟩
theorem eU(w:World)(row:Option Nat):w.grownBy w row:=⟨rfl,rfl,rfl,q9 _,fun _ _ _=>rfl⟩
theorem qp{w x y:World}{row:Option Nat}(h:w.grownBy x row)(k:x.grownBy y row):w.grownBy y row:=
 ⟨k.os.trans h.os,k.tape.trans h.tape,k.output.trans h.output,qa h.size k.size,fun i hi hr=>(k.block i (qd hi h.size) hr).trans (h.block i hi hr)⟩
theorem qv{w x:World}(h:Below w.heap.size w x)(row:Option Nat):w.grownBy x row:=⟨h.os,h.tape,h.output,h.size,fun k hk _=>h.block k hk⟩
theorem qV(w:World)(row:Option Nat):w.grownBy w.drew row:=qv (qC w 1) row
theorem mW(w x:World)(row:Option Nat):w.grownBy (chg w row x) row:=by
 unfold chg;split
 ·assumption
 ·exact eU w row
theorem q5Z{w x:World}{row:Option Nat}(h:w.grownBy x row):chg w row x=x:=by unfold chg;rw[if_pos h]
theorem qW{w x:World}{row:Option Nat}(h:w.grownBy x row):∃y,x=chg w row y:=⟨x,(q5Z h).symm⟩
@[go_sem] theorem cell?_chg(w x:World)(row:Option Nat)(b o:Nat)(h:b<w.heap.size)(hr:some b≠row):(chg w row x).cell? ⟨b,o,none⟩=w.cell? ⟨b,o,none⟩:=World.cell?_of_block ((mW w x row).block b h hr)
@[go_sem] theorem frozen?_chg(w x:World)(row:Option Nat)(b o:Nat)(h:b<w.heap.size)(hr:some b≠row):(chg w row x).frozen? ⟨b,o,none⟩=w.frozen? ⟨b,o,none⟩:=World.frozen?_of_block ((mW w x row).block b h hr)
theorem gY{id:Nat}{Q:Exit->Act->World->Prop}{a:Act}{w:World}{l:List Oper}(row:Option Nat)(o1 o2:List Nat)(hm:P.follows .mixedOrders=true)(hB:q7g .any l.toArray o1 o2=true)
  (h:wpQuiet P l.toArray (fun w'=>∃x,w'=chg w row x) (fun a'=>qy P l.toArray (fun w'=>∃x,w'=chg w row x) (fun a'' w''=>(∃x,w''=chg w row x)->Q .normal a'' w'') (eI l o2) a' w.drew) (eI l o1) a):(Code.region id l.toArray true).wp P Q a w:=
 mV (C:=fun w'=>∃x,w'=chg w row x) o1 o2 hm hB (qW (qV w row)) h
end
end Go.Cm
namespace Go.Cm
open Go.RowKit Go.Proofs
def Own(w:World)(B:Nat)(E:TypeId)(v:Value)(xs:List Value):Prop:=
 w.ownsRow B E 1 v xs.length xs/\xs.length<=140737488351232
theorem Own.nil(w:World)(B:Nat)(E:TypeId):Own w B E (.slice none 0 0) []:=⟨World.ownsRow_nil w B E 1,by simp⟩
theorem Own.sl{w:World}{B:Nat}{E:TypeId}{v:Value}{xs:List Value}(h:Own w B E v xs):Sl w v xs:=by
 obtain⟨⟨_,h⟩,hl⟩:=h
 rcases h with⟨rfl,h0⟩|⟨g,cap,cur,rfl,hb,hg,hnc,hcm,hcs,q91⟩
 ·obtain rfl:xs=[]:=List.length_eq_zero_iff.1 h0
  exact Sl.nil w
 ·refine⟨some ⟨g,0,none⟩,cap,g,0,rfl,⟨fun _=>rfl,hnc,hcm,hl,fun _=>(Array.getElem?_eq_some_iff.1 hg).1⟩,fun i hi=>?_⟩
  rw[cell_of_row w g (0+i) cur E (0,0) hg,Nat.zero_add]
  have h1:xs[i]? =cur[i]? :=by
   rw[<-q91,List.getElem?_take,if_pos (by omega)];simp
  rw[<-h1]
  simp[List.getD,hi]
theorem Own.keep{w w':World}{B:Nat}{E:TypeId}{v:Value}{xs:List Value}{row:Option Nat}(h:Own w B E v xs)(hg:w.grownBy w' row)(hne:v.ownBlock=none\/v.ownBlock≠row):Own w' B E v xs:=⟨h.1.kept hg hne,h.2⟩
theorem Own.up{w w':World}{B:Nat}{E:TypeId}{v:Value}{xs:List Value}(h:Own w B E v xs)(hb:Below w.heap.size w w'):Own w' B E v xs:=
 h.keep (row:=none) ⟨hb.os,hb.tape,hb.output,hb.size,fun k hk _=>hb.block k hk⟩ (by cases v.ownBlock<;>simp)
theorem Own.lt{w:World}{B:Nat}{E:TypeId}{v:Value}{xs:List Value}(h:Own w B E v xs):∀k,v.ownBlock=some k->B<=k/\k<w.heap.size:=h.1.lt
theorem jL{B:Nat}{w0 w w':World}{E:TypeId}{v:Value}{xs:List Value}(h:Below B w0 w)(hB:B<=w.heap.size)(ho:Own w B E v xs)(hg:w.grownBy w' v.ownBlock):Below B w0 w':=
 h.grown hg hB fun k hk=>(ho.lt k hk).1
theorem Own.cases{w:World}{B:Nat}{E:TypeId}{v:Value}{xs:List Value}(h:Own w B E v xs):
  ∃oa cap g,v=.slice oa xs.length cap/\Hd w oa xs.length cap g 0/\(0<xs.length->v.ownBlock=some g/\B<=g)/\(∀i,i<xs.length->w.cell? ⟨g,i,none⟩=some (xs.getD i undef))/\(∀i,i<xs.length->w.frozen? ⟨g,i,none⟩=false)/\
   ∀i u,i<xs.length->Own (w.setCell ⟨g,i,none⟩ u) B E v (xs.set i u)/\w.grownBy (w.setCell ⟨g,i,none⟩ u) (some g):=by
 obtain⟨⟨h0,h⟩,hl⟩:=h
 rcases h with⟨rfl,hx⟩|⟨g,cap,cur,rfl,hb,hg,hnc,hcm,hcs,q91⟩
 ·obtain rfl:xs=[]:=List.length_eq_zero_iff.1 hx
  exact⟨none,0,0,rfl,⟨fun h=>absurd h (Nat.lt_irrefl 0),q9 _,by simp[maxLen],by simp,fun h=>absurd h (Nat.lt_irrefl 0)⟩,fun h=>absurd h (Nat.lt_irrefl 0),fun i hi=>absurd hi (Nat.not_lt_zero i),fun i hi=>absurd hi (Nat.not_lt_zero i),fun i u hi=>absurd hi (Nat.not_lt_zero i)⟩
 ·have hown:w.ownsRow B E 1 (.slice (some ⟨g,0,none⟩) xs.length cap) xs.length xs:=⟨h0,.inr ⟨g,cap,cur,rfl,hb,hg,hnc,hcm,hcs,q91⟩⟩
  refine⟨some ⟨g,0,none⟩,cap,g,rfl,⟨fun _=>rfl,hnc,hcm,hl,fun _=>(Array.getElem?_eq_some_iff.1 hg).1⟩,fun _=>⟨rfl,hb⟩,fun i hi=>?_,fun i hi=>hown.frozenAt i,fun i u hi=>?_⟩
  ·rw[hown.cellAt i (by omega)];simp[List.getD,hi]
  ·have:=hown.stored i u
   refine⟨⟨?_,by simpa using hl⟩,this.2⟩
   rw[List.length_set]
   exact this.1
theorem aZ(b off j:Nat):(⟨b,off,none⟩:Addr).add j=⟨b,off+j,none⟩:=by unfold Addr.add;split<;>simp_all
theorem Y3{P:Program}(w:World)(B:Nat)(t ty E:TypeId)(z:Value)(bytes:Nat)(ht:P.underlying t=some (.slice E))(q92:(P.info? E).map (fun i=>(i.zero,i.size,i.bytes))=some (some z,1,bytes))(hz:z.cells.size=1)(hby:bytes<=24)
  (v:Value) (xs:List Value) (hown:Own w B E v xs) (xv:Value) (news:List Value) (hx:Sl w xv news) (h1:∀u∈news,u.oneCell'=true) (hlen:xs.length+news.length<=4294967296) (hB:B<=w.heap.size):
  ∃v' w',(Builtin.append_ #[t,t] ty #[v,xv]).run P w=.ok v' w'/\Own w' B E v' (xs++news)/\w.grownBy w' v.ownBlock/\(∀k,v'.ownBlock=some k->v.ownBlock=some k\/w.heap.size<=k):=by
 obtain⟨i0,hi,hz0,hz1,hz2⟩:∃i0,P.info? E=some i0/\i0.zero=some z/\i0.size=1/\i0.bytes=bytes:=by
  cases hq:P.info? E with
  |none=>simp[hq]at q92
  |some i0=>simp[hq]at q92;exact⟨i0,rfl,q92.1,q92.2.1,q92.2.2⟩
 have hl1:xs.length+news.length<=maxLen:=by simp only[maxLen];omega
 have hl2:(xs.length+news.length)*bytes<=140737488355328:=by
  have:=Nat.mul_le_mul hlen hby;omega
 obtain⟨oa,cx,b,off,rfl,hd,hc⟩:=hx;have q96:xs.length+news.length<=140737488351232:=by omega
 rcases hown with⟨hrow,hsm⟩
 by_cases hn:news=[]
 ·subst hn
  refine⟨v,w,?_,⟨by simpa using hrow,by simpa using hsm⟩,⟨rfl,rfl,rfl,q9 _,fun _ _ _=>rfl⟩,fun k hk=>.inl hk⟩
  rcases hrow.2 with⟨rfl,hx0⟩|⟨g,cap,cur,rfl,_,_,hnc,_⟩
  ·cases oa<;>simp[Builtin.append_,run_underlying ht,sizeOf,typeInfo,hi,Builtin.lenOf,Builtin.firstCells,loadCells,loadCellsFrom]
  ·cases oa<;>simp[Builtin.append_,run_underlying ht,sizeOf,typeInfo,hi,Builtin.lenOf,Builtin.firstCells,loadCells,loadCellsFrom,hnc,storeCells]
 ·have q9P:0<news.length:=List.length_pos_iff.2 hn
  obtain rfl:=hd.hat q9P
  have hnews:∀j u,news[j]? =some u->w.cell? ((⟨b,off,none⟩:Addr).add j)=some u:=fun j u hu=>by
   have hj:=(List.getElem?_eq_some_iff.1 hu).1;rw[aZ,hc j hj];simp[List.getD,hu]
  rcases hrow.2 with⟨rfl,hx0⟩|⟨g,cap,cur,rfl,hbg,hg,hnc,hcm,hcs,q91⟩
  ·obtain rfl:xs=[]:=List.length_eq_zero_iff.1 hx0
   obtain⟨v',w',hr,ho,hgr,-⟩:=run_append_own (P:=P) w w.heap.size t ty E i0 z 1 bytes ht hi hz0 hz1 hz2 hz (by decide) (.slice none 0 0) 0 [] (World.ownsRow_nil _ _ _ _) ⟨b,off,none⟩ news.length cx news (by simp) hnews h1 (by simpa using hl1) (by simpa using hl2) (q9 _)
   have hk:=ho.lt;refine⟨v',w',hr,⟨⟨by simp,?_⟩,by simp only[List.nil_append];omega⟩,hgr,fun k hk'=>.inr (hk k hk').1⟩
   simp only[Nat.zero_add,List.nil_append]at ho
   rcases ho.2 with⟨h1,h2⟩|⟨g,cap,cur,h1,h2,h3⟩
   ·exact .inl ⟨h1,by simpa using h2⟩
   ·exact .inr ⟨g,cap,cur,h1,by omega,by simpa using h3⟩
  ·by_cases hroom:xs.length+news.length<=cap
   ·obtain⟨w',hr,ho,hgr⟩:=run_append_fits (P:=P) w B t ty E i0 1 ht hi hz1 g xs.length cap xs ⟨hrow.1,.inr ⟨g,cap,cur,rfl,hbg,hg,hnc,hcm,hcs,q91⟩⟩ ⟨b,off,none⟩ news.length cx news (by simp) hnews h1 hroom
    exact⟨_,w',hr,⟨by rw[qg];exact ho,by rw[qg];exact q96⟩,hgr,fun k hk=>.inl hk⟩
   ·have holds:∀j u,xs[j]? =some u->w.cell? ((⟨g,0,none⟩:Addr).add j)=some u:=World.ownsRow.cells (g:=g) hrow rfl
    have qcH:xs.length+news.length<=9223372036854775807:=by omega
    have hr:=run_append_grow (P:=P) w t ty E i0 z ht hi hz0 ⟨g,0,none⟩ xs.length cap xs (by rw[hz1];exact hrow.1) holds ⟨b,off,none⟩ news.length cx news (by rw[hz1];simp) hnews (by omega) (by omega) (growslice_fits (by omega) (by rw[hz2];exact hl2))
    have hge:=grownCap_ge w (xs.length+news.length) cap E;have qbF:grownCap w (xs.length+news.length) cap E<=maxLen:=grownCap_le_maxLen w _ cap E hl1;refine⟨_,_,hr,⟨⟨by simp,.inr ⟨w.heap.size,_,_,by rw[qg],hB,heap_alloc_new w.drew _,by rw[qg];exact hge,qbF,?_,?_⟩⟩,by rw[qg];exact q96⟩,⟨rfl,rfl,rfl,by simp,fun k hk _=>Below.heap_alloc w.drew _ k hk⟩,fun k hk=>.inr (by simp[Value.ownBlock]at hk;omega)⟩
    ·simp only[Array.size_append,List.size_toArray,size_zeroCells,hz]
     omega
    ·simp only[Array.toList_append,qh]
     rw[<-qh,Nat.mul_one]
     exact List.take_left
theorem jt{P:Program}{ops:Array Oper}{rest:List Oper}{o:Oper}{a:Act}{w:World}{Q:Exit->Act->World->Prop}(hgd:o.guard=none)(s x:Operand)(t:TypeId)
  (ho:o.op=.call {callee:=.builtin .append,args:=#[s,x],argTypes:=#[t,t]})
  (B E:TypeId) (z:Value) (bytes:Nat) (ht:P.underlying t=some (.slice E)) (q92:(P.info? E).map (fun i=>(i.zero,i.size,i.bytes))=some (some z,1,bytes)) (hz:z.cells.size=1) (hby:bytes<=24)
  (v:Value) (xs:List Value) (hs:a.eval s=v) (hown:Own w B E v xs) (xv:Value) (news:List Value) (hxe:a.eval x=xv) (hx:Sl w xv news) (h1:∀u∈news,u.oneCell'=true) (hlen:xs.length+news.length<=4294967296) (hB:B<=w.heap.size)
  (h:∀v' w',Own w' B E v' (xs++news)->w.grownBy w' v.ownBlock->(∀k,v'.ownBlock=some k->v.ownBlock=some k\/w.heap.size<=k)->wpList P ops Q rest (a.put o.dst v') w'):wpList P ops Q (o::rest) a w:=by
 obtain⟨v',w',hr,h2,h3,h4⟩:=Y3 (P:=P) w B t o.type E z bytes ht q92 hz hby v xs hown xv news hx h1 hlen hB;refine wpList_plain hgd fun K hK=>?_
 unfold Oper.wp execOp;simp only[ho,resolve,invoke,builtin,Sem.run_bind,Sem.run_pure,Result.andThen_ok,List.map_toArray,List.map_cons,List.map_nil,hs,hxe,hr]
 exact hK _ _ (h v' w' h2 h3 h4)
theorem eJ(w:World)(c:Array Value)(E:TypeId)(hc:c.size<=4294967296):Sl (w.alloc (.cells c E)) (.slice (some ⟨w.heap.size,0,none⟩) c.size c.size) c.toList:=by
 refine⟨some ⟨w.heap.size,0,none⟩,c.size,w.heap.size,0,by simp,⟨fun _=>rfl,by simp,by simp only[maxLen];omega,by simp;omega,fun _=>by simp⟩,fun i hi=>?_⟩
 have hi':i<c.size:=by simpa using hi
 rw[Nat.zero_add,World.cell?_alloc_new]
 simp[List.getD,hi']
theorem qE(w:World)(B:Nat)(c:Array Value)(E:TypeId)(hc:c.size<=4294967296)(hB:B<=w.heap.size):Own (w.alloc (.cells c E)) B E (.slice (some ⟨w.heap.size,0,none⟩) c.size c.size) c.toList:=by
 have h:=World.ownsRow_lit (base:=B) (e:=E) (size:=1) w c c.size hB (by simp only[maxLen];omega) (by simp)
 exact⟨by simpa using h,by simp;omega⟩
theorem rP{P:Program}(t E:TypeId)(z:Value)(bytes n:Nat)(ht:P.underlying t=some (.slice E))(q92:(P.info? E).map (fun i=>(i.zero,i.size,i.bytes))=some (some z,1,bytes))(hz:z.cells=#[z])(hby:bytes<=24)(hn:n<=4294967296):
  ∀W:World,(Instr.makeSlice t (.int .i64 (n:Int)) (.int .i64 (n:Int))).run P W=.ok (.slice (some ⟨W.heap.size,0,none⟩) n n) (W.alloc (.cells (madeCells #[z] n) E)):=by
 intro W
 obtain⟨i0,hi,hz0,hz1,hz2⟩:∃i0,P.info? E=some i0/\i0.zero=some z/\i0.size=1/\i0.bytes=bytes:=by
  cases hq:P.info? E with
  |none=>simp[hq]at q92
  |some i0=>simp[hq]at q92;exact⟨i0,rfl,q92.1,q92.2.1,q92.2.2⟩
 have hb:bytes*n<=24*4294967296:=Nat.mul_le_mul hby hn
 have hb':(i0.bytes:Int)*(n:Int)<=281474976710656:=by
  rw[hz2,<-Int.natCast_mul];omega
 have hr:=run_make (P:=P) W t E i0 z ht hi hz0 .i64 .i64 n n (by omega) (Int.le_refl _) hb' (by omega)
 simp only[Int.toNat_natCast,hz1,hz,Nat.mul_one]at hr
 exact hr
theorem rD(W:World)(B E:TypeId)(z:Value)(n:Nat)(hB:B<=W.heap.size)(hn:n<=4294967296):Own (W.alloc (.cells (madeCells #[z] n) E)) B E (.slice (some ⟨W.heap.size,0,none⟩) n n) (List.replicate n z):=by
 have h:=qE W B (madeCells #[z] n) E (by rw[size_madeCells];simpa using hn) hB
 rw[toList_madeCells_one]at h;rw[size_madeCells]at h
 simpa using h
section
variable {w : World} {B : Nat} {E : TypeId} {g n cap : Nat} {xs : List Value}
theorem Own.len(h:Own w B E (.slice (some ⟨g,0,none⟩) n cap) xs):n=xs.length:=by
 rcases h.1.2 with⟨h1,_⟩|⟨g',cap',cur,h1,_⟩
 ·cases h1
 ·simp at h1;exact h1.2.1
theorem Own.row(h:Own w B E (.slice (some ⟨g,0,none⟩) n cap) xs):w.ownsRow B E 1 (.slice (some ⟨g,0,none⟩) xs.length cap) xs.length xs:=by
 have:=h.len;subst this;exact h.1
theorem Own.cell(h:Own w B E (.slice (some ⟨g,0,none⟩) n cap) xs){i:Nat}(hi:i<xs.length):w.cell? ⟨g,i,none⟩=some (xs.getD i undef):=by
 rw[h.row.cellAt i (by omega)];simp[List.getD,hi]
theorem Own.free(h:Own w B E (.slice (some ⟨g,0,none⟩) n cap) xs)(i:Nat):w.frozen? ⟨g,i,none⟩=false:=h.row.frozenAt i
theorem Own.store(h:Own w B E (.slice (some ⟨g,0,none⟩) n cap) xs)(i:Nat)(u:Value):Own (w.setCell ⟨g,i,none⟩ u) B E (.slice (some ⟨g,0,none⟩) n cap) (xs.set i u)/\w.grownBy (w.setCell ⟨g,i,none⟩ u) (some g):=by
 have h1:=h.row.stored i u;have hl:=h.len;subst hl
 exact⟨⟨by rw[List.length_set];exact h1.1,by rw[List.length_set];exact h.2⟩,h1.2⟩
theorem Own.blk(h:Own w B E (.slice (some ⟨g,0,none⟩) n cap) xs):B<=g/\g<w.heap.size:=h.lt g rfl
end
theorem Own.mono{w:World}{B B' E:Nat}{v:Value}{xs:List Value}(h:Own w B E v xs)(hB:B'<=B):Own w B' E v xs:=
 ⟨⟨h.1.1,h.1.2.imp id fun⟨g,cap,cur,h1,h2,h3⟩=>⟨g,cap,cur,h1,by omega,h3⟩⟩,h.2⟩
theorem Own.upB{w w':World}{B E n:Nat}{v:Value}{xs:List Value}(h:Own w B E v xs)(hn:w.heap.size<=n)(hb:Below n w w'):Own w' B E v xs:=h.up (hb.mono hn)
def qD(l:List UInt8):List Value:=l.map fun b=>.int .u8 (b.toNat:Int)
theorem jC(a b:List UInt8):qD (a++b)=qD a++qD b:=by simp[qD]
theorem qz(a:List UInt8):(qD a).length=a.length:=by simp[qD]
theorem gC(l:List UInt8):∀u∈qD l,u.oneCell'=true:=by
 intro u hu;simp only[qD,List.mem_map]at hu;obtain⟨b,-,rfl⟩:=hu;rfl
theorem j7{P:Program}(w:World)(src dst e:TypeId)(hs:P.underlying src=some (.slice e))(he:P.underlying e=some (.int .u8))(hd:P.underlying dst=some .string)
  (v:Value) (l:List UInt8) (h:Sl w v (qD l)):(convert src dst v).run P w=.ok (.string ⟨l.toArray⟩) w:=by
 obtain⟨oa,cap,b,off,rfl,hdr,hc⟩:=h;rw[qz]at hdr hc⊢;rw[run_convert_bytes_string w src dst e oa l.length cap hs he hd]
 have qeN:∀(l:List UInt8) (s:ByteArray),(l.map fun b=>(b.toNat:Int)).foldl (fun r n=>r.push (UInt8.ofNat n.toNat)) s=⟨s.data++l.toArray⟩:=by
  intro l
  induction l with
  |nil=>intro s;simp
  |cons b l ih=>intro s;simp only[List.map_cons,List.foldl_cons,ih];simp[ByteArray.push]
 have hb:qD l=(l.map fun b=>(b.toNat:Int)).map (Value.int .u8):=by simp[qD]
 cases oa with
 |none=>
  have h0:l.length=0:=by
   rcases Nat.eq_zero_or_pos l.length with h|h
   ·exact h
   ·have:=hdr.hat h;cases this
  obtain rfl:l=[]:=List.length_eq_zero_iff.1 h0;unfold Conv.bytesToString
  simp
  rfl
 |some ad=>
  have hl:(loadCells ad l.length).run P w=.ok ((l.map fun b=>(b.toNat:Int)).map (Value.int .u8)).toArray w:=by
   rcases Nat.eq_zero_or_pos l.length with h|h
   ·obtain rfl:l=[]:=List.length_eq_zero_iff.1 h
    simp[loadCells,loadCellsFrom]
   ·have:=hdr.hat h
    obtain rfl:ad=⟨b,off,none⟩:=ql this;rw[<-hb]
    have h2:=run_loadCells_list (P:=P) w ⟨b,off,none⟩ (qD l) (fun j v hv=>by
     have hj:j<(qD l).length:=(List.getElem?_eq_some_iff.1 hv).1;rw[qz]at hj;rw[aZ,hc j hj];simp[List.getD,hv])
    rwa [qz]at h2
  rw[run_bytesToString w ad l.length cap _ hl,qeN]
  simp
abbrev qK:=List UInt8
def bys(s:ByteArray):qK:=s.data.toList
theorem qF(s:ByteArray):(bys s).length=s.size:=by simp[bys]
theorem jS{P:Program}(T:TypeId)(hT:P.underlying T=some .string){s:ByteArray}{i:Nat}(h:i<s.size)(W:World):(Instr.index T (.string s) (.int .i64 i)).run P W=.ok (.int .u8 (((bys s).getD i 0).toNat:Nat)) W:=by
 rw[run_index_string W T s .i64 i hT,dif_pos ⟨by omega,by omega⟩]
 have:(bys s).getD i 0=s[i]:=by
  have hl:i<(bys s).length:=by rw[qF];exact h
  rw[List.getD_eq_getElem?_getD,List.getElem?_eq_getElem hl]
  rfl
 rw[this]
 rfl
theorem rQ{a b:UInt8}(h:a≠b):((a.toNat:Int)==(b.toNat:Int))=false:=by
 have:a.toNat≠b.toNat:=fun e=>h (UInt8.toNat_inj.1 e)
 have h2:(a.toNat:Int)≠(b.toNat:Int):=by omega
 simpa using h2
end Go.Cm
namespace Go.Cm
def spB(each i:Nat):Nat:=i/each-1
def qL(base each:Nat):Nat->Nat
 |0=>base
 |i+1=>qL base each i+2^spB each i
def aE(base each n:Nat):Nat->Nat
 |0=>0
 |i+1=>if qL base each (i+1)<=n then i+1 else aE base each n i
theorem dC(base each i:Nat):qL base each (i+1)=qL base each i+2^spB each i:=rfl
theorem rR (base each : Nat) {i j : Nat} (h : i ≤ j) : qL base each i ≤ qL base each j := by
  induction j with
  | zero => obtain rfl : i = 0 := by omega
            exact q9 _
  | succ j ih =>
    rcases Nat.lt_or_eq_of_le h with h1 | rfl
    · rw [dC]; exact qa (ih (by omega)) (Nat.le_add_right _ _)
    · exact q9 _
theorem gZ(base each n:Nat):∀k,aE base each n k<=k
 |0=>q9 _
 |k+1=>by unfold aE;split;exact q9 _;have:=gZ base each n k;omega
theorem gD{base each n:Nat}(h0:base<=n):∀k,qL base each (aE base each n k)<=n/\(aE base each n k<k->n<qL base each (aE base each n k+1))
 |0=>⟨h0,fun h=>absurd h (Nat.lt_irrefl 0)⟩
 |k+1=>by
  unfold aE
  by_cases h:qL base each (k+1)<=n
  ·rw[if_pos h];exact⟨h,fun h=>absurd h (Nat.lt_irrefl _)⟩
  ·rw[if_neg h]
   obtain⟨h1,h2⟩:=gD h0 k;refine⟨h1,fun _=>?_⟩
   rcases Nat.lt_or_eq_of_le (gZ base each n k)with h3|h3
   ·exact h2 h3
   ·rw[h3];omega
theorem kQ{base each n k:Nat}(h:n<qL base each (k+1)):aE base each n (k+1)=aE base each n k:=by
 show(if qL base each (k+1)<=n then k+1 else aE base each n k)=_
 rw[if_neg (by omega)]
theorem kR{base each n k:Nat}(h:qL base each k<=n):aE base each n k=k:=by
 cases k with
 |zero=>rfl
 |succ k=>show(if qL base each (k+1)<=n then k+1 else _)=_;rw[if_pos h]
structure q7h where
 s:Nat
 b:Nat
 v:Nat
 e:Nat
def gE(first base each n k:Nat):q7h:=⟨first+aE base each n k,spB each (aE base each n k),n-qL base each (aE base each n k),0⟩
def aA(n:Int):q7h:=if n<3\/258<n then⟨0,0,0,1⟩else if n=258 then⟨285,0,0,0⟩else gE 257 3 4 n.toNat 27
def aM(n:Int):q7h:=if n<1\/32768<n then⟨0,0,0,1⟩else gE 0 1 2 n.toNat 29
theorem J9{first base each n k:Nat}(h0:base<=n)(hn:n<qL base each (k+1)):
  (gE first base each n k).v<2^(gE first base each n k).b:=by
 obtain⟨h1,h2⟩:=gD (base:=base) (each:=each) (n:=n) h0 k
 have h3:n<qL base each (aE base each n k+1):=by
  rcases Nat.lt_or_eq_of_le (gZ base each n k)with h|h
  ·exact h2 h
  ·rw[h];exact hn
 rw[dC]at h3
 show n-qL base each (aE base each n k)<2^spB each (aE base each n k)
 omega
theorem q4j:qL 3 4 28=259:=by decide
theorem q4k:qL 1 2 30=32769:=by decide
theorem oK{n:Int}(h:¬(n<3\/258<n)):(aA n).v<2^(aA n).b/\(aA n).b<=5/\(aA n).e=0:=by
 unfold aA;rw[if_neg h]
 by_cases h2:n=258
 ·rw[if_pos h2];decide
 ·rw[if_neg h2]
  refine⟨J9 (by omega) (by rw[q4j];omega),?_,rfl⟩
  have:=gZ 3 4 n.toNat 27
  show aE 3 4 n.toNat 27/4-1<=5
  omega
theorem oL{n:Int}(h:¬(n<1\/32768<n)):(aM n).v<2^(aM n).b/\(aM n).b<=13/\(aM n).e=0:=by
 unfold aM;rw[if_neg h];refine⟨J9 (by omega) (by rw[q4k];omega),?_,rfl⟩
 have:=gZ 1 2 n.toNat 29
 show aE 1 2 n.toNat 29/2-1<=13
 omega
structure OpN where
 lit:Nat
 len:Int
 dist:Int
structure PtN where
 kind:Int
 text:ByteArray
 ops:List OpN
 lits:List Int
 dists:List Int
def ju(b:qK)(d:Nat):Nat->qK
 |0=>b
 |k+1=>ju b d k++[(ju b d k).getD ((ju b d k).length-d) 0]
theorem jV(b:qK)(d:Nat):∀k,(ju b d k).length=b.length+k
 |0=>rfl
 |k+1=>by rw[ju,qg,jV b d k,List.length_singleton];omega
def opN(eD:Nat)(b:qK)(o:OpN):Nat×qK:=
 if o.len=0 then(0,b++[UInt8.ofNat o.lit])
 else if o.len<3\/258<o.len\/o.dist<1\/32768<o.dist then(1,b)
 else if(b.length:Int)<o.dist then(eD,b)
 else(0,ju b o.dist.toNat o.len.toNat)
def opS(eD:Nat)(y:Nat×qK)(o:OpN):Nat×qK:=
 if y.1≠0 then y else if(opN eD y.2 o).1≠0 then opN eD y.2 o else if 16777216<(opN eD y.2 o).2.length then(3,(opN eD y.2 o).2)else opN eD y.2 o
def oG(eD:Nat)(b:qK)(l:List OpN):Nat×qK:=l.foldl (opS eD) (0,b)
def yC(y:Nat×qK):Nat×qK:=if y.1≠0 then y else if 16777216<y.2.length then(3,y.2)else y
def fN(eD:Nat)(b:qK)(p:PtN):Nat×qK:=
 if p.kind=0 then(if 65535<p.text.size then(1,b)else yC (0,b++p.text.data.toList))
 else if p.kind=1\/p.kind=2 then yC (oG eD b p.ops)
 else(1,b)
def hU(eD:Nat)(y:Nat×qK)(p:PtN):Nat×qK:=if y.1≠0 then y else fN eD y.2 p
def jW(eD:Nat)(l:List PtN):Nat×qK:=l.foldl (hU eD) (0,[])
def jq(eD eE:Nat)(l:List PtN):Nat×qK:=if l=[]then(eE,[])else if(jW eD l).1≠0 then((jW eD l).1,[])else jW eD l
theorem Y4(eD:Nat)(b:qK)(l:List OpN)(o:OpN):oG eD b (l++[o])=opS eD (oG eD b l) o:=by unfold oG;rw[List.foldl_append];rfl
theorem E6(eD:Nat)(l:List PtN)(p:PtN):jW eD (l++[p])=hU eD (jW eD l) p:=by unfold jW;rw[List.foldl_append];rfl
theorem yD{eD:Nat}{y:Nat×qK}(h:y.1≠0)(l:List OpN):l.foldl (opS eD) y=y:=by
 induction l with
 |nil=>rfl
 |cons o l ih=>rw[List.foldl_cons,show opS eD y o=y from if_pos h,ih]
theorem vF{eD:Nat}{y:Nat×qK}(h:y.1≠0)(l:List PtN):l.foldl (hU eD) y=y:=by
 induction l with
 |nil=>rfl
 |cons o l ih=>rw[List.foldl_cons,show hU eD y o=y from if_pos h,ih]
theorem yE{eD:Nat}{b:qK}{l:List OpN}{k:Nat}(h:(oG eD b (l.take k)).1≠0):oG eD b l=oG eD b (l.take k):=by
 have:oG eD b l=(l.drop k).foldl (opS eD) (oG eD b (l.take k)):=by unfold oG;rw[<-List.foldl_append,List.take_append_drop]
 rw[this,yD h]
theorem eW{eD:Nat}{l:List PtN}{k:Nat}(h:(jW eD (l.take k)).1≠0):jW eD l=jW eD (l.take k):=by
 have:jW eD l=(l.drop k).foldl (hU eD) (jW eD (l.take k)):=by unfold jW;rw[<-List.foldl_append,List.take_append_drop]
 rw[this,vF h]
theorem Y5{eD:Nat}{b:qK}{o:OpN}:(opN eD b o).2.length<=b.length+258:=by
 unfold opN;split
 ·simp
 ·split
  ·simp
  ·split
   ·simp
   ·simp only[jV];omega
end Go.Cm
namespace Go.Cm
open Go.RowKit Go.Proofs
def E7(w:World)(v:Value)(ll:List (List Value)):Prop:=∃vs,Sl w v vs/\vs.length=ll.length/\∀i,i<ll.length->Sl w (vs.getD i undef) (ll.getD i [])
theorem E7.up{w w':World}{v:Value}{ll:List (List Value)}(h:E7 w v ll)(hb:Below w.heap.size w w'):E7 w' v ll:=by
 obtain⟨vs,h1,h2,h3⟩:=h
 exact⟨vs,h1.up hb,h2,fun i hi=>(h3 i hi).up hb⟩
theorem E7.open{w:World}{v:Value}{ll:List (List Value)}(h:E7 w v ll):
  ∃oa cap b off,v=.slice oa ll.length cap/\Hd w oa ll.length cap b off/\∀i,i<ll.length->
   ∃oi ci bi fi,w.cell? ⟨b,off+i,none⟩=some (.slice oi (ll.getD i []).length ci)/\Hd w oi (ll.getD i []).length ci bi fi/\
    (∀j,j<(ll.getD i []).length->w.cell? ⟨bi,fi+j,none⟩=some ((ll.getD i []).getD j undef))/\Sl w (.slice oi (ll.getD i []).length ci) (ll.getD i []):=by
 obtain⟨vs,⟨oa,cap,b,off,rfl,hd,hc⟩,h2,h3⟩:=h;rw[h2]at hd hc⊢;refine⟨oa,cap,b,off,rfl,hd,fun i hi=>?_⟩
 have h4:=h3 i hi;obtain⟨oi,ci,bi,fi,he,hdi,hci⟩:=h4;refine⟨oi,ci,bi,fi,?_,hdi,hci,?_⟩
 ·rw[hc i hi,he]
 ·rw[<-he];exact h3 i hi
theorem vG(ll:List (List Int))(i:Nat):(ll.map ints).getD i []=ints (ll.getD i []):=by
 simp only[List.getD_eq_getElem?_getD,List.getElem?_map]
 cases ll[i]? <;>simp[ints]
theorem E7.ints{w:World}{v:Value}{ll:List (List Int)}(h:E7 w v (ll.map ints)):tW w v ll:=by
 obtain⟨vs,h1,h2,h3⟩:=h;refine⟨vs,h1,by simpa using h2,fun i hi=>?_⟩
 have:=h3 i (by simpa using hi)
 rwa [vG]at this
structure D9(w:World)(B E E':Nat)(v:Value)(vs:List Value)(ll:List (List Value)):Prop where
 outer:Own w B E v vs
 len:vs.length=ll.length
 rows:∀i,i<ll.length->Own w B E' (vs.getD i undef) (ll.getD i [])
 apart:∀i j,i<ll.length->j<ll.length->i≠j->∀k,(vs.getD i undef).ownBlock=some k->(vs.getD j undef).ownBlock≠some k
 off:∀i,i<ll.length->∀k,(vs.getD i undef).ownBlock=some k->v.ownBlock≠some k
variable {w w' : World} {B E E' : Nat} {v : Value} {vs : List Value} {ll : List (List Value)}
theorem D9.nil(w:World)(B E E':Nat):D9 w B E E' (.slice none 0 0) [] []:=⟨Own.nil w B E,rfl,fun i hi=>absurd hi (Nat.not_lt_zero i),fun i _ hi=>absurd hi (Nat.not_lt_zero i),fun i hi=>absurd hi (Nat.not_lt_zero i)⟩
theorem qM{u:Value}{row:Option Nat}(h:∀k,u.ownBlock=some k->row≠some k):u.ownBlock=none\/u.ownBlock≠row:=by
 cases hu:u.ownBlock with
 |none=>exact .inl rfl
 |some k=>exact .inr (fun e=>h k hu e.symm)
theorem D9.keep(h:D9 w B E E' v vs ll){row:Option Nat}(hg:w.grownBy w' row)(hv:∀k,v.ownBlock=some k->row≠some k)(hr:∀i,i<ll.length->∀k,(vs.getD i undef).ownBlock=some k->row≠some k):D9 w' B E E' v vs ll:=
 ⟨h.outer.keep hg (qM hv),h.len,fun i hi=>(h.rows i hi).keep hg (qM (hr i hi)),h.apart,h.off⟩
theorem D9.up(h:D9 w B E E' v vs ll)(hb:Below w.heap.size w w'):D9 w' B E E' v vs ll:=
 h.keep (row:=none) (qv hb none) (fun _ _ e=>by cases e) (fun _ _ _ _ e=>by cases e)
def D9.free(v:Value)(vs:List Value)(row:Option Nat):Prop:=(∀k,v.ownBlock=some k->row≠some k)/\∀i,i<vs.length->∀k,(vs.getD i undef).ownBlock=some k->row≠some k
theorem gF{α:Type}{l m:List α}{i:Nat}{d:α}(h:i<l.length):(l++m).getD i d=l.getD i d:=by simp[List.getD,List.getElem?_append_left h]
theorem iX{α:Type}{l:List α}{x d:α}:(l++[x]).getD l.length d=x:=by simp[List.getD]
theorem aL{α:Type}{l:List α}{i j:Nat}{x d:α}(h:i≠j):(l.set i x).getD j d=l.getD j d:=by simp[List.getD,h]
theorem aT{α:Type}{l:List α}{i:Nat}{x d:α}(h:i<l.length):(l.set i x).getD i d=x:=by simp[List.getD,h]
theorem D9.push(h:D9 w B E E' v vs ll){r:Value}{xs:List Value}(hr:Own w B E' r xs)(hf:D9.free v vs r.ownBlock){v':Value}{w0:World}(hw0:w.grownBy w0 none)(ho:Own w' B E v' (vs++[r]))(hg:w0.grownBy w' v.ownBlock)(hk:∀k,v'.ownBlock=some k->v.ownBlock=some k\/w0.heap.size<=k):
  D9 w' B E E' v' (vs++[r]) (ll++[xs]):=by
 have hg':w.grownBy w' v.ownBlock:=qp ⟨hw0.os,hw0.tape,hw0.output,hw0.size,fun k hk _=>hw0.block k hk (by simp)⟩ hg
 have hvr:∀k,r.ownBlock=some k->v.ownBlock≠some k:=fun k hk e=>hf.1 k e hk
 have hrow:∀i,i<ll.length->Own w' B E' (vs.getD i undef) (ll.getD i []):=fun i hi=>(h.rows i hi).keep hg' (qM (h.off i hi))
 have hl:=h.len
 have idx:∀i,i<(ll++[xs]).length->(i<ll.length/\(vs++[r]).getD i undef=vs.getD i undef/\(ll++[xs]).getD i []=ll.getD i [])\/(i=ll.length/\(vs++[r]).getD i undef=r/\(ll++[xs]).getD i []=xs):=by
  intro i hi;rw[qg,List.length_singleton]at hi
  rcases Nat.lt_succ_iff_lt_or_eq.1 hi with h1|rfl
  ·exact .inl ⟨h1,gF (by omega),gF h1⟩
  ·exact .inr ⟨rfl,by rw[<-hl];exact iX,iX⟩
 refine⟨ho,by simp[hl],fun i hi=>?_,fun i j hi hj hne k hik=>?_,fun i hi k hik=>?_⟩
 ·rcases idx i hi with⟨h1,e1,e2⟩|⟨h1,e1,e2⟩
  ·rw[e1,e2];exact hrow i h1
  ·rw[e1,e2];exact hr.keep hg' (qM hvr)
 ·rcases idx i hi with⟨h1,e1,e2⟩|⟨h1,e1,e2⟩<;>rcases idx j hj with⟨h3,e3,e4⟩|⟨h3,e3,e4⟩<;>rw[e1]at hik<;>rw[e3]
  ·exact h.apart i j h1 h3 hne k hik
  ·exact hf.2 i (by omega) k hik
  ·intro e;exact hf.2 j (by omega) k e hik
  ·omega
 ·have hsz:w.heap.size<=w0.heap.size:=hw0.size
  rcases idx i hi with⟨h1,e1,e2⟩|⟨h1,e1,e2⟩<;>rw[e1]at hik<;>intro e
  ·rcases hk k e with h2|h2
   ·exact h.off i h1 k hik h2
   ·have:=(h.rows i h1).lt k hik;omega
  ·rcases hk k e with h2|h2
   ·exact hvr k hik h2
   ·have:=hr.lt k hik;omega
theorem D9.setRow{g:Nat}{n cap:Nat}(h:D9 w B E E' (.slice (some ⟨g,0,none⟩) n cap) vs ll){i:Nat}(hi:i<ll.length){r:Value}{xs:List Value}(hr:Own w' B E' r xs)(hg:w.grownBy w' (vs.getD i undef).ownBlock)(hk:∀k,r.ownBlock=some k->(vs.getD i undef).ownBlock=some k\/w.heap.size<=k):
  D9 (w'.setCell ⟨g,i,none⟩ r) B E E' (.slice (some ⟨g,0,none⟩) n cap) (vs.set i r) (ll.set i xs)/\w'.grownBy (w'.setCell ⟨g,i,none⟩ r) (some g):=by
 have ho:Own w' B E (.slice (some ⟨g,0,none⟩) n cap) vs:=h.outer.keep hg (qM fun k hk e=>h.off i hi k e hk)
 obtain⟨h1,h2⟩:=ho.store i r;have hgb:=h.outer.blk;have hvi:i<vs.length:=by rw[h.len];exact hi
 have hrg:∀k,r.ownBlock=some k->k≠g:=fun k hk' e=>by
  rcases hk k hk' with h3|h3
  ·exact h.off i hi k h3 (by rw[e];rfl)
  ·omega
 refine⟨⟨h1,by simp[h.len],fun j hj=>?_,fun a b ha hb hne k hak=>?_,fun a ha k hak=>?_⟩,h2⟩
 ·rw[List.length_set]at hj
  by_cases hij:i=j
  ·subst hij;rw[aT hvi,aT hi]
   exact hr.keep h2 (qM fun k hk' e=>hrg k hk' (by injection e with e;exact e.symm))
  ·rw[aL hij,aL hij]
   exact((h.rows j hj).keep hg (qM fun k hk e=>h.apart i j hi hj hij k e hk)).keep h2 (qM fun k hk' e=>h.off j hj k hk' (by simpa[Value.ownBlock]using e))
 ·rw[List.length_set]at ha hb
  by_cases hia:i=a<;>by_cases hib:i=b
  ·omega
  ·subst hia
   rw[aT hvi]at hak;rw[aL hib]
   rcases hk k hak with h3|h3
   ·exact h.apart i b hi hb hib k h3
   ·intro e;have:=(h.rows b hb).lt k e;omega
  ·subst hib
   rw[aL hia]at hak;rw[aT hvi];intro e
   rcases hk k e with h3|h3
   ·exact h.apart a i ha hi (fun q=>hia q.symm) k hak h3
   ·have:=(h.rows a ha).lt k hak;omega
  ·rw[aL hia]at hak;rw[aL hib];exact h.apart a b ha hb hne k hak
 ·rw[List.length_set]at ha
  by_cases hia:i=a
  ·subst hia;rw[aT hvi]at hak
   intro e;simp[Value.ownBlock]at e;exact hrg k hak e.symm
  ·rw[aL hia]at hak;exact h.off a ha k hak
theorem Own.storeList{B:Nat}{E:TypeId}{g n cap:Nat}(ys:List Value):∀{w:World} {xs:List Value} (o:Nat),Own w B E (.slice (some ⟨g,0,none⟩) n cap) xs->o+ys.length<=xs.length->
  Own (w.setCells g o ys) B E (.slice (some ⟨g,0,none⟩) n cap) (xs.take o++ys++xs.drop (o+ys.length))/\w.grownBy (w.setCells g o ys) (some g):=by
 induction ys with
 |nil=>intro w xs o h hl;simp only[World.setCells];exact⟨by simpa using h,eU w _⟩
 |cons y ys ih=>
  intro w xs o h hl;rw[List.length_cons]at hl;obtain⟨h1,h2⟩:=h.store o y;obtain⟨h3,h4⟩:=ih (o+1) h1 (by rw[List.length_set];omega)
  refine⟨?_,qp h2 h4⟩
  have e:(xs.set o y).take (o+1)++ys++(xs.set o y).drop (o+1+ys.length)=xs.take o++y::ys++xs.drop (o+(y::ys).length):=by
   rw[List.take_set,List.take_succ_eq_append_getElem (by omega),List.set_append_right _ _ (by simp[Nat.min_le_left]),List.drop_set_of_lt (by omega)]
   simp[Nat.min_eq_left (show o<=xs.length by omega),show o+1+ys.length=o+(ys.length+1) by omega]
  rw[<-e]
  exact h3
theorem qo{P:Program}{ops:Array Oper}{rest:List Oper}{o:Oper}{a:Act}{w:World}{Q:Exit->Act->World->Prop}(hgd:o.guard=none)(ty:TypeId)(x y:Operand)(ho:o.op=.store ty x y)
  (B E g n cap:Nat) (hx:a.eval x=.pointer (some ⟨g,0,none⟩)) (C:Array Value) (hy:a.eval y=.agg C) (hi:(P.info? ty).map (·.size)=some C.size) (xs:List Value) (hown:Own w B E (.slice (some ⟨g,0,none⟩) n cap) xs) (hle:C.size<=xs.length) (h1:∀u∈C.toList,u.oneCell'=true)
  (h:∀w',Own w' B E (.slice (some ⟨g,0,none⟩) n cap) (C.toList++xs.drop C.size)->w.grownBy w' (some g)->wpList P ops Q rest (a.put o.dst undef) w'):wpList P ops Q (o::rest) a w:=by
 have hst:=run_storeCells_cells (P:=P) g 0 C.toList 0 w (fun j hj=>by
   rw[Array.length_toList]at hj;rw[Nat.zero_add,hown.cell (by omega)];rfl) (fun j _=>by rw[Nat.zero_add];exact hown.free j) h1
 have hl:=hown.storeList C.toList 0 (by simpa using hle)
 rw[List.take_zero,List.nil_append,Nat.zero_add,Array.length_toList]at hl;refine wpList_plain hgd fun K hK=>?_
 have hsz:(sizeOf ty).run P w=.ok C.size w:=by
  cases hq:P.info? ty with
  |none=>simp[hq]at hi
  |some i=>simp[hq]at hi;simp[sizeOf,typeInfo,hq,hi]
 unfold Oper.wp execOp;simp only[ho,hx,hy,Instr.storeAt,Instr.sureAddr,storeVar,Value.cells,Sem.run_bind,Sem.run_pure,Result.andThen_ok,hsz,ne_eq,not_true_eq_false,if_false,hst]
 exact hK _ _ (h _ hl.1 hl.2)
theorem gG{P:Program}{ops:Array Oper}{rest:List Oper}{o:Oper}{a:Act}{w:World}{Q:Exit->Act->World->Prop}(hgd:o.guard=none)(ty:TypeId)(x y:Operand)(ho:o.op=.store ty x y)
  (B E g n cap off:Nat) (hx:a.eval x=.pointer (some ⟨g,off,none⟩)) (C:Array Value) (hy:a.eval y=.agg C) (hi:(P.info? ty).map (·.size)=some C.size) (xs:List Value) (hown:Own w B E (.slice (some ⟨g,0,none⟩) n cap) xs) (hle:off+C.size<=xs.length) (h1:∀u∈C.toList,u.oneCell'=true)
  (h:∀w',Own w' B E (.slice (some ⟨g,0,none⟩) n cap) (xs.take off++C.toList++xs.drop (off+C.size))->w.grownBy w' (some g)->wpList P ops Q rest (a.put o.dst undef) w'):wpList P ops Q (o::rest) a w:=by
 have hst:=run_storeCells_cells (P:=P) g off C.toList 0 w (fun j hj=>by
   rw[Array.length_toList]at hj;rw[Nat.add_zero,hown.cell (by omega)];rfl) (fun j _=>by rw[Nat.add_zero];exact hown.free _) h1
 have hl:=hown.storeList C.toList off (by simpa using hle)
 rw[Array.length_toList]at hl;refine wpList_plain hgd fun K hK=>?_
 have hsz:(sizeOf ty).run P w=.ok C.size w:=by
  cases hq:P.info? ty with
  |none=>simp[hq]at hi
  |some i=>simp[hq]at hi;simp[sizeOf,typeInfo,hq,hi]
 rw[Nat.add_zero]at hst;unfold Oper.wp execOp;simp only[ho,hx,hy,Instr.storeAt,Instr.sureAddr,storeVar,Value.cells,Sem.run_bind,Sem.run_pure,Result.andThen_ok,hsz,ne_eq,not_true_eq_false,if_false,hst]
 exact hK _ _ (h _ hl.1 hl.2)
structure kS(w:World)(T n g:Nat)(cl:List Int):Prop where
 own:Own w g T (.slice (some ⟨g,0,none⟩) n n) (ints cl)
 len:cl.length=n
section
variable {w w' : World} {T n g : Nat} {cl : List Int}
theorem kS.keep{row:Option Nat}(h:kS w T n g cl)(hg:w.grownBy w' row)(hne:row≠some g):kS w' T n g cl:=⟨h.own.keep hg (.inr (fun e=>hne e.symm)),h.len⟩
theorem kS.up(h:kS w T n g cl)(hb:Below w.heap.size w w'):kS w' T n g cl:=⟨h.own.up hb,h.len⟩
theorem kS.lt(h:kS w T n g cl):g<w.heap.size:=(h.own.lt g rfl).2
theorem kS.cell(h:kS w T n g cl){c:Nat}(hc:c<n):w.cell? ⟨g,c,none⟩=some (.int .i64 (cl.getD c 0)):=by
 rw[h.own.cell (by rw[bW,h.len];exact hc),eV _ _ (by rw[h.len];exact hc)]
theorem kS.free(h:kS w T n g cl)(c:Nat):w.frozen? ⟨g,c,none⟩=false:=h.own.free c
theorem kS.set(h:kS w T n g cl)(c:Nat)(k:Int):kS (w.setCell ⟨g,c,none⟩ (.int .i64 k)) T n g (cl.set c k)/\w.grownBy (w.setCell ⟨g,c,none⟩ (.int .i64 k)) (some g):=by
 obtain⟨h1,h2⟩:=h.own.store c (.int .i64 k);have e:(ints cl).set c (.int .i64 k)=ints (cl.set c k):=by simp[ints,List.map_set]
 rw[e]at h1
 exact⟨⟨h1,by simp[h.len]⟩,h2⟩
theorem kS.open(h:kS w T n g cl):∃A,w.heap[g]? =some (.cells A T (0,0))/\A.size=n/\A.toList=ints cl:=by
 rcases h.own.1.2 with⟨h1,_⟩|⟨g',cap,cur,h1,_,hg,hnc,hcm,hcs,q91⟩
 ·cases h1
 ·simp only[Value.slice.injEq,Option.some.injEq,Addr.mk.injEq,and_true]at h1
  obtain⟨rfl,h2,rfl⟩:=h1;have hl:(ints cl).length=n:=by rw[bW,h.len]
  have hs:cur.size=n:=by omega
  refine⟨cur,hg,hs,?_⟩;rw[<-q91,List.take_of_length_le];rw[Array.length_toList];omega
theorem rE(w:World)(T:Nat)(A:Array Value)(cl:List Int)(hA:A.toList=ints cl)(hn:cl.length<=4294967296):kS (w.alloc (.cells A T)) T cl.length w.heap.size cl:=by
 have hs:A.size=cl.length:=by rw[<-Array.length_toList,hA,bW]
 have h:=qE w w.heap.size A T (by rw[hs];exact hn) (q9 _)
 rw[hA,hs]at h
 exact⟨h,rfl⟩
end
theorem qI{P:Program}{ops:Array Oper}{rest:List Oper}{o:Oper}{a:Act}{w:World}{Q:Exit->Act->World->Prop}(hgd:o.guard=none)(T n:Nat)(x:Operand)(ho:o.op=.load T x)
  (g:Nat) (hx:a.eval x=.pointer (some ⟨g,0,none⟩)) (A:Array Value) (hs:A.size=n) (hg:w.heap[g]? =some (.cells A T (0,0))) (d:TypeDesc) (hu:P.underlying T=some d) (hd:(match d with|.struct _|.array _ _=>true|_=>false)=true) (hi:(P.info? T).map (·.size)=some n)
  (h:wpList P ops Q rest (a.put o.dst (.agg A)) w):wpList P ops Q (o::rest) a w:=
 jP hgd T x ho g 0 n hx T A A (0,0) d hg hu hd hi (by rw[hs];omega) (by rw[<-hs];simp) h
theorem jg{P:Program}{C:World->Prop}{o:Oper}{a:Act}{K:Act->Prop}(T n:Nat)(x:Operand)(ho:o.op=.load T x)(g:Nat)(hx:a.eval x=.pointer (some ⟨g,0,none⟩))(A:Array Value)(hs:A.size=n)
  (hg:∀w',C w'->w'.heap[g]? =some (.cells A T (0,0))) (d:TypeDesc) (hu:P.underlying T=some d) (hd:(match d with|.struct _|.array _ _=>true|_=>false)=true) (hi:(P.info? T).map (·.size)=some n) (h:K (a.put o.dst (.agg A))):o.quiet P a C K:=by
 refine⟨.agg A,fun w' hw'=>?_,h⟩
 have hl:=aG (P:=P) w' g 0 n T T A (0,0) d (hg w' hw') hu hd hi (by rw[hs];omega)
 unfold Oper.quietAt execOp;simp only[ho,hx,Instr.loadAt,Instr.sureAddr,Sem.run_bind,Sem.run_pure,Result.andThen_ok,hl,Oper.quietUpon]
 exact⟨trivial,by rw[<-hs];simp⟩
theorem pQ{P:Program}{fn:Func}{tmps:Array Value}{w:World}{a t b:Nat}{ad:Addr}{v:Value}(hf:fn.results=#[.cell a t,.tmp b])(ha:tmps.getD a undef=.pointer (some ad))(hl:(loadVar t ad).run P w=.ok v w):
  (results fn tmps).run P w=.ok (.tuple #[v,tmps.getD b undef]) w:=by
 have ha':tmps[a]?.getD undef=.pointer (some ad):=by simpa using ha
 simp[results,hf,asAddr,ha',hl]
theorem qR{P:Program}{fn:Func}{tmps:Array Value}{w:World}{ds:List Deferred}{s b t:Nat}{ad:Addr}{x y:Value}{R:Ending->World->Prop}(hf:fn.results=#[.cell s t,.tmp b])(ha:tmps.getD s undef=.pointer (some ad))(hb:tmps.getD b undef=y)(hd:ds=[])
  (hl:(loadVar t ad).run P w=.ok x w) (h:R (.returned (.tuple #[x,y])) w):bodyPost P fn R .ret ⟨tmps,ds⟩ w:=
 bodyPost_ret (v:=.tuple #[x,y]) (by rw[pQ hf ha hl,hb]) hd h
theorem kS.load{P:Program}{w:World}{T n g:Nat}{cl:List Int}(h:kS w T n g cl)(d:TypeDesc)(hu:P.underlying T=some d)(hd:(match d with|.struct _|.array _ _=>true|_=>false)=true)(hi:(P.info? T).map (·.size)=some n):
  (loadVar T ⟨g,0,none⟩).run P w=.ok (.agg (ints cl).toArray) w:=by
 obtain⟨A,hg,hs,hA⟩:=h.open;have hl:=aG (P:=P) w g 0 n T T A (0,0) d hg hu hd hi (by omega)
 have e:A.extract 0 (0+n)=(ints cl).toArray:=by rw[Nat.zero_add,<-hs,Array.extract_size,<-hA]
 rw[e]at hl
 exact hl
def SlK(k:Nat)(w:World)(v:Value)(l:List (List Value)):Prop:=
 ∃oa cap b off,v=.slice oa l.length cap/\Hd w oa l.length cap b off/\∀i,i<l.length->∀c,c<k->w.cell? ⟨b,off+i*k+c,none⟩=some ((l.getD i []).getD c undef)
theorem SlK.up{k:Nat}{w w':World}{v:Value}{l:List (List Value)}(h:SlK k w v l)(hb:Below w.heap.size w w'):SlK k w' v l:=by
 obtain⟨oa,cap,b,off,rfl,hd,hc⟩:=h;refine⟨oa,cap,b,off,rfl,⟨hd.hat,hd.hcap,hd.hmax,hd.hsml,fun h=>qd (hd.hblk h) hb.size⟩,fun i hi c hcl=>?_⟩
 rw[hb.cell (p:=⟨b,off+i*k+c,none⟩) (hd.hblk (by omega))]
 exact hc i hi c hcl
theorem SlK.nil(k:Nat)(w:World):SlK k w (.slice none 0 0) []:=⟨none,0,0,0,rfl,⟨fun h=>absurd h (Nat.lt_irrefl 0),q9 _,by simp[maxLen],by simp,fun h=>absurd h (Nat.lt_irrefl 0)⟩,fun i hi=>absurd hi (Nat.not_lt_zero i)⟩
theorem vH{P:Program}{E:TypeId}{k:Nat}(hE:(P.info? E).map (·.size)=some k)(W:World):(sizeOf E).run P W=.ok k W:=by
 cases hq:P.info? E with
 |none=>simp[hq]at hE
 |some inf=>
  have hs:inf.size=k:=by simpa[hq]using hE
  simp[sizeOf,typeInfo,hq,hs]
theorem jy{P:Program}{w:World}{oa:Option Addr}{b off len cap:Nat}(k:Nat)(T E:TypeId)(hT:P.underlying T=some (.slice E))(hE:(P.info? E).map (·.size)=some k)(h:Hd w oa len cap b off):
  ∀(W:World) (kd:IntKind) (i:Int),0<=i->i<len->(Instr.indexAt T (.slice oa len cap) (.int kd i)).run P W=.ok (.pointer (some ⟨b,off+i.toNat*k,none⟩)) W:=by
 intro W kd i h0 h1;rw[h.hat (by omega)]
 have he:P.elem T=E:=by simp[Program.elem,hT]
 rw[run_indexAt_slice W T ⟨b,off,none⟩ len cap kd i (by rw[he];exact hT),if_pos ⟨h0,h1⟩,he,vH hE]
 simp[Result.andThen,Addr.add]
theorem q29{P:Program}{k:Nat}(t E:TypeId)(ht:P.underlying t=some (.slice E))(hE:(P.info? E).map (·.size)=some k):P.underlying t=some (.slice (P.elem t))/\∀W:World,(sizeOf (P.elem t)).run P W=.ok k W:=by
 have he:P.elem t=E:=by simp[Program.elem,ht]
 refine⟨by rw[he];exact ht,fun W=>?_⟩
 rw[he];exact vH hE W
theorem SlK.high{P:Program}{k:Nat}{w:World}{v:Value}{l:List (List Value)}(h:SlK k w v l)(t E:TypeId)(ht:P.underlying t=some (.slice E))(hE:(P.info? E).map (·.size)=some k)(n:Nat)(hn:n<=l.length):
  ∃u,(∀W:World,(Instr.sliceAt t v (some (.int .i64 (n:Int))) none none).run P W=.ok u W)/\SlK k w u (l.drop n):=by
 obtain⟨oa,cap,b,off,rfl,hd,hc⟩:=h;obtain⟨h1,h2⟩:=q29 t E ht hE;have hcap:=hd.hcap;have hl:(l.drop n).length=l.length-n:=by rw[List.length_drop]
 refine⟨sliced oa n l.length cap k,fun W=>?_,?_⟩
 ·rw[run_sliceAt_slice (P:=P) (t:=t) (h:=h1),run_slice_l (t:=t) (ht:=h1) (h0:=by omega) (h1:=by omega),h2]
  simp[Result.andThen]
 ·refine⟨if cap=n then oa else oa.map (·.add (n*k)),cap-n,b,off+n*k,by rw[hl];simp[sliced],⟨fun h0=>?_,by omega,by have:=hd.hmax;omega,by have:=hd.hsml;omega,fun h0=>hd.hblk (by omega)⟩,fun i hi c hcl=>?_⟩
  ·rw[hl]at h0
   rw[if_neg (by omega),hd.hat (by omega)]
   simp[aZ]
  ·rw[hl]at hi
   have:=hc (n+i) (by omega) c hcl
   rw[Nat.add_mul,<-Nat.add_assoc]at this;rw[this]
   simp[List.getD]
theorem gH{P:Program}(w:World)(g off n:Nat)(ty:TypeId)(C:Array Value)(d:TypeDesc)(hc:∀c,c<n->w.cell? ⟨g,off+c,none⟩=some (C.getD c undef))(hs:C.size=n)
  (hu:P.underlying ty=some d) (hd:(match d with|.struct _|.array _ _=>true|_=>false)=true) (hi:(P.info? ty).map (·.size)=some n):
  (loadVar ty ⟨g,off,none⟩).run P w=.ok (.agg C) w:=by
 have hl:(loadCells ⟨g,off,none⟩ C.toList.length).run P w=.ok C.toList.toArray w:=
  run_loadCells_list (P:=P) w ⟨g,off,none⟩ C.toList (fun j v hv=>by
   rw[aZ]
   have hj:j<n:=by
    have:=(List.getElem?_eq_some_iff.1 hv).1;rw[Array.length_toList]at this;omega
   rw[hc j hj];simp only[Array.getElem?_toList]at hv
   simp[Array.getD_eq_getD_getElem?,hv])
 rw[Array.length_toList,hs]at hl;simp only[Array.toArray_toList]at hl
 have hagg:(isAgg ty).run P w=.ok true w:=by
  unfold isAgg;rw[Sem.run_bind,run_underlying hu w]
  cases d<;>simp_all
 simp[loadVar,Sem.run_bind,hagg,vH hi,hl]
theorem qG{P:Program}{ops:Array Oper}{rest:List Oper}{o:Oper}{a:Act}{w:World}{Q:Exit->Act->World->Prop}(hgd:o.guard=none)(ty:TypeId)(x:Operand)(ho:o.op=.load ty x)
  (g off n:Nat) (hx:a.eval x=.pointer (some ⟨g,off,none⟩)) (C:Array Value) (d:TypeDesc) (hc:∀c,c<n->w.cell? ⟨g,off+c,none⟩=some (C.getD c undef)) (hs:C.size=n)
  (hu:P.underlying ty=some d) (hd:(match d with|.struct _|.array _ _=>true|_=>false)=true) (hi:(P.info? ty).map (·.size)=some n)
  (h:wpList P ops Q rest (a.put o.dst (.agg C)) w):wpList P ops Q (o::rest) a w:=by
 refine wpList_plain hgd fun K hK=>?_
 unfold Oper.wp execOp;simp only[ho,hx,Instr.loadAt,Instr.sureAddr,Sem.run_bind,Sem.run_pure,Result.andThen_ok,gH w g off n ty C d hc hs hu hd hi]
 exact hK _ _ h
def eK(k:Nat)(w:World)(B:Nat)(E:TypeId)(v:Value)(l:List (List Value)):Prop:=
 w.ownsRow B E k v l.length l.flatten/\l.length<=140737488351232/\∀x∈l,x.length=k
theorem eK.nil(k:Nat)(w:World)(B:Nat)(E:TypeId):eK k w B E (.slice none 0 0) []:=⟨World.ownsRow_nil w B E k,by simp,by simp⟩
theorem i6{k:Nat}{l:List (List Value)}(h:∀x∈l,x.length=k):l.flatten.length=l.length*k:=by
 induction l with
 |nil=>simp
 |cons x l ih=>
  rw[List.flatten_cons,qg,ih (fun y hy=>h y (List.mem_cons_of_mem _ hy)),h x List.mem_cons_self,List.length_cons,Nat.succ_mul,Nat.add_comm]
theorem kT{k:Nat}{l:List (List Value)}(h:∀x∈l,x.length=k):∀(i c:Nat),i<l.length->c<k->l.flatten[i*k+c]? =(l.getD i [])[c]? :=by
 induction l with
 |nil=>intro i c hi;simp at hi
 |cons x l ih=>
  intro i c hi hc;have hx:=h x List.mem_cons_self;rw[List.flatten_cons]
  cases i with
  |zero=>rw[Nat.zero_mul,Nat.zero_add,List.getElem?_append_left (by omega)];simp
  |succ i=>
   rw[List.getElem?_append_right (by rw[hx,Nat.succ_mul];omega),hx,show(i+1)*k+c-k=i*k+c by rw[Nat.succ_mul];omega,ih (fun y hy=>h y (List.mem_cons_of_mem _ hy)) i c (by simpa using hi) hc]
   simp
theorem eK.sl{k:Nat}{w:World}{B:Nat}{E:TypeId}{v:Value}{l:List (List Value)}(h:eK k w B E v l):SlK k w v l:=by
 obtain⟨⟨_,h⟩,hl,hk⟩:=h
 rcases h with⟨rfl,h0⟩|⟨g,cap,cur,rfl,hb,hg,hnc,hcm,hcs,q91⟩
 ·obtain rfl:l=[]:=List.length_eq_zero_iff.1 h0
  exact SlK.nil k w
 ·refine⟨some ⟨g,0,none⟩,cap,g,0,rfl,⟨fun _=>rfl,hnc,hcm,hl,fun _=>(Array.getElem?_eq_some_iff.1 hg).1⟩,fun i hi c hc=>?_⟩
  rw[cell_of_row w g (0+i*k+c) cur E (0,0) hg,Nat.zero_add]
  have hlt:i*k+c<l.length*k:=by
   have h1:(i+1)*k<=l.length*k:=Nat.mul_le_mul_right k hi;rw[Nat.succ_mul]at h1;omega
  have h1:l.flatten[i*k+c]? =cur[i*k+c]? :=by
   rw[<-q91,List.getElem?_take,if_pos hlt];simp
  rw[<-h1,kT hk i c hi hc];have hxl:c<(l.getD i []).length:=by rw[hk _ (by simp[List.getD,hi])];exact hc
  generalize l.getD i []=y at*
  simp[List.getD,hxl]
theorem eK.keep{k:Nat}{w w':World}{B:Nat}{E:TypeId}{v:Value}{l:List (List Value)}{row:Option Nat}(h:eK k w B E v l)(hg:w.grownBy w' row)(hne:v.ownBlock=none\/v.ownBlock≠row):eK k w' B E v l:=⟨h.1.kept hg hne,h.2⟩
theorem eK.up{k:Nat}{w w':World}{B:Nat}{E:TypeId}{v:Value}{l:List (List Value)}(h:eK k w B E v l)(hb:Below w.heap.size w w'):eK k w' B E v l:=
 h.keep (row:=none) ⟨hb.os,hb.tape,hb.output,hb.size,fun k hk _=>hb.block k hk⟩ (by cases v.ownBlock<;>simp)
theorem eK.lt{k:Nat}{w:World}{B:Nat}{E:TypeId}{v:Value}{l:List (List Value)}(h:eK k w B E v l):∀q,v.ownBlock=some q->B<=q/\q<w.heap.size:=h.1.lt
theorem eK.mono{k:Nat}{w:World}{B B' E:Nat}{v:Value}{l:List (List Value)}(h:eK k w B E v l)(hB:B'<=B):eK k w B' E v l:=
 ⟨⟨h.1.1,h.1.2.imp id fun⟨g,cap,cur,h1,h2,h3⟩=>⟨g,cap,cur,h1,by omega,h3⟩⟩,h.2⟩
theorem q2a{P:Program}{k:Nat}(w:World)(B:Nat)(t ty E:TypeId)(z:Value)(bytes:Nat)(ht:P.underlying t=some (.slice E))(q92:(P.info? E).map (fun i=>(i.zero,i.size,i.bytes))=some (some z,k,bytes))(hz:z.cells.size=k)(hk:0<k)(hby:bytes<=64)
  (v:Value) (xs:List (List Value)) (hown:eK k w B E v xs) (xv:Value) (news:List (List Value)) (hx:SlK k w xv news) (hnk:∀x∈news,x.length=k) (h1:∀u∈news.flatten,u.oneCell'=true) (hlen:xs.length+news.length<=1000000000) (hB:B<=w.heap.size):
  ∃v' w',(Builtin.append_ #[t,t] ty #[v,xv]).run P w=.ok v' w'/\eK k w' B E v' (xs++news)/\w.grownBy w' v.ownBlock/\(∀q,v'.ownBlock=some q->v.ownBlock=some q\/w.heap.size<=q):=by
 obtain⟨i0,hi,hz0,hz1,hz2⟩:∃i0,P.info? E=some i0/\i0.zero=some z/\i0.size=k/\i0.bytes=bytes:=by
  cases hq:P.info? E with
  |none=>simp[hq]at q92
  |some i0=>simp[hq]at q92;exact⟨i0,rfl,q92.1,q92.2.1,q92.2.2⟩
 have hl1:xs.length+news.length<=maxLen:=by simp only[maxLen];omega
 have hl2:(xs.length+news.length)*bytes<=140737488355328:=by
  have:=Nat.mul_le_mul hlen hby;omega
 obtain⟨oa,cx,b,off,rfl,hd,hc⟩:=hx;obtain⟨hrow,hsm,hxk⟩:=hown;have q94:news.flatten.length=news.length*k:=i6 hnk
 have hall:∀x∈xs++news,x.length=k:=fun x hx=>by
  rcases List.mem_append.1 hx with h|h
  ·exact hxk x h
  ·exact hnk x h
 have q96:(xs++news).length<=140737488351232:=by rw[qg];omega
 by_cases hn:news=[]
 ·subst hn
  refine⟨v,w,?_,⟨by simpa using hrow,by simpa using hsm,by simpa using hxk⟩,⟨rfl,rfl,rfl,q9 _,fun _ _ _=>rfl⟩,fun k hk=>.inl hk⟩
  rcases hrow.2 with⟨rfl,hx0⟩|⟨g,cap,cur,rfl,_,_,hnc,_⟩
  ·cases oa<;>simp[Builtin.append_,run_underlying ht,sizeOf,typeInfo,hi,Builtin.lenOf,Builtin.firstCells,loadCells,loadCellsFrom]
  ·cases oa<;>simp[Builtin.append_,run_underlying ht,sizeOf,typeInfo,hi,Builtin.lenOf,Builtin.firstCells,loadCells,loadCellsFrom,hnc,storeCells]
 ·have q9P:0<news.length:=List.length_pos_iff.2 hn
  obtain rfl:=hd.hat q9P
  have hnews:∀j u,news.flatten[j]? =some u->w.cell? ((⟨b,off,none⟩:Addr).add j)=some u:=fun j u hu=>by
   have hj:=(List.getElem?_eq_some_iff.1 hu).1;rw[q94]at hj;have hdm:j=j/k*k+j%k:=by rw[Nat.mul_comm];exact(Nat.div_add_mod j k).symm
   have hq:j/k<news.length:=(Nat.div_lt_iff_lt_mul hk).2 hj;have hm:=Nat.mod_lt j hk;rw[aZ,hdm,<-Nat.add_assoc,hc (j/k) hq (j%k) hm];rw[hdm,kT hnk _ _ hq hm]at hu;rw[List.getD_eq_getElem?_getD,hu];rfl
  rcases hrow.2 with⟨rfl,hx0⟩|⟨g,cap,cur,rfl,hbg,hg,hnc,hcm,hcs,q91⟩
  ·obtain rfl:xs=[]:=List.length_eq_zero_iff.1 hx0
   obtain⟨v',w',hr,ho,hgr,-⟩:=run_append_own (P:=P) w w.heap.size t ty E i0 z k bytes ht hi hz0 hz1 hz2 hz hk (.slice none 0 0) 0 [] (World.ownsRow_nil _ _ _ _) ⟨b,off,none⟩ news.length cx news.flatten q94 hnews h1 (by simpa using hl1) (by simpa using hl2) (q9 _)
   have hkk:=ho.lt;refine⟨v',w',hr,⟨⟨by simpa using q94,?_⟩,q96,hall⟩,hgr,fun q hq=>.inr (hkk q hq).1⟩
   simp only[Nat.zero_add,List.nil_append]at ho
   rcases ho.2 with⟨h1,h2⟩|⟨g,cap,cur,h1,h2,h3⟩
   ·exact .inl ⟨h1,by simpa using h2⟩
   ·exact .inr ⟨g,cap,cur,h1,by omega,by simpa using h3⟩
  ·by_cases hroom:xs.length+news.length<=cap
   ·obtain⟨w',hr,ho,hgr⟩:=run_append_fits (P:=P) w B t ty E i0 k ht hi hz1 g xs.length cap xs.flatten ⟨hrow.1,.inr ⟨g,cap,cur,rfl,hbg,hg,hnc,hcm,hcs,q91⟩⟩ ⟨b,off,none⟩ news.length cx news.flatten q94 hnews h1 hroom
    exact⟨_,w',hr,⟨by rw[qg,List.flatten_append];exact ho,q96,hall⟩,hgr,fun k hk=>.inl hk⟩
   ·have holds:∀j u,xs.flatten[j]? =some u->w.cell? ((⟨g,0,none⟩:Addr).add j)=some u:=World.ownsRow.cells (g:=g) hrow rfl
    have hxl:xs.flatten.length=xs.length*k:=i6 hxk;have hr:=run_append_grow (P:=P) w t ty E i0 z ht hi hz0 ⟨g,0,none⟩ xs.length cap xs.flatten (by rw[hz1];exact hxl) holds ⟨b,off,none⟩ news.length cx news.flatten (by rw[hz1];exact q94) hnews (by omega) (by omega) (growslice_fits (by omega) (by rw[hz2];exact hl2))
    have hge:=grownCap_ge w (xs.length+news.length) cap E;have qbF:grownCap w (xs.length+news.length) cap E<=maxLen:=grownCap_le_maxLen w _ cap E hl1;refine⟨_,_,hr,⟨⟨by rw[qg,List.flatten_append,qg,hxl,q94,Nat.add_mul],.inr ⟨w.heap.size,_,_,by rw[qg],hB,heap_alloc_new w.drew _,by rw[qg];exact hge,qbF,?_,?_⟩⟩,q96,hall⟩,⟨rfl,rfl,rfl,by simp,fun k hk _=>Below.heap_alloc w.drew _ k hk⟩,fun k hk=>.inr (by simp[Value.ownBlock]at hk;omega)⟩
    ·simp only[Array.size_append,List.size_toArray,size_zeroCells,hz,hxl,q94,<-Nat.add_mul]
     congr 1;omega
    ·simp only[Array.toList_append,qh,qg,List.flatten_append]
     rw[<-qh,Nat.add_mul,<-hxl,<-q94,<-qg]
     exact List.take_left
theorem rS{P:Program}{ops:Array Oper}{rest:List Oper}{o:Oper}{a:Act}{w:World}{Q:Exit->Act->World->Prop}(k:Nat)(hgd:o.guard=none)(s x:Operand)(t:TypeId)
  (ho:o.op=.call {callee:=.builtin .append,args:=#[s,x],argTypes:=#[t,t]})
  (B E:TypeId) (z:Value) (bytes:Nat) (ht:P.underlying t=some (.slice E)) (q92:(P.info? E).map (fun i=>(i.zero,i.size,i.bytes))=some (some z,k,bytes)) (hz:z.cells.size=k) (hk:0<k) (hby:bytes<=64)
  (v:Value) (xs:List (List Value)) (hs:a.eval s=v) (hown:eK k w B E v xs) (xv:Value) (news:List (List Value)) (hxe:a.eval x=xv) (hx:SlK k w xv news) (hnk:∀x∈news,x.length=k) (h1:∀u∈news.flatten,u.oneCell'=true) (hlen:xs.length+news.length<=1000000000) (hB:B<=w.heap.size)
  (h:∀v' w',eK k w' B E v' (xs++news)->w.grownBy w' v.ownBlock->(∀q,v'.ownBlock=some q->v.ownBlock=some q\/w.heap.size<=q)->wpList P ops Q rest (a.put o.dst v') w'):wpList P ops Q (o::rest) a w:=by
 obtain⟨v',w',hr,h2,h3,h4⟩:=q2a (P:=P) w B t o.type E z bytes ht q92 hz hk hby v xs hown xv news hx hnk h1 hlen hB;refine wpList_plain hgd fun K hK=>?_
 unfold Oper.wp execOp;simp only[ho,resolve,invoke,builtin,Sem.run_bind,Sem.run_pure,Result.andThen_ok,List.map_toArray,List.map_cons,List.map_nil,hs,hxe,hr]
 exact hK _ _ (h v' w' h2 h3 h4)
theorem iY(k:Nat)(w:World)(c:Array Value)(E:TypeId)(l:List (List Value))(hl:c.toList=l.flatten)(hk:∀x∈l,x.length=k)(hc:l.length<=4294967296):SlK k (w.alloc (.cells c E)) (.slice (some ⟨w.heap.size,0,none⟩) l.length l.length) l:=by
 refine⟨some ⟨w.heap.size,0,none⟩,l.length,w.heap.size,0,rfl,⟨fun _=>rfl,q9 _,by simp only[maxLen];omega,by omega,fun _=>by simp⟩,fun i hi x hx=>?_⟩
 rw[Nat.zero_add,World.cell?_alloc_new,<-Array.getElem?_toList,hl,kT hk i x hi hx]
 have hxl:x<(l.getD i []).length:=by rw[hk _ (by simp[List.getD,hi])];exact hx
 generalize l.getD i []=y at*
 simp[List.getD,hxl]
theorem Own.whole{w:World}{B T g n:Nat}{xs:List Value}(h:Own w B T (.slice (some ⟨g,0,none⟩) n n) xs):∃A,w.heap[g]? =some (.cells A T (0,0))/\A.size=n/\A.toList=xs:=by
 have hl:=h.len
 rcases h.1.2 with⟨h1,_⟩|⟨g',cap,cur,h1,_,hg,hnc,hcm,hcs,q91⟩
 ·cases h1
 ·simp only[Value.slice.injEq,Option.some.injEq,Addr.mk.injEq,and_true]at h1
  obtain⟨rfl,h2,rfl⟩:=h1;have hs:cur.size=n:=by omega
  refine⟨cur,hg,hs,?_⟩;rw[<-q91,List.take_of_length_le];rw[Array.length_toList];omega
theorem yF{P:Program}{fn:Func}{tmps:Array Value}{w:World}{a t:Nat}{ad:Addr}{v:Value}(hf:fn.results=#[.cell a t])(ha:tmps.getD a undef=.pointer (some ad))(hl:(loadVar t ad).run P w=.ok v w):
  (results fn tmps).run P w=.ok v w:=by
 have ha':tmps[a]?.getD undef=.pointer (some ad):=by simpa using ha
 simp[results,hf,asAddr,ha',hl]
theorem bC{P:Program}{fn:Func}{tmps:Array Value}{w:World}{ds:List Deferred}{s t:Nat}{ad:Addr}{x:Value}{R:Ending->World->Prop}(hf:fn.results=#[.cell s t])(ha:tmps.getD s undef=.pointer (some ad))(hd:ds=[])
  (hl:(loadVar t ad).run P w=.ok x w) (h:R (.returned x) w):bodyPost P fn R .ret ⟨tmps,ds⟩ w:=
 bodyPost_ret (v:=x) (yF hf ha hl) hd h
theorem bD{P:Program}{w:World}{B T g n:Nat}{xs:List Value}(h:Own w B T (.slice (some ⟨g,0,none⟩) n n) xs)(d:TypeDesc)(hu:P.underlying T=some d)(hd:(match d with|.struct _|.array _ _=>true|_=>false)=true)(hi:(P.info? T).map (·.size)=some n):
  (loadVar T ⟨g,0,none⟩).run P w=.ok (.agg xs.toArray) w:=by
 obtain⟨A,hg,hs,hA⟩:=h.whole;have hl:=aG (P:=P) w g 0 n T T A (0,0) d hg hu hd hi (by omega)
 have e:A.extract 0 (0+n)=xs.toArray:=by rw[Nat.zero_add,<-hs,Array.extract_size,<-hA]
 rw[e]at hl
 exact hl
end Go.Cm
namespace Go.Cm
open Classical in
open Classical in
open Classical in
theorem bN{α:Type}(l:List α)(k:Nat)(d:α)(h:k<l.length):l.take (k+1)=l.take k++[l.getD k d]:=by
 rw[List.take_succ_eq_append_getElem h,List.getD_eq_getElem?_getD,List.getElem?_eq_getElem h,Option.getD_some]
theorem jT{α:Type}(l:List α)(k:Nat)(d:α)(h:k<l.length):l.getD k d∈l:=by
 simp[List.getD,h]
def nls(l:List Nat):List Int:=l.map fun n:Nat=>(n:Int)
theorem qB(l:List Nat):(nls l).length=l.length:=by simp[nls]
theorem jb(l:List Nat)(i:Nat):(nls l).getD i 0=(l.getD i 0:Nat):=by
 simp only[nls,List.getD_eq_getElem?_getD,List.getElem?_map]
 cases l[i]? <;>simp
theorem i7(l:List Nat)(i n:Nat):(nls l).set i (n:Int)=nls (l.set i n):=by simp[nls,List.map_set]
def jU(l:List Int):Nat:=if 320<l.length then 3 else if(∀x∈l,0<=x/\x<=15)then 0 else 1
theorem i8{l:List Int}(h:jU l=0):l.length<=320/\∀x∈l,0<=x/\x<=15:=by
 unfold jU at h;split at h
 ·cases h
 ·split at h
  ·exact⟨by omega,by assumption⟩
  ·cases h
theorem K0{l:List Int}(h:∀x∈l,0<=x/\x<=15):∃L:List Nat,l=nls L/\∀x∈L,x<=15:=by
 refine⟨l.map Int.toNat,?_,fun x hx=>?_⟩
 ·unfold nls
  rw[List.map_map]
  conv=>lhs;rw[<-List.map_id l]
  refine List.map_congr_left fun x hx=>?_
  have:=h x hx
  show x=((x.toNat:Nat):Int)
  omega
 ·obtain⟨y,hy,rfl⟩:=List.mem_map.1 hx
  have:=h y hy;omega
theorem tX{L:List Nat}(h1:L.length<=320)(h:∀x∈L,x<=15):jU (nls L)=0:=by
 unfold jU;rw[qB,if_neg (by omega),if_pos]
 intro x hx;obtain⟨y,hy,rfl⟩:=List.mem_map.1 hx;have:=h y hy;omega
def kw(x:Nat):Nat:=if 0<x then 2^(15-x)else 0
def jp(L:List Nat):Nat:=(L.map kw).sum
def bE(l:List Int):Nat:=if jU l≠0 then jU l else if 32768<jp (l.map Int.toNat)then 7 else 0
theorem jm(L:List Nat):(nls L).map Int.toNat=L:=by
 unfold nls;rw[List.map_map]
 conv=>rhs;rw[<-List.map_id L]
 exact List.map_congr_left fun x _=>by simp
def jJ(L:List Nat):Nat->Nat
 |0=>0
 |n+1=>if n=0 then 0 else 2*(jJ L n+L.count n)
def yG(L:List Nat)(i:Nat):Nat:=(L.take i).count (L.getD i 0)
def jB(L:List Nat)(i:Nat):Nat:=if L.getD i 0=0 then 0 else jJ L (L.getD i 0)+yG L i
def bA(L:List Nat):List Nat:=(List.range L.length).map (jB L)
def pH(L:List Nat):Nat->Nat
 |0=>0
 |k+1=>pH L k+L.count (k+1)*2^(14-k)
theorem K1(k:Nat):pH [] k=0:=by induction k with
 |zero=>rfl
 |succ k ih=>simp[pH,ih]
theorem yH(x:Nat)(L:List Nat)(k:Nat)(hk:k<=15):pH (x::L) k=pH L k+if 0<x/\x<=k then 2^(15-x)else 0:=by
 induction k with
 |zero=>simp[pH];omega
 |succ k ih=>
  simp only[pH];rw[ih (by omega),List.count_cons]
  by_cases h:x=k+1
  ·subst h
   rw[if_neg (show¬(0<k+1/\k+1<=k) by omega),if_pos (show 0<k+1/\k+1<=k+1 by omega),if_pos (beq_self_eq_true _)]
   rw[Nat.add_mul,Nat.one_mul,show 15-(k+1)=14-k by omega];omega
  ·have:(x==k+1)=false:=by simpa using h
   simp only[this,Bool.false_eq_true,if_false,Nat.add_zero]
   by_cases h2:0<x/\x<=k
   ·rw[if_pos h2,if_pos (by omega)];omega
   ·rw[if_neg h2,if_neg (by omega)];omega
theorem vI(L:List Nat)(h:∀x∈L,x<=15):pH L 15=jp L:=by
 induction L with
 |nil=>rw[K1];rfl
 |cons x L ih=>
  rw[yH x L 15 (by omega),ih (fun y hy=>h y (by simp[hy]))]
  have hx:=h x (by simp)
  unfold jp kw;simp only[List.map_cons,List.sum_cons]
  by_cases h2:0<x
  ·rw[if_pos ⟨h2,hx⟩,if_pos h2];omega
  ·rw[if_neg (by omega),if_neg h2];omega
theorem Y6 (L : List Nat) {j k : Nat} (h : j ≤ k) : pH L j ≤ pH L k := by
  induction k with
  | zero => have : j = 0 := by omega
            subst this; exact q9 _
  | succ k ih =>
    by_cases e : j = k + 1
    · subst e; exact q9 _
    · exact qa (ih (by omega)) (by simp [pH])
theorem q2b(c:Nat)(hc:2^15<=c)(L:List Nat)(k:Nat)(hk:k<=15):pH L k<=L.length*c:=by
 induction L with
 |nil=>rw[K1];exact qc _
 |cons x L ih=>
  rw[yH x L k hk,List.length_cons,Nat.add_mul,Nat.one_mul];refine Nat.add_le_add ih ?_;split
  ·exact qa (qe (by decide) (by omega)) hc
  ·exact qc _
theorem q4l(L:List Nat)(k:Nat)(hk:k<=15):pH L k<=L.length*32768:=q2b 32768 (by decide) L k hk
theorem Y7(L:List Nat)(n:Nat)(hn:n<=14):jJ L (n+1)*2^(14-n)=pH L n:=by
 induction n with
 |zero=>simp[jJ,pH]
 |succ n ih=>
  have h:=ih (by omega)
  show(if n+1=0 then 0 else 2*(jJ L (n+1)+L.count (n+1)))*2^(14-(n+1))=pH L n+L.count (n+1)*2^(14-n)
  rw[if_neg (by omega),<-h]
  obtain⟨q,hq⟩:∃q,14-n=q+1:=⟨13-n,by omega⟩
  rw[hq,show 14-(n+1)=q by omega,Nat.pow_succ,<-Nat.add_mul]
  rw[Nat.mul_comm 2,Nat.mul_assoc,Nat.mul_comm 2]
theorem kU(L:List Nat)(n:Nat)(hn:1<=n):jJ L (n+1)=2*(jJ L n+L.count n):=by
 show(if n=0 then 0 else 2*(jJ L n+L.count n))=_
 rw[if_neg (by omega)]
section
variable {L : List Nat} (hL : ∀ x ∈ L, x ≤ 15) (hK : jp L ≤ 32768)
include hL hK
theorem vJ(n:Nat)(h1:1<=n)(h2:n<=15):jJ L n+L.count n<=2^n:=by
 obtain⟨m,rfl⟩:∃m,n=m+1:=⟨n-1,by omega⟩
 have h:=Y7 L m (by omega)
 have h3:pH L (m+1)<=pH L 15:=Y6 L (by omega)
 rw[vI L hL]at h3
 have h4:pH L (m+1)=(jJ L (m+1)+L.count (m+1))*2^(14-m):=by
  show pH L m+L.count (m+1)*2^(14-m)=_
  rw[<-h,Nat.add_mul]
 have h5:(jJ L (m+1)+L.count (m+1))*2^(14-m)<=2^(m+1)*2^(14-m):=by
  rw[<-h4,<-Nat.pow_add,show m+1+(14-m)=15 by omega]
  exact qa h3 hK
 exact Nat.le_of_mul_le_mul_right h5 (Nat.pow_pos (by decide))
theorem L0(n:Nat)(h2:n<=15):jJ L n<=32768:=by
 rcases Nat.eq_zero_or_pos n with rfl|h
 ·simp[jJ]
 ·have:=vJ hL hK n h h2
  have h3:2^n<=2^15:=qe (by decide) h2
  omega
end
theorem Y8(L:List Nat)(n d:Nat)(h1:1<=n):(jJ L n+L.count n)*2^(d+1)<=jJ L (n+(d+1)):=by
 induction d with
 |zero=>rw[show n+(0+1)=n+1 by omega,kU L n h1];omega
 |succ d ih=>
  rw[show n+(d+1+1)=(n+(d+1))+1 by omega,kU L _ (by omega),Nat.pow_succ,<-Nat.mul_assoc]
  omega
theorem Y9(L:List Nat)(i:Nat)(hi:i<L.length):yG L i<L.count (L.getD i 0):=by
 unfold yG;have h:=bN L i 0 hi;have h2:(L.take (i+1)).count (L.getD i 0)<=L.count (L.getD i 0):=List.Sublist.count_le _ (List.take_sublist _ _);rw[h,List.count_append]at h2;simp only[List.count_cons_self,List.count_nil]at h2;omega
theorem jX(L:List Nat)(i n:Nat)(hi:i<L.length):(L.take (i+1)).count n=(L.take i).count n+if L.getD i 0=n then 1 else 0:=by
 rw[bN L i 0 hi,List.count_append,List.count_singleton]
 by_cases h:L.getD i 0=n
 ·simp
 ·rw[if_neg h,if_neg (by simpa using h)]
theorem iA{L:List Nat}(hL:∀x∈L,x<=15)(hK:jp L<=32768)(i:Nat)(hi:i<L.length):jB L i<2^L.getD i 0:=by
 unfold jB;split
 ·rename_i h;rw[h];decide
 ·have h15:=hL _ (jT L i 0 hi)
  have:=vJ hL hK (L.getD i 0) (by omega) h15
  have:=Y9 L i hi;omega
theorem rT{L:List Nat}(i:Nat)(hi:i<L.length)(h0:L.getD i 0≠0):jJ L (L.getD i 0)<=jB L i/\jB L i<jJ L (L.getD i 0)+L.count (L.getD i 0):=by
 unfold jB;rw[if_neg h0];have:=Y9 L i hi;omega
theorem tY{L:List Nat}(i j:Nat)(hi:i<L.length)(hj:j<L.length)(h0:L.getD i 0≠0)(hle:L.getD i 0<=L.getD j 0)(h:jB L j/2^(L.getD j 0-L.getD i 0)=jB L i):i=j:=by
 by_cases he:L.getD i 0=L.getD j 0
 ·rw[he,Nat.sub_self,Nat.pow_zero,Nat.div_one]at h
  unfold jB at h;rw[if_neg (by omega),if_neg h0,he]at h
  have hr:yG L i=yG L j:=by omega
  unfold yG at hr;rw[he]at hr
  rcases Nat.lt_trichotomy i j with hlt|rfl|hlt
  ·have h1:=jX L i (L.getD j 0) hi
   rw[if_pos he]at h1;have h2:(L.take (i+1)).count (L.getD j 0)<=(L.take j).count (L.getD j 0):=List.Sublist.count_le _ (List.take_sublist_take_left (by omega))
   omega
  ·rfl
  ·have h1:=jX L j (L.getD j 0) hj
   rw[if_pos rfl]at h1;have h2:(L.take (j+1)).count (L.getD j 0)<=(L.take i).count (L.getD j 0):=List.Sublist.count_le _ (List.take_sublist_take_left (by omega))
   omega
 ·exfalso
  have h1:=rT i hi h0;have h2:=rT j hj (by omega)
  obtain⟨d,hd⟩:∃d,L.getD j 0=L.getD i 0+(d+1):=⟨L.getD j 0-L.getD i 0-1,by omega⟩
  have h3:=Y8 L (L.getD i 0) d (by omega)
  rw[<-hd]at h3;have h4:(jJ L (L.getD i 0)+L.count (L.getD i 0))*2^(d+1)<=jB L j:=qa h3 h2.1;rw[show L.getD j 0-L.getD i 0=d+1 by omega]at h
  have h5:=(Nat.le_div_iff_mul_le (Nat.pow_pos (n:=d+1) (show 0<2 by decide))).2 h4
  omega
def jj(v:Nat):Nat->Nat
 |0=>0
 |n+1=>2*jj v n+(v.testBit n).toNat
theorem dD(v n:Nat):jj v (n+1)=2*jj v n+(v.testBit n).toNat:=rfl
theorem aF(v n:Nat):jj v n<2^n:=by
 induction n with
 |zero=>simp[jj]
 |succ n ih=>
  rw[dD,Nat.pow_succ];have:(v.testBit n).toNat<=1:=by cases v.testBit n<;>simp
  omega
theorem rU(a:Nat)(b:Bool)(i:Nat):(2*a+b.toNat).testBit i=if i=0 then b else a.testBit (i-1):=by
 cases i with
 |zero=>
  rw[Nat.testBit_zero]
  cases b<;>simp<;>omega
 |succ i=>
  rw[Nat.testBit_succ];have:(2*a+b.toNat)/2=a:=by cases b<;>simp<;>omega
  rw[this];simp
theorem iZ(v n i:Nat):(jj v n).testBit i=(decide (i<n)&&v.testBit (n-1-i)):=by
 induction n generalizing i with
 |zero=>simp[jj]
 |succ n ih=>
  rw[dD,rU]
  cases i with
  |zero=>simp
  |succ i=>
   rw[if_neg (by omega),Nat.add_sub_cancel,ih]
   rw[show n+1-1-(i+1)=n-1-i by omega]
   simp
theorem oM{a b:Nat}(n:Nat)(ha:a<2^n)(hb:b<2^n)(h:∀i,i<n->a.testBit i=b.testBit i):a=b:=by
 apply Nat.eq_of_testBit_eq
 intro i
 rcases Nat.lt_or_ge i n with hi|hi
 ·exact h i hi
 ·rw[Nat.testBit_lt_two_pow (qd ha (qe (by decide) hi)),Nat.testBit_lt_two_pow (qd hb (qe (by decide) hi))]
def aB(m s x:Nat):Nat:=((x>>>s)&&&m)|||(((x&&&m)<<<s)%4294967296)
theorem Z0(m s x i:Nat)(hi:i<32):(aB m s x).testBit i=((x.testBit (s+i)&&m.testBit i)||(decide (s<=i)&&(x.testBit (i-s)&&m.testBit (i-s)))):=by
 unfold aB;rw[Nat.testBit_or,Nat.testBit_and,Nat.testBit_shiftRight,show(4294967296:Nat)=2^32 by decide,Nat.testBit_mod_two_pow,Nat.testBit_shiftLeft,Nat.testBit_and]
 simp[hi]
def vK(x:Nat):Nat:=
 let a:=aB 1431655765 1 x
 let b:=aB 858993459 2 a
 let c:=aB 252645135 4 b
 let e:=aB 16711935 8 c
 (e>>>16)|||((e<<<16)%4294967296)
theorem vL{m s p q:Nat}(x:Nat)(hm:∀i,i<32->m.testBit i=decide (i%q<p))(hq:∀i,i<32->(s<=i/\(i-s)%q<p↔¬i%q<p))(i:Nat)(hi:i<32):(aB m s x).testBit i=if i%q<p then x.testBit (i+s)else x.testBit (i-s):=by
 rw[Z0 m s x i hi,hm i hi];have h1:=hq i hi
 by_cases h:i%q<p
 ·rw[if_pos h,Nat.add_comm]
  by_cases hs:s<=i
  ·have h2:¬(i-s)%q<p:=fun h3=>(h1.1 ⟨hs,h3⟩) h
   rw[hm (i-s) (by omega)]
   simp[h,h2]
  ·simp[h,hs]
 ·obtain⟨h2,h3⟩:=h1.2 h
  rw[if_neg h,hm (i-s) (by omega)]
  simp[h,h2,h3]
theorem Z1(x:Nat)(i:Nat)(hi:i<32):(vK x).testBit i=x.testBit (31-i):=by
 have ha:=vL (m:=1431655765) (s:=1) (p:=1) (q:=2) x (by decide) (by decide)
 have hb:=vL (m:=858993459) (s:=2) (p:=2) (q:=4) (aB 1431655765 1 x) (by decide) (by decide)
 have hc:=vL (m:=252645135) (s:=4) (p:=4) (q:=8) (aB 858993459 2 (aB 1431655765 1 x)) (by decide) (by decide)
 have he:=vL (m:=16711935) (s:=8) (p:=8) (q:=16) (aB 252645135 4 (aB 858993459 2 (aB 1431655765 1 x))) (by decide) (by decide)
 have hr:(vK x).testBit i=if i<16 then(aB 16711935 8 (aB 252645135 4 (aB 858993459 2 (aB 1431655765 1 x)))).testBit (i+16)else(aB 16711935 8 (aB 252645135 4 (aB 858993459 2 (aB 1431655765 1 x)))).testBit (i-16):=by
  unfold vK;simp only;rw[Nat.testBit_or,Nat.testBit_shiftRight,show(4294967296:Nat)=2^32 by decide,Nat.testBit_mod_two_pow,Nat.testBit_shiftLeft]
  by_cases h:i<16
  ·rw[if_pos h,Nat.add_comm]
   simp[hi,show¬16<=i by omega]
  ·rw[if_neg h,Nat.testBit_lt_two_pow (x:=aB 16711935 8 _) (i:=16+i)]
   ·simp[hi,show 16<=i by omega]
   ·refine qd (m:=2^32) ?_ (qe (by decide) (by omega))
    unfold aB;refine Nat.or_lt_two_pow (Nat.lt_of_le_of_lt Nat.and_le_right (by decide)) (Nat.mod_lt _ (by decide))
 rw[hr];split
 ·rename_i h
  rw[he _ (by omega)]
  split<;>rw[hc _ (by omega)]<;>split<;>rw[hb _ (by omega)]<;>split<;>rw[ha _ (by omega)]<;>split<;>(congr 1;omega)
 ·rename_i h
  rw[he _ (by omega)]
  split<;>rw[hc _ (by omega)]<;>split<;>rw[hb _ (by omega)]<;>split<;>rw[ha _ (by omega)]<;>split<;>(congr 1;omega)
theorem L6(x:Nat):vK x<2^32:=by
 unfold vK;simp only;refine Nat.or_lt_two_pow ?_ (Nat.mod_lt _ (by decide))
 refine Nat.lt_of_le_of_lt (Nat.shiftRight_le _ _) ?_;unfold aB
 exact Nat.or_lt_two_pow (Nat.lt_of_le_of_lt Nat.and_le_right (by decide)) (Nat.mod_lt _ (by decide))
theorem S8(v n:Nat)(hn:n<=32):vK (v%2^32)>>>(32-n)=jj v n:=by
 refine oM 32 ?_ ?_ fun i hi=>?_
 ·exact Nat.lt_of_le_of_lt (Nat.shiftRight_le _ _) (L6 _)
 ·exact qd (aF v n) (qe (by decide) hn)
 ·rw[Nat.testBit_shiftRight,iZ]
  by_cases h:i<n
  ·rw[Z1 _ _ (by omega),Nat.testBit_mod_two_pow,show 31-(32-n+i)=n-1-i by omega]
   simp[h,show n-1-i<32 by omega]
  ·rw[Nat.testBit_lt_two_pow (qd (L6 _) (qe (by decide) (show 32<=32-n+i by omega)))]
   simp[h]
theorem dV(V m n:Nat)(h:n<=m):jj (V%2^m) n=jj V n:=by
 refine oM n (aF _ _) (aF _ _) fun i hi=>?_
 rw[iZ,iZ,Nat.testBit_mod_two_pow,decide_eq_true (show n-1-i<m by omega),Bool.true_and]
theorem rV(V n d:Nat):jj V (n+d)/2^d=jj V n:=by
 induction d with
 |zero=>simp
 |succ d ih=>
  rw[<-Nat.add_assoc,dD,Nat.pow_succ,Nat.mul_comm (2^d),<-Nat.div_div_eq_div_mul];have hb:(V.testBit (n+d)).toNat<=1:=by cases V.testBit (n+d)<;>simp
  rw[show(2*jj V (n+d)+(V.testBit (n+d)).toNat)/2=jj V (n+d) by omega,ih]
def lQ(L:List Nat)(V i:Nat):Prop:=L.getD i 0≠0/\jB L i=jj V (L.getD i 0)
theorem rW{L:List Nat}{V i j:Nat}(hi:i<L.length)(hj:j<L.length)(h1:lQ L V i)(h2:lQ L V j):i=j:=by
 have key:∀i j,i<L.length->j<L.length->lQ L V i->lQ L V j->L.getD i 0<=L.getD j 0->i=j:=by
  intro i j hi hj h1 h2 hle;refine tY i j hi hj h1.1 hle ?_;rw[h2.2,h1.2];obtain⟨d,hd⟩:∃d,L.getD j 0=L.getD i 0+d:=⟨L.getD j 0-L.getD i 0,by omega⟩
  rw[hd,Nat.add_sub_cancel_left,rV]
 rcases Nat.le_total (L.getD i 0) (L.getD j 0)with h|h
 ·exact key i j hi hj h1 h2 h
 ·exact(key j i hj hi h2 h1 h).symm
theorem lR{L:List Nat}{V m i:Nat}(h:L.getD i 0<=m):lQ L (V%2^m) i↔lQ L V i:=by
 unfold lQ;rw[dV V m _ h]
def pR(L:List Nat)(V left a e d:Nat):Prop:=
 (a<L.length/\lQ L V a/\L.getD a 0<=left/\e=0/\d=L.getD a 0)\/
 ((∀i,i<L.length->lQ L V i->left<L.getD i 0)/\a=0/\d=0/\e=if left<15 then 2 else 9)
theorem mX{L:List Nat}{V left a e d a' e' d':Nat}(h:pR L V left a e d)(h':pR L V left a' e' d'):a=a'/\e=e'/\d=d':=by
 rcases h with⟨h1,h2,h3,h4,h5⟩|⟨h1,h2,h3,h4⟩
 ·rcases h' with⟨g1,g2,g3,g4,g5⟩|⟨g1,g2,g3,g4⟩
  ·have:=rW h1 g1 h2 g2;subst this;omega
  ·have:=g1 a h1 h2;omega
 ·rcases h' with⟨g1,g2,g3,g4,g5⟩|⟨g1,g2,g3,g4⟩
  ·have:=h1 a' g1 g2;omega
  ·omega
theorem rX{L:List Nat}{V left a e d:Nat}(h:pR L V left a e d):d<=left:=by
 rcases h with⟨h1,h2,h3,h4,h5⟩|⟨h1,h2,h3,h4⟩<;>omega
end Go.Cm
namespace Go.Cm
structure Ent where
 s:Nat
 b:Nat
 t:Nat
def Ent.zero:Ent:=⟨0,0,0⟩
structure Sub where
 g:Nat
 m:Nat
 F:Nat->Ent
theorem bB(c n:Nat)(h:c<2^n):jj (jj c n) n=c:=by
 refine oM n (aF _ _) h fun i hi=>?_
 rw[iZ,iZ,decide_eq_true hi,Bool.true_and,decide_eq_true (show n-1-i<n by omega),Bool.true_and]
 congr 1;omega
theorem vM(x c n:Nat)(h:c<2^n):x%2^n=jj c n↔c=jj x n:=by
 constructor
 ·intro he
  rw[<-dV x n n (q9 _),he,bB c n h]
 ·intro he
  rw[he,<-dV x n n (q9 _),bB _ n (Nat.mod_lt _ (Nat.pow_pos (by decide)))]
theorem Z2(V n r:Nat):jj V (n+r)=jj V n*2^r+jj (V/2^n) r:=by
 induction r with
 |zero=>simp[jj]
 |succ r ih=>
  rw[<-Nat.add_assoc,dD,ih,dD,Nat.testBit_div_two_pow,Nat.pow_succ,Nat.add_comm r n,Nat.mul_add,<-Nat.mul_assoc (jj V n),Nat.mul_comm (jj V n*2^r) 2];omega
def lS(L:List Nat)(j x:Nat):Prop:=9<L.getD j 0/\jB L j/2^(L.getD j 0-9)=jj x 9
section
variable {L : List Nat}
theorem dE{V j:Nat}(h:lQ L V j)(h9:9<L.getD j 0):lS L j (V%512):=by
 refine⟨h9,?_⟩;rw[h.2];obtain⟨d,hd⟩:∃d,L.getD j 0=9+d:=⟨L.getD j 0-9,by omega⟩
 rw[hd,Nat.add_sub_cancel_left,rV,show(512:Nat)=2^9 by decide,dV V 9 9 (q9 _)]
theorem tZ{i j x:Nat}(hi:i<L.length)(hj:j<L.length)(h:lS L j x)(hh:lQ L x i)(h9:L.getD i 0<=9):False:=by
 have:i=j:=by
  refine tY i j hi hj hh.1 (by have:=h.1;omega) ?_
  obtain⟨d,hd⟩:∃d,9=L.getD i 0+d:=⟨9-L.getD i 0,by omega⟩
  have h1:=h.1;have e:L.getD j 0-L.getD i 0=(L.getD j 0-9)+d:=by omega
  rw[e,Nat.pow_add,<-Nat.div_div_eq_div_mul,h.2,hh.2,hd,rV]
 subst this;have:=h.1;omega
theorem rF{j x y:Nat}(hx:x<512)(hy:y<512)(h:lS L j x)(k:lS L j y):x=y:=by
 have e:=h.2.symm.trans k.2;have h1:=bB x 9 (by simpa using hx)
 have h2:=bB y 9 (by simpa using hy)
 rw[<-h1,<-h2,e]
structure eO(L:List Nat)(i:Nat)(E:Nat->Ent)(fs:List Sub):Prop where
 low:∀x,x<512->(E x).t=0->(∀j,j<i->lQ L x j->L.getD j 0<=9->E x=⟨j,L.getD j 0,0⟩)/\((E x).b≠0->∃j,j<i/\lQ L x j/\L.getD j 0<=9)
 far:∀x k,x<512->(E x).t=k+1->∃f,fs[k]? =some f/\f.m<=6/\(∀j,j<L.length->lS L j x->L.getD j 0<=9+f.m)/\(∃j,j<i/\lS L j x)/\
  ∀y,y<2^f.m->(∀j,j<i->9<L.getD j 0->lQ L (x+512*y) j->f.F y=⟨j,L.getD j 0,0⟩)/\((f.F y).b≠0->∃j,j<i/\9<L.getD j 0/\lQ L (x+512*y) j)
 one:∀x y,x<512->y<512->(E x).t=(E y).t->(E x).t≠0->x=y
 all:∀j,j<i->∀x,x<512->lS L j x->(E x).t≠0
theorem eO.start(L:List Nat):eO L 0 (fun _=>Ent.zero) []:=
 ⟨fun x _ _=>⟨fun j hj=>absurd hj (Nat.not_lt_zero j),fun h=>absurd rfl h⟩,fun x k _ h=>(by cases h),fun x y _ _ _ h=>absurd rfl h,fun j hj=>absurd hj (Nat.not_lt_zero j)⟩
variable {i : Nat} {E : Nat → Ent} {fs : List Sub}
def k9(E:Nat->Ent)(c n:Nat)(e:Ent):Nat->Ent:=fun x=>if x%2^n=jj c n then e else E x
theorem eO.none(h:eO L i E fs)(h0:L.getD i 0=0):eO L (i+1) E fs:=by
 have hno:∀V,¬lQ L V i:=fun V hh=>hh.1 h0
 have hnh:∀x,¬lS L i x:=fun x hh=>by have:=hh.1;omega
 refine⟨fun x hx ht=>?_,fun x k hx ht=>?_,h.one,fun j hj x hx hh=>?_⟩
 ·obtain⟨h1,h2⟩:=h.low x hx ht
  refine⟨fun j hj hh=>?_,fun hb=>?_⟩
  ·rcases Nat.lt_succ_iff_lt_or_eq.1 hj with hj|rfl
   ·exact h1 j hj hh
   ·exact absurd hh (hno _)
  ·obtain⟨j,hj,hr⟩:=h2 hb;exact⟨j,by omega,hr⟩
 ·obtain⟨f,hf,hm,hl,⟨j0,hj0,hh0⟩,hy⟩:=h.far x k hx ht
  refine⟨f,hf,hm,hl,⟨j0,by omega,hh0⟩,fun y hym=>?_⟩
  obtain⟨h1,h2⟩:=hy y hym;refine⟨fun j hj h9 hh=>?_,fun hb=>?_⟩
  ·rcases Nat.lt_succ_iff_lt_or_eq.1 hj with hj|rfl
   ·exact h1 j hj h9 hh
   ·exact absurd hh (hno _)
  ·obtain⟨j,hj,hr⟩:=h2 hb;exact⟨j,by omega,hr⟩
 ·rcases Nat.lt_succ_iff_lt_or_eq.1 hj with hj|rfl
  ·exact h.all j hj x hx hh
  ·exact absurd hh (hnh _)
theorem eO.short(h:eO L i E fs)(hi:i<L.length)(h15:∀x∈L,x<=15)(hk:jp L<=32768)(h0:L.getD i 0≠0)(h9:L.getD i 0<=9):
  eO L (i+1) (k9 E (jB L i) (L.getD i 0) ⟨i,L.getD i 0,0⟩) fs:=by
 have hc:=iA h15 hk i hi
 have hE:∀x,k9 E (jB L i) (L.getD i 0) ⟨i,L.getD i 0,0⟩ x=if jB L i=jj x (L.getD i 0)then⟨i,L.getD i 0,0⟩else E x:=fun x=>by
  unfold k9
  by_cases h:x%2^L.getD i 0=jj (jB L i) (L.getD i 0)
  ·rw[if_pos h,if_pos ((vM _ _ _ hc).1 h)]
  ·rw[if_neg h,if_neg (fun q=>h ((vM _ _ _ hc).2 q))]
 have hnh:∀x,¬lS L i x:=fun x hh=>by have:=hh.1;omega
 refine⟨fun x hx ht=>?_,fun x k hx ht=>?_,fun x y hx hy he hne=>?_,fun j hj x hx hh=>?_⟩
 ·rw[hE]at ht⊢
  by_cases hx0:jB L i=jj x (L.getD i 0)
  ·rw[if_pos hx0]at ht⊢
   have qb8:lQ L x i:=⟨h0,hx0⟩;refine⟨fun j hj hh h9'=>?_,fun _=>⟨i,by omega,qb8,h9⟩⟩
   have:i=j:=rW hi (by omega) qb8 hh
   subst this;rfl
  ·rw[if_neg hx0]at ht⊢
   obtain⟨h1,h2⟩:=h.low x hx ht;refine⟨fun j hj hh=>?_,fun hb=>?_⟩
   ·rcases Nat.lt_succ_iff_lt_or_eq.1 hj with hj|rfl
    ·exact h1 j hj hh
    ·exact absurd hh.2 hx0
   ·obtain⟨j,hj,hr⟩:=h2 hb;exact⟨j,by omega,hr⟩
 ·rw[hE]at ht
  split at ht
  ·cases ht
  ·obtain⟨f,hf,hm,hl,⟨j0,hj0,hh0⟩,hy⟩:=h.far x k hx ht
   refine⟨f,hf,hm,hl,⟨j0,by omega,hh0⟩,fun y hym=>?_⟩
   obtain⟨h1,h2⟩:=hy y hym;refine⟨fun j hj h9' hh=>?_,fun hb=>?_⟩
   ·rcases Nat.lt_succ_iff_lt_or_eq.1 hj with hj|rfl
    ·exact h1 j hj h9' hh
    ·omega
   ·obtain⟨j,hj,hr⟩:=h2 hb;exact⟨j,by omega,hr⟩
 ·rw[hE,hE]at he
  rw[hE]at hne;split at hne
  ·exact absurd rfl hne
  ·rename_i hx0
   rw[if_neg hx0]at he;split at he
   ·exact absurd he hne
   ·exact h.one x y hx hy he hne
 ·rcases Nat.lt_succ_iff_lt_or_eq.1 hj with hj|rfl
  ·rw[hE]
   split
   ·rename_i hx0
    exact(tZ hi (by omega) hh ⟨h0,hx0⟩ h9).elim
   ·exact h.all j hj x hx hh
  ·exact absurd hh (hnh _)
def E0(E:Nat->Ent)(x:Nat)(e:Ent):Nat->Ent:=fun z=>if z=x then e else E z
theorem L7(_hc:∀j,j<L.length->jB L j<2^L.getD j 0){i x y r:Nat}(_hi:i<L.length)(hx:x<512)(hr:L.getD i 0=9+r)(hh:jB L i/2^r=jj x 9):
  (y%2^r=jj (jB L i%2^r) r↔jB L i=jj (x+512*y) (L.getD i 0)):=by
 have hm:jB L i%2^r<2^r:=Nat.mod_lt _ (Nat.pow_pos (by decide))
 rw[vM _ _ _ hm,hr,Z2];have h1:(x+512*y)/2^9=y:=by rw[show(2:Nat)^9=512 by decide];omega
 have h2:jj (x+512*y) 9=jj x 9:=by
  rw[<-dV (x+512*y) 9 9 (q9 _),<-dV x 9 9 (q9 _),show(2:Nat)^9=512 by decide]
  congr 1;omega
 rw[h1,h2,<-hh];have h3:=Nat.div_add_mod (jB L i) (2^r);rw[Nat.mul_comm]at h3
 constructor
 ·intro h;rw[<-h];omega
 ·intro h;omega
theorem eO.long(h:eO L i E fs)(hi:i<L.length)(h15:∀x∈L,x<=15)(hk:jp L<=32768)(h9:9<L.getD i 0){x k:Nat}(hx:x<512)(hh:lS L i x)(ht:(E x).t=k+1){f:Sub}(hf:fs[k]? =some f):
  eO L (i+1) E (fs.set k ⟨f.g,f.m,k9 f.F (jB L i%2^(L.getD i 0-9)) (L.getD i 0-9) ⟨i,L.getD i 0,0⟩⟩):=by
 have hc:=fun j hj=>iA h15 hk j hj
 have hlk:k<fs.length:=(List.getElem?_eq_some_iff.1 hf).1;have hr:L.getD i 0=9+(L.getD i 0-9):=by omega
 refine⟨fun z hz htz=>?_,fun z q hz htz=>?_,h.one,fun j hj z hz hhz=>?_⟩
 ·obtain⟨h1,h2⟩:=h.low z hz htz
  refine⟨fun j hj hhj hj9=>?_,fun hb=>?_⟩
  ·rcases Nat.lt_succ_iff_lt_or_eq.1 hj with hj|rfl
   ·exact h1 j hj hhj hj9
   ·omega
  ·obtain⟨j,hj,hr⟩:=h2 hb;exact⟨j,by omega,hr⟩
 ·obtain⟨f',hf',hm,hl,⟨j0,hj0,hh0⟩,hy⟩:=h.far z q hz htz
  by_cases hq:k=q
  ·subst hq
   obtain rfl:f=f':=ql (hf.symm.trans hf');have hzx:z=x:=h.one z x hz hx (by rw[htz,ht]) (by omega)
   subst hzx;refine⟨⟨f.g,f.m,k9 f.F (jB L i%2^(L.getD i 0-9)) (L.getD i 0-9) ⟨i,L.getD i 0,0⟩⟩,by rw[List.getElem?_set_self hlk],hm,hl,⟨j0,by omega,hh0⟩,fun y hym=>?_⟩
   obtain⟨h1,h2⟩:=hy y hym;have hkey:=L7 hc (i:=i) (x:=z) (y:=y) hi hz hr hh.2;simp only[k9]
   by_cases hmt:y%2^(L.getD i 0-9)=jj (jB L i%2^(L.getD i 0-9)) (L.getD i 0-9)
   ·rw[if_pos hmt]
    have qb8:lQ L (z+512*y) i:=⟨by omega,hkey.1 hmt⟩
    refine⟨fun j hj hj9 hhj=>?_,fun _=>⟨i,by omega,h9,qb8⟩⟩
    have:i=j:=rW hi (by omega) qb8 hhj
    subst this;rfl
   ·rw[if_neg hmt]
    refine⟨fun j hj hj9 hhj=>?_,fun hb=>?_⟩
    ·rcases Nat.lt_succ_iff_lt_or_eq.1 hj with hj|rfl
     ·exact h1 j hj hj9 hhj
     ·exact absurd (hkey.2 hhj.2) hmt
    ·obtain⟨j,hj,hr⟩:=h2 hb;exact⟨j,by omega,hr⟩
  ·refine⟨f',by rw[List.getElem?_set_ne hq];exact hf',hm,hl,⟨j0,by omega,hh0⟩,fun y hym=>?_⟩
   obtain⟨h1,h2⟩:=hy y hym;refine⟨fun j hj hj9 hhj=>?_,fun hb=>?_⟩
   ·rcases Nat.lt_succ_iff_lt_or_eq.1 hj with hj|rfl
    ·exact h1 j hj hj9 hhj
    ·have hz2:=dE hhj hj9
     rw[show(z+512*y)%512=z by omega]at hz2
     have:=rF hz hx hz2 hh;subst this;omega
   ·obtain⟨j,hj,hr⟩:=h2 hb;exact⟨j,by omega,hr⟩
 ·rcases Nat.lt_succ_iff_lt_or_eq.1 hj with hj|rfl
  ·exact h.all j hj z hz hhz
  ·have:=rF hz hx hhz hh
   subst this;omega
theorem eO.fresh(h:eO L i E fs)(hi:i<L.length)(h15:∀x∈L,x<=15)(hk:jp L<=32768)(h9:9<L.getD i 0){x:Nat}(hx:x<512)(hh:lS L i x)(ht:(E x).t=0){g m:Nat}(hm:m<=6)(hml:∀j,j<L.length->lS L j x->L.getD j 0<=9+m){b:Nat}:
  eO L (i+1) (E0 E x ⟨0,b,fs.length+1⟩) (fs++[⟨g,m,k9 (fun _=>Ent.zero) (jB L i%2^(L.getD i 0-9)) (L.getD i 0-9) ⟨i,L.getD i 0,0⟩⟩]):=by
 have hc:=fun j hj=>iA h15 hk j hj
 have hr:L.getD i 0=9+(L.getD i 0-9):=by omega
 have hEx:E0 E x ⟨0,b,fs.length+1⟩ x=⟨0,b,fs.length+1⟩:=by unfold E0;rw[if_pos rfl]
 have hEz:∀z,z≠x->E0 E x ⟨0,b,fs.length+1⟩ z=E z:=fun z hz=>by unfold E0;rw[if_neg hz]
 have hle:∀z k,z<512->(E z).t=k+1->k<fs.length:=fun z k hz htz=>by
  obtain⟨f,hf,_⟩:=h.far z k hz htz
  exact(List.getElem?_eq_some_iff.1 hf).1
 have hlt:∀z,z<512->(E z).t<=fs.length:=fun z hz=>by
  cases hq:(E z).t with
  |zero=>omega
  |succ k=>exact hle z k hz hq
 refine⟨fun z hz htz=>?_,fun z q hz htz=>?_,fun y z hy hz he hne=>?_,fun j hj z hz hhz=>?_⟩
 ·by_cases hzx:z=x
  ·subst hzx;rw[hEx]at htz;cases htz
  ·rw[hEz z hzx]at htz⊢
   obtain⟨h1,h2⟩:=h.low z hz htz;refine⟨fun j hj hhj hj9=>?_,fun hb=>?_⟩
   ·rcases Nat.lt_succ_iff_lt_or_eq.1 hj with hj|rfl
    ·exact h1 j hj hhj hj9
    ·omega
   ·obtain⟨j,hj,hr⟩:=h2 hb;exact⟨j,by omega,hr⟩
 ·by_cases hzx:z=x
  ·subst hzx
   rw[hEx]at htz;obtain rfl:fs.length=q:=by simpa using htz
   refine⟨_,by rw[List.getElem?_append_right (q9 _),Nat.sub_self];rfl,hm,hml,⟨i,by omega,hh⟩,fun y hym=>?_⟩
   have hkey:=L7 hc (i:=i) (x:=z) (y:=y) hi hz hr hh.2;simp only[k9]
   by_cases hmt:y%2^(L.getD i 0-9)=jj (jB L i%2^(L.getD i 0-9)) (L.getD i 0-9)
   ·rw[if_pos hmt]
    have qb8:lQ L (z+512*y) i:=⟨by omega,hkey.1 hmt⟩
    refine⟨fun j hj hj9 hhj=>?_,fun _=>⟨i,by omega,h9,qb8⟩⟩
    have:i=j:=rW hi (by omega) qb8 hhj
    subst this;rfl
   ·rw[if_neg hmt]
    refine⟨fun j hj hj9 hhj=>?_,fun hb=>absurd rfl hb⟩
    rcases Nat.lt_succ_iff_lt_or_eq.1 hj with hj|rfl
    ·have hz2:=dE hhj hj9
     rw[show(z+512*y)%512=z by omega]at hz2
     exact absurd ht (h.all j hj z hz hz2)
    ·exact absurd (hkey.2 hhj.2) hmt
  ·rw[hEz z hzx]at htz
   obtain⟨f',hf',hm',hl,⟨j0,hj0,hh0⟩,hy⟩:=h.far z q hz htz;refine⟨f',by rw[List.getElem?_append_left (hle z q hz htz)];exact hf',hm',hl,⟨j0,by omega,hh0⟩,fun y hym=>?_⟩
   obtain⟨h1,h2⟩:=hy y hym;refine⟨fun j hj hj9 hhj=>?_,fun hb=>?_⟩
   ·rcases Nat.lt_succ_iff_lt_or_eq.1 hj with hj|rfl
    ·exact h1 j hj hj9 hhj
    ·have hz2:=dE hhj hj9
     rw[show(z+512*y)%512=z by omega]at hz2
     exact absurd (rF hz hx hz2 hh) hzx
   ·obtain⟨j,hj,hr⟩:=h2 hb;exact⟨j,by omega,hr⟩
 ·by_cases hyx:y=x
  ·by_cases hzx:z=x
   ·rw[hyx,hzx]
   ·rw[hyx,hEx,hEz z hzx]at he
    have:=hlt z hz;simp only at he;omega
  ·by_cases hzx:z=x
   ·rw[hEz y hyx,hzx,hEx]at he
    have:=hlt y hy;simp only at he;omega
   ·rw[hEz y hyx,hEz z hzx]at he
    rw[hEz y hyx]at hne
    exact h.one y z hy hz he hne
 ·by_cases hzx:z=x
  ·subst hzx;rw[hEx];simp
  ·rw[hEz z hzx]
   rcases Nat.lt_succ_iff_lt_or_eq.1 hj with hj|rfl
   ·exact h.all j hj z hz hhz
   ·exact absurd (rF hz hx hhz hh) hzx
def fV(E:Nat->Ent)(fs:List Sub)(V:Nat):Ent:=
 match(E (V%512)).t with
 |0=>E (V%512)
 |k+1=>match fs[k]? with
  |some f=>f.F (V/512%2^f.m)
  |none=>Ent.zero
theorem eO.look(h:eO L L.length E fs)(_h15:∀x∈L,x<=15)(V:Nat):
  (∀j,j<L.length->lQ L V j->fV E fs V=⟨j,L.getD j 0,0⟩)/\((fV E fs V).b≠0->∃j,j<L.length/\lQ L V j):=by
 have hx:V%512<512:=by omega
 have qd4:(512:Nat)=2^9:=by decide
 unfold fV
 cases ht:(E (V%512)).t with
 |zero=>
  obtain⟨h1,h2⟩:=h.low _ hx ht;refine⟨fun j hj hh=>?_,fun hb=>?_⟩
  ·by_cases h9:L.getD j 0<=9
   ·exact h1 j hj (by rw[qd4,lR h9];exact hh) h9
   ·exact absurd ht (h.all j hj _ hx (dE hh (by omega)))
  ·obtain⟨j,hj,hh,h9⟩:=h2 hb
   rw[qd4,lR h9]at hh
   exact⟨j,hj,hh⟩
 |succ k=>
  obtain⟨f,hf,hm,hl,⟨j0,hj0,hh0⟩,hy⟩:=h.far _ k hx ht;simp only[hf];obtain⟨h1,h2⟩:=hy (V/512%2^f.m) (Nat.mod_lt _ (Nat.pow_pos (by decide)))
  have hV:V%512+512*(V/512%2^f.m)=V%2^(9+f.m):=by
   rw[Nat.pow_add,qd4,Nat.mod_mul]
  rw[hV]at h1 h2;refine⟨fun j hj hh=>?_,fun hb=>?_⟩
  ·by_cases h9:L.getD j 0<=9
   ·exact(tZ hj hj0 hh0 (by rw[qd4,lR h9];exact hh) h9).elim
   ·have:=hl j hj (dE hh (by omega))
    exact h1 j hj (by omega) (by rw[lR this];exact hh)
  ·obtain⟨j,hj,h9,hh⟩:=h2 hb
   have hhd:=dE hh h9;rw[show V%2^(9+f.m)%512=V%512 by rw[Nat.pow_add,<-qd4,Nat.mod_mul_right_mod]]at hhd
   rw[lR (hl j hj hhd)]at hh
   exact⟨j,hj,hh⟩
end
end Go.Cm
namespace Go.Cm
open Go.RowKit Go.Proofs
theorem u5{l:List Int}(h:320<l.length):jU l=3:=by unfold jU;rw[if_pos h]
theorem u9{l:List Int}(h:¬320<l.length){i:Nat}(hi:i<l.length)(hb:¬(0<=l.getD i 0/\l.getD i 0<=15)):jU l=1:=by
 unfold jU;rw[if_neg h,if_neg]
 exact fun hall=>hb (hall _ (jT l i 0 hi))
theorem yI{l:List Int}(h:¬320<l.length)(hall:∀i,i<l.length->0<=l.getD i 0/\l.getD i 0<=15):jU l=0:=by
 unfold jU;rw[if_neg h,if_pos];intro x hx;obtain⟨i,hi,rfl⟩:=List.mem_iff_getElem.1 hx;have:=hall i hi
 simpa[List.getD,hi]using this
theorem mY(l:List Int)(i:Nat)(x:Int):(ints l).set i (.int .i64 x)=ints (l.set i x):=by simp[ints,List.map_set]
theorem cK{l:List Int}(h:jU l≠0):bE l=jU l:=by unfold bE;rw[if_pos h]
theorem mZ{L:List Nat}(h1:L.length<=320)(h15:∀x∈L,x<=15):bE (nls L)=if 32768<jp L then 7 else 0:=by
 unfold bE;rw[tX h1 h15,if_neg (by omega),jm]
def aN(l:List Int)(w:World)(e:Ending)(w':World):Prop:=
 ∃v,e=.returned (.tuple #[v,.int .i64 (bE l:Nat)])/\Own w' w.heap.size 3 v (if bE l=0 then ints (nls (bA (l.map Int.toNat)))else [])/\Below w.heap.size w w'
end Go.Cm
namespace Go.Cm
open Go.RowKit
section
variable {P : Program} {ops : Array Oper} {md : Region.Mode} {C : World → Prop} {o3 : List Nat}
def q22(o3:List Nat)(listed:Array Bool):Bool:=o3.any fun t=>listed.getD t false
def nA(P:Program)(md:Region.Mode)(ops:Array Oper)(C:World->Prop)(o3:List Nat)(Q:Act->World->Prop):Nat->Array Bool->Act->World->Prop
 |0,listed,a,w=>(q22 o3 listed=false->C w)/\Region.ready md ops listed=[]/\Q a w
 |fuel+1,listed,a,w=>(q22 o3 listed=false->C w)/\(Region.ready md ops listed=[]->Q a w)/\
  ∀i∈Region.ready md ops listed,wpOp P ops noQ i (nA P md ops C o3 Q fuel (listed.setIfInBounds i true)) a w
theorem uA{Q:Act->World->Prop}{Q':Exit->Act->World->Prop}(hQ:∀a w,Q a w->Q' .normal a w):∀(fuel:Nat) (listed:Array Bool) (a:Act) (w:World),
  nA P md ops C o3 Q fuel listed a w->wpAny P md ops Q' fuel listed a w
 |0,_,_,_,h=>⟨h.2.1,hQ _ _ h.2.2⟩
 |fuel+1,listed,a,w,h=>⟨fun h0=>hQ _ _ (h.2.1 h0),fun i hi=>by
   have h1:=wpOp_mono (fun a w=>uA (Q':=Q') hQ fuel _ a w) (h.2.2 i hi)
   unfold wpOp at h1⊢;split
   ·rename_i ho;simpa[ho]using h1
   ·rename_i o ho
    simp only[ho]at h1;split
    ·rename_i hw
     simp only[hw,if_true]at h1
     rcases h1 with h1|⟨-,h1⟩
     ·exact .inl (kN (fun _ _ _ h=>h) rO h1)
     ·exact(rO h1).elim
    ·rename_i hw;simpa[hw]using h1⟩
def rY(md:Region.Mode)(ops:Array Oper)(listed:Array Bool):Prop:=∀(j:Nat) (oj:Oper),ops[j]? =some oj->listed.getD j false=true->∀e∈oj.after,Region.binds md e=true->listed.getD e.on false=true
theorem rY.set{listed:Array Bool}{j:Nat}(h:rY md ops listed)(hj:j∈Region.ready md ops listed):rY md ops (listed.setIfInBounds j true):=by
 obtain⟨_,oj,hoj,hall⟩:=mem_ready.1 hj;intro k ok hok hl e he hb
 by_cases hjk:j=k
 ·subst hjk
  have:ok=oj:=ql (hok.symm.trans hoj);subst this
  exact getD_set_true (hall e he hb)
 ·rw[getD_set_ne false hjk]at hl
  exact getD_set_true (h k ok hok hl e he hb)
def anc(md:Region.Mode)(ops:Array Oper):Nat->Nat->Nat->Bool
 |0,_,_=>false
 |f+1,i,t=>match ops[t]? with
  |some o=>o.after.any fun e=>Region.binds md e&&(e.on==i||anc md ops f i e.on)
  |none=>false
theorem uB{listed:Array Bool}(hc:rY md ops listed){i:Nat}:∀(f t:Nat),anc md ops f i t=true->listed.getD t false=true->listed.getD i false=true
 |0,_,h,_=>by cases h
 |f+1,t,h,ht=>by
  unfold anc at h;split at h
  ·rename_i o ho
   obtain⟨e,he,hb⟩:=Array.any_eq_true'.1 h;simp only[Bool.and_eq_true,Bool.or_eq_true,beq_iff_eq]at hb;have h1:=hc t o ho ht e he hb.1
   rcases hb.2 with h2|h2
   ·rw[<-h2];exact h1
   ·exact uB hc f e.on h2 h1
  ·cases h
theorem M0{listed:Array Bool}{i:Nat}(hi:i∉o3):q22 o3 (listed.setIfInBounds i true)=q22 o3 listed:=by
 unfold q22
 induction o3 with
 |nil=>rfl
 |cons t o3 ih=>
  simp only[List.mem_cons,not_or]at hi;simp only[List.any_cons];rw[ih hi.2,getD_set_ne false hi.1]
theorem uC{listed:Array Bool}{i f:Nat}(hc:rY md ops listed)(ha:∀t∈o3,anc md ops f i t=true)(hu:listed.getD i false=false):q22 o3 listed=false:=by
 cases h:q22 o3 listed with
 |false=>rfl
 |true=>
  obtain⟨t,ht,hl⟩:=List.any_eq_true.1 h;rw[uB hc f t (ha t ht) hl]at hu
  cases hu
theorem vO{listed:Array Bool}{i:Nat}(h:listed.getD i true=false):i<listed.size/\listed.getD i false=false:=by
 rcases Nat.lt_or_ge i listed.size with h'|h'
 ·exact⟨h',by simp[h']at h⊢;exact h⟩
 ·simp[Array.getElem?_eq_none h']at h
theorem yJ{Q:Act->World->Prop}{i f:Nat}{oi:Oper}{v:Value}(hi:ops[i]? =some oi)(qcJ:∀(j:Nat) (o:Oper) cs b,ops[j]? =some o->o.op≠.select cs b)(hi3:i∉o3)(ha:∀t∈o3,anc md ops f i t=true):
  ∀(fuel:Nat) (listed:Array Bool) (a:Act) (w:World),rY md ops listed->
   (∀j oj,ops[j]? =some oj->j≠i->listed.getD j true=false->(∀e∈oj.after,Region.binds md e=true->e.on≠i)->oi.apart ops oj=true)->
   i∈Region.ready md ops listed->Yin P ops C oi v a->
   nA P md ops C o3 Q fuel (listed.setIfInBounds i true) (a.put oi.dst v) w->nA P md ops C o3 Q (fuel+1) listed a w:=by
 intro fuel
 induction fuel with
 |zero=>
  intro listed a w hcl _ hr hy H;have hl:=uC hcl ha (vO (mem_ready.1 hr).1).2;have h1:=H.1;rw[M0 hi3]at h1;refine⟨h1,fun h=>(by rw[h]at hr;cases hr),fun j hj=>?_⟩
  by_cases hji:j=i
  ·subst hji;exact hy.wpOp (h1 hl) hi H
  ·have:=ready_mono hj hji
   rw[H.2.1]at this
   cases this
 |succ fuel ih=>
  intro listed a w hcl qaq hr hy H;have hl:=uC hcl ha (vO (mem_ready.1 hr).1).2;have h1:=H.1;rw[M0 hi3]at h1;refine⟨h1,fun h=>(by rw[h]at hr;cases hr),fun j hj=>?_⟩
  by_cases hji:j=i
  ·subst hji;exact hy.wpOp (h1 hl) hi H
  ·have h1:=H.2.2 j (ready_mono hj hji)
   obtain⟨qcR,oj,hoj,hall⟩:=mem_ready.1 hj
   have qaH:∀e∈oj.after,Region.binds md e=true->e.on≠i:=fun e he hb heq=>by
    have h1:=hall e he hb;have h0:=(mem_ready.1 hr).1;rw[heq]at h1;rw[(vO h0).2]at h1
    cases h1
   have h2:=Y2 hoj (qaq j oj hoj hji qcR qaH) (fun cs b=>qcJ i oi cs b hi) (fun cs b=>qcJ j oj cs b hoj) hy h1
   have qap:∀k ok,ops[k]? =some ok->k≠i->(listed.setIfInBounds j true).getD k true=false->
     (∀e∈ok.after,Region.binds md e=true->e.on≠i)->oi.apart ops ok=true:=fun k ok hk hki hun hno=>by
    refine qaq k ok hk hki ?_ hno
    by_cases hjk:j=k
    ·subst hjk;exact qcR
    ·rw[getD_set_ne true hjk]at hun;exact hun
   refine wpOp_mono (fun a' w' h3=>ih (listed.setIfInBounds j true) a' w' (hcl.set hj) qap (ready_mono hr (Ne.symm hji)) h3.1 ?_) h2
   rw[Array.setIfInBounds_comm _ _ hji]
   exact h3.2
theorem Z6{listed:Array Bool}{i:Nat}(hi:i∈o3)(hs:i<listed.size):q22 o3 (listed.setIfInBounds i true)=true:=
 List.any_eq_true.2 ⟨i,hi,by simp[hs]⟩
theorem uD{Q K:Act->World->Prop}{C':World->Prop}{i n:Nat}{listed:Array Bool}{a:Act}{w:World}(hr:Region.ready md ops listed=[i])(hC:q22 o3 listed=false->C w)
  (hK:∀a' w',C' w'->K a' w'->nA P md ops C o3 Q n (listed.setIfInBounds i true) a' w') (h:wpList P ops (J8 C' K) [ops.toList.getD i default] a w):nA P md ops C o3 Q (n+1) listed a w:=by
 have him:i∈Region.ready md ops listed:=by rw[hr];simp
 obtain⟨_,o,ho,_⟩:=mem_ready.1 him;have hol:ops.toList.getD i default=o:=by rw[List.getD_eq_getElem?_getD,Array.getElem?_toList,ho];rfl
 refine⟨hC,fun h0=>(by rw[hr]at h0;cases h0),fun j hj=>?_⟩
 obtain rfl:j=i:=by rw[hr]at hj;simpa using hj
 rw[hol]at h;unfold wpList at h;unfold wpOp;simp only[ho];split
 ·rename_i hw
  rw[if_pos hw]at h
  rcases h with h'|⟨-,h'⟩
  ·refine .inl (Oper.wp_mono ?_ (kN (fun _ _ _ h=>h) fM h'))
   intro a' w' hh;obtain⟨hC',hk⟩:=(hh:J8 C' K .normal a' w')
   exact hK a' w' hC' hk
  ·exact(fM h').elim
 ·rename_i hw
  rw[if_neg hw]at h;obtain⟨hC',hk⟩:=(h:J8 C' K .normal (a.put o.dst undef) w)
  exact hK _ _ hC' hk
theorem rZ{Q:Act->World->Prop}:∀(o:List Nat) (listed:Array Bool) (a:Act) (w:World),(∀t∈o,t∈o3)->q21 md ops o listed=true->(q22 o3 listed=false->C w)->
  qy P ops (fun _=>True) Q (eI ops.toList o) a w->nA P md ops C o3 Q o.length listed a w
 |[],listed,a,w,_,hB,hC,h=>⟨hC,by simpa[q21]using hB,h⟩
 |i::r,listed,a,w,ho,hB,hC,h=>by
  simp only[q21,Bool.and_eq_true,beq_iff_eq]at hB;have him:i∈Region.ready md ops listed:=by rw[hB.1];simp
  have hs:=(vO (mem_ready.1 him).1).1;refine uD (C':=fun _=>True) hB.1 hC (fun a' w' _ hk=>rZ r _ a' w' (fun t ht=>ho t (by simp[ht])) hB.2 (fun hl=>by rw[Z6 (ho i (by simp)) hs]at hl;cases hl) hk) ?_
  simp only[eI,List.map_cons]at h
  exact h
theorem uE{Q:Act->World->Prop}:∀(o2:List Nat) (listed:Array Bool) (a:Act) (w:World),q21 md ops (o2++o3) listed=true->C w->
  qy P ops C (qy P ops (fun _=>True) Q (eI ops.toList o3)) (eI ops.toList o2) a w->nA P md ops C o3 Q (o2.length+o3.length) listed a w
 |[],listed,a,w,hB,hC,h=>by
  rw[List.length_nil,Nat.zero_add]
  exact rZ o3 listed a w (fun _ h=>h) hB (fun _=>hC) h
 |i::r,listed,a,w,hB,hC,h=>by
  simp only[List.cons_append,q21,Bool.and_eq_true,beq_iff_eq]at hB;rw[List.length_cons,Nat.add_right_comm];refine uD (C':=C) hB.1 (fun _=>hC) (fun a' w' hC' hk=>uE r _ a' w' hB.2 hC' hk) ?_
  simp only[eI,List.map_cons]at h
  exact h
def q2c(md:Region.Mode)(ops:Array Oper)(o1 o3:List Nat):Bool:=o1.all fun i=> !o3.contains i&&o3.all fun t=>anc md ops ops.size i t
theorem pJ{Q:Act->World->Prop}(hs:Region.noSelect ops=true)(o2:List Nat){w:World}(hC:C w):∀(o1:List Nat) (listed:Array Bool) (a:Act),q2c md ops o1 o3=true->rY md ops listed->q28 md ops (o2++o3) o1 listed=true->
  wpQuiet P ops C (fun a'=>qy P ops C (qy P ops (fun _=>True) Q (eI ops.toList o3)) (eI ops.toList o2) a' w) (eI ops.toList o1) a->nA P md ops C o3 Q (o1.length+(o2.length+o3.length)) listed a w
 |[],listed,a,_,_,hB,h=>by
  rw[List.length_nil,Nat.zero_add]
  exact uE o2 listed a w (by simpa[q28]using hB) hC h
 |i::r,listed,a,hh,hcl,hB,h=>by
  simp only[q28,Bool.and_eq_true]at hB;obtain⟨⟨⟨hr,hf⟩,hn⟩,hB'⟩:=hB;simp only[q2c,List.all_cons,Bool.and_eq_true]at hh;have him:i∈Region.ready md ops listed:=by simpa using hr
  obtain⟨_,o,ho,_⟩:=mem_ready.1 him;have hol:ops.toList.getD i default=o:=by rw[List.getD_eq_getElem?_getD,Array.getElem?_toList,ho];rfl
  simp only[eI,List.map_cons,hol]at h;have hn':mU o.op=true:=by simpa[ho]using hn
  obtain⟨v,hy,hK⟩:=kP (K:=wpQuiet P ops C (fun a'=>qy P ops C (qy P ops (fun _=>True) Q (eI ops.toList o3)) (eI ops.toList o2) a' w) (eI ops.toList r)) hn' h
  rw[List.length_cons,Nat.add_right_comm]
  exact yJ ho (Region.noSelect_spec hs) (by simpa using hh.1.1) (fun t ht=>(List.all_eq_true.1 hh.1.2) t ht) _ listed a w hcl (Region.free_spec ho hf) him hy
   (pJ hs o2 hC r _ _ (by simpa[q2c]using hh.2) (hcl.set him) hB' hK)
def q4m(md:Region.Mode)(ops:Array Oper)(o1 o2 o3:List Nat):Bool:=
 Region.noSelect ops&&(o1.length+(o2.length+o3.length)==ops.size)&&q2c md ops o1 o3&&q28 md ops (o2++o3) o1 (Array.replicate ops.size false)
theorem E9(m j:Nat):(Array.replicate m false).getD j false=false:=by
 rcases Nat.lt_or_ge j m with h|h<;>simp[h]
theorem jw{id:Nat}{Q:Exit->Act->World->Prop}{a:Act}{w:World}{l:List Oper}(C:World->Prop)(o1 o2 o3:List Nat)(hm:P.follows .mixedOrders=true)(hB:q4m .any l.toArray o1 o2 o3=true)(hC:C w.drew)
  (h:wpQuiet P l.toArray C (fun a'=>qy P l.toArray C (qy P l.toArray (fun _=>True) (fun a'' w''=>Q .normal a'' w'') (eI l o3)) (eI l o2) a' w.drew) (eI l o1) a):(Code.region id l.toArray true).wp P Q a w:=by
 simp only[q4m,Bool.and_eq_true,beq_iff_eq]at hB;obtain⟨⟨⟨hs,hlen⟩,hh⟩,hB⟩:=hB;refine wp_region_any hm ?_;have h1:=pJ (Q:=fun a'' w''=>Q .normal a'' w'') (md:=.any) (w:=w.drew) hs o2 hC o1 (Array.replicate l.toArray.size false) a hh (fun j oj _ hl=>by rw[E9]at hl;cases hl) hB (by simpa using h)
 rw[hlen]at h1
 exact uA (fun a w hq=>hq) _ _ _ _ h1
theorem qZ{id:Nat}{Q:Exit->Act->World->Prop}{a:Act}{w:World}{l:List Oper}(o1 o2 o3:List Nat)(hm:P.follows .mixedOrders=true)(hB:q4m .any l.toArray o1 o2 o3=true)
  (h:wpQuiet P l.toArray (fun w'=>∃x,w'=ext w x) (fun a'=>qy P l.toArray (fun w'=>∃x,w'=ext w x) (qy P l.toArray (fun _=>True) (fun a'' w''=>Q .normal a'' w'') (eI l o3)) (eI l o2) a' w.drew) (eI l o1) a):(Code.region id l.toArray true).wp P Q a w:=
 jw (C:=fun w'=>∃x,w'=ext w x) o1 o2 o3 hm hB (qt (qC w 1)) h
end
end Go.Cm
namespace Go.Cm
open Go.RowKit Go.Proofs
theorem q4n(n:Int)(w:World):Calls Tryz.prog 138 #[.int .i64 n] w fun e w'=>e=.returned (.bool (decide (0<=n/\n<=32)))/\w'=w:=by
 by_cases h1:0<=n
 ·by_cases h2:n<=32
  ·go_enter Tryz.func138,Tryz.ntmps138
   go_wp2;go_ret
   exact⟨by simp[h1,h2],rfl⟩
  ·go_enter Tryz.func138,Tryz.ntmps138
   go_wp2;go_ret
   exact⟨by simp[h2],rfl⟩
 ·go_enter Tryz.func138,Tryz.ntmps138
  go_wp2;go_ret
  exact⟨by simp;omega,rfl⟩
theorem rG(a b:Nat)(ha:a<4294967296)(hb:b<4294967296):bits .and .u32 a b=((a&&&b:Nat):Int)/\bits .or .u32 a b=((a|||b:Nat):Int):=
 bits_nat .u32 32 (by decide) (fun n h0 h1=>by rw[IntKind.wrap_u32];omega) a b ha hb
theorem rH(x m s p:Nat)(hx:x<4294967296)(hm:m<4294967296)(hp:p=2^s):bits .or .u32 (bits .and .u32 ((x:Int)/(p:Int)) (m:Int)) (bits .and .u32 (x:Int) (m:Int)*(p:Int)%4294967296)=((aB m s x:Nat):Int):=by
 have e1:(x:Int)/(p:Int)=((x/p:Nat):Int):=(Int.natCast_ediv x p).symm;have h1:x/p<4294967296:=Nat.lt_of_le_of_lt (Nat.div_le_self _ _) hx;have h2:x&&&m<4294967296:=Nat.and_lt_two_pow (n:=32) _ hm;have e2:((x&&&m:Nat):Int)*(p:Int)%4294967296=(((x&&&m)*p%4294967296:Nat):Int):=by rw[Int.natCast_emod,Int.natCast_mul];rfl
 rw[e1,(rG _ _ h1 hm).1,(rG _ _ hx hm).1,e2,(rG _ _ (Nat.and_lt_two_pow (n:=32) _ hm) (Nat.mod_lt _ (by decide))).2]
 unfold aB;rw[Nat.shiftRight_eq_div_pow,Nat.shiftLeft_eq,hp]
theorem nB(m s x:Nat)(hm:m<4294967296):aB m s x<4294967296:=by
 unfold aB
 exact Nat.or_lt_two_pow (n:=32) (Nat.and_lt_two_pow (n:=32) _ hm) (Nat.mod_lt _ (by decide))
def q7i(x:Nat):Nat:=(aB 16711935 8 x>>>16)|||((aB 16711935 8 x<<<16)%4294967296)
theorem T8(e:Nat)(he:e<4294967296):bits .or .u32 ((e:Int)/65536) ((e:Int)*65536%4294967296)=(((e>>>16)|||((e<<<16)%4294967296):Nat):Int):=by
 have e1:(e:Int)/65536=((e/65536:Nat):Int):=(Int.natCast_ediv e 65536).symm;have e2:(e:Int)*65536%4294967296=((e*65536%4294967296:Nat):Int):=by rw[Int.natCast_emod,Int.natCast_mul];rfl
 rw[e1,e2,(rG _ _ (by omega) (Nat.mod_lt _ (by decide))).2,Nat.shiftRight_eq_div_pow,Nat.shiftLeft_eq]
theorem q2k(x:Nat)(hx:x<4294967296)(w:World):Calls Tryz.prog 203 #[.int .u32 x] w fun e w'=>e=.returned (.int .u32 (q7i x:Nat))/\w'=w:=by
 have h1:bits .or .u32 (bits .and .u32 ((x:Int)/256) 16711935) (bits .and .u32 (x:Int) 16711935*256%4294967296)=((aB 16711935 8 x:Nat):Int):=rH x 16711935 8 256 hx (by decide) (by decide)
 have h2:=T8 (aB 16711935 8 x) (nB _ _ _ (by decide))
 have HR:Hid (q7i x=(aB 16711935 8 x>>>16)|||((aB 16711935 8 x<<<16)%4294967296)):=q7 rfl;rw[<-HR.out]at h2;generalize q7i x=y at*;have hl:=nB 16711935 8 x (by decide)
 generalize aB 16711935 8 x=e at*
 go_enter Tryz.func203,Tryz.ntmps203
 go_wp2;go_ret
 exact⟨rfl,rfl⟩
theorem rev(x:Nat)(hx:x<4294967296)(w:World):Calls Tryz.prog 191 #[.int .u32 x] w fun e w'=>e=.returned (.int .u32 (vK x:Nat))/\w'=w:=by
 have h1:bits .or .u32 (bits .and .u32 ((x:Int)/2) 1431655765) (bits .and .u32 (x:Int) 1431655765*2%4294967296)=((aB 1431655765 1 x:Nat):Int):=rH x 1431655765 1 2 hx (by decide) (by decide)
 have HR:Hid (q7i (aB 252645135 4 (aB 858993459 2 (aB 1431655765 1 x)))=vK x):=q7 rfl;have l1:=nB 1431655765 1 x (by decide)
 generalize aB 1431655765 1 x=a at*;have h2:bits .or .u32 (bits .and .u32 ((a:Int)/4) 858993459) (bits .and .u32 (a:Int) 858993459*4%4294967296)=((aB 858993459 2 a:Nat):Int):=rH a 858993459 2 4 l1 (by decide) (by decide)
 have l2:=nB 858993459 2 a (by decide)
 generalize aB 858993459 2 a=b at*;have h3:bits .or .u32 (bits .and .u32 ((b:Int)/16) 252645135) (bits .and .u32 (b:Int) 252645135*16%4294967296)=((aB 252645135 4 b:Nat):Int):=rH b 252645135 4 16 l2 (by decide) (by decide)
 have l3:=nB 252645135 4 b (by decide)
 generalize aB 252645135 4 b=c at*
 go_enter Tryz.func191,Tryz.ntmps191
 go_wp2_with(go_at_call 203;refine(q2k c l3 _).mono ?_;rintro e w' ⟨rfl,rfl⟩;rw[HR.out])
 go_ret
 exact⟨rfl,rfl⟩
theorem q2l(v n:Nat)(hn:n<=32)(w:World):Calls Tryz.prog 170 #[.int .i64 v,.int .i64 n] w fun e w'=>e=.returned (.int .i64 (jj v n:Nat))/\w'=w:=by
 by_cases h0:n=0
 ·subst h0
  have hz:((0:Nat):Int)=0:=rfl
  go_enter Tryz.func170,Tryz.ntmps170
  go_wp2_with(go_at_call 138;refine(q4n _ _).mono ?_;rintro e w' ⟨rfl,rfl⟩)
  go_ret
  exact⟨rfl,rfl⟩
 ·have hd:decide (0<=(n:Int)/\(n:Int)<=32)=true:=by simp;omega
  have hn0:¬(n:Int)=0:=by omega
  have hp:1<=n:=by omega
  have HT:=q7 (S8 v n hn);obtain⟨y,hy⟩:∃y,y=v%4294967296:=⟨_,rfl⟩;have hyl:y<4294967296:=by rw[hy];exact Nat.mod_lt _ (by decide)
  have hcv:(v:Int)%4294967296=(y:Int):=by rw[hy];exact(Int.natCast_emod v 4294967296).symm
  rw[show(2^32:Nat)=4294967296 from rfl,<-hy]at HT
  clear hy
  go_enter Tryz.func170,Tryz.ntmps170
  go_wp2_with(first|(go_at_call 138;refine(q4n _ _).mono ?_;rintro e w' ⟨rfl,rfl⟩;rw[hd])|(go_at_call 191;refine(rev y hyl _).mono ?_;rintro e w' ⟨rfl,rfl⟩;generalize vK y=r at*))
  go_ret;have hT:=HT.out
  have e1:(r:Int)/((2^(32-n):Nat):Int)=((jj v n:Nat):Int):=by
   rw[<-hT,Nat.shiftRight_eq_div_pow];exact(Int.natCast_ediv _ _).symm
  have hlt:=aF v n;have h32:2^n<=2^32:=qe (by decide) hn
  refine⟨?_,rfl⟩;have e2:(r:Int)/2^(32-n)=((jj v n:Nat):Int):=by rw[<-e1];norm_cast
  show Ending.returned (Value.int .i64 (wrap64 ((r:Int)/2^(32-n))))=_
  rw[e2,IntWalk.wrap64_in _ ⟨by omega,by omega⟩]
def jz(N i:Nat):Nat:=N/256^i%256
def jN(N k:Nat):List Value:=(List.range k).map fun i=>.int .u8 (jz N i:Nat)
def cL(N L:Nat):List Value:=(List.range L).map fun i=>.int .u8 ((N.testBit i).toNat:Nat)
def fI(N L:Nat):List UInt8:=(List.range ((L+7)/8)).map fun i=>UInt8.ofNat (jz N i)
theorem cM(N k:Nat):(jN N k).length=k:=by simp[jN]
theorem s7(N i:Nat):jz N i<256:=Nat.mod_lt _ (by decide)
theorem lV(N k:Nat):jN N (k+1)=jN N k++[.int .u8 (jz N k:Nat)]:=by simp[jN,List.range_succ]
theorem dW(i:Nat):256^i=2^(8*i):=by rw[Nat.pow_mul]
theorem uG(N v L i:Nat)(hi:i<L/8):jz (N+v*2^L) i=jz N i:=by
 unfold jz;obtain⟨q,rfl⟩:∃q,L=8*i+8+q:=⟨L-(8*i+8),by omega⟩
 rw[dW,show v*2^(8*i+8+q)=(v*2^q*256)*2^(8*i) by rw[Nat.pow_add,Nat.pow_add];rw[show(2:Nat)^8=256 by decide];ac_rfl,Nat.add_mul_div_right _ _ (Nat.pow_pos (by decide)),Nat.add_mul_mod_self_right]
theorem uH(N v L:Nat):jN (N+v*2^L) (L/8)=jN N (L/8):=by
 unfold jN;refine List.map_congr_left fun i hi=>?_
 rw[uG N v L i (List.mem_range.1 hi)]
theorem M1(N v L:Nat):(N+v*2^L)/256^(L/8)=N/256^(L/8)+v*2^(L%8):=by
 have h:v*2^L=(v*2^(L%8))*256^(L/8):=by
  rw[dW,Nat.mul_assoc,<-Nat.pow_add,Nat.mod_add_div]
 rw[h,Nat.add_mul_div_right _ _ (Nat.pow_pos (by decide))]
theorem F1(N L:Nat)(h:N<2^L):N/256^(L/8)<2^(L%8):=by
 rw[dW,Nat.div_lt_iff_lt_mul (Nat.pow_pos (by decide)),<-Nat.pow_add,Nat.mod_add_div];exact h
theorem q06(N k:Nat):N/256^k/256=N/256^(k+1):=by rw[Nat.div_div_eq_div_mul,Nat.pow_succ]
theorem oP{N v L n:Nat}(hN:N<2^L)(hv:v<2^n):N+v*2^L<2^(L+n):=by
 rw[Nat.pow_add]
 calc N+v*2^L<2^L+v*2^L:=by omega
  _=(v+1)*2^L:=by rw[Nat.add_mul];omega
  _<=2^n*2^L:=Nat.mul_le_mul_right _ hv
  _=2^L*2^n:=Nat.mul_comm _ _
theorem q3N(a v n:Nat)(ha:a<2^n):a|||v*2^n=a+v*2^n:=by
 have h:=Nat.two_pow_add_eq_or_of_lt ha v;rw[Nat.or_comm,Nat.mul_comm v,<-h,Nat.add_comm]
theorem q60(a v n:Nat)(ha:a<2^n)(hn:n<8)(hv:v<4294967296):bits .or .u64 (a:Int) ((v:Int)*2^n%18446744073709551616)=((a+v*2^n:Nat):Int):=by
 have h8:2^n<=2^7:=qe (by decide) (by omega)
 have h1:v*2^n<=4294967296*2^7:=Nat.mul_le_mul (Nat.le_of_lt hv) h8;have h2:v*2^n<18446744073709551616:=by omega
 have hc:(v:Int)*2^n=((v*2^n:Nat):Int):=by rw[Int.natCast_mul,Int.natCast_pow];rfl
 have ho:=q3N a v n ha;have ha2:a<128:=by omega
 rw[hc];generalize v*2^n=q at*;have e:(q:Int)%18446744073709551616=(q:Int):=by omega
 rw[e,(bits_nat .u64 64 (by decide) (fun n h0 h1=>by rw[IntKind.wrap_u64];omega) a q (by omega) (by omega)).2,ho]
structure lW(w:World)(g:Nat)(vb:Value)(rest n:Nat):Prop where
 own:Own w g 165 (.slice (some ⟨g,0,none⟩) 4 4) [.bool true,vb,.int .u64 rest,.int .i64 n]
section
variable {w : World} {g : Nat} {vb : Value} {rest n : Nat}
theorem lW.keep{w':World}{row:Option Nat}(h:lW w g vb rest n)(hg:w.grownBy w' row)(hne:row≠some g):lW w' g vb rest n:=⟨h.own.keep hg (.inr (fun e=>hne e.symm))⟩
theorem lW.up{w':World}(h:lW w g vb rest n)(hb:Below w.heap.size w w'):lW w' g vb rest n:=⟨h.own.up hb⟩
theorem lW.lt(h:lW w g vb rest n):g<w.heap.size:=(h.own.lt g rfl).2
theorem lW.c0(h:lW w g vb rest n):w.cell? ⟨g,0,none⟩=some (.bool true):=h.own.cell (by simp)
theorem lW.c1(h:lW w g vb rest n):w.cell? ⟨g,1,none⟩=some vb:=h.own.cell (by simp)
theorem lW.c2(h:lW w g vb rest n):w.cell? ⟨g,2,none⟩=some (.int .u64 rest):=h.own.cell (by simp)
theorem lW.c3(h:lW w g vb rest n):w.cell? ⟨g,3,none⟩=some (.int .i64 n):=h.own.cell (by simp)
theorem lW.free(h:lW w g vb rest n)(c:Nat):w.frozen? ⟨g,c,none⟩=false:=h.own.free c
theorem lW.set1(h:lW w g vb rest n)(v:Value):lW (w.setCell ⟨g,1,none⟩ v) g v rest n/\w.grownBy (w.setCell ⟨g,1,none⟩ v) (some g):=⟨⟨(h.own.store 1 v).1⟩,(h.own.store 1 v).2⟩
theorem lW.set2(h:lW w g vb rest n)(r:Nat):lW (w.setCell ⟨g,2,none⟩ (.int .u64 r)) g vb r n/\w.grownBy (w.setCell ⟨g,2,none⟩ (.int .u64 r)) (some g):=⟨⟨(h.own.store 2 _).1⟩,(h.own.store 2 _).2⟩
theorem lW.set3(h:lW w g vb rest n)(r:Nat):lW (w.setCell ⟨g,3,none⟩ (.int .i64 r)) g vb rest r/\w.grownBy (w.setCell ⟨g,3,none⟩ (.int .i64 r)) (some g):=⟨⟨(h.own.store 3 _).1⟩,(h.own.store 3 _).2⟩
end
structure q3O(w:World)(B g N L:Nat):Prop where
 ex:∃vb,lW w g vb (N/256^(L/8)) (L%8)/\Own w B 5 vb (jN N (L/8))/\vb.ownBlock≠some g
 ge:B<=g
 lt:N<2^L
structure pS(w:World)(B g N L:Nat)(vb:Value):Prop where
 box:lW w g vb (N/256^(L/8)) (L%8)
 own:Own w B 5 vb (jN N (L/8))
 ne:vb.ownBlock≠some g
 ge:B<=g
 lt:N<2^L
theorem pS.p{w:World}{B g N L:Nat}{vb:Value}(h:pS w B g N L vb):q3O w B g N L:=⟨⟨vb,h.box,h.own,h.ne⟩,h.ge,h.lt⟩
theorem q3O.v{w:World}{B g N L:Nat}(h:q3O w B g N L):∃vb,pS w B g N L vb:=by
 obtain⟨⟨vb,h1,h2,h3⟩,h4,h5⟩:=h
 exact⟨vb,h1,h2,h3,h4,h5⟩
def Fr(g:Nat)(vb vb':Value)(w w':World):Prop:=(∀k,k<w.heap.size->k≠g->vb.ownBlock≠some k->w'.heap[k]? =w.heap[k]?)/\(∀k,vb'.ownBlock=some k->vb.ownBlock=some k\/w.heap.size<=k)/\w.heap.size<=w'.heap.size
theorem Fr.refl(g:Nat)(vb:Value)(w:World):Fr g vb vb w w:=⟨fun _ _ _ _=>rfl,fun _ h=>.inl h,q9 _⟩
theorem Fr.step{g:Nat}{vb vb':Value}{w w1 w2:World}{row:Option Nat}(h:Fr g vb vb' w w1)(hg:w1.grownBy w2 row)(hr:∀k,row=some k->k=g\/vb'.ownBlock=some k):Fr g vb vb' w w2:=by
 refine⟨fun k hk h1 h2=>?_,h.2.1,qa h.2.2 hg.size⟩
 rw[hg.block k (qd hk h.2.2) ?_,h.1 k hk h1 h2];intro e
 rcases hr k e.symm with q|q
 ·exact h1 q
 ·rcases h.2.1 k q with z|z
  ·exact h2 z
  ·omega
theorem Fr.below{g:Nat}{vb vb':Value}{w w1 w2:World}(h:Fr g vb vb' w w1)(hb:Below w1.heap.size w1 w2):Fr g vb vb' w w2:=h.step (row:=none) (qv hb none) (fun k e=>by cases e)
theorem Fr.val{g:Nat}{vb vb' vc:Value}{w w1:World}{n:Nat}(h:Fr g vb vb' w w1)(hk:∀k,vc.ownBlock=some k->vb'.ownBlock=some k\/n<=k)(hn:w.heap.size<=n):Fr g vb vc w w1:=by
 refine⟨h.1,fun k hk'=>?_,h.2.2⟩
 rcases hk k hk' with q|q
 ·exact h.2.1 k q
 ·exact .inr (by omega)
theorem Fr.trans{g:Nat}{vb vb' vc:Value}{w w1 w2:World}(h:Fr g vb vb' w w1)(k:Fr g vb' vc w1 w2):Fr g vb vc w w2:=by
 refine⟨fun q hq h1 h2=>?_,fun q hq=>?_,qa h.2.2 k.2.2⟩
 ·rw[k.1 q (qd hq h.2.2) h1 ?_,h.1 q hq h1 h2]
  intro e
  rcases h.2.1 q e with z|z
  ·exact h2 z
  ·omega
 ·rcases k.2.1 q hq with z|z
  ·exact h.2.1 q z
  ·exact .inr (qa h.2.2 z)
theorem uI{w:World}{g:Nat}{vb:Value}{rest n:Nat}(h:lW w g vb rest n):Calls Tryz.prog 100 #[.pointer (some ⟨g,0,none⟩)] w fun e w'=>e=.returned (.bool true)/\w'=w:=by
 have h0:=h.c0;have hg:=h.lt
 go_enter Tryz.func100,Tryz.ntmps100
 go_wp2;go_ret
 exact⟨rfl,rfl⟩
theorem q7u(w:World):Calls Tryz.prog 52 #[] w fun e w'=>∃g,e=.returned (.pointer (some ⟨g,0,none⟩))/\q3O w' w.heap.size g 0 0/\Below w.heap.size w w':=by
 go_enter Tryz.func52,Tryz.ntmps52
 go_wp2;go_ret;have ho:=qE w w.heap.size #[Value.bool true,Value.slice none 0 0,Value.int .u64 0,Value.int .i64 0] 165 (by decide) (q9 _)
 exact⟨w.heap.size,rfl,⟨⟨.slice none 0 0,⟨ho⟩,Own.nil _ _ _,by simp[Value.ownBlock]⟩,q9 _,by decide⟩,qn _ _⟩
theorem q7j{w:World}{B g N L:Nat}{vb0:Value}(h:pS w B g N L vb0)(v n:Nat)(hv:v<2^n)(hn:n<=32)(hL:L+n<=34359738368):
  Calls Tryz.prog 96 #[.pointer (some ⟨g,0,none⟩),.int .i64 v,.int .i64 n] w fun e w'=>e=.returned (.int .i64 0)/\∃vb0',pS w' B g (N+v*2^L) (L+n) vb0'/\Below B w w'/\Fr g vb0 vb0' w w':=by
 obtain⟨q98,hown,hne,hge,hlt⟩:=h;have qem:v<4294967296:=qd hv (qe (n:=2) (by decide) hn)
 have hd:decide (0<=(n:Int)/\(n:Int)<=32)=true:=by simp;omega
 have hn0:(0:Int)<=(n:Int):=by omega
 have hz:(v:Int)/2^n=0:=by
  have:(v:Int)/2^n=((v/2^n:Nat):Int):=by norm_cast
  rw[this,Nat.div_eq_of_lt hv];rfl
 have hrl:=F1 N L hlt;have hl8:L%8<8:=Nat.mod_lt _ (by decide)
 have HOR:Hid (bits .or .u64 ((N/256^(L/8):Nat):Int) (IntKind.u64.wrap ((v:Int)*2^(L%8)))=((N/256^(L/8)+v*2^(L%8):Nat):Int)):=q7 (by rw[IntKind.wrap_u64];exact q60 (N/256^(L/8)) v (L%8) hrl hl8 qem)
 have hv0:¬(v:Int)<0:=by omega
 have HRA:=q7 (M1 N v L);have HBA:=q7 (uH N v L);have HB:=q7 q98;have HO:=q7 hown;have c2:=q98.c2;have c3:=q98.c3;have f2:=q98.free 2;have f3:=q98.free 3;have hg:=q98.lt;clear q98 hown hrl
 go_enter Tryz.func96,Tryz.ntmps96
 go_wp2_with(first|(go_at_call 100;refine(uI HB.out).mono ?_;rintro e w' ⟨rfl,hw'⟩;rw[hw'];clear hw')|(go_at_call 138;refine(q4n _ _).mono ?_;rintro e w' ⟨rfl,hw'⟩;rw[hw',hd];clear hw'))
 have hgB:Below B w w:=qj _ _;generalize hR:N/256^(L/8)=r at*;generalize hM:L%8=m at*;obtain⟨q,hq⟩:∃q,q=r+v*2^m:=⟨_,rfl⟩;have HQ:=q7 hq;rw[<-hq]at HOR;clear hq;refine qZ [0,1,2,3,4,5,6,7,8,9,10,11,12] [13,14] [15] (by kernel_rfl) (by kernel_rfl) ?_
 simp only[pk]
 repeat(go_big_quiet_step (fail))
 refine wpQuiet_nil ?_;rw[HOR.out]
 (unfold qy;go_wp2;refine⟨(qt (by repeat(first|exact qj _ _|assumption|refine qw ?_ _|refine qk ?_|refine qA ?_ _|refine qs ?_ _))),?_⟩)
 (unfold qy;go_wp2;refine⟨(qt (by repeat(first|exact qj _ _|assumption|refine qw ?_ _|refine qk ?_|refine qA ?_ _|refine qs ?_ _))),?_⟩)
 unfold qy;have HST:=q7 (HB.out.set2 q);unfold qy;go_wp2;refine⟨trivial,?_⟩;unfold qy;have HG1:=q7 (qp HST.out.2 (qV _ (some g)));have HB1:=q7 (HST.out.1.up (qS (qj _ _)));clear HST;generalize (w.setCell ⟨g,2,none⟩ (.int .u64 (q:Int))).drew=w1 at*;have HO1:=q7 (HO.out.keep HG1.out (.inr hne));have HL1:Hid (Below B w w1):=q7 ((qj B w).grown HG1.out (Nat.le_of_lt (Nat.lt_of_le_of_lt hge hg)) (fun k hk=>by cases hk;exact hge))
 have HF1:=q7 ((Fr.refl g vb0 w).step HG1.out (fun k e=>by cases e;exact .inl rfl))
 clear c2 c3 f2 f3 hg HB HO HG1 HOR hgB;have c3:=HB1.out.c3;have f3:=HB1.out.free 3;have hg:=HB1.out.lt;obtain⟨s,hs⟩:∃s,s=m+n:=⟨_,rfl⟩;have hst:=HB1.out.set3 (m+n);rw[Int.natCast_add,<-hs]at hst;have HST:=q7 hst;clear hst;have HS:=q7 hs;have HR:=q7 hR;have HM:=q7 hM;have HV:=q7 hv;have HLT:=q7 hlt;have HL:=q7 hL;clear hs hR hM hv hlt hL hz hd hv0 hn0;go_wp2;have HB2:=q7 HST.out.1;have HO2:=q7 (HO1.out.keep HST.out.2 (.inr hne));have HL2:Hid (Below B w (w1.setCell ⟨g,3,none⟩ (.int .i64 ((m:Int)+(n:Int))))):=q7 (HL1.out.grown HST.out.2 (by omega) (fun k hk=>by cases hk;exact hge))
 have HF2:=q7 (HF1.out.step HST.out.2 (fun k e=>by cases e;exact .inl rfl))
 clear HST HB1 HO1 HL1 c3 f3 hg HF1;generalize w1.setCell ⟨g,3,none⟩ (.int .i64 ((m:Int)+(n:Int)))=w2 at*;obtain⟨N',hN'⟩:∃N',N'=N+v*2^L:=⟨_,rfl⟩;rw[<-hN']at HRA HBA;have HN:=q7 hN';clear hN'
 go_loopg [] s (fun gk wr=>∃(k nn:Nat) (vb:Value),8*k+nn=L+n/\lW wr g vb (N'/256^k) nn/\Own wr B 5 vb (jN N' k)/\vb.ownBlock≠some g/\Below B w wr/\Fr g vb0 vb w wr/\gk=nn)
 case atStart=>
  refine⟨L/8,s,vb0,?_,?_,?_,hne,HL2.out,HF2.out,?_⟩
  ·have:=HS.out;have:=HM.out;omega
  ·rw[HRA.out,<-HQ.out];exact HB2.out
  ·rw[HBA.out];exact HO2.out
  ·rfl
 case round=>
  obtain⟨k,nn,vb,hkn,q98,hown,hne,q8Z,hfr,rfl⟩:=hrel;have HFR:=q7 hfr;clear hfr;clear HF2;clear HQ HRA HBA HB2 HO2 HL2;have c1:=q98.c1;have c2:=q98.c2;have c3:=q98.c3;have f1:=q98.free 1;have f2:=q98.free 2;have f3:=q98.free 3;have hg:=q98.lt;have HB:=q7 q98;have HO:=q7 hown;have HE:=q7 q8Z;have HNS:=q7 (q06 N' k);have HBS:=q7 (lV N' k);have HBY:Hid (((N'/256^k:Nat):Int)%256=(jz N' k:Nat)):=q7 (by unfold jz;exact(Int.natCast_emod _ _).symm)
  have qlF:k<=4294967296:=by have:=HL.out;omega
  have HK:=q7 hkn;clear q98 hown q8Z hkn
  by_cases h8:8<=gk
  ·generalize N'/256^k=r at*
   go_wp2;have q9q:some g≠vb.ownBlock:=fun e=>hne e.symm
   have hBg:B<=wr.heap.size:=by omega
   refine jw (fun w'=>∃x,w'=chg wr vb.ownBlock x) [0,1,2,3,4,5,6,7,8,9] [10,11,12,13] [14] (by kernel_rfl) (by kernel_rfl) (qW (qV _ _)) ?_
   simp only[pk]
   repeat(go_big_quiet_step (fail))
   refine wpQuiet_nil ?_
   (unfold qy;go_wp2;refine⟨qW (qv (by repeat(first|exact qj _ _|assumption|refine qw ?_ _|refine qk ?_|refine qA ?_ _|refine qs ?_ _)) _),?_⟩)
   unfold qy
   have HX:Hid (Sl (wr.alloc (.cells #[.int .u8 ((jz N' k:Nat):Int)] 5)).drew (.slice (some ⟨wr.heap.size,0,none⟩) 1 1) [.int .u8 ((jz N' k:Nat):Int)]):=q7 (by
    have h1:=(eJ wr #[.int .u8 ((jz N' k:Nat):Int)] 5 (by simp)).up (qC _ 1)
    rw[<-World.drew_is_drewN]at h1
    simpa using h1)
   rw[HBY.out];have HT1:=q7 (HO.out.up (show Below wr.heap.size wr (wr.alloc (.cells #[.int .u8 ((jz N' k:Nat):Int)] 5)).drew from(by repeat(first|exact qj _ _|assumption|refine qw ?_ _|refine qk ?_|refine qA ?_ _|refine qs ?_ _))))
   have HT3:Hid ((jN N' k).length+1<=4294967296):=q7 (by rw[cM];have:=HK.out;have:=HL.out;omega)
   have HT2:Hid (∀u∈[Value.int .u8 ((jz N' k:Nat):Int)],u.oneCell'=true):=q7 (by intro u hu;simp at hu;subst hu;rfl)
   have HT4:Hid (B<=(wr.alloc (.cells #[.int .u8 ((jz N' k:Nat):Int)] 5)).drew.heap.size):=q7 (qa hBg (show Below wr.heap.size wr (wr.alloc (.cells #[.int .u8 ((jz N' k:Nat):Int)] 5)).drew from(by repeat(first|exact qj _ _|assumption|refine qw ?_ _|refine qk ?_|refine qA ?_ _|refine qs ?_ _))).size)
   go_wp2_with(at_builtin;refine jt rfl (.tmp 63) (.tmp 69) 49 rfl B 5 (.int .u8 0) 1 Tryz.underlying49 (by kernel_rfl) rfl (by decide) vb (jN N' k) rfl HT1.out (.slice (some ⟨wr.heap.size,0,none⟩) 1 1) [.int .u8 ((jz N' k:Nat):Int)] rfl HX.out HT2.out HT3.out HT4.out ?_;intro v' w5 hown1 hg1 hk1;have HO1:=q7 hown1;have HG1:=q7 hg1;have HK1:=q7 hk1;clear hown1 hg1 hk1)
   refine⟨qW (qp (qv (by repeat(first|exact qj _ _|assumption|refine qw ?_ _|refine qk ?_|refine qA ?_ _|refine qs ?_ _)) _) HG1.out),?_⟩
   (unfold qy;go_wp2;refine⟨qW (qp (qv (by repeat(first|exact qj _ _|assumption|refine qw ?_ _|refine qk ?_|refine qA ?_ _|refine qs ?_ _)) _) HG1.out),?_⟩)
   (unfold qy;go_wp2;refine⟨qW (qp (qv (by repeat(first|exact qj _ _|assumption|refine qw ?_ _|refine qk ?_|refine qA ?_ _|refine qs ?_ _)) _) HG1.out),?_⟩)
   unfold qy;have hlW:Below wr.heap.size wr (wr.alloc (.cells #[.int .u8 ((jz N' k:Nat):Int)] 5)).drew:=(by repeat(first|exact qj _ _|assumption|refine qw ?_ _|refine qk ?_|refine qA ?_ _|refine qs ?_ _))
   have HB5:=q7 ((HB.out.up hlW).keep HG1.out hne);have HL5:Hid (Below B w w5):=q7 (jL (HE.out.trans (hlW.mono hBg)) (qa hBg hlW.size) HT1.out HG1.out)
   have qaI:Hid (v'.ownBlock≠some g):=q7 (fun e=>by
    rcases HK1.out g e with h|h
    ·exact hne h
    ·have:=hlW.size;omega)
   have HO5:Hid (Own w5 B 5 v' (jN N' (k+1))):=q7 (by rw[HBS.out];exact HO1.out)
   have HF5:Hid (Fr g vb0 v' w w5):=q7 (((HFR.out.below hlW).step HG1.out (fun k e=>.inr e)).val HK1.out (qa HFR.out.2.2 hlW.size))
   clear HO1 HG1 HK1 HT1 HX c1 c2 c3 f1 f2 f3 hg HB HO HE hlW hne q9q HT3;have f1:=HB5.out.free 1;have c1:=HB5.out.c1;have hg:=HB5.out.lt;obtain⟨o5,c5,g5,rfl,-⟩:=HO5.out.cases;generalize (jN N' (k+1)).length=l5 at*;have HST:=q7 (HB5.out.set1 (.slice o5 l5 c5));unfold qy;go_wp2;refine⟨trivial,?_⟩;unfold qy;have HB6:=q7 HST.out.1;have HO6:=q7 (HO5.out.keep HST.out.2 (.inr qaI.out));have HL6:Hid (Below B w (w5.setCell ⟨g,1,none⟩ (.slice o5 l5 c5))):=q7 (HL5.out.grown HST.out.2 (by omega) (fun k hk=>by cases hk;exact hge))
   have HF6:=q7 (HF5.out.step HST.out.2 (fun k e=>by cases e;exact .inl rfl))
   clear HST HB5 HO5 HL5 c1 f1 hg HF5;generalize w5.setCell ⟨g,1,none⟩ (.slice o5 l5 c5)=w6 at*;have c2:=HB6.out.c2;have c3:=HB6.out.c3;have f2:=HB6.out.free 2;have f3:=HB6.out.free 3;have hg:=HB6.out.lt;have h9:(8:Int)<=(gk:Int):=by omega
   go_wp2
   go_roundg (gk-8)
   case measure=>omega
   case rel=>
    have hst:=HB6.out.set2 (r/256);have q9V:=hst.1.set3 (gk-8);have e1:((r/256:Nat):Int)=(r:Int)/256:=Int.natCast_ediv r 256;have e2:((gk-8:Nat):Int)=(gk:Int)-8:=by omega
    have hO:=HO6.out.keep (qp hst.2 q9V.2) (.inr qaI.out);have hL:=HL6.out.grown (qp hst.2 q9V.2) (by omega) (fun k hk=>by cases hk;exact hge)
    have hF:=HF6.out.step (qp hst.2 q9V.2) (fun k e=>by cases e;exact .inl rfl)
    rw[e1,e2]at q9V hO hL hF;have hk:=HK.out;have hl:=HL.out;rw[IntWalk.wrap64_in ((gk:Int)-8) ⟨by omega,by omega⟩]
    refine⟨k+1,gk-8,_,by omega,?_,hO,qaI.out,hL,hF,rfl⟩
    rw[<-HNS.out]
    exact q9V.1
  ·go_wp2
   go_ret;have hk:=HK.out;have qdH:(L+n)%8=gk/\(L+n)/8=k:=by omega
   rw[<-HN.out];refine⟨rfl,vb,⟨?_,?_,hne,hge,?_⟩,HE.out,HFR.out⟩
   ·rw[qdH.1,qdH.2];exact HB.out
   ·rw[qdH.2];exact HO.out
   ·rw[HN.out];exact oP HLT.out HV.out
theorem q61{w:World}{B g N L:Nat}{vb:Value}(h:pS w B g N L vb)(v n:Nat)(hv:v<2^n)(hn:n<=32)(hL:L+n<=34359738368):
  Calls Tryz.prog 141 #[.pointer (some ⟨g,0,none⟩),.int .i64 v,.int .i64 n] w fun e w'=>e=.returned (.int .i64 0)/\∃vb',pS w' B g (N+jj v n*2^L) (L+n) vb'/\Below B w w'/\Fr g vb vb' w w':=by
 have hd:decide (0<=(n:Int)/\(n:Int)<=32)=true:=by simp;omega
 have hn0:(0:Int)<=(n:Int):=by omega
 have hv0:¬(v:Int)<0:=by omega
 have hz:(v:Int)/2^n=0:=by
  have:(v:Int)/2^n=((v/2^n:Nat):Int):=by norm_cast
  rw[this,Nat.div_eq_of_lt hv];rfl
 have HP:=q7 (q7j h (jj v n) n (aF v n) hn hL);clear h hv
 go_enter Tryz.func141,Tryz.ntmps141
 go_wp2_with(first|(go_at_call 138;refine(q4n _ _).mono ?_;rintro e w' ⟨rfl,hw'⟩;rw[hw',hd];clear hw')|(go_at_call 170;refine(q2l v n hn _).mono ?_;rintro e w' ⟨rfl,hw'⟩;rw[hw'];clear hw')|(go_at_call 96;refine HP.out.mono ?_;rintro e w' ⟨rfl,vb',hq1,hq2,hq3⟩;have HQ1:=q7 hq1;have HQ2:=q7 hq2;have HQ3:=q7 hq3;clear hq1 hq2 hq3))
 go_ret
 exact⟨rfl,vb',HQ1.out,HQ2.out,HQ3.out⟩
structure q4o(w:World)(B g N L:Nat):Prop where
 ex:∃vb,Own w g 122 (.slice (some ⟨g,0,none⟩) 1 1) [vb]/\Own w B 5 vb (cL N L)/\vb.ownBlock≠some g
 ge:B<=g
 lt:N<2^L
structure aJ(w:World)(B g N L:Nat)(vb:Value):Prop where
 box:Own w g 122 (.slice (some ⟨g,0,none⟩) 1 1) [vb]
 own:Own w B 5 vb (cL N L)
 ne:vb.ownBlock≠some g
 ge:B<=g
 lt:N<2^L
theorem aJ.p{w:World}{B g N L:Nat}{vb:Value}(h:aJ w B g N L vb):q4o w B g N L:=⟨⟨vb,h.box,h.own,h.ne⟩,h.ge,h.lt⟩
theorem q4o.v{w:World}{B g N L:Nat}(h:q4o w B g N L):∃vb,aJ w B g N L vb:=by
 obtain⟨⟨vb,h1,h2,h3⟩,h4,h5⟩:=h
 exact⟨vb,h1,h2,h3,h4,h5⟩
def dX(N k:Nat):List UInt8:=(List.range k).map fun i=>UInt8.ofNat (jz N i)
theorem nC(N k:Nat):qD (dX N k)=jN N k:=by
 unfold qD dX jN;rw[List.map_map];refine List.map_congr_left fun i _=>?_
 simp only[Function.comp,UInt8.toNat_ofNat'];rw[Nat.mod_eq_of_lt (s7 N i)]
theorem q7v{w:World}{B g N L:Nat}(h:q3O w B g N L)(hL:L<=34359738368):Calls Tryz.prog 56 #[.pointer (some ⟨g,0,none⟩)] w fun e w'=>e=.returned (.string ⟨(fI N L).toArray⟩)/\∃x,w'=ext w x:=by
 obtain⟨⟨vb,q98,hown,hne⟩,hge,hlt⟩:=h;have HB:=q7 q98;have c1:=q98.c1;have c2:=q98.c2;have c3:=q98.c3;have hg:=q98.lt;have hsl:=hown.sl;rw[<-nC]at hsl;have hcv:=j7 (P:=Tryz.prog) w 49 9 5 Tryz.underlying49 Tryz.underlying5 Tryz.underlying9 vb _ hsl;clear q98 hown hsl
 by_cases h0:L%8=0
 ·go_enter Tryz.func56,Tryz.ntmps56
  go_wp2_with(go_at_call 100;refine(uI HB.out).mono ?_;rintro e w' ⟨rfl,hw'⟩;rw[hw'];clear hw')
  go_ret;have e:fI N L=dX N (L/8):=by unfold fI dX;rw[show(L+7)/8=L/8 by omega]
  rw[e]
  exact⟨rfl,mS _⟩
 ·have hp:(0:Int)<(L:Int)%8:=by omega
  have q9v:=eJ w #[.int .u8 ((jz N (L/8):Nat):Int)] 5 (by simp)
  have hb1:(#[Value.int .u8 ((jz N (L/8):Nat):Int)]).toList=qD [UInt8.ofNat (jz N (L/8))]:=by
   simp[qD,Nat.mod_eq_of_lt (s7 N (L/8))]
  rw[hb1]at q9v;have qcX:=j7 (P:=Tryz.prog) _ 49 9 5 Tryz.underlying49 Tryz.underlying5 Tryz.underlying9 _ _ q9v;have hby:((N/256^(L/8):Nat):Int)%256=(jz N (L/8):Nat):=by unfold jz;exact(Int.natCast_emod _ _).symm
  have e:fI N L=dX N (L/8)++[UInt8.ofNat (jz N (L/8))]:=by unfold fI dX;rw[show(L+7)/8=L/8+1 by omega,List.range_succ,List.map_append];rfl
  generalize N/256^(L/8)=r at*;generalize jz N (L/8)=y at*
  change(convert 49 9 (.slice (some ⟨w.heap.size,0,none⟩) 1 1)).run Tryz.prog _=_ at qcX
  rw[<-hby]at qcX;clear q9v hb1 hby;have hlen:¬9223372036854775807<(dX N (L/8)).length+1:=by simp[dX];omega
  go_enter Tryz.func56,Tryz.ntmps56
  go_wp2_with(go_at_call 100;refine(uI HB.out).mono ?_;rintro e w' ⟨rfl,hw'⟩;rw[hw'];clear hw')
  go_ret
  have e2:(⟨(dX N (L/8)).toArray⟩:ByteArray)++⟨#[UInt8.ofNat y]⟩=⟨(fI N L).toArray⟩:=by
   rw[e];apply ByteArray.ext;simp
  refine⟨?_,(qt (by repeat(first|exact qj _ _|assumption|refine qw ?_ _|refine qk ?_|refine qA ?_ _|refine qs ?_ _)))⟩
  rw[<-e2];rfl
structure cX(w:World)(g:Nat)(s:ByteArray)(p:Nat):Prop where
 own:Own w g 230 (.slice (some ⟨g,0,none⟩) 3 3) [.bool true,.string s,.int .i64 p]
section
variable {w : World} {g : Nat} {s : ByteArray} {p : Nat}
theorem cX.up{w':World}(h:cX w g s p)(hb:Below w.heap.size w w'):cX w' g s p:=⟨h.own.up hb⟩
theorem cX.lt(h:cX w g s p):g<w.heap.size:=(h.own.lt g rfl).2
theorem cX.c0(h:cX w g s p):w.cell? ⟨g,0,none⟩=some (.bool true):=h.own.cell (by simp)
theorem cX.c1(h:cX w g s p):w.cell? ⟨g,1,none⟩=some (.string s):=h.own.cell (by simp)
theorem cX.c2(h:cX w g s p):w.cell? ⟨g,2,none⟩=some (.int .i64 p):=h.own.cell (by simp)
theorem cX.free(h:cX w g s p)(c:Nat):w.frozen? ⟨g,c,none⟩=false:=h.own.free c
theorem cX.set2(h:cX w g s p)(r:Nat):cX (w.setCell ⟨g,2,none⟩ (.int .i64 r)) g s r/\w.grownBy (w.setCell ⟨g,2,none⟩ (.int .i64 r)) (some g):=⟨⟨(h.own.store 2 _).1⟩,(h.own.store 2 _).2⟩
end
theorem nD{w:World}{g:Nat}{s:ByteArray}{p:Nat}(h:cX w g s p):Calls Tryz.prog 158 #[.pointer (some ⟨g,0,none⟩)] w fun e w'=>e=.returned (.bool true)/\w'=w:=by
 have h0:=h.c0;have hg:=h.lt
 go_enter Tryz.func158,Tryz.ntmps158
 go_wp2;go_ret
 exact⟨rfl,rfl⟩
theorem atS{w:World}{g:Nat}{s:ByteArray}{p:Nat}(h:cX w g s p):Calls Tryz.prog 127 #[.pointer (some ⟨g,0,none⟩)] w fun e w'=>e=.returned (.int .i64 p)/\w'=w:=by
 have HB:=q7 h;have c2:=h.c2;have hg:=h.lt;clear h
 go_enter Tryz.func127,Tryz.ntmps127
 go_wp2_with(go_at_call 158;refine(nD HB.out).mono ?_;rintro e w' ⟨rfl,hw'⟩;rw[hw'];clear hw')
 go_ret
 exact⟨rfl,rfl⟩
theorem q8B(s:ByteArray)(p:Nat)(hs:s.size<=4294967296)(hp:p<=8*s.size)(w:World):Calls Tryz.prog 122 #[.string s,.int .i64 p] w fun e w'=>∃g,e=.returned (.tuple #[.pointer (some ⟨g,0,none⟩),.int .i64 0])/\cX w' g s p/\w.heap.size<=g/\Below w.heap.size w w':=by
 have h1:¬(p:Int)<0:=by omega
 have h2:¬(p:Int)>8*(s.size:Int):=by omega
 have ho:=qE w w.heap.size #[Value.bool true,Value.string s,Value.int .i64 p] 230 (by simp) (q9 _)
 have HO:=q7 ho;clear ho
 go_enter Tryz.func122,Tryz.ntmps122
 go_wp2
 go_ret2
 exact⟨w.heap.size,rfl,⟨HO.out⟩,q9 _,qn _ _⟩
theorem q08{w:World}{g:Nat}{s:ByteArray}{p:Nat}(h:cX w g s p)(hs:s.size<=4294967296)(hp:p<=8*s.size):Calls Tryz.prog 198 #[.pointer (some ⟨g,0,none⟩)] w fun e w'=>e=.returned (.int .i64 ((8*s.size-p:Nat):Int))/\∃x,w'=ext w x:=by
 have HB:=q7 h;have c1:=h.c1;have c2:=h.c2;have hg:=h.lt;clear h;have e:((8*s.size-p:Nat):Int)=8*(s.size:Int)-(p:Int):=by omega
 go_enter Tryz.func198,Tryz.ntmps198
 go_wp2_with(go_at_call 158;refine(nD HB.out).mono ?_;rintro e w' ⟨rfl,hw'⟩;rw[hw'];clear hw')
 go_quiet (fail)
 go_wp2;go_ret;refine⟨?_,(qt (by repeat(first|exact qj _ _|assumption|refine qw ?_ _|refine qk ?_|refine qA ?_ _|refine qs ?_ _)))⟩
 show Ending.returned (Value.int .i64 (8*(s.size:Int)-(p:Int)))=_
 rw[e]
theorem q62{w:World}{g:Nat}{s:ByteArray}{p:Nat}(h:cX w g s p)(hs:s.size<=4294967296)(n:Nat)(hn:n<=32)(hp:p+n<=8*s.size):Calls Tryz.prog 205 #[.pointer (some ⟨g,0,none⟩),.int .i64 n] w fun e w'=>e=.returned (.int .i64 0)/\cX w' g s (p+n)/\w.grownBy w' (some g):=by
 have hd:decide (0<=(n:Int)/\(n:Int)<=32)=true:=by simp;omega
 have HB:=q7 h;have HL:=q7 (q08 h hs (by omega))
 have hl:¬(n:Int)>((8*s.size-p:Nat):Int):=by omega
 obtain⟨q,hq⟩:∃q:Nat,q=8*s.size-p:=⟨_,rfl⟩;rw[<-hq]at HL hl;clear hq h
 go_enter Tryz.func205,Tryz.ntmps205
 go_wp2_with(first|(go_at_call 158;refine(nD HB.out).mono ?_;rintro e w' ⟨rfl,hw'⟩;rw[hw'];clear hw')|(go_at_call 138;refine(q4n _ _).mono ?_;rintro e w' ⟨rfl,hw'⟩;rw[hw',hd];clear hw')|(go_at_call 198;refine HL.out.mono ?_;rintro e w' ⟨rfl,x,rfl⟩;have HB2:=q7 (HB.out.up (qu w x));have c2:=HB2.out.c2;have f2:=HB2.out.free 2;have hg:=HB2.out.lt;have HST:=q7 (HB2.out.set2 (p+n))))
 go_ret;have hst:=HST.out;rw[Int.natCast_add]at hst
 exact⟨rfl,hst.1,qp (qv (qu w _) _) hst.2⟩
structure aS(w:World)(g:Nat)(s:ByteArray)(p:Nat):Prop where
 own:Own w g 154 (.slice (some ⟨g,0,none⟩) 2 2) [.string s,.int .i64 p]
section
variable {w : World} {g : Nat} {s : ByteArray} {p : Nat}
theorem aS.up{w':World}(h:aS w g s p)(hb:Below w.heap.size w w'):aS w' g s p:=⟨h.own.up hb⟩
theorem aS.lt(h:aS w g s p):g<w.heap.size:=(h.own.lt g rfl).2
theorem aS.c0(h:aS w g s p):w.cell? ⟨g,0,none⟩=some (.string s):=h.own.cell (by simp)
theorem aS.c1(h:aS w g s p):w.cell? ⟨g,1,none⟩=some (.int .i64 p):=h.own.cell (by simp)
theorem aS.free(h:aS w g s p)(c:Nat):w.frozen? ⟨g,c,none⟩=false:=h.own.free c
theorem aS.set1(h:aS w g s p)(r:Nat):aS (w.setCell ⟨g,1,none⟩ (.int .i64 r)) g s r/\w.grownBy (w.setCell ⟨g,1,none⟩ (.int .i64 r)) (some g):=⟨⟨(h.own.store 1 _).1⟩,(h.own.store 1 _).2⟩
end
def kB:List UInt8->Nat
 |[]=>0
 |b::r=>b.toNat+256*kB r
def qH(s:ByteArray):Nat:=kB s.data.toList
theorem vQ(l:List UInt8)(i:Nat):kB l/256^i=kB (l.drop i):=by
 induction l generalizing i with
 |nil=>simp[kB]
 |cons b r ih=>
  cases i with
  |zero=>simp
  |succ i=>
   rw[List.drop_succ_cons,<-ih i,Nat.pow_succ,Nat.mul_comm,<-Nat.div_div_eq_div_mul]
   have:kB (b::r)/256=kB r:=by
    have:=UInt8.toNat_lt b
    show(b.toNat+256*kB r)/256=kB r
    omega
   rw[this]
theorem s8(l:List UInt8)(i:Nat)(h:i<l.length):kB l/256^i%256=(l[i]).toNat:=by
 rw[vQ,List.drop_eq_getElem_cons h];have:=UInt8.toNat_lt l[i]
 show((l[i]).toNat+256*kB _)%256=_
 omega
theorem q09(l:List UInt8)(i:Nat)(h:l.length<=i):kB l/256^i=0:=by
 rw[vQ,List.drop_of_length_le h];rfl
theorem yL(s:ByteArray)(i:Nat)(h:i<s.size):qH s/256^i%256=(s[i]).toNat:=by
 have h':i<s.data.toList.length:=by simpa using h
 unfold qH;rw[s8 _ i h']
 rfl
theorem yM(s:ByteArray)(i:Nat)(h:s.size<=i):qH s/256^i=0:=q09 _ i (by simpa using h)
def dF(N p n:Nat):Nat:=N/2^p%2^n
theorem q0a(s:ByteArray)(f k:Nat)(h:f+k<s.size):qH s/256^f%256^k+(s[f+k]).toNat*2^(8*k)=qH s/256^f%256^(k+1):=by
 have h1:=yL s (f+k) h;rw[<-h1,<-dW,Nat.pow_add,<-Nat.div_div_eq_div_mul,Nat.pow_succ,Nat.mod_mul,Nat.mul_comm]
theorem q2p(N f m k n:Nat)(h:m+n<=8*k):N/256^f%256^k/2^m%2^n=dF N (8*f+m) n:=by
 unfold dF;rw[dW k,Nat.pow_add,<-Nat.div_div_eq_div_mul,<-dW f];generalize N/256^f=D;obtain⟨q,hq⟩:∃q,8*k=m+(n+q):=⟨8*k-m-n,by omega⟩
 rw[hq,Nat.pow_add,Nat.mod_mul_right_div_self,Nat.pow_add,Nat.mod_mul_right_mod]
theorem q2q(s:ByteArray)(f m k n:Nat)(h:s.size<=f+k):qH s/256^f%256^k/2^m%2^n=dF (qH s) (8*f+m) n:=by
 unfold dF;rw[Nat.pow_add,<-Nat.div_div_eq_div_mul,<-dW f]
 have h0:qH s/256^f/256^k=0:=by
  rw[Nat.div_div_eq_div_mul,<-Nat.pow_add];exact yM s _ h
 have hl:qH s/256^f<256^k:=by
  have:=(Nat.div_eq_zero_iff_lt (Nat.pow_pos (n:=k) (show 0<256 by decide))).1 h0
  exact this
 rw[Nat.mod_eq_of_lt hl]
theorem q63(a b k:Nat)(hk:k<=4)(ha:a<256^k)(hb:b<256):bits .or .u64 (a:Int) (((b:Int)*2^(8*k))%18446744073709551616)=((a+b*2^(8*k):Nat):Int):=by
 rw[dW]at ha;have ho:=q3N a b (8*k) ha;have hp:2^(8*k)<=2^32:=qe (by decide) (by omega)
 have hb2:b*2^(8*k)<=255*2^32:=Nat.mul_le_mul (by omega) hp
 have hc:(b:Int)*2^(8*k)=((b*2^(8*k):Nat):Int):=by rw[Int.natCast_mul,Int.natCast_pow];rfl
 rw[hc];generalize 2^(8*k)=z at*;generalize b*z=q at*;have e:(q:Int)%18446744073709551616=(q:Int):=by omega
 rw[e,(bits_nat .u64 64 (by decide) (fun n h0 h1=>by rw[IntKind.wrap_u64];omega) a q (by omega) (by omega)).2,ho]
theorem M3(a m n:Nat)(hn:n<=32)(ha:a<2^40):wrap64 (bits .and .u64 ((a:Int)/2^m) (IntKind.u64.wrap (IntKind.u64.wrap (2^n)-1)))=((a/2^m%2^n:Nat):Int):=by
 have hp:2^n<=2^32:=qe (by decide) hn
 have hp1:1<=2^n:=Nat.one_le_two_pow;have e1:(2:Int)^n=((2^n:Nat):Int):=by norm_cast
 have e2:(a:Int)/2^m=((a/2^m:Nat):Int):=by norm_cast
 have e3:IntKind.u64.wrap (IntKind.u64.wrap (2^n)-1)=((2^n-1:Nat):Int):=by
  rw[IntKind.wrap_u64,IntKind.wrap_u64,e1];generalize 2^n=q at*;omega
 have hd:a/2^m<=a:=Nat.div_le_self _ _;have hb:=(bits_nat .u64 64 (by decide) (fun n h0 h1=>by rw[IntKind.wrap_u64];omega) (a/2^m) (2^n-1) (by omega) (by omega)).1
 rw[e2,e3,hb,Nat.and_two_pow_sub_one_eq_mod];have hm:a/2^m%2^n<2^n:=Nat.mod_lt _ (by omega)
 rw[IntWalk.wrap64_in _ ⟨by omega,by omega⟩]
theorem q64{w:World}{g:Nat}{s:ByteArray}{p:Nat}(h:cX w g s p)(hs:s.size<=4294967296)(hp:p<=8*s.size)(n:Nat)(hn:n<=32):
  Calls Tryz.prog 204 #[.pointer (some ⟨g,0,none⟩),.int .i64 n] w fun e w'=>e=.returned (.int .i64 (dF (qH s) p n:Nat))/\∃x,w'=ext w x:=by
 have hd:decide (0<=(n:Int)/\(n:Int)<=32)=true:=by simp;omega
 have HB:=q7 h;have c1:=h.c1;have c2:=h.c2;have hg:=h.lt;have e8:(p:Int)/8=((p/8:Nat):Int):=by omega
 have em:(p:Int)%8=((p%8:Nat):Int):=by omega
 have hpq:8*(p/8)+p%8=p:=by omega
 have hm8:p%8<8:=by omega
 clear h;generalize p/8=f at*;generalize p%8=m at*;have hf:f<=4294967296:=by omega
 have HPQ:=q7 hpq;clear hpq
 go_enter Tryz.func204,Tryz.ntmps204
 go_wp2_with(first|(go_at_call 158;refine(nD HB.out).mono ?_;rintro e w' ⟨rfl,hw'⟩;rw[hw'];clear hw')|(go_at_call 138;refine(q4n _ _).mono ?_;rintro e w' ⟨rfl,hw'⟩;rw[hw',hd];clear hw'))
 rw[em]
 go_loop [7,8] (fun a i=>∃k:Nat,k<=5/\i=.int .i64 k/\a=.int .u64 (qH s/256^f%256^k:Nat)) (fun _ i=>6-(intOf i).toNat)
 case atStart=>exact⟨0,by omega,rfl,by rw[Nat.pow_zero,Nat.mod_one];rfl⟩
 case round=>
  obtain⟨k,hk,rfl,rfl⟩:=hrel;have hle:qH s/256^f%256^k<256^k:=Nat.mod_lt _ (Nat.pow_pos (by decide))
  by_cases h1:8*k<m+n
  ·have h1i:(k:Int)*8<(m:Int)+(n:Int):=by omega
   by_cases h2:f+k<s.size
   ·have hst:=q0a s f k h2
    have hor:=q63 (qH s/256^f%256^k) (s[f+k]).toNat k (by omega) hle (UInt8.toNat_lt _)
    rw[hst]at hor;rw[<-IntKind.wrap_u64]at hor;have hby:(s[f+k]).toNat<256:=UInt8.toNat_lt _;have hwy:IntKind.u64.wrap ((s[f+k]).toNat:Int)=((s[f+k]).toNat:Int):=by rw[IntKind.wrap_u64];omega
    have HOR:=q7 hor;clear hor hst;have h2i:(f:Int)+(k:Int)<(s.size:Int):=by omega
    generalize hz:qH s/256^f%256^(k+1)=z at*;have HZ:=q7 hz;clear hz;generalize qH s/256^f%256^k=a at*;go_wp2
    go_round
    case rel=>
     refine⟨k+1,by omega,by go_num,?_⟩
     rw[HOR.out,HZ.out]
    case measure=>simp[intOf];omega
   ·have h2i:¬(f:Int)+(k:Int)<(s.size:Int):=by omega
    have HV:=q7 (q2q s f m k n (by omega))
    rw[HPQ.out]at HV;have h40:256^k<=256^5:=qe (by decide) hk
    have ha:qH s/256^f%256^k<2^40:=qd hle h40;generalize qH s/256^f%256^k=a at*;go_wp2;go_ret;refine⟨?_,(qt (by repeat(first|exact qj _ _|assumption|refine qw ?_ _|refine qk ?_|refine qA ?_ _|refine qs ?_ _)))⟩
    rw[<-HV.out,<-M3 a m n hn ha];rfl
  ·have h1i:¬(k:Int)*8<(m:Int)+(n:Int):=by omega
   have HV:=q7 (q2p (qH s) f m k n (by omega))
   rw[HPQ.out]at HV;have h40:256^k<=256^5:=qe (by decide) hk
   have ha:qH s/256^f%256^k<2^40:=qd hle h40;generalize qH s/256^f%256^k=a at*;go_wp2;go_ret;refine⟨?_,(qt (by repeat(first|exact qj _ _|assumption|refine qw ?_ _|refine qk ?_|refine qA ?_ _|refine qs ?_ _)))⟩
   rw[<-HV.out,<-M3 a m n hn ha];rfl
noncomputable def kept(w:World)(b n:Nat)(x:World):World:=@ite _ (w.grownBy x (some b)/\∀o,o<n->x.cell? ⟨b,o,none⟩=w.cell? ⟨b,o,none⟩) (Classical.propDecidable _) x w
theorem uL(w:World)(b n:Nat)(x:World):w.grownBy (kept w b n x) (some b):=by
 unfold kept;split
 ·rename_i h;exact h.1
 ·exact eU w _
theorem vW{w x:World}{b n:Nat}(h:w.grownBy x (some b))(hc:∀o,o<n->x.cell? ⟨b,o,none⟩=w.cell? ⟨b,o,none⟩):∃y,x=kept w b n y:=⟨x,by unfold kept;rw[if_pos ⟨h,hc⟩]⟩
@[go_sem] theorem cell?_kept_other(w:World)(b n:Nat)(x:World)(k o:Nat)(h:k<w.heap.size)(hr:k≠b):(kept w b n x).cell? ⟨k,o,none⟩=w.cell? ⟨k,o,none⟩:=World.cell?_of_block ((uL w b n x).block k h (fun e=>hr (ql e)))
@[go_sem] theorem frozen?_kept_other(w:World)(b n:Nat)(x:World)(k o:Nat)(h:k<w.heap.size)(hr:k≠b):(kept w b n x).frozen? ⟨k,o,none⟩=w.frozen? ⟨k,o,none⟩:=World.frozen?_of_block ((uL w b n x).block k h (fun e=>hr (ql e)))
@[go_sem] theorem cell?_kept_same(w:World)(b n:Nat)(x:World)(o:Nat)(h:o<n):(kept w b n x).cell? ⟨b,o,none⟩=w.cell? ⟨b,o,none⟩:=by
 unfold kept;split
 ·rename_i hh;exact hh.2 o h
 ·rfl
theorem uM{w x:World}{b n:Nat}(h:Below w.heap.size w x)(hb:b<w.heap.size):∃y,x=kept w b n y:=vW (qv h _) (fun o _=>h.cell (p:=⟨b,o,none⟩) hb)
theorem q2u{P:Program}(w:World)(B:Nat)(t ty E:TypeId)(z:Value)(bytes:Nat)(ht:P.underlying t=some (.slice E))(q92:(P.info? E).map (fun i=>(i.zero,i.size,i.bytes))=some (some z,1,bytes))(hz:z.cells.size=1)(hby:bytes<=24)
  (v:Value) (xs:List Value) (hown:Own w B E v xs) (xv:Value) (news:List Value) (hx:Sl w xv news) (h1:∀u∈news,u.oneCell'=true) (hlen:xs.length+news.length<=4294967296) (hB:B<=w.heap.size):
  ∃v' w',(Builtin.append_ #[t,t] ty #[v,xv]).run P w=.ok v' w'/\Own w' B E v' (xs++news)/\w.grownBy w' v.ownBlock/\(∀k,v'.ownBlock=some k->v.ownBlock=some k\/w.heap.size<=k)/\(∀g i,v.ownBlock=some g->i<xs.length->w'.cell? ⟨g,i,none⟩=w.cell? ⟨g,i,none⟩):=by
 obtain⟨i0,hi,hz0,hz1,hz2⟩:∃i0,P.info? E=some i0/\i0.zero=some z/\i0.size=1/\i0.bytes=bytes:=by
  cases hq:P.info? E with
  |none=>simp[hq]at q92
  |some i0=>simp[hq]at q92;exact⟨i0,rfl,q92.1,q92.2.1,q92.2.2⟩
 have hl1:xs.length+news.length<=maxLen:=by simp only[maxLen];omega
 have hl2:(xs.length+news.length)*bytes<=140737488355328:=by
  have:=Nat.mul_le_mul hlen hby;omega
 obtain⟨oa,cx,b,off,rfl,hd,hc⟩:=hx;have q96:xs.length+news.length<=140737488351232:=by omega
 rcases hown with⟨hrow,hsm⟩
 by_cases hn:news=[]
 ·subst hn
  refine⟨v,w,?_,⟨by simpa using hrow,by simpa using hsm⟩,⟨rfl,rfl,rfl,q9 _,fun _ _ _=>rfl⟩,fun k hk=>.inl hk,fun _ _ _ _=>rfl⟩
  rcases hrow.2 with⟨rfl,hx0⟩|⟨g,cap,cur,rfl,_,_,hnc,_⟩
  ·cases oa<;>simp[Builtin.append_,run_underlying ht,sizeOf,typeInfo,hi,Builtin.lenOf,Builtin.firstCells,loadCells,loadCellsFrom]
  ·cases oa<;>simp[Builtin.append_,run_underlying ht,sizeOf,typeInfo,hi,Builtin.lenOf,Builtin.firstCells,loadCells,loadCellsFrom,hnc,storeCells]
 ·have q9P:0<news.length:=List.length_pos_iff.2 hn
  obtain rfl:=hd.hat q9P
  have hnews:∀j u,news[j]? =some u->w.cell? ((⟨b,off,none⟩:Addr).add j)=some u:=fun j u hu=>by
   have hj:=(List.getElem?_eq_some_iff.1 hu).1;rw[aZ,hc j hj];simp[List.getD,hu]
  rcases hrow.2 with⟨rfl,hx0⟩|⟨g,cap,cur,rfl,hbg,hg,hnc,hcm,hcs,q91⟩
  ·obtain rfl:xs=[]:=List.length_eq_zero_iff.1 hx0
   obtain⟨v',w',hr,ho,hgr,-⟩:=run_append_own (P:=P) w w.heap.size t ty E i0 z 1 bytes ht hi hz0 hz1 hz2 hz (by decide) (.slice none 0 0) 0 [] (World.ownsRow_nil _ _ _ _) ⟨b,off,none⟩ news.length cx news (by simp) hnews h1 (by simpa using hl1) (by simpa using hl2) (q9 _)
   have hk:=ho.lt;refine⟨v',w',hr,⟨⟨by simp,?_⟩,by simp only[List.nil_append];omega⟩,hgr,fun k hk'=>.inr (hk k hk').1,fun g i hg _=>by simp[Value.ownBlock]at hg⟩
   simp only[Nat.zero_add,List.nil_append]at ho
   rcases ho.2 with⟨h1,h2⟩|⟨g,cap,cur,h1,h2,h3⟩
   ·exact .inl ⟨h1,by simpa using h2⟩
   ·exact .inr ⟨g,cap,cur,h1,by omega,by simpa using h3⟩
  ·by_cases hroom:xs.length+news.length<=cap
   ·obtain⟨w',hr,ho,hgr⟩:=run_append_fits (P:=P) w B t ty E i0 1 ht hi hz1 g xs.length cap xs ⟨hrow.1,.inr ⟨g,cap,cur,rfl,hbg,hg,hnc,hcm,hcs,q91⟩⟩ ⟨b,off,none⟩ news.length cx news (by simp) hnews h1 hroom
    have hown2:Own w' B E (.slice (some ⟨g,0,none⟩) (xs.length+news.length) cap) (xs++news):=⟨by rw[qg];exact ho,by rw[qg];exact q96⟩
    have hown1:Own w B E (.slice (some ⟨g,0,none⟩) xs.length cap) xs:=⟨⟨hrow.1,.inr ⟨g,cap,cur,rfl,hbg,hg,hnc,hcm,hcs,q91⟩⟩,hsm⟩;refine⟨_,w',hr,hown2,hgr,fun k hk=>.inl hk,fun g' i hg' hi'=>?_⟩
    obtain rfl:g=g':=by simpa[Value.ownBlock]using hg'
    rw[hown2.cell (by rw[qg];omega),hown1.cell hi']
    simp[List.getD,List.getElem?_append_left hi']
   ·have holds:∀j u,xs[j]? =some u->w.cell? ((⟨g,0,none⟩:Addr).add j)=some u:=World.ownsRow.cells (g:=g) hrow rfl
    have qcH:xs.length+news.length<=9223372036854775807:=by omega
    have hr:=run_append_grow (P:=P) w t ty E i0 z ht hi hz0 ⟨g,0,none⟩ xs.length cap xs (by rw[hz1];exact hrow.1) holds ⟨b,off,none⟩ news.length cx news (by rw[hz1];simp) hnews (by omega) (by omega) (growslice_fits (by omega) (by rw[hz2];exact hl2))
    have hge:=grownCap_ge w (xs.length+news.length) cap E;have qbF:grownCap w (xs.length+news.length) cap E<=maxLen:=grownCap_le_maxLen w _ cap E hl1;refine⟨_,_,hr,⟨⟨by simp,.inr ⟨w.heap.size,_,_,by rw[qg],hB,heap_alloc_new w.drew _,by rw[qg];exact hge,qbF,?_,?_⟩⟩,by rw[qg];exact q96⟩,⟨rfl,rfl,rfl,by simp,fun k hk _=>Below.heap_alloc w.drew _ k hk⟩,fun k hk=>.inr (by simp[Value.ownBlock]at hk;omega),fun g' i hg' _=>?_⟩
    ·simp only[Array.size_append,List.size_toArray,size_zeroCells,hz]
     omega
    ·simp only[Array.toList_append,qh]
     rw[<-qh,Nat.mul_one]
     exact List.take_left
    ·obtain rfl:g=g':=by simpa[Value.ownBlock]using hg'
     exact World.cell?_of_block (Below.heap_alloc w.drew _ g (Array.getElem?_eq_some_iff.1 hg).1)
theorem sD{P:Program}{ops:Array Oper}{rest:List Oper}{o:Oper}{a:Act}{w:World}{Q:Exit->Act->World->Prop}(hgd:o.guard=none)(s x:Operand)(t:TypeId)
  (ho:o.op=.call {callee:=.builtin .append,args:=#[s,x],argTypes:=#[t,t]})
  (B E:TypeId) (z:Value) (bytes:Nat) (ht:P.underlying t=some (.slice E)) (q92:(P.info? E).map (fun i=>(i.zero,i.size,i.bytes))=some (some z,1,bytes)) (hz:z.cells.size=1) (hby:bytes<=24)
  (v:Value) (xs:List Value) (hs:a.eval s=v) (hown:Own w B E v xs) (xv:Value) (news:List Value) (hxe:a.eval x=xv) (hx:Sl w xv news) (h1:∀u∈news,u.oneCell'=true) (hlen:xs.length+news.length<=4294967296) (hB:B<=w.heap.size)
  (h:∀v' w',Own w' B E v' (xs++news)->w.grownBy w' v.ownBlock->(∀k,v'.ownBlock=some k->v.ownBlock=some k\/w.heap.size<=k)->(∀g i,v.ownBlock=some g->i<xs.length->w'.cell? ⟨g,i,none⟩=w.cell? ⟨g,i,none⟩)->wpList P ops Q rest (a.put o.dst v') w'):wpList P ops Q (o::rest) a w:=by
 obtain⟨v',w',hr,h2,h3,h4,h5⟩:=q2u (P:=P) w B t o.type E z bytes ht q92 hz hby v xs hown xv news hx h1 hlen hB;refine wpList_plain hgd fun K hK=>?_
 unfold Oper.wp execOp;simp only[ho,resolve,invoke,builtin,Sem.run_bind,Sem.run_pure,Result.andThen_ok,List.map_toArray,List.map_cons,List.map_nil,hs,hxe,hr]
 exact hK _ _ (h v' w' h2 h3 h4 h5)
theorem fQ{P:Program}(w:World)(k:Nat)(s:ByteArray):(Builtin.firstCells k s.size (.string s)).run P w=.ok (qD s.data.toList).toArray w:=by
 unfold Builtin.firstCells;rw[Sem.run_pure];have h:(s.extract 0 s.size)=s:=by simp
 rw[h]
 congr 1
 apply Array.ext'
 simp[qD]
theorem sF{P:Program}(w:World)(B:Nat)(t u ty E:TypeId)(z:Value)(bytes:Nat)(ht:P.underlying t=some (.slice E))(hu:P.underlying u=some .string)(q92:(P.info? E).map (fun i=>(i.zero,i.size,i.bytes))=some (some z,1,bytes))(hz:z.cells.size=1)(hby:bytes<=24)
  (v:Value) (xs:List Value) (hown:Own w B E v xs) (s:ByteArray) (hlen:xs.length+s.size<=4294967296) (hB:B<=w.heap.size):
  ∃v' w',(Builtin.append_ #[t,u] ty #[v,.string s]).run P w=.ok v' w'/\Own w' B E v' (xs++qD s.data.toList)/\w.grownBy w' v.ownBlock/\(∀k,v'.ownBlock=some k->v.ownBlock=some k\/w.heap.size<=k):=by
 obtain⟨i,hi,hz0,hz1,hz2⟩:∃i0,P.info? E=some i0/\i0.zero=some z/\i0.size=1/\i0.bytes=bytes:=by
  cases hq:P.info? E with
  |none=>simp[hq]at q92
  |some i0=>simp[hq]at q92;exact⟨i0,rfl,q92.1,q92.2.1,q92.2.2⟩
 have hnl:(qD s.data.toList).length=s.size:=by rw[qz];simp
 have h1:=gC s.data.toList;have hl1:xs.length+s.size<=maxLen:=by simp only[maxLen];omega
 have hl2:(xs.length+s.size)*bytes<=140737488355328:=by
  have:=Nat.mul_le_mul hlen hby;omega
 have hf:=fun w'=>fQ (P:=P) w' 1 s
 generalize qD s.data.toList=news at*
 rcases hown with⟨hrow,hsm⟩
 have hxl:=hrow.1;rw[Nat.mul_one]at hxl
 have grown:∀(old:Nat),old<xs.length+s.size->∀(row:Option Nat),
   (w.drew.alloc (.cells (xs.toArray++news.toArray++Builtin.zeroCells z.cells (grownCap w (xs.length+s.size) old E-(xs.length+s.size))) E)).ownsRow B E 1
    (.slice (some ⟨w.heap.size,0,none⟩) (xs.length+s.size) (grownCap w (xs.length+s.size) old E)) (xs.length+s.size) (xs++news)/\
   w.grownBy (w.drew.alloc (.cells (xs.toArray++news.toArray++Builtin.zeroCells z.cells (grownCap w (xs.length+s.size) old E-(xs.length+s.size))) E)) row:=by
  intro old ho row;have hge:=grownCap_ge w (xs.length+s.size) old E;have hcm:grownCap w (xs.length+s.size) old E<=maxLen:=grownCap_le_maxLen w (xs.length+s.size) old E hl1;refine⟨⟨by simp[hnl],.inr ⟨w.heap.size,_,_,rfl,hB,heap_alloc_new w.drew _,hge,hcm,?_,?_⟩⟩,⟨rfl,rfl,rfl,by simp,fun k hk _=>Below.heap_alloc w.drew _ k hk⟩⟩
  ·simp only[Array.size_append,List.size_toArray,size_zeroCells,hz,hnl]
   omega
  ·simp only[Array.toList_append,qh]
   rw[<-qh,Nat.mul_one,<-hnl,<-qg]
   exact List.take_left
 have q96:(xs++news).length<=140737488351232:=by rw[qg,hnl];omega
 rcases hrow.2 with⟨rfl,hx0⟩|⟨g,cap,cur,rfl,hbg,hg,hnc,hcm,hcs,q91⟩
 ·obtain rfl:xs=[]:=List.length_eq_zero_iff.1 hx0
  by_cases hs:s.size=0
  ·have hn:news=[]:=List.length_eq_zero_iff.1 (by rw[hnl,hs])
   subst hn;refine⟨.slice none 0 0,w,?_,Own.nil _ _ _,⟨rfl,rfl,rfl,q9 _,fun _ _ _=>rfl⟩,fun k hk=>by simp[Value.ownBlock]at hk⟩
   have hf0:=hf w;rw[hs]at hf0
   simp[Builtin.append_,run_underlying ht,run_underlying hu,sizeOf,typeInfo,hi,hz1,Builtin.lenOf,hs,hf0]
  ·obtain⟨g1,g2⟩:=grown 0 (by simp;omega) (Value.ownBlock (.slice none 0 0))
   simp only[List.length_nil,Nat.zero_add,List.nil_append]at g1 g2 q96;refine⟨_,_,?_,⟨by simpa[hnl]using g1,by simpa using q96⟩,g2,fun k hk=>.inr (by simp[Value.ownBlock]at hk;omega)⟩
   have qbI:¬(9223372036854775807<(s.size:Int)):=by simp at hlen;omega
   have qbJ:¬(281474976710656<Builtin.nextslicecap s.size 0*i.bytes):=by rw[nextslicecap_zero (by omega),hz2];simp at hl2;omega
   have hf0:=hf w.drew
   simp[Builtin.append_,run_underlying ht,run_underlying hu,sizeOf,typeInfo,zeroValue,hi,hz0,hz1,Builtin.lenOf,hs,qbI,qbJ,Question.forced,run_firstCells_none,hf0,newRow,grownCap]
 ·by_cases hroom:xs.length+s.size<=cap
  ·have qcf:xs.length*1+news.length<=cur.size:=by rw[hnl,hcs];omega
   have hst:=run_storeCells_at P g (xs.length*1) E news 0 cur w hg (by simpa using qcf) h1
   simp only[Nat.add_zero,Nat.mul_one]at hst;generalize hR:(cur.toList.take xs.length++news++cur.toList.drop (xs.length+news.length)).toArray=R at hst;refine⟨.slice (some ⟨g,0,none⟩) (xs.length+s.size) cap,w.setRow g R,?_,⟨⟨by simp[hnl],.inr ⟨g,cap,R,?_,hbg,setRow_heap w g cur R E _ hg,?_,hcm,?_,?_⟩⟩,q96⟩,⟨rfl,rfl,rfl,by simp,fun k _ hk=>setRow_other w g k _ (fun e=>hk (by simp[Value.ownBlock,e]))⟩,fun k hk=>.inl hk⟩
   ·have hf0:=hf w
    simp[Builtin.append_,run_underlying ht,run_underlying hu,sizeOf,typeInfo,hi,hz1,Builtin.lenOf,hroom,hf0,Addr.add_lit,hst]
   ·rw[qg,hnl]
   ·rw[qg,hnl];exact hroom
   ·rw[<-hR]
    simp only[List.size_toArray,qg,List.length_take,List.length_drop,Array.length_toList];omega
   ·rw[Nat.mul_one]at q91
    rw[Nat.mul_one,<-hR,q91]
    exact List.take_left
  ·have holds:∀j u,xs[j]? =some u->w.cell? ((⟨g,0,none⟩:Addr).add j)=some u:=World.ownsRow.cells (g:=g) hrow rfl
   obtain⟨g1,g2⟩:=grown cap (by omega) (Value.ownBlock (.slice (some ⟨g,0,none⟩) xs.length cap))
   refine⟨_,_,?_,⟨by rw[qg,hnl];exact g1,q96⟩,g2,fun k hk=>.inr (by simp[Value.ownBlock]at hk;omega)⟩
   have hn:¬(xs.length+s.size<=cap):=hroom;have qbI:¬(9223372036854775807<((xs.length:Int)+(s.size:Int))):=by omega
   have qbJ:¬(281474976710656<Builtin.nextslicecap (xs.length+s.size) cap*i.bytes):=by
    have:=growslice_fits (need:=xs.length+s.size) (old:=cap) (bytes:=bytes) (by omega) hl2
    rw[hz2];omega
   have hf0:=hf w.drew;have hfo:=run_firstCells_some (P:=P) w.drew 1 xs.length ⟨g,0,none⟩ xs.length cap xs (by omega) (by simpa using holds)
   simp[Builtin.append_,run_underlying ht,run_underlying hu,sizeOf,typeInfo,zeroValue,hi,hz0,hz1,Builtin.lenOf,hn,qbI,qbJ,Question.forced,hf0,hfo,newRow,grownCap]
   congr 2
   apply Array.ext'
   simp[qh]
theorem dQ{P:Program}{ops:Array Oper}{rest:List Oper}{o:Oper}{a:Act}{w:World}{Q:Exit->Act->World->Prop}(hgd:o.guard=none)(s x:Operand)(t u:TypeId)
  (ho:o.op=.call {callee:=.builtin .append,args:=#[s,x],argTypes:=#[t,u]})
  (B E:TypeId) (z:Value) (bytes:Nat) (ht:P.underlying t=some (.slice E)) (hu:P.underlying u=some .string) (q92:(P.info? E).map (fun i=>(i.zero,i.size,i.bytes))=some (some z,1,bytes)) (hz:z.cells.size=1) (hby:bytes<=24)
  (v:Value) (xs:List Value) (hs:a.eval s=v) (hown:Own w B E v xs) (tx:ByteArray) (hxe:a.eval x=.string tx) (hlen:xs.length+tx.size<=4294967296) (hB:B<=w.heap.size)
  (h:∀v' w',Own w' B E v' (xs++qD tx.data.toList)->w.grownBy w' v.ownBlock->(∀k,v'.ownBlock=some k->v.ownBlock=some k\/w.heap.size<=k)->wpList P ops Q rest (a.put o.dst v') w'):wpList P ops Q (o::rest) a w:=by
 obtain⟨v',w',hr,h2,h3,h4⟩:=sF (P:=P) w B t u o.type E z bytes ht hu q92 hz hby v xs hown tx hlen hB;refine wpList_plain hgd fun K hK=>?_
 unfold Oper.wp execOp;simp only[ho,resolve,invoke,builtin,Sem.run_bind,Sem.run_pure,Result.andThen_ok,List.map_toArray,List.map_cons,List.map_nil,hs,hxe,hr]
 exact hK _ _ (h v' w' h2 h3 h4)
end Go.Cm
namespace Go.Cm
open Go.RowKit
section
variable {P : Program} {ops : Array Oper} {md : Region.Mode} {C : World → Prop}
def q7k(md:Region.Mode)(ops:Array Oper)(k:Array Bool->Bool):List Nat->Array Bool->Bool
 |[],listed=>k listed
 |i::r,listed=>Region.ready md ops listed==[i]&&q7k md ops k r (listed.setIfInBounds i true)
def q7l(md:Region.Mode)(ops:Array Oper)(k:Array Bool->Bool):List Nat->Array Bool->Bool
 |[],listed=>k listed
 |i::r,listed=>(Region.ready md ops listed).contains i&&Region.free md ops listed i&&((ops[i]?).map (fun o=>mU o.op)).getD false&&q7l md ops k r (listed.setIfInBounds i true)
def q7m(md:Region.Mode)(ops:Array Oper):List (List Nat×List Nat)->Array Bool->Bool
 |[],listed=>Region.ready md ops listed==[]
 |ph::r,listed=>q7l md ops (q7k md ops (q7m md ops r) ph.2) ph.1 listed
def q4w:List (List Nat×List Nat)->Nat
 |[]=>0
 |ph::r=>ph.1.length+(ph.2.length+q4w r)
def q0v(md:Region.Mode)(ops:Array Oper)(l:List (List Nat×List Nat)):Bool:=
 Region.noSelect ops&&(q4w l==ops.size)&&q7m md ops l (Array.replicate ops.size false)
def j6(P:Program)(ops:Array Oper)(C:World->Prop)(Q:Act->World->Prop):List (List Nat×List Nat)->Act->World->Prop
 |[],a,w=>Q a w
 |ph::r,a,w=>wpQuiet P ops C (fun a'=>qy P ops C (j6 P ops C Q r) (eI ops.toList ph.2) a' w) (eI ops.toList ph.1) a
theorem lZ{Q K:Act->World->Prop}{k:Array Bool->Bool}{n:Nat}(hk:∀listed a w,k listed=true->C w->K a w->fL P md ops C Q n listed a w):
  ∀(o2:List Nat) (listed:Array Bool) (a:Act) (w:World),q7k md ops k o2 listed=true->C w->
  qy P ops C K (eI ops.toList o2) a w->fL P md ops C Q (o2.length+n) listed a w
 |[],listed,a,w,hB,hC,h=>by rw[List.length_nil,Nat.zero_add];exact hk listed a w hB hC h
 |i::r,listed,a,w,hB,hC,h=>by
  simp only[q7k,Bool.and_eq_true,beq_iff_eq]at hB;obtain⟨hr,hB'⟩:=hB;have him:i∈Region.ready md ops listed:=by rw[hr];simp
  obtain⟨_,o,ho,_⟩:=mem_ready.1 him;have hol:ops.toList.getD i default=o:=by rw[List.getD_eq_getElem?_getD,Array.getElem?_toList,ho];rfl
  rw[List.length_cons,Nat.add_right_comm];refine⟨hC,fun h0=>(by rw[hr]at h0;cases h0),fun j hj=>?_⟩
  obtain rfl:j=i:=by rw[hr]at hj;simpa using hj
  simp only[eI,List.map_cons,hol]at h;have h':wpList P ops (J8 C (qy P ops C K (eI ops.toList r))) [o] a w:=h;unfold wpList at h';unfold wpOp;simp only[ho];split
  ·rename_i hw
   rw[if_pos hw]at h'
   rcases h' with h'|⟨-,h'⟩
   ·refine .inl (Oper.wp_mono ?_ (kN (fun _ _ _ h=>h) fM h'))
    intro a' w' hh;obtain⟨hC',hk'⟩:=(hh:J8 C (qy P ops C K (eI ops.toList r)) .normal a' w')
    exact lZ hk r _ a' w' hB' hC' hk'
   ·exact(fM h').elim
  ·rename_i hw
   rw[if_neg hw]at h';obtain⟨hC',hk'⟩:=(h':J8 C (qy P ops C K (eI ops.toList r)) .normal (a.put o.dst undef) w)
   exact lZ hk r _ _ _ hB' hC' hk'
theorem sH{Q:Act->World->Prop}{K:Act->Prop}{k:Array Bool->Bool}{n:Nat}{w:World}(hs:Region.noSelect ops=true)(hk:∀listed a,k listed=true->K a->fL P md ops C Q n listed a w):
  ∀(o1:List Nat) (listed:Array Bool) (a:Act),q7l md ops k o1 listed=true->
  wpQuiet P ops C K (eI ops.toList o1) a->fL P md ops C Q (o1.length+n) listed a w
 |[],listed,a,hB,h=>by rw[List.length_nil,Nat.zero_add];exact hk listed a hB h
 |i::r,listed,a,hB,h=>by
  simp only[q7l,Bool.and_eq_true]at hB;obtain⟨⟨⟨hr,hf⟩,hn⟩,hB'⟩:=hB;have him:i∈Region.ready md ops listed:=by simpa using hr
  obtain⟨_,o,ho,_⟩:=mem_ready.1 him;have hol:ops.toList.getD i default=o:=by rw[List.getD_eq_getElem?_getD,Array.getElem?_toList,ho];rfl
  simp only[eI,List.map_cons,hol]at h;have hn':mU o.op=true:=by simpa[ho]using hn
  obtain⟨v,hy,hK⟩:=kP (K:=wpQuiet P ops C K (eI ops.toList r)) hn' h;rw[List.length_cons,Nat.add_right_comm]
  exact iW ho (Region.noSelect_spec hs) _ listed a w (Region.free_spec ho hf) him hy (sH hs hk r _ _ hB' hK)
theorem sI{Q:Act->World->Prop}(hs:Region.noSelect ops=true):∀(l:List (List Nat×List Nat)) (listed:Array Bool) (a:Act) (w:World),q7m md ops l listed=true->C w->
  j6 P ops C Q l a w->fL P md ops C Q (q4w l) listed a w
 |[],listed,a,w,hB,hC,h=>⟨hC,by simpa[q7m]using hB,h⟩
 |ph::r,listed,a,w,hB,hC,h=>
  sH hs (fun listed' a' hB' hK=>lZ (K:=j6 P ops C Q r) (fun l'' a'' w'' qk3 qk0 qjY=>sI hs r l'' a'' w'' qk3 qk0 qjY) ph.2 listed' a' w hB' hC hK) ph.1 listed a hB h
theorem jZ{id:Nat}{Q:Exit->Act->World->Prop}{a:Act}{w:World}{l:List Oper}(C:World->Prop)(ps:List (List Nat×List Nat))(hm:P.follows .mixedOrders=true)(hB:q0v .any l.toArray ps=true)(hC:C w.drew)
  (h:j6 P l.toArray C (fun a'' w''=>C w''->Q .normal a'' w'') ps a w.drew):(Code.region id l.toArray true).wp P Q a w:=by
 simp only[q0v,Bool.and_eq_true,beq_iff_eq]at hB;obtain⟨⟨hs,hlen⟩,hB⟩:=hB;refine wp_region_any hm ?_;have h1:=sI (Q:=fun a'' w''=>C w''->Q .normal a'' w'') (md:=.any) hs ps (Array.replicate l.toArray.size false) a w.drew hB hC h
 rw[hlen]at h1
 exact kO (fun a w hC hq=>hq hC) _ _ _ _ h1
end
end Go.Cm
namespace Go.Cm
open Go.RowKit
inductive Scr where
 |done
 |q (i:Nat) (s:Scr)
 |br (i:Nat) (s:Scr) (t:Scr)
 |no
def Scr.heads:Scr->List Nat
 |.br i _ t=>i::t.heads
 |_=>[]
def Scr.run(md:Region.Mode)(ops:Array Oper):Scr->Bool->Nat->Array Bool->Bool
 |.done,top,n,listed=>top&&n==0&&Region.ready md ops listed==[]
 |.q i s,top,n,listed=>top&&decide (0<n)&&(Region.ready md ops listed).contains i&&Region.free md ops listed i&&((ops[i]?).map (fun o=>mU o.op)).getD false&&s.run md ops true (n-1) (listed.setIfInBounds i true)
 |.br i s t,top,n,listed=>(!top||Region.ready md ops listed==i::t.heads)&&decide (0<n)&&((ops[i]?).isSome)&&s.run md ops true (n-1) (listed.setIfInBounds i true)&&t.run md ops false n listed
 |.no,top,_,_=> !top
def Scr.as:List Nat->Scr->Scr
 |[],s=>s
 |i::r,s=>.br i (Scr.as r s) .no
section
variable {P : Program} {ops : Array Oper} {md : Region.Mode} {C : World → Prop}
def qX(P:Program)(ops:Array Oper)(C:World->Prop)(Q:Act->World->Prop):Scr->Act->World->Prop
 |.done,a,w=>Q a w
 |.q i s,a,w=>wpQuiet P ops C (fun a'=>qX P ops C Q s a' w) (eI ops.toList [i]) a
 |.br i s t,a,w=>qy P ops C (qX P ops C Q s) (eI ops.toList [i]) a w/\qX P ops C Q t a w
 |.no,_,_=>True
theorem M6{i:Nat}{o:Oper}(ho:ops[i]? =some o):eI ops.toList [i]=[o]:=by
 have hol:ops.toList.getD i default=o:=by rw[List.getD_eq_getElem?_getD,Array.getElem?_toList,ho];rfl
 show [ops.toList.getD i default]=[o]
 rw[hol]
theorem F5{K:Act->World->Prop}{K':Act->World->Prop}{i:Nat}{o:Oper}{a:Act}{w:World}(ho:ops[i]? =some o)(h:qy P ops C K [o] a w)(hk:∀a w,C w->K a w->K' a w):wpOp P ops noQ i K' a w:=by
 have h':wpList P ops (J8 C (qy P ops C K [])) [o] a w:=h;unfold wpList at h';unfold wpOp;simp only[ho];split
 ·rename_i hw
  rw[if_pos hw]at h'
  rcases h' with h'|⟨-,h'⟩
  ·refine .inl (Oper.wp_mono ?_ (kN (fun _ _ _ h=>h) fM h'))
   intro a' w' hh;obtain⟨hC',hk'⟩:=(hh:J8 C (qy P ops C K []) .normal a' w')
   exact hk a' w' hC' hk'
  ·exact(fM h').elim
 ·rename_i hw
  rw[if_neg hw]at h';obtain⟨hC',hk'⟩:=(h':J8 C (qy P ops C K []) .normal (a.put o.dst undef) w)
  exact hk _ _ hC' hk'
theorem U4{Q:Act->World->Prop}(hs:Region.noSelect ops=true):∀(s:Scr) (n:Nat) (listed:Array Bool) (a:Act) (w:World),C w->qX P ops C Q s a w->
  (s.run md ops true n listed=true->fL P md ops C Q n listed a w)/\
  (s.run md ops false n listed=true->∀j∈s.heads,∃m,n=m+1/\wpOp P ops noQ j (fL P md ops C Q m (listed.setIfInBounds j true)) a w):=by
 intro s
 induction s with
 |done=>
  intro n listed a w hC h;refine⟨fun hB=>?_,fun _ j hj=>by cases hj⟩
  simp only[Scr.run,Bool.true_and,Bool.and_eq_true,beq_iff_eq]at hB;obtain⟨rfl,hr⟩:=hB
  exact⟨hC,hr,h⟩
 |no=>
  intro n listed a w hC h
  exact⟨fun hB=>by simp[Scr.run]at hB,fun _ j hj=>by cases hj⟩
 |q i s ih=>
  intro n listed a w hC h;refine⟨fun hB=>?_,fun _ j hj=>by cases hj⟩
  simp only[Scr.run,Bool.true_and,Bool.and_eq_true,decide_eq_true_eq]at hB;obtain⟨⟨⟨⟨h0,hr⟩,hf⟩,hn⟩,hB'⟩:=hB;obtain⟨m,rfl⟩:∃m,n=m+1:=⟨n-1,by omega⟩
  have him:i∈Region.ready md ops listed:=by simpa using hr
  obtain⟨_,o,ho,_⟩:=mem_ready.1 him;have hn':mU o.op=true:=by simpa[ho]using hn
  have h':wpQuiet P ops C (fun a'=>qX P ops C Q s a' w) [o] a:=by
   have:=h;unfold qX at this;rwa [M6 ho]at this
  obtain⟨v,hy,hK⟩:=kP (K:=wpQuiet P ops C (fun a'=>qX P ops C Q s a' w) []) hn' h'
  exact iW ho (Region.noSelect_spec hs) _ listed a w (Region.free_spec ho hf) him hy ((ih m _ _ w hC hK).1 hB')
 |br i s t ihs iht=>
  intro n listed a w hC h;obtain⟨h1,h2⟩:=h
  have key:s.run md ops true (n-1) (listed.setIfInBounds i true)=true->(ops[i]?).isSome=true->0<n->t.run md ops false n listed=true->∀j∈(Scr.br i s t).heads,∃m,n=m+1/\wpOp P ops noQ j (fL P md ops C Q m (listed.setIfInBounds j true)) a w:=by
   intro hB1 hsome h0 hB2 j hj;obtain⟨m,rfl⟩:∃m,n=m+1:=⟨n-1,by omega⟩
   rcases List.mem_cons.1 hj with rfl|hj
   ·obtain⟨o,ho⟩:=Option.isSome_iff_exists.1 hsome
    rw[M6 ho]at h1
    exact⟨m,rfl,F5 ho h1 fun a' w' hC' hk=>(ihs m _ a' w' hC' hk).1 hB1⟩
   ·exact(iht (m+1) listed a w hC h2).2 hB2 j hj
  constructor
  ·intro hB
   simp only[Scr.run,Bool.not_true,Bool.false_or,Bool.and_eq_true,beq_iff_eq,decide_eq_true_eq]at hB;obtain⟨⟨⟨⟨hr,h0⟩,hsome⟩,hB1⟩,hB2⟩:=hB;obtain⟨m,rfl⟩:∃m,n=m+1:=⟨n-1,by omega⟩
   refine⟨hC,fun h0=>(by rw[hr]at h0;cases h0),fun j hj=>?_⟩
   rw[hr]at hj;obtain⟨m',hm,hw⟩:=key hB1 hsome h0 hB2 j hj;obtain rfl:m=m':=by omega
   exact hw
  ·intro hB
   simp only[Scr.run,Bool.not_false,Bool.true_or,Bool.true_and,Bool.and_eq_true,decide_eq_true_eq]at hB;obtain⟨⟨⟨h0,hsome⟩,hB1⟩,hB2⟩:=hB
   exact key hB1 hsome h0 hB2
def q8s(md:Region.Mode)(ops:Array Oper)(s:Scr):Bool:=Region.noSelect ops&&s.run md ops true ops.size (Array.replicate ops.size false)
theorem jE{id:Nat}{Q:Exit->Act->World->Prop}{a:Act}{w:World}{l:List Oper}(C:World->Prop)(s:Scr)(hm:P.follows .mixedOrders=true)(hB:q8s .any l.toArray s=true)(hC:C w.drew)
  (h:qX P l.toArray C (fun a'' w''=>C w''->Q .normal a'' w'') s a w.drew):(Code.region id l.toArray true).wp P Q a w:=by
 simp only[q8s,Bool.and_eq_true]at hB;obtain⟨hs,hB⟩:=hB;refine wp_region_any hm ?_;have h1:=(U4 (Q:=fun a'' w''=>C w''->Q .normal a'' w'') (md:=.any) hs s l.toArray.size (Array.replicate l.toArray.size false) a w.drew hC h).1 hB
 exact kO (fun a w hC hq=>hq hC) _ _ _ _ h1
end
end Go.Cm
namespace Go.Cm
open Go.RowKit Go.Proofs
theorem jA(x y:qK):(⟨x.toArray⟩:ByteArray)++⟨y.toArray⟩=⟨(x++y).toArray⟩:=by
 have h:((⟨x.toArray⟩:ByteArray)++⟨y.toArray⟩).data=(x++y).toArray:=by simp
 cases hz:((⟨x.toArray⟩:ByteArray)++⟨y.toArray⟩)with
 |mk d=>rw[hz]at h;simp only at h;rw[h]
end Go.Cm
namespace Go.Cm
open Go.RowKit Go.Proofs Go.WideShapes Go.ChangeShapes Go.Deep
section
variable {H : Type} {enc : TypeId × Value → H} {P : Program}
theorem eT{f:Func}{s:ChangeSpec}{apart fresh qbH again:Bool}{W W':World}{args:Array Value}{v:Value}{ds gs:List (DataW H)}{before pa pv:List MemPlace}
  (hW:DataW.Whole enc P f.params.toList s.vars apart W args.toList ds gs before)
  (hres:∀(b:Nat) (sp:Nat->Bool) (hd:Bool),DataW.TrodAll enc P W' b sp hd f.resultTypes.toList (v.resultList f.resultTypes.size) (s.fn H (ds++gs)).results [])
  (qd3:∀sp:Nat->Bool,(∀p∈before,sp p.block=true)->DataW.TrodAll enc P W' 0 sp true f.params.toList args.toList (s.fn H (ds++gs)).args pa)
  (qcE:∀sp:Nat->Bool,(∀p∈before,sp p.block=true)->DataW.TrodVars enc P W' sp s.vars (s.fn H (ds++gs)).vars pv)
  (hps:before=pa++pv) (hb:Below W.heap.size W W')
  (hok:∀(j:Nat) (t:TypeId) (r:Value),f.resultTypes[j]? =some t->(v.resultList f.resultTypes.size)[j]? =some r->Value.okWide P W' .any 0 t r):
  s.post enc P f apart fresh qbH again W args v W':=by
 have hlt:∀p∈before,p.block<W.heap.size:=fun p hp=>hW.lt p hp
 have hold:∀p∈before,(fun b=>decide (b<W.heap.size)) p.block=true:=fun p hp=>by simpa using hlt p hp
 refine⟨ds,gs,before,[],pa,pv,hW,hres _ _ _,qd3 _ hold,qcE _ hold,World.keptBut_mono (fun p hp=>⟨hp,?_⟩) (hb.frame (· ∈before)),fun _=>?_⟩
 ·rw[hps,List.mem_append]at hp
  exact Or.inr hp
 ·obtain⟨_,_,_,_,_,hz,hn⟩:=hW
  refine⟨hok,_,_,([]++pa)++pv,⟨[]++pa,pv,trodAll_append (qd3 _ (fun _ _=>rfl)) (hres _ _ _),qcE _ (fun _ _=>rfl),rfl,?_,?_⟩,?_⟩
  ·intro b off hp
   have hin:MemPlace.cell b off∈before:=by rw[hps];simpa using hp
   rw[hb.frozen (hlt _ hin)]
   exact hz b off hin
  ·intro ha
   have:=hn ha;rw[hps]at this
   simpa using this
  ·intro p hp _
   rw[hps]
   simpa using hp
end
section
variable {H : Type} {enc : TypeId × Value → H} {P : Program} {w : World} {base : Nat} {held : Bool}
theorem oF:reachBytes=140737488351232:=rfl
end
section
variable {H : Type} {enc : TypeId × Value → H} {w : World} {base : Nat} {held : Bool}
end
end Go.Cm
