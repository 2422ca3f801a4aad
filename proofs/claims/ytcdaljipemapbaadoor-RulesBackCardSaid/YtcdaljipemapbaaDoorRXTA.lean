/- Walks of functions and plain facts, joined and squeezed by a program. Conditions: as each says. -/
import Derived.Test.YtcdaljipemapbaaDoorRows
import Derived.WalkKit
import Derived.WalkSpells
import Derived.WalkLawsBesides
import Derived.Deep.QuietTactic
import Derived.BigQuiet
import Derived.Lib.Hide
import Derived.Laws.Small
import Derived.Laws.BitsLemmas
import Derived.LaidEql
import Derived.Stop.Asserts
import Derived.RowKitTokens
import Derived.Deep.DeepCutAuto
import Derived.Deep.LoopGhost
import Derived.LaidLaws
import Derived.LaidHandle
import Derived.Stop.Joined
import Derived.SizedLaws
import Derived.ProofKit
import Derived.OpenShut
import Derived.Deep.Slices
import Derived.ChangeSlices
import Derived.WideKeyArgs
import Derived.Test.YtcdaljipemapbaaDoorRXT0
set_option maxHeartbeats 8000000
set_option maxRecDepth 100000
set_option linter.unusedSimpArgs false
namespace Go.Cm
open Go.RowKit
noncomputable def ext(w x:World):World:=@ite _ (Below w.heap.size w x) (Classical.propDecidable _) x w
theorem qB(w x:World):Below w.heap.size w (ext w x):=by
 unfold ext;split
 ·assumption
 ·exact qi _ _
theorem s8{w x:World}(h:Below w.heap.size w x):ext w x=x:=by
 unfold ext;rw[if_pos h]
theorem qv{w x:World}(h:Below w.heap.size w x):∃y,x=ext w y:=⟨x,(s8 h).symm⟩
theorem qn{w w':World}(h:∃x,w'=ext w x):Below w.heap.size w w':=by
 obtain⟨x,rfl⟩:=h;exact qB w x
theorem qy(w:World)(n:Nat):Below w.heap.size w (w.drewN n):=⟨rfl,rfl,rfl,qa _,fun _ _=>rfl⟩
theorem j7{w x y:World}(h:Below w.heap.size w x)(k:Below x.heap.size x y):Below w.heap.size w y:=h.trans (k.mono h.size)
theorem pG(w x y:World):∃z,ext (ext w x) y=ext w z:=qv (j7 (qB w x) (qB _ y))
theorem qo(w:World)(o:Obj):Below w.heap.size w (w.alloc o):=(qi _ _).alloc (qa _) o
theorem jt(w:World):∃x,w=ext w x:=qv (qi _ _)
@[go_sem] theorem cell?_ext(w x:World)(b o:Nat)(h:b<w.heap.size):(ext w x).cell? ⟨b,o,none⟩=w.cell? ⟨b,o,none⟩:=(qB w x).cell (p:=⟨b,o,none⟩) h
@[go_sem] theorem frozen?_ext(w x:World)(b o:Nat)(h:b<w.heap.size):(ext w x).frozen? ⟨b,o,none⟩=w.frozen? ⟨b,o,none⟩:=(qB w x).frozen (p:=⟨b,o,none⟩) h
theorem i6(w x:World):w.heap.size<=(ext w x).heap.size:=(qB w x).size
@[go_sem] theorem cell?_ext_alloc_old(w x:World)(a:Obj)(b o:Nat)(h:b<w.heap.size):(ext (w.alloc a) x).cell? ⟨b,o,none⟩=w.cell? ⟨b,o,none⟩:=by
 rw[cell?_ext _ _ _ _ (by simp;omega),World.cell?_alloc_past _ _ _ h]
@[go_sem] theorem cell?_ext_alloc_new(w x:World)(c:Array Value)(t:TypeId)(o:Nat):(ext (w.alloc (.cells c t)) x).cell? ⟨w.heap.size,o,none⟩=c[o]? :=by
 rw[cell?_ext _ _ _ _ (by simp),World.cell?_alloc_new]
structure Hd(w:World)(oa:Option Addr)(len cap b off:Nat):Prop where
 hat:0<len->oa=some ⟨b,off,none⟩
 hcap:len<=cap
 hmax:cap<=maxLen
 hsml:len<=140737488351232
 hblk:0<len->b<w.heap.size
theorem Hd.len{w:World}{oa:Option Addr}{len cap b off:Nat}(h:Hd w oa len cap b off):len<=9223372036854775807:=by
 have h1:=h.hsml;omega
def Sl(w:World)(v:Value)(l:List Value):Prop:=
 ∃oa cap b off,v=.slice oa l.length cap/\Hd w oa l.length cap b off/\∀i,i<l.length->w.cell? ⟨b,off+i,none⟩=some (l.getD i undef)
theorem Sl.up{w w':World}{v:Value}{l:List Value}(h:Sl w v l)(hb:Below w.heap.size w w'):Sl w' v l:=by
 obtain⟨oa,cap,b,off,rfl,hd,hc⟩:=h;refine⟨oa,cap,b,off,rfl,⟨hd.hat,hd.hcap,hd.hmax,hd.hsml,fun h=>qd (hd.hblk h) hb.size⟩,fun i hi=>?_⟩
 rw[hb.cell (p:=⟨b,off+i,none⟩) (hd.hblk (by omega))]
 exact hc i hi
theorem Sl.nil(w:World):Sl w (.slice none 0 0) []:=⟨none,0,0,0,rfl,⟨fun h=>absurd h (Nat.lt_irrefl 0),qa _,by simp[maxLen],by simp,fun h=>absurd h (Nat.lt_irrefl 0)⟩,fun i hi=>absurd hi (Nat.not_lt_zero i)⟩
theorem a8{P:Program}{w:World}{oa:Option Addr}{b off len cap:Nat}(T E:TypeId)(hT:P.underlying T=some (.slice E))(hE:(P.info? E).map (·.size)=some 1)(h:Hd w oa len cap b off):
  ∀(W:World) (k:IntKind) (i:Int),0<=i->i<len->(Instr.indexAt T (.slice oa len cap) (.int k i)).run P W=.ok (.pointer (some ⟨b,off+i.toNat,none⟩)) W:=by
 intro W k i h0 h1;rw[h.hat (by omega)]
 have he:P.elem T=E:=by simp[Program.elem,hT]
 rw[run_indexAt_slice W T ⟨b,off,none⟩ len cap k i (by rw[he];exact hT),if_pos ⟨h0,h1⟩,he]
 cases hq:P.info? E with
 |none=>simp[hq]at hE
 |some inf=>
  have hs:inf.size=1:=by simpa[hq]using hE
  simp[sizeOf,typeInfo,hq,hs,Result.andThen,Addr.add]
def ints(l:List Int):List Value:=l.map (Value.int .i64)
@[simp] theorem aV(l:List Int):(ints l).length=l.length:=by simp[ints]
theorem fB(l:List Int)(i:Nat)(h:i<l.length):(ints l).getD i undef=.int .i64 (l.getD i 0):=by
 simp[ints,List.getD,h]
def cU(w:World)(v:Value)(l:List Int):Prop:=Sl w v (ints l)
theorem cU.up{w w':World}{v:Value}{l:List Int}(h:cU w v l)(hb:Below w.heap.size w w'):cU w' v l:=Sl.up h hb
theorem cU.open{w:World}{v:Value}{l:List Int}(h:cU w v l):
  ∃oa cap b off,v=.slice oa l.length cap/\Hd w oa l.length cap b off/\∀i,i<l.length->w.cell? ⟨b,off+i,none⟩=some (.int .i64 (l.getD i 0)):=by
 obtain⟨oa,cap,b,off,rfl,hd,hc⟩:=h;simp only[aV]at hd hc⊢
 exact⟨oa,cap,b,off,rfl,hd,fun i hi=>by rw[hc i hi,fB l i hi]⟩
def dS(w:World)(v:Value)(ll:List (List Int)):Prop:=
 ∃vs,Sl w v vs/\vs.length=ll.length/\∀i,i<ll.length->cU w (vs.getD i undef) (ll.getD i [])
theorem dS.up{w w':World}{v:Value}{l:List (List Int)}(h:dS w v l)(hb:Below w.heap.size w w'):dS w' v l:=by
 obtain⟨vs,h1,h2,h3⟩:=h
 exact⟨vs,h1.up hb,h2,fun i hi=>(h3 i hi).up hb⟩
theorem dS.open{w:World}{v:Value}{ll:List (List Int)}(h:dS w v ll):
  ∃oa cap b off,v=.slice oa ll.length cap/\Hd w oa ll.length cap b off/\∀i,i<ll.length->
   ∃oi ci bi fi,w.cell? ⟨b,off+i,none⟩=some (.slice oi (ll.getD i []).length ci)/\Hd w oi (ll.getD i []).length ci bi fi/\
    (∀j,j<(ll.getD i []).length->w.cell? ⟨bi,fi+j,none⟩=some (.int .i64 ((ll.getD i []).getD j 0)))/\cU w (.slice oi (ll.getD i []).length ci) (ll.getD i []):=by
 obtain⟨vs,⟨oa,cap,b,off,rfl,hd,hc⟩,h2,h3⟩:=h;rw[h2]at hd hc⊢;refine⟨oa,cap,b,off,rfl,hd,fun i hi=>?_⟩
 have h4:=h3 i hi;obtain⟨oi,ci,bi,fi,he,hdi,hci⟩:=h4.open;refine⟨oi,ci,bi,fi,?_,hdi,hci,?_⟩
 ·rw[hc i hi,he]
 ·rw[<-he];exact h4
theorem jh{P:Program}(w:World)(g off n:Nat)(t ty:TypeId)(cs:Array Value)(fr:Nat×Nat)(d:TypeDesc)(hg:w.heap[g]? =some (.cells cs t fr))
  (hu:P.underlying ty=some d) (hd:(match d with|.struct _|.array _ _=>true|_=>false)=true) (hi:(P.info? ty).map (·.size)=some n) (hs:off+n<=cs.size):
  (loadVar ty ⟨g,off,none⟩).run P w=.ok (.agg (cs.extract off (off+n))) w:=by
 have hlen:(cs.extract off (off+n)).toList.length=n:=by simp;omega
 have hl:(loadCells ⟨g,off,none⟩ (cs.extract off (off+n)).toList.length).run P w=.ok (cs.extract off (off+n)).toList.toArray w:=
  run_loadCells_list (P:=P) w ⟨g,off,none⟩ (cs.extract off (off+n)).toList (fun j v hv=>by
   have zU:(⟨g,off,none⟩:Addr).add j=⟨g,off+j,none⟩:=by unfold Addr.add;split<;>simp_all
   rw[zU,cell_of_row w g (off+j) cs t fr hg]
   have hj:j<n:=by
    have:=(List.getElem?_eq_some_iff.1 hv).1;omega
   rw[<-hv]
   simp[hj])
 rw[hlen]at hl;simp only[Array.toArray_toList]at hl
 cases hq:P.info? ty with
 |none=>simp[hq]at hi
 |some i=>
  have hs':i.size=n:=by simpa[hq]using hi
  have hagg:(isAgg ty).run P w=.ok true w:=by
   unfold isAgg;rw[Sem.run_bind,run_underlying hu w]
   cases d<;>simp_all
  simp[loadVar,Sem.run_bind,hagg,sizeOf,typeInfo,hq,hs',hl]
theorem cV{P:Program}{ops:Array Oper}{rest:List Oper}{o:Oper}{a:Act}{w:World}{Q:Exit->Act->World->Prop}(hgd:o.guard=none)(ty:TypeId)(x:Operand)(ho:o.op=.load ty x)
  (g off n:Nat) (hx:a.eval x=.pointer (some ⟨g,off,none⟩)) (t:TypeId) (cs B:Array Value) (fr:Nat×Nat) (d:TypeDesc) (hg:w.heap[g]? =some (.cells cs t fr))
  (hu:P.underlying ty=some d) (hd:(match d with|.struct _|.array _ _=>true|_=>false)=true) (hi:(P.info? ty).map (·.size)=some n) (hs:off+n<=cs.size) (hB:cs.extract off (off+n)=B)
  (h:wpList P ops Q rest (a.put o.dst (.agg B)) w):wpList P ops Q (o::rest) a w:=by
 subst hB;refine wpList_plain hgd fun K hK=>?_
 unfold Oper.wp execOp;simp only[ho,hx,Instr.loadAt,Instr.sureAddr,Sem.run_bind,Sem.run_pure,Result.andThen_ok,jh w g off n t ty cs fr d hg hu hd hi hs]
 exact hK _ _ h
theorem qF{B:Nat}{w v:World}(h:Below B w v)(n:Nat):Below B w (v.drewN n):=h.trans ⟨rfl,rfl,rfl,qa _,fun _ _=>rfl⟩
theorem tQ{B:Nat}{w v:World}(h:Below B w v)(hB:B<=v.heap.size)(x:World):Below B w (ext v x):=h.trans ((qB v x).mono hB)
theorem qL{w v:World}(h:Below w.heap.size w v)(x:World):Below w.heap.size w (ext v x):=tQ h h.size x
theorem qx{w v:World}(h:Below w.heap.size w v)(o:Obj):Below w.heap.size w (v.alloc o):=h.alloc h.size o
theorem jq{P:Program}{f:FuncId}{args:Array Value}{w x:World}{v:Value}
  (h:Calls P f args (ext w x) fun e w'=>e=.returned v/\∃y,w'=ext (ext w x) y):Calls P f args (ext w x) fun e w'=>e=.returned v/\∃y,w'=ext w y:=
 h.mono fun _ _ ⟨he,y,hy⟩=>⟨he,by rw[hy];exact pG w x y⟩
theorem ji{P:Program}{id:Nat}{Q:Exit->Act->World->Prop}{a:Act}{w:World}{l:List Oper}(hm:P.follows .mixedOrders=true)(hB:Region.lexB .any l.toArray=true)
  (h:wpQuiet P l.toArray (fun w'=>∃x,w'=ext w x) (fun a'=>∀w',(∃x,w'=ext w x)->Q .normal a' w') l a):(Code.region id l.toArray true).wp P Q a w:=
 wp_region_quiet (C:=fun w'=>∃x,w'=ext w x) hm hB (qv (qy w 1)) (by simpa using h)
end Go.Cm
namespace Go.Cm
structure Nd where
 kd:Int
 n:Int
 a:Int
 b:Int
 c:Int
 d:Int
 lo:Int
 hi:Int
inductive Fo where
 |nil:Fo
 |cons (x:Nd) (k r:Fo):Fo
def cA:Fo->List Nd
 |.nil=>[]
 |.cons x k r=>x::(cA k++cA r)
def cnt:Fo->Nat
 |.nil=>0
 |.cons _ _ r=>cnt r+1
def wf:Fo->Prop
 |.nil=>True
 |.cons x k r=>x.n=cnt k/\wf k/\wf r
def s6(p:Nd->Prop):Fo->Prop
 |.nil=>True
 |.cons x k r=>p x/\s6 p k/\s6 p r
theorem eB{p:Nd->Prop}:∀f,s6 p f↔∀x∈cA f,p x
 |.nil=>by simp[s6,cA]
 |.cons x k r=>by
  rw[s6,eB k,eB r,cA]
  constructor
  ·rintro⟨h1,h2,h3⟩ y hy
   rcases List.mem_cons.1 hy with rfl|hy
   ·exact h1
   ·rcases List.mem_append.1 hy with hy|hy
    ·exact h2 y hy
    ·exact h3 y hy
  ·intro h
   exact⟨h x List.mem_cons_self,fun y hy=>h y (List.mem_cons_of_mem _ (List.mem_append_left _ hy)),fun y hy=>h y (List.mem_cons_of_mem _ (List.mem_append_right _ hy))⟩
theorem nD:∀f,cnt f=0->f=.nil
 |.nil,_=>rfl
 |.cons _ _ _,h=>by simp[cnt]at h
def i7(L:Nat):Int->List Nd->Nat->Int
 |_,[],_=> -1
 |want,x::r,at_=>if x.n<0\/(L:Int)<x.n then -1 else if want+(x.n-1)=0 then at_+1 else i7 L (want+(x.n-1)) r (at_+1)
theorem dT:∀(f:Fo) (n:Nat),wf f->n<=cnt f->∃a b,cnt a=n/\cnt b+n=cnt f/\cA f=cA a++cA b/\wf a/\wf b
 |f,0,hf,_=>⟨.nil,f,rfl,rfl,by simp[cA],trivial,hf⟩
 |.nil,n+1,_,h=>by simp[cnt]at h
 |.cons x k r,n+1,hf,h=>by
  obtain⟨h1,h2,h3⟩:=hf;obtain⟨a,b,e1,e2,e3,e4,e5⟩:=dT r n h3 (by simp[cnt]at h;omega)
  exact⟨.cons x k a,b,by simp[cnt,e1],by simp[cnt];omega,by simp[cA,e3],⟨h1,h2,e4⟩,e5⟩
theorem fC(L:Nat):∀(l:List Nd) (w at_:Nat),0<w->i7 L w l at_=(at_:Int)+l.length->∃f,cA f=l/\wf f/\cnt f=w
 |[],w,at_,_,h=>by simp only[i7,List.length_nil]at h;omega
 |x::r,w,at_,hw,h=>by
  simp only[i7]at h
  by_cases h1:x.n<0\/(L:Int)<x.n
  ·rw[if_pos h1]at h;omega
  ·rw[if_neg h1]at h
   by_cases h2:(w:Int)+(x.n-1)=0
   ·rw[if_pos h2]at h
    have hr:r=[]:=List.length_eq_zero_iff.1 (by simp only[List.length_cons]at h;push_cast at h;omega)
    subst hr
    exact⟨.cons x .nil .nil,by simp[cA],⟨by simp only[cnt];omega,trivial,trivial⟩,by simp only[cnt];omega⟩
   ·rw[if_neg h2]at h
    obtain⟨m,hm⟩:∃m:Nat,x.n=m:=⟨x.n.toNat,by omega⟩
    have e:(w:Int)+(x.n-1)=((w+m-1:Nat):Int):=by omega
    rw[e]at h;obtain⟨f,e1,e2,e3⟩:=fC L r (w+m-1) (at_+1) (by omega) (by rw[h];simp only[List.length_cons];push_cast;omega)
    obtain⟨a,b,c1,c2,c3,c4,c5⟩:=dT f m e2 (by omega)
    exact⟨.cons x a b,by rw[cA,<-c3,e1],⟨by rw[hm,c1],c4,c5⟩,by simp[cnt];omega⟩
def gJ(x:Nd):Prop:=x.lo=0/\x.hi=0
def aO(x:Nd):Prop:=x.a=0/\x.b=0/\x.c=0/\x.d=0
instance(x:Nd):Decidable (gJ x):=by unfold gJ;infer_instance
instance(x:Nd):Decidable (aO x):=by unfold aO;infer_instance
def okN(x:Nd):Prop:=
 (x.kd=1/\x.n=0/\¬aO x/\gJ x)\/(x.kd=2/\x.n=0/\aO x/\gJ x)\/((x.kd=3\/x.kd=4)/\2<=x.n/\aO x/\gJ x)\/((x.kd=5\/x.kd=6\/x.kd=7)/\x.n=1/\aO x/\gJ x)\/
  (x.kd=8/\x.n=1/\aO x/\0<=x.lo/\x.lo<=30/\(x.hi= -1\/(x.lo<=x.hi/\x.hi<=30)))
instance(x:Nd):Decidable (okN x):=by unfold okN;infer_instance
def Chk(l:List Nd):Prop:=l.length<=400/\l.length≠0/\i7 l.length 1 l 0=l.length/\∀x∈l,okN x
instance(l:List Nd):Decidable (Chk l):=by unfold Chk;infer_instance
theorem i8{l:List Nd}(h:Chk l):∃x k,l=x::cA k/\x.n=cnt k/\wf k/\okN x/\s6 okN k/\(cA k).length<400:=by
 obtain⟨h1,h2,h3,h4⟩:=h;obtain⟨f,e1,e2,e3⟩:=fC l.length l 1 0 (by omega) (by simpa using h3)
 cases f with
 |nil=>simp[cnt]at e3
 |cons x k r=>
  have hr:=nD r (by simpa[cnt]using e3)
  subst hr;simp only[cA,List.append_nil]at e1;subst e1;refine⟨x,k,rfl,e2.1,e2.2.1,h4 x List.mem_cons_self,(eB k).2 fun y hy=>h4 y (List.mem_cons_of_mem _ hy),?_⟩
  simp at h1;omega
end Go.Cm
namespace Go.Cm
open Go.RowKit
def oN(C:World->Prop)(K:Act->World->Prop):Exit->Act->World->Prop
 |.normal,a,w=>C w/\K a w
 |_,_,_=>False
def noQ:Exit->Act->World->Prop:=fun _ _ _=>False
def qX(P:Program)(ops:Array Oper)(C:World->Prop)(Q:Act->World->Prop):List Oper->Act->World->Prop
 |[],a,w=>Q a w
 |o::rest,a,w=>wpList P ops (oN C (qX P ops C Q rest)) [o] a w
section
variable {P : Program} {ops : Array Oper} {md : Region.Mode} {C : World → Prop}
def bF(P:Program)(md:Region.Mode)(ops:Array Oper)(C:World->Prop)(Q:Act->World->Prop):Nat->Array Bool->Act->World->Prop
 |0,listed,a,w=>C w/\Region.ready md ops listed=[]/\Q a w
 |fuel+1,listed,a,w=>C w/\(Region.ready md ops listed=[]->Q a w)/\
  ∀i∈Region.ready md ops listed,wpOp P ops noQ i (bF P md ops C Q fuel (listed.setIfInBounds i true)) a w
theorem cK{o:Oper}{a:Act}{w:World}{K:Act->World->Prop}{Q1 Q2:Exit->Act->World->Prop}(h1:∀c a w,¬Q1 (.panic c) a w)(h2:¬LetsOut Q1)(h:o.wp P a w K Q1):o.wp P a w K Q2:=by
 unfold Oper.wp at*;generalize (execOp a.eval o).run P w=r at*
 cases r with
 |ok n w'=>
  cases n<;>simp only[Oper.upon]at h⊢ <;>
   first
    |exact h
    |exact Calls.mono h (fun e w'' he=>by cases e<;>first|exact he|exact(h1 _ _ _ he).elim|exact(h2 he).elim)
    |exact Rows.mono h (fun _ _ he=>he)
 |halt x w'=>cases x<;>simp only[Oper.upon]at h⊢ <;>first|exact h.elim|exact(h1 _ _ _ h).elim
theorem cW:¬LetsOut noQ:=fun⟨_,_,h⟩=>h
theorem cL{K:Act->World->Prop}:¬LetsOut (oN C K):=fun⟨_,_,h⟩=>h
theorem dU{Q:Act->World->Prop}{Q':Exit->Act->World->Prop}(hQ:∀a w,C w->Q a w->Q' .normal a w):∀(fuel:Nat) (listed:Array Bool) (a:Act) (w:World),
  bF P md ops C Q fuel listed a w->wpAny P md ops Q' fuel listed a w
 |0,_,_,_,h=>⟨h.2.1,hQ _ _ h.1 h.2.2⟩
 |fuel+1,listed,a,w,h=>⟨fun h0=>hQ _ _ h.1 (h.2.1 h0),fun i hi=>by
   have h1:=wpOp_mono (fun a w=>dU (Q':=Q') hQ fuel _ a w) (h.2.2 i hi)
   unfold wpOp at h1⊢;split
   ·rename_i ho;simpa[ho]using h1
   ·rename_i o ho
    simp only[ho]at h1;split
    ·rename_i hw
     simp only[hw,if_true]at h1
     rcases h1 with h1|⟨-,h1⟩
     ·exact .inl (cK (fun _ _ _ h=>h) cW h1)
     ·exact(cW h1).elim
    ·rename_i hw;simpa[hw]using h1⟩
def cX:Op->Bool
 |.call c=>(match c.callee with|.builtin .len|.builtin .cap|.builtin .min|.builtin .max=>true|_=>false)
 |.go _|.defer _|.panic _|.send .. |.recv .. |.select .. =>false
 |_=>true
theorem gK{s:Sem Value}{w w':World}{f:FuncId}{args:Array Value}:(s>>=fun x=>pure (Next.value x):Sem Next).run P w≠.ok (.enter f args) w':=by
 rw[Sem.run_bind]
 cases s.run P w<;>simp[Result.andThen]
theorem gL{s:Sem Unit}{w w':World}{f:FuncId}{args:Array Value}:(s>>=fun _=>pure Next.skip:Sem Next).run P w≠.ok (.enter f args) w':=by
 rw[Sem.run_bind]
 cases s.run P w<;>simp[Result.andThen]
def Yin(P:Program)(ops:Array Oper)(C:World->Prop)(o:Oper)(v:Value)(a:Act):Prop:=
 (Region.wanted o (yielded ops a.tmps)=true/\∀w,C w->(execOp a.eval o).run P w=.ok (.value v) w\/((execOp a.eval o).run P w=.ok .skip w/\v=undef))\/
 (Region.wanted o (yielded ops a.tmps)=false/\v=undef)
theorem Yin.of_same{o:Oper}{v:Value}{a a':Act}(hy:Yin P ops C o v a)(he:execOp a'.eval o=execOp a.eval o)
  (hw:Region.wanted o (yielded ops a'.tmps)=Region.wanted o (yielded ops a.tmps)):Yin P ops C o v a':=by
 unfold Yin at*;rw[he,hw]
 exact hy
theorem Yin.wpOp{i:Nat}{o:Oper}{v:Value}{a:Act}{w:World}(hC:C w)(hi:ops[i]? =some o)(hy:Yin P ops C o v a)
  {K:Act->World->Prop} (h:K (a.put o.dst v) w):wpOp P ops noQ i K a w:=by
 unfold Go.wpOp;simp only[hi]
 rcases hy with⟨hw,hv⟩|⟨hw,rfl⟩
 ·simp only[hw,if_true,Oper.wp]
  rcases hv w hC with hx|⟨hx,he⟩
  ·rw[hx];exact .inl h
  ·subst he;rw[hx];exact .inl h
 ·simp only[hw,Bool.false_eq_true,if_false];exact h
theorem kW{j:Nat}{oi oj:Oper}{v:Value}(hj:ops[j]? =some oj)(hap:oi.apart ops oj=true)
  (hsi:∀cs b,oi.op≠.select cs b) (hsj:∀cs b,oj.op≠.select cs b) {K:Act->World->Prop} {a:Act} {w:World}
  (hy:Yin P ops C oi v a) (h:wpOp P ops noQ j K (a.put oi.dst v) w):
  wpOp P ops noQ j (fun a' w'=>Yin P ops C oi v a'/\K (a'.put oi.dst v) w') a w:=by
 obtain⟨h1,h2,h3⟩:=Oper.apart_spec hap
 have keep:∀(a:Act),Yin P ops C oi v a->∀u,Yin P ops C oi v (a.put oj.dst u):=fun a hy u=>
  hy.of_same (execOp_put oi hsi a oj.dst u h3) (wanted_put oi a oj.dst u h3)
 have keepD:∀d,Yin P ops C oi v {a with defers:=d::a.defers}:=fun d=>hy.of_same rfl rfl
 unfold wpOp at*;simp only[hj]at*;rw[wanted_put oj a oi.dst v h1]at h;split
 ·rename_i hw
  simp only[hw,if_true]at h
  rcases h with h|⟨_,xM⟩
  case inr=>exact(cW xM).elim
  refine .inl ?_;unfold Oper.wp at*;rw[execOp_put oj hsj a oi.dst v h1]at h;generalize (execOp a.eval oj).run P w=r at*
  cases r with
  |ok n w'=>
   cases n<;>simp only[Oper.upon]at h⊢
   case value u=>exact⟨keep a hy u,by rw[<-Act.put_comm a v u h2];exact h⟩
   case skip=>exact⟨keep a hy _,by rw[<-Act.put_comm a v undef h2];exact h⟩
   case defer d=>
    refine⟨keep _ (keepD d) _,?_⟩;rw[<-Act.put_comm _ v undef h2,<-Act.put_defers]
    exact h
   case enter f args=>
    refine Calls.mono h fun e w'' he=>?_
    cases e with
    |returned u=>exact⟨keep a hy u,by rw[<-Act.put_comm a v u h2];exact he⟩
    |panicked c=>exact(he:False).elim
    |outgrown=>exact he
   case row row args=>exact Rows.mono h fun u w'' he=>⟨keep a hy u,by rw[<-Act.put_comm a v u h2];exact he⟩
  |halt x w'=>
   cases x<;>simp only[Oper.upon]at h⊢
   case panic u=>exact(h:False).elim
 ·rename_i hw
  simp only[hw]at h
  exact⟨keep a hy _,by rw[<-Act.put_comm a v undef h2];exact h⟩
theorem fD{Q:Act->World->Prop}{i:Nat}{oi:Oper}{v:Value}(hi:ops[i]? =some oi)(wT:∀(j:Nat) (o:Oper) cs b,ops[j]? =some o->o.op≠.select cs b):
  ∀(fuel:Nat) (listed:Array Bool) (a:Act) (w:World),
   (∀j oj,ops[j]? =some oj->j≠i->listed.getD j true=false->(∀e∈oj.after,Region.binds md e=true->e.on≠i)->oi.apart ops oj=true)->
   i∈Region.ready md ops listed->Yin P ops C oi v a->
   bF P md ops C Q fuel (listed.setIfInBounds i true) (a.put oi.dst v) w->bF P md ops C Q (fuel+1) listed a w:=by
 intro fuel
 induction fuel with
 |zero=>
  intro listed a w _ hr hy H;refine⟨H.1,fun h=>(by rw[h]at hr;cases hr),fun j hj=>?_⟩
  by_cases hji:j=i
  ·subst hji;exact hy.wpOp H.1 hi H
  ·have:=ready_mono hj hji
   rw[H.2.1]at this
   cases this
 |succ fuel ih=>
  intro listed a w vU hr hy H;refine⟨H.1,fun h=>(by rw[h]at hr;cases hr),fun j hj=>?_⟩
  by_cases hji:j=i
  ·subst hji;exact hy.wpOp H.1 hi H
  ·have h1:=H.2.2 j (ready_mono hj hji)
   obtain⟨wW,oj,hoj,hall⟩:=mem_ready.1 hj
   have xJ:∀e∈oj.after,Region.binds md e=true->e.on≠i:=fun e he hb heq=>by
    have h1:=hall e he hb;have h0:=(mem_ready.1 hr).1;rw[heq]at h1
    rcases Nat.lt_or_ge i listed.size with h'|h'
    ·simp[h']at h0 h1;rw[h0]at h1;cases h1
    ·simp[Array.getElem?_eq_none h']at h1
   have h2:=kW hoj (vU j oj hoj hji wW xJ) (fun cs b=>wT i oi cs b hi) (fun cs b=>wT j oj cs b hoj) hy h1
   have vT:∀k ok,ops[k]? =some ok->k≠i->(listed.setIfInBounds j true).getD k true=false->
     (∀e∈ok.after,Region.binds md e=true->e.on≠i)->oi.apart ops ok=true:=fun k ok hk hki hun hno=>by
    refine vU k ok hk hki ?_ hno
    by_cases hjk:j=k
    ·subst hjk;exact wW
    ·rw[getD_set_ne true hjk]at hun;exact hun
   refine wpOp_mono (fun a' w' h3=>ih (listed.setIfInBounds j true) a' w' vT (ready_mono hr (Ne.symm hji)) h3.1 ?_) h2
   rw[Array.setIfInBounds_comm _ _ hji]
   exact h3.2
def aW(l:List Oper)(o:List Nat):List Oper:=o.map fun i=>l.getD i default
theorem pk:(∀l i o,aW l (i::o)=l.getD i default::aW l o)/\(∀l,aW l []=[])/\(∀(x:Oper) xs d,(x::xs).getD 0 d=x)/\∀(x:Oper) xs n d,(x::xs).getD (n+1) d=xs.getD n d:=⟨fun _ _ _=>rfl,fun _=>rfl,fun _ _ _=>rfl,fun _ _ _ _=>rfl⟩
def pH(md:Region.Mode)(ops:Array Oper):List Nat->Array Bool->Bool
 |[],listed=>Region.ready md ops listed==[]
 |i::r,listed=>Region.ready md ops listed==[i]&&pH md ops r (listed.setIfInBounds i true)
def s9(md:Region.Mode)(ops:Array Oper)(o2:List Nat):List Nat->Array Bool->Bool
 |[],listed=>pH md ops o2 listed
 |i::r,listed=>(Region.ready md ops listed).contains i&&Region.free md ops listed i&&((ops[i]?).map (fun o=>cX o.op)).getD false&&s9 md ops o2 r (listed.setIfInBounds i true)
theorem dV{o:Oper}{a:Act}{K:Act->Prop}(hn:cX o.op=true)
  (h:if Region.wanted o (yielded ops a.tmps)then o.quiet P a C K else K (a.put o.dst undef)):∃v,Yin P ops C o v a/\K (a.put o.dst v):=by
 by_cases hw:Region.wanted o (yielded ops a.tmps)=true
 ·simp only[hw,if_true]at h
  obtain⟨v,h1,h2⟩:=h;refine⟨v,.inl ⟨hw,fun w hC=>?_⟩,h2⟩
  have h3:=h1 w hC;unfold Oper.quietAt at h3;generalize hr:(execOp a.eval o).run P w=r at h3
  cases r with
  |halt x w'=>simp[Oper.quietUpon]at h3
  |ok n w'=>
   cases n<;>simp only[Oper.quietUpon]at h3
   case value u=>obtain⟨rfl,rfl⟩:=h3;exact .inl rfl
   case skip=>obtain⟨rfl,rfl⟩:=h3;exact .inr ⟨rfl,rfl⟩
   case enter f args=>
    exfalso
    revert hr
    unfold execOp
    cases ho:o.op<;>simp only[ho,cX]at hn⊢ <;>
     first
      |(cases hn;done)
      |exact gK
      |exact gL
      |skip
    ·simp
    ·simp
    ·rw[Sem.run_bind];cases(asBool _).run P w<;>simp[Result.andThen]
    ·split
     all_goals first|(simp;done)|skip
     all_goals first|(unfold runtimePanic;simp;done)|skip
     split
     all_goals first|(simp;done)|(unfold runtimePanic;simp;done)|skip
     simp only[Sem.run_bind]
     cases(program).run P w with
     |halt=>simp[Result.andThen]
     |ok p w1=>
      simp only[Result.andThen]
      cases(nilAhead _ _ _ _).run P w1 with
      |halt=>simp
      |ok q w2=>
       simp only[];split<;>simp[unsupported]
    ·rename_i c
     unfold resolve;split at hn
     all_goals first|(cases hn;done)|skip
     all_goals rename_i zS;simp only[zS,Sem.run_bind,Sem.run_pure,Result.andThen_ok,invoke,builtin]
     all_goals
      generalize Sem.run P _ w=r
      cases r<;>simp[Result.andThen]
 ·simp only[hw]at h
  exact⟨undef,.inr ⟨by simpa using hw,rfl⟩,h⟩
noncomputable def chg(w:World)(row:Option Nat)(x:World):World:=@ite _ (w.grownBy x row) (Classical.propDecidable _) x w
theorem cY{B:Nat}{w v:World}(h:Below B w v):Below B w v.drew:=h.trans ⟨rfl,rfl,rfl,qa _,fun _ _=>rfl⟩
theorem jo(w:World)(row:Option Nat):w.grownBy w row:=⟨rfl,rfl,rfl,qa _,fun _ _ _=>rfl⟩
theorem qr{w x y:World}{row:Option Nat}(h:w.grownBy x row)(k:x.grownBy y row):w.grownBy y row:=
 ⟨k.os.trans h.os,k.tape.trans h.tape,k.output.trans h.output,qb h.size k.size,fun i hi hr=>(k.block i (qd hi h.size) hr).trans (h.block i hi hr)⟩
theorem qs{w x:World}(h:Below w.heap.size w x)(row:Option Nat):w.grownBy x row:=⟨h.os,h.tape,h.output,h.size,fun k hk _=>h.block k hk⟩
theorem bU(w:World)(row:Option Nat):w.grownBy w.drew row:=qs (qy w 1) row
theorem jF(w x:World)(row:Option Nat):w.grownBy (chg w row x) row:=by
 unfold chg;split
 ·assumption
 ·exact jo w row
theorem sA{w x:World}{row:Option Nat}(h:w.grownBy x row):chg w row x=x:=by unfold chg;rw[if_pos h]
theorem a9{w x:World}{row:Option Nat}(h:w.grownBy x row):∃y,x=chg w row y:=⟨x,(sA h).symm⟩
@[go_sem] theorem cell?_chg(w x:World)(row:Option Nat)(b o:Nat)(h:b<w.heap.size)(hr:some b≠row):(chg w row x).cell? ⟨b,o,none⟩=w.cell? ⟨b,o,none⟩:=World.cell?_of_block ((jF w x row).block b h hr)
@[go_sem] theorem frozen?_chg(w x:World)(row:Option Nat)(b o:Nat)(h:b<w.heap.size)(hr:some b≠row):(chg w row x).frozen? ⟨b,o,none⟩=w.frozen? ⟨b,o,none⟩:=World.frozen?_of_block ((jF w x row).block b h hr)
end
end Go.Cm
namespace Go.Cm
open Go.RowKit Go.Proofs
def Own(w:World)(B:Nat)(E:TypeId)(v:Value)(xs:List Value):Prop:=
 w.ownsRow B E 1 v xs.length xs/\xs.length<=140737488351232
theorem Own.nil(w:World)(B:Nat)(E:TypeId):Own w B E (.slice none 0 0) []:=⟨World.ownsRow_nil w B E 1,by simp⟩
theorem Own.sl{w:World}{B:Nat}{E:TypeId}{v:Value}{xs:List Value}(h:Own w B E v xs):Sl w v xs:=by
 obtain⟨⟨_,h⟩,hl⟩:=h
 rcases h with⟨rfl,h0⟩|⟨g,cap,cur,rfl,hb,hg,hnc,hcm,hcs,vC⟩
 ·obtain rfl:xs=[]:=List.length_eq_zero_iff.1 h0
  exact Sl.nil w
 ·refine⟨some ⟨g,0,none⟩,cap,g,0,rfl,⟨fun _=>rfl,hnc,hcm,hl,fun _=>(Array.getElem?_eq_some_iff.1 hg).1⟩,fun i hi=>?_⟩
  rw[cell_of_row w g (0+i) cur E (0,0) hg,Nat.zero_add]
  have h1:xs[i]? =cur[i]? :=by
   rw[<-vC,List.getElem?_take,if_pos (by omega)];simp
  rw[<-h1]
  simp[List.getD,hi]
theorem Own.keep{w w':World}{B:Nat}{E:TypeId}{v:Value}{xs:List Value}{row:Option Nat}(h:Own w B E v xs)(hg:w.grownBy w' row)(hne:v.ownBlock=none\/v.ownBlock≠row):Own w' B E v xs:=⟨h.1.kept hg hne,h.2⟩
theorem Own.up{w w':World}{B:Nat}{E:TypeId}{v:Value}{xs:List Value}(h:Own w B E v xs)(hb:Below w.heap.size w w'):Own w' B E v xs:=
 h.keep (row:=none) ⟨hb.os,hb.tape,hb.output,hb.size,fun k hk _=>hb.block k hk⟩ (by cases v.ownBlock<;>simp)
theorem Own.lt{w:World}{B:Nat}{E:TypeId}{v:Value}{xs:List Value}(h:Own w B E v xs):∀k,v.ownBlock=some k->B<=k/\k<w.heap.size:=h.1.lt
theorem cZ{B:Nat}{w0 w w':World}{E:TypeId}{v:Value}{xs:List Value}(h:Below B w0 w)(hB:B<=w.heap.size)(ho:Own w B E v xs)(hg:w.grownBy w' v.ownBlock):Below B w0 w':=
 h.grown hg hB fun k hk=>(ho.lt k hk).1
theorem Own.cases{w:World}{B:Nat}{E:TypeId}{v:Value}{xs:List Value}(h:Own w B E v xs):
  ∃oa cap g,v=.slice oa xs.length cap/\Hd w oa xs.length cap g 0/\(0<xs.length->v.ownBlock=some g/\B<=g)/\(∀i,i<xs.length->w.cell? ⟨g,i,none⟩=some (xs.getD i undef))/\(∀i,i<xs.length->w.frozen? ⟨g,i,none⟩=false)/\
   ∀i u,i<xs.length->Own (w.setCell ⟨g,i,none⟩ u) B E v (xs.set i u)/\w.grownBy (w.setCell ⟨g,i,none⟩ u) (some g):=by
 obtain⟨⟨h0,h⟩,hl⟩:=h
 rcases h with⟨rfl,hx⟩|⟨g,cap,cur,rfl,hb,hg,hnc,hcm,hcs,vC⟩
 ·obtain rfl:xs=[]:=List.length_eq_zero_iff.1 hx
  exact⟨none,0,0,rfl,⟨fun h=>absurd h (Nat.lt_irrefl 0),qa _,by simp[maxLen],by simp,fun h=>absurd h (Nat.lt_irrefl 0)⟩,fun h=>absurd h (Nat.lt_irrefl 0),fun i hi=>absurd hi (Nat.not_lt_zero i),fun i hi=>absurd hi (Nat.not_lt_zero i),fun i u hi=>absurd hi (Nat.not_lt_zero i)⟩
 ·have hown:w.ownsRow B E 1 (.slice (some ⟨g,0,none⟩) xs.length cap) xs.length xs:=⟨h0,.inr ⟨g,cap,cur,rfl,hb,hg,hnc,hcm,hcs,vC⟩⟩
  refine⟨some ⟨g,0,none⟩,cap,g,rfl,⟨fun _=>rfl,hnc,hcm,hl,fun _=>(Array.getElem?_eq_some_iff.1 hg).1⟩,fun _=>⟨rfl,hb⟩,fun i hi=>?_,fun i hi=>hown.frozenAt i,fun i u hi=>?_⟩
  ·rw[hown.cellAt i (by omega)];simp[List.getD,hi]
  ·have:=hown.stored i u
   refine⟨⟨?_,by simpa using hl⟩,this.2⟩
   rw[List.length_set]
   exact this.1
theorem aA(b off j:Nat):(⟨b,off,none⟩:Addr).add j=⟨b,off+j,none⟩:=by unfold Addr.add;split<;>simp_all
theorem pI{P:Program}(w:World)(B:Nat)(t ty E:TypeId)(z:Value)(bytes:Nat)(ht:P.underlying t=some (.slice E))(vM:(P.info? E).map (fun i=>(i.zero,i.size,i.bytes))=some (some z,1,bytes))(hz:z.cells.size=1)(hby:bytes<=24)
  (v:Value) (xs:List Value) (hown:Own w B E v xs) (xv:Value) (news:List Value) (hx:Sl w xv news) (h1:∀u∈news,u.oneCell'=true) (hlen:xs.length+news.length<=4294967296) (hB:B<=w.heap.size):
  ∃v' w',(Builtin.append_ #[t,t] ty #[v,xv]).run P w=.ok v' w'/\Own w' B E v' (xs++news)/\w.grownBy w' v.ownBlock/\(∀k,v'.ownBlock=some k->v.ownBlock=some k\/w.heap.size<=k):=by
 obtain⟨i0,hi,hz0,hz1,hz2⟩:∃i0,P.info? E=some i0/\i0.zero=some z/\i0.size=1/\i0.bytes=bytes:=by
  cases hq:P.info? E with
  |none=>simp[hq]at vM
  |some i0=>simp[hq]at vM;exact⟨i0,rfl,vM.1,vM.2.1,vM.2.2⟩
 have hl1:xs.length+news.length<=maxLen:=by simp only[maxLen];omega
 have hl2:(xs.length+news.length)*bytes<=140737488355328:=by
  have:=Nat.mul_le_mul hlen hby;omega
 obtain⟨oa,cx,b,off,rfl,hd,hc⟩:=hx;have vQ:xs.length+news.length<=140737488351232:=by omega
 rcases hown with⟨hrow,hsm⟩
 by_cases hn:news=[]
 ·subst hn
  refine⟨v,w,?_,⟨by simpa using hrow,by simpa using hsm⟩,⟨rfl,rfl,rfl,qa _,fun _ _ _=>rfl⟩,fun k hk=>.inl hk⟩
  rcases hrow.2 with⟨rfl,hx0⟩|⟨g,cap,cur,rfl,_,_,hnc,_⟩
  ·cases oa<;>simp[Builtin.append_,run_underlying ht,sizeOf,typeInfo,hi,Builtin.lenOf,Builtin.firstCells,loadCells,loadCellsFrom]
  ·cases oa<;>simp[Builtin.append_,run_underlying ht,sizeOf,typeInfo,hi,Builtin.lenOf,Builtin.firstCells,loadCells,loadCellsFrom,hnc,storeCells]
 ·have vR:0<news.length:=List.length_pos_iff.2 hn
  obtain rfl:=hd.hat vR
  have hnews:∀j u,news[j]? =some u->w.cell? ((⟨b,off,none⟩:Addr).add j)=some u:=fun j u hu=>by
   have hj:=(List.getElem?_eq_some_iff.1 hu).1;rw[aA,hc j hj];simp[List.getD,hu]
  rcases hrow.2 with⟨rfl,hx0⟩|⟨g,cap,cur,rfl,hbg,hg,hnc,hcm,hcs,vC⟩
  ·obtain rfl:xs=[]:=List.length_eq_zero_iff.1 hx0
   obtain⟨v',w',hr,ho,hgr,-⟩:=run_append_own (P:=P) w w.heap.size t ty E i0 z 1 bytes ht hi hz0 hz1 hz2 hz (by decide) (.slice none 0 0) 0 [] (World.ownsRow_nil _ _ _ _) ⟨b,off,none⟩ news.length cx news (by simp) hnews h1 (by simpa using hl1) (by simpa using hl2) (qa _)
   have hk:=ho.lt;refine⟨v',w',hr,⟨⟨by simp,?_⟩,by simp only[List.nil_append];omega⟩,hgr,fun k hk'=>.inr (hk k hk').1⟩
   simp only[Nat.zero_add,List.nil_append]at ho
   rcases ho.2 with⟨h1,h2⟩|⟨g,cap,cur,h1,h2,h3⟩
   ·exact .inl ⟨h1,by simpa using h2⟩
   ·exact .inr ⟨g,cap,cur,h1,by omega,by simpa using h3⟩
  ·by_cases hroom:xs.length+news.length<=cap
   ·obtain⟨w',hr,ho,hgr⟩:=run_append_fits (P:=P) w B t ty E i0 1 ht hi hz1 g xs.length cap xs ⟨hrow.1,.inr ⟨g,cap,cur,rfl,hbg,hg,hnc,hcm,hcs,vC⟩⟩ ⟨b,off,none⟩ news.length cx news (by simp) hnews h1 hroom
    exact⟨_,w',hr,⟨by rw[qg];exact ho,by rw[qg];exact vQ⟩,hgr,fun k hk=>.inl hk⟩
   ·have holds:∀j u,xs[j]? =some u->w.cell? ((⟨g,0,none⟩:Addr).add j)=some u:=World.ownsRow.cells (g:=g) hrow rfl
    have yC:xs.length+news.length<=9223372036854775807:=by omega
    have hr:=run_append_grow (P:=P) w t ty E i0 z ht hi hz0 ⟨g,0,none⟩ xs.length cap xs (by rw[hz1];exact hrow.1) holds ⟨b,off,none⟩ news.length cx news (by rw[hz1];simp) hnews (by omega) (by omega) (growslice_fits (by omega) (by rw[hz2];exact hl2))
    have hge:=grownCap_ge w (xs.length+news.length) cap E;have xQ:grownCap w (xs.length+news.length) cap E<=maxLen:=grownCap_le_maxLen w _ cap E hl1;refine⟨_,_,hr,⟨⟨by simp,.inr ⟨w.heap.size,_,_,by rw[qg],hB,heap_alloc_new w.drew _,by rw[qg];exact hge,xQ,?_,?_⟩⟩,by rw[qg];exact vQ⟩,⟨rfl,rfl,rfl,by simp,fun k hk _=>Below.heap_alloc w.drew _ k hk⟩,fun k hk=>.inr (by simp[Value.ownBlock]at hk;omega)⟩
    ·simp only[Array.size_append,List.size_toArray,size_zeroCells,hz]
     omega
    ·simp only[Array.toList_append,qh]
     rw[<-qh,Nat.mul_one]
     exact List.take_left
theorem jG{P:Program}{ops:Array Oper}{rest:List Oper}{o:Oper}{a:Act}{w:World}{Q:Exit->Act->World->Prop}(hgd:o.guard=none)(s x:Operand)(t:TypeId)
  (ho:o.op=.call {callee:=.builtin .append,args:=#[s,x],argTypes:=#[t,t]})
  (B E:TypeId) (z:Value) (bytes:Nat) (ht:P.underlying t=some (.slice E)) (vM:(P.info? E).map (fun i=>(i.zero,i.size,i.bytes))=some (some z,1,bytes)) (hz:z.cells.size=1) (hby:bytes<=24)
  (v:Value) (xs:List Value) (hs:a.eval s=v) (hown:Own w B E v xs) (xv:Value) (news:List Value) (hxe:a.eval x=xv) (hx:Sl w xv news) (h1:∀u∈news,u.oneCell'=true) (hlen:xs.length+news.length<=4294967296) (hB:B<=w.heap.size)
  (h:∀v' w',Own w' B E v' (xs++news)->w.grownBy w' v.ownBlock->(∀k,v'.ownBlock=some k->v.ownBlock=some k\/w.heap.size<=k)->wpList P ops Q rest (a.put o.dst v') w'):wpList P ops Q (o::rest) a w:=by
 obtain⟨v',w',hr,h2,h3,h4⟩:=pI (P:=P) w B t o.type E z bytes ht vM hz hby v xs hown xv news hx h1 hlen hB;refine wpList_plain hgd fun K hK=>?_
 unfold Oper.wp execOp;simp only[ho,resolve,invoke,builtin,Sem.run_bind,Sem.run_pure,Result.andThen_ok,List.map_toArray,List.map_cons,List.map_nil,hs,hxe,hr]
 exact hK _ _ (h v' w' h2 h3 h4)
theorem dW(w:World)(c:Array Value)(E:TypeId)(hc:c.size<=4294967296):Sl (w.alloc (.cells c E)) (.slice (some ⟨w.heap.size,0,none⟩) c.size c.size) c.toList:=by
 refine⟨some ⟨w.heap.size,0,none⟩,c.size,w.heap.size,0,by simp,⟨fun _=>rfl,by simp,by simp only[maxLen];omega,by simp;omega,fun _=>by simp⟩,fun i hi=>?_⟩
 have hi':i<c.size:=by simpa using hi
 rw[Nat.zero_add,World.cell?_alloc_new]
 simp[List.getD,hi']
theorem jj(w:World)(B:Nat)(c:Array Value)(E:TypeId)(hc:c.size<=4294967296)(hB:B<=w.heap.size):Own (w.alloc (.cells c E)) B E (.slice (some ⟨w.heap.size,0,none⟩) c.size c.size) c.toList:=by
 have h:=World.ownsRow_lit (base:=B) (e:=E) (size:=1) w c c.size hB (by simp only[maxLen];omega) (by simp)
 exact⟨by simpa using h,by simp;omega⟩
section
variable {w : World} {B : Nat} {E : TypeId} {g n cap : Nat} {xs : List Value}
theorem Own.len(h:Own w B E (.slice (some ⟨g,0,none⟩) n cap) xs):n=xs.length:=by
 rcases h.1.2 with⟨h1,_⟩|⟨g',cap',cur,h1,_⟩
 ·cases h1
 ·simp at h1;exact h1.2.1
theorem Own.row(h:Own w B E (.slice (some ⟨g,0,none⟩) n cap) xs):w.ownsRow B E 1 (.slice (some ⟨g,0,none⟩) xs.length cap) xs.length xs:=by
 have:=h.len;subst this;exact h.1
theorem Own.cell(h:Own w B E (.slice (some ⟨g,0,none⟩) n cap) xs){i:Nat}(hi:i<xs.length):w.cell? ⟨g,i,none⟩=some (xs.getD i undef):=by
 rw[h.row.cellAt i (by omega)];simp[List.getD,hi]
theorem Own.free(h:Own w B E (.slice (some ⟨g,0,none⟩) n cap) xs)(i:Nat):w.frozen? ⟨g,i,none⟩=false:=h.row.frozenAt i
theorem Own.store(h:Own w B E (.slice (some ⟨g,0,none⟩) n cap) xs)(i:Nat)(u:Value):Own (w.setCell ⟨g,i,none⟩ u) B E (.slice (some ⟨g,0,none⟩) n cap) (xs.set i u)/\w.grownBy (w.setCell ⟨g,i,none⟩ u) (some g):=by
 have h1:=h.row.stored i u;have hl:=h.len;subst hl
 exact⟨⟨by rw[List.length_set];exact h1.1,by rw[List.length_set];exact h.2⟩,h1.2⟩
theorem Own.blk(h:Own w B E (.slice (some ⟨g,0,none⟩) n cap) xs):B<=g/\g<w.heap.size:=h.lt g rfl
end
theorem Own.mono{w:World}{B B' E:Nat}{v:Value}{xs:List Value}(h:Own w B E v xs)(hB:B'<=B):Own w B' E v xs:=
 ⟨⟨h.1.1,h.1.2.imp id fun⟨g,cap,cur,h1,h2,h3⟩=>⟨g,cap,cur,h1,by omega,h3⟩⟩,h.2⟩
def qT(l:List UInt8):List Value:=l.map fun b=>.int .u8 (b.toNat:Int)
theorem eC(a b:List UInt8):qT (a++b)=qT a++qT b:=by simp[qT]
theorem qR(a:List UInt8):(qT a).length=a.length:=by simp[qT]
theorem jX{P:Program}(w:World)(src dst e:TypeId)(hs:P.underlying src=some (.slice e))(he:P.underlying e=some (.int .u8))(hd:P.underlying dst=some .string)
  (v:Value) (l:List UInt8) (h:Sl w v (qT l)):(convert src dst v).run P w=.ok (.string ⟨l.toArray⟩) w:=by
 obtain⟨oa,cap,b,off,rfl,hdr,hc⟩:=h;rw[qR]at hdr hc⊢;rw[run_convert_bytes_string w src dst e oa l.length cap hs he hd]
 have xP:∀(l:List UInt8) (s:ByteArray),(l.map fun b=>(b.toNat:Int)).foldl (fun r n=>r.push (UInt8.ofNat n.toNat)) s=⟨s.data++l.toArray⟩:=by
  intro l
  induction l with
  |nil=>intro s;simp
  |cons b l ih=>intro s;simp only[List.map_cons,List.foldl_cons,ih];simp[ByteArray.push]
 have hb:qT l=(l.map fun b=>(b.toNat:Int)).map (Value.int .u8):=by simp[qT]
 cases oa with
 |none=>
  have h0:l.length=0:=by
   rcases Nat.eq_zero_or_pos l.length with h|h
   ·exact h
   ·have:=hdr.hat h;cases this
  obtain rfl:l=[]:=List.length_eq_zero_iff.1 h0;unfold Conv.bytesToString
  simp
  rfl
 |some ad=>
  have hl:(loadCells ad l.length).run P w=.ok ((l.map fun b=>(b.toNat:Int)).map (Value.int .u8)).toArray w:=by
   rcases Nat.eq_zero_or_pos l.length with h|h
   ·obtain rfl:l=[]:=List.length_eq_zero_iff.1 h
    simp[loadCells,loadCellsFrom]
   ·have:=hdr.hat h
    obtain rfl:ad=⟨b,off,none⟩:=qk this;rw[<-hb]
    have h2:=run_loadCells_list (P:=P) w ⟨b,off,none⟩ (qT l) (fun j v hv=>by
     have hj:j<(qT l).length:=(List.getElem?_eq_some_iff.1 hv).1;rw[qR]at hj;rw[aA,hc j hj];simp[List.getD,hv])
    rwa [qR]at h2
  rw[run_bytesToString w ad l.length cap _ hl,xP]
  simp
abbrev qM:=List UInt8
def bys(s:ByteArray):qM:=s.data.toList
theorem qt(s:ByteArray):(bys s).length=s.size:=by simp[bys]
theorem jc{P:Program}(T:TypeId)(hT:P.underlying T=some .string){s:ByteArray}{i:Nat}(h:i<s.size)(W:World):(Instr.index T (.string s) (.int .i64 i)).run P W=.ok (.int .u8 (((bys s).getD i 0).toNat:Nat)) W:=by
 rw[run_index_string W T s .i64 i hT,dif_pos ⟨by omega,by omega⟩]
 have:(bys s).getD i 0=s[i]:=by
  have hl:i<(bys s).length:=by rw[qt];exact h
  rw[List.getD_eq_getElem?_getD,List.getElem?_eq_getElem hl]
  rfl
 rw[this]
 rfl
theorem gM{a b:UInt8}(h:a≠b):((a.toNat:Int)==(b.toNat:Int))=false:=by
 have:a.toNat≠b.toNat:=fun e=>h (UInt8.toNat_inj.1 e)
 have h2:(a.toNat:Int)≠(b.toNat:Int):=by omega
 simpa using h2
end Go.Cm
namespace Go.Cm
structure PS where
 p:Nat
 e:Nat
 b:Nat
def qH(z:PS):PS:=⟨z.p+1,z.e,z.b⟩
def nxR(s:qM)(z:PS):Option UInt8:=if z.e=0/\z.p<s.length then some (s.getD z.p 0)else none
def qC(e a:Nat)(z:PS):PS:=if z.e=0 then⟨z.p,e,a⟩else z
def qz(s:qM)(c:UInt8)(z:PS):Bool×PS:=if nxR s z=some c then(true,qH z)else(false,z)
def kN(k:Int):Nd:=⟨k,0,0,0,0,0,0,0⟩
def wdR(x i:Nat):Nat:=x/2^(64*i)%2^64
def setN(x:Nat):Nd:=⟨1,0,wdR x 0,wdR x 1,wdR x 2,wdR x 3,0,0⟩
def j1(x:Nd)(kids:List (List Nd)):List Nd:={x with n:=kids.length}::kids.flatten
def f9(kd:Int):List (List Nd)->List Nd
 |[]=>j1 (kN 2) []
 |[l]=>l
 |l=>j1 (kN kd) l
def bB(a b:Nat):Nat:=(List.range 256).foldl (fun x c=>if a<=c/\c<=b then x|||2^c else x) 0
def jH(c:UInt8):Nat:=bB c.toNat c.toNat
def cB(x:Nat):Nat:=2^256-1-x
def kX:Nat:=bB 48 57
def sB:Nat:=jH 95|||(kX|||(bB 97 122|||bB 65 90))
def dgR(c:UInt8):Int:=if 48<=c.toNat/\c.toNat<=57 then c.toNat-48 else if 97<=c.toNat/\c.toNat<=102 then c.toNat-97+10 else -1
def okD(c:UInt8)(base:Int):Bool:=decide (0<=dgR c)&&decide (dgR c<base)
def aQ(s:qM)(z:PS):Nat×PS:=
 let c:=(nxR s z).getD 0
 if okD c 10 then
  let d:=(nxR s (qH z)).getD 0
  if okD d 10 then(10*(dgR c).toNat+(dgR d).toNat,qH (qH z))else((dgR c).toNat,qH z)
 else(0,qC 15 z.p z)
def s7(lo hi:Int):Bool:=decide (0<=lo)&&(decide (lo<=30)&&(decide (hi= -1)||(decide (lo<=hi)&&decide (hi<=30))))
def cE(s:qM)(low:Nat)(z:PS):Int×PS:=
 let t:=qz s 44 z
 if t.1 then(if(nxR s t.2).getD 0=125 then(-1,t.2)else((aQ s t.2).1,(aQ s t.2).2))else(low,t.2)
def gN(s:qM)(z:PS):Nd×PS:=
 let l:=aQ s (qH z)
 let h:=cE s l.1 l.2
 let t:=qz s 125 h.2
 let z5:=if t.1 then t.2 else qC 15 t.2.p t.2
 (⟨8,0,0,0,0,0,l.1,h.1⟩,if s7 l.1 h.1 then z5 else qC 18 z.p z5)
def pJ:qM:=[92,91,93,40,41,123,125,42,43,63,124,46,45,94,47,34]
def tH:qM:=[92,91,93,40,41,123,125,42,43,63,124,46]
def iY(c:UInt8):Option Nat:=if c=100 then some kX else if c=119 then some sB else none
def kY(c:UInt8):Option UInt8:=if c=110 then some 10 else if c=116 then some 9 else if c=115 then some 32 else if c∈pJ then some c else none
def nE(s:qM)(i:Nat):Option UInt8:=
 if i+2<s.length/\okD (s.getD (i+1) 0) 16=true/\okD (s.getD (i+2) 0) 16=true then some (UInt8.ofNat (16*(dgR (s.getD (i+1) 0)).toNat+(dgR (s.getD (i+2) 0)).toNat))else none
def cF(s:qM)(z:PS):(Nat×Bool)×PS:=
 match nxR s (qH z)with
 |none=>((0,false),qC 15 (z.p+1) (qH z))
 |some c=>
  match iY c with
  |some a=>((a,true),qH (qH z))
  |none=>
   match kY c with
   |some b=>((jH b,false),qH (qH z))
   |none=>
    if c=120 then
     match nE s (z.p+1)with
     |some b=>((jH b,false),⟨z.p+4,z.e,z.b⟩)
     |none=>((0,false),qC 15 (z.p+1) (qH (qH z)))
    else((0,false),qC 15 (z.p+1) (qH (qH z)))
def jZ(s:qM)(z:PS):(Nat×Bool)×PS:=
 match nxR s z with
 |none=>((0,false),qC 15 z.p z)
 |some c=>if c=92 then cF s z else if c=45 then((0,false),qC 15 z.p z)else((jH c,false),qH z)
def bC(s:qM)(frm:Nat)(z:PS):Nat×PS:=
 let a:=jZ s z
 let t:=qz s 45 a.2
 if t.1 then
  match nxR s t.2 with
  |none=>(a.1.1,qC 16 frm t.2)
  |some c=>
   if c=93 then(a.1.1,qC 15 t.2.p t.2)
   else
    let b:=jZ s t.2
    if b.2.e≠0 then(a.1.1,b.2)
    else if a.1.2||b.1.2||decide (Nat.log2 b.1.1<Nat.log2 a.1.1)then(a.1.1,qC 18 a.2.p b.2)
    else(bB (Nat.log2 a.1.1) (Nat.log2 b.1.1),b.2)
 else(a.1.1,t.2)
def fE(s:qM)(frm:Nat):Nat->Nat->PS->Nat×PS
 |0,a,z=>(a,z)
 |f+1,a,z=>
  if z.e≠0 then(a,z)
  else
   let t:=qz s 93 z
   if t.1 then(a,t.2)
   else if s.length<=t.2.p then(a,qC 16 frm t.2)
   else fE s frm f (a|||(bC s frm t.2).1) (bC s frm t.2).2
def iZ(s:qM)(frm:Nat)(z:PS):Nat×PS:=
 let t:=qz s 94 z
 let r:=fE s frm (s.length+1) 0 t.2
 let a:=if t.1 then cB r.1 else r.1
 (a,if a=0 then qC 17 frm r.2 else r.2)
def eD(s:qM)(alt:PS->List Nd×PS)(z:PS):List Nd×PS:=
 let c:=(nxR s z).getD 0
 if c=92 then([setN (cF s z).1.1],(cF s z).2)
 else if c=40 then
  let l:=alt (qH z)
  let t:=qz s 41 l.2
  (l.1,if t.1 then t.2 else qC 16 z.p t.2)
 else if c=91 then([setN (iZ s z.p (qH z)).1],(iZ s z.p (qH z)).2)
 else if c=46 then([setN (cB (jH 10))],qH z)
 else if c∈tH then([],qC 15 z.p z)
 else([setN (jH c)],qH z)
def fF(s:qM):Nat->List Nd->PS->List Nd×PS
 |0,l,z=>(l,z)
 |f+1,l,z=>
  let c:=(nxR s z).getD 0
  if c=42 then fF s f (j1 (kN 5) [l]) (qH z)
  else if c=43 then fF s f (j1 (kN 6) [l]) (qH z)
  else if c=63 then fF s f (j1 (kN 7) [l]) (qH z)
  else if c=123 then fF s f (j1 (gN s z).1 [l]) (gN s z).2
  else(l,z)
def fG(s:qM)(alt:PS->List Nd×PS)(z:PS):List Nd×PS:=fF s (s.length+1) (eD s alt z).1 (eD s alt z).2
def inR(s:qM)(z:PS):Bool:=match nxR s z with|none=>false|some c=>decide (c≠124)&&decide (c≠41)
def gI(s:qM)(alt:PS->List Nd×PS):Nat->List (List Nd)->PS->List (List Nd)×PS
 |0,l,z=>(l,z)
 |f+1,l,z=>if inR s z then gI s alt f (l++[(fG s alt z).1]) (fG s alt z).2 else(l,z)
def jg(s:qM)(alt:PS->List Nd×PS)(z:PS):List Nd×PS:=(f9 3 (gI s alt (s.length+1) [] z).1,(gI s alt (s.length+1) [] z).2)
def aX(s:qM)(alt:PS->List Nd×PS):Nat->List (List Nd)->PS->List (List Nd)×PS
 |0,l,z=>(l,z)
 |f+1,l,z=>if(qz s 124 z).1 then aX s alt f (l++[(jg s alt (qz s 124 z).2).1]) (jg s alt (qz s 124 z).2).2 else(l,z)
def jN(s:qM):Nat->PS->List Nd×PS
 |0,z=>([],z)
 |f+1,z=>
  let c:=jg s (jN s f) z
  let r:=aX s (jN s f) (s.length+1) [c.1] c.2
  (f9 4 r.1,r.2)
def gO(s:qM):List Nd×Nat×Nat:=
 if 512<s.length then([],3,512)
 else
  let r:=jN s (s.length+1) ⟨0,0,0⟩
  let z:=if(nxR s r.2).isSome then qC 15 r.2.p r.2 else r.2
  if z.e≠0 then([],z.e,z.b)else if 400<r.1.length then([],3,0)else(r.1,0,0)
structure Stp(s:qM)(z z':PS):Prop where
 le:z.p<=z'.p
 len:z.p<=s.length->z'.p<=s.length
 er:z.e≠0->z'=z
 cod:z.e<=18->z'.e<=18
 bd:z.b<=s.length->z.p<=s.length->z'.b<=s.length
theorem Stp.refl(s:qM)(z:PS):Stp s z z:=⟨qa _,id,fun _=>rfl,id,fun h _=>h⟩
theorem Stp.trans{s:qM}{a b c:PS}(h:Stp s a b)(k:Stp s b c):Stp s a c:=
 ⟨qb h.le k.le,fun x=>k.len (h.len x),fun x=>by have e:=h.er x;subst e;exact k.er x,fun x=>k.cod (h.cod x),fun x y=>k.bd (h.bd x y) (h.len y)⟩
theorem qS{s:qM}{z:PS}{c:UInt8}(h:nxR s z=some c):z.e=0/\z.p<s.length/\s.getD z.p 0=c:=by
 unfold nxR at h;split at h
 ·rename_i g;exact⟨g.1,g.2,by simpa using h⟩
 ·cases h
theorem sC{s:qM}{z:PS}(h:z.e≠0):nxR s z=none:=by
 unfold nxR;rw[if_neg (fun g=>h g.1)]
theorem aR{s:qM}{z:PS}{c:UInt8}(h:(nxR s z).getD 0=c)(hc:c≠0):nxR s z=some c:=by
 cases hn:nxR s z with
 |none=>rw[hn]at h;exact absurd h.symm hc
 |some d=>rw[hn]at h;exact congrArg some h
theorem jk{s:qM}{z:PS}{c:UInt8}(h:nxR s z=some c):Stp s z (qH z):=by
 obtain⟨h0,h1,-⟩:=qS h
 exact⟨Nat.le_succ _,fun _=>h1,fun g=>absurd h0 g,id,fun h _=>h⟩
theorem j2(s:qM){e a:Nat}(he:e<=18)(ha:a<=s.length)(z:PS):Stp s z (qC e a z):=by
 unfold qC;split
 ·rename_i h0;exact⟨qa _,id,fun g=>absurd h0 g,fun _=>he,fun _ _=>ha⟩
 ·exact Stp.refl s z
theorem ju{e a:Nat}(z:PS)(he:e≠0):(qC e a z).e≠0:=by
 unfold qC;split
 ·exact he
 ·assumption
theorem aS{e a:Nat}(z:PS):(qC e a z).p=z.p:=by unfold qC;split<;>rfl
theorem j3(s:qM)(c:UInt8)(z:PS):Stp s z (qz s c z).2:=by
 unfold qz;split
 ·rename_i h;exact jk h
 ·exact Stp.refl s z
theorem nF{s:qM}{c:UInt8}{z:PS}(h:z.e≠0):qz s c z=(false,z):=by
 unfold qz;rw[sC h];rfl
theorem bG{s:qM}{c:UInt8}{z:PS}(h:(qz s c z).1=true):nxR s z=some c/\(qz s c z).2=qH z:=by
 unfold qz at h⊢;split
 ·rename_i g;exact⟨g,rfl⟩
 ·rename_i g;rw[if_neg g]at h;cases h
theorem bV{s:qM}{c:UInt8}{z:PS}(h:(qz s c z).1=false):(qz s c z).2=z:=by
 unfold qz at h⊢;split
 ·rename_i g;rw[if_pos g]at h;cases h
 ·rfl
theorem nG(b:Int):okD 0 b=false:=by
 unfold okD dgR
 simp
theorem nH{s:qM}{z:PS}{b:Int}(h:okD ((nxR s z).getD 0) b=true):∃c,nxR s z=some c/\okD c b=true:=by
 cases hn:nxR s z with
 |none=>rw[hn]at h;exact absurd h (by rw[show(none:Option UInt8).getD 0=0 from rfl,nG];decide)
 |some c=>rw[hn]at h;exact⟨c,rfl,h⟩
theorem kZ{s:qM}{a z:PS}(h:Stp s a z){e:Nat}(he:e<=18)(ha:a.p<=s.length):Stp s a (qC e z.p z):=h.trans (j2 s he (h.len ha) z)
theorem gP{s:qM}{z:PS}(hz:z.p<=s.length):Stp s z (aQ s z).2:=by
 unfold aQ;simp only;split
 ·rename_i h
  obtain⟨c,hc,-⟩:=nH h;split
  ·rename_i h2
   obtain⟨d,hd,-⟩:=nH h2
   exact(jk hc).trans (jk hd)
  ·exact jk hc
 ·exact j2 s (by decide) hz z
theorem i9{s:qM}(low:Nat){z:PS}(hz:z.p<=s.length):Stp s z (cE s low z).2:=by
 unfold cE;have ht:=j3 s 44 z;simp only;split
 ·split
  ·exact ht
  ·exact ht.trans (gP (ht.len hz))
 ·exact ht
theorem l5{s:qM}{z:PS}{c:UInt8}(h:nxR s z=some c):Stp s z (gN s z).2:=by
 have hz:=(qS h).2.1;have h1:=jk h;have h2:=h1.trans (gP (h1.len (Nat.le_of_lt hz)));have h3:=h2.trans (i9 (aQ s (qH z)).1 (h2.len (Nat.le_of_lt hz)));have h4:=h3.trans (j3 s 125 _)
 have h5:Stp s z (if(qz s 125 (cE s (aQ s (qH z)).1 (aQ s (qH z)).2).2).1 then(qz s 125 (cE s (aQ s (qH z)).1 (aQ s (qH z)).2).2).2 else qC 15 (qz s 125 (cE s (aQ s (qH z)).1 (aQ s (qH z)).2).2).2.p (qz s 125 (cE s (aQ s (qH z)).1 (aQ s (qH z)).2).2).2):=by
  split
  ·exact h4
  ·exact kZ h4 (by decide) (Nat.le_of_lt hz)
 unfold gN;simp only;split
 ·exact h5
 ·exact h5.trans (j2 s (by decide) (Nat.le_of_lt hz) _)
theorem oO{s:qM}{z:PS}{c:UInt8}(h:nxR s z=some c):z.p<(gN s z).2.p:=by
 have hz:=(qS h).2.1;have h1:=jk h;have hz1:=h1.len (Nat.le_of_lt hz);have h2:=gP (s:=s) hz1;have h3:=h2.trans (i9 (aQ s (qH z)).1 (h2.len hz1));have h4:=(h3.trans (j3 s 125 _)).le;have:(qH z).p=z.p+1:=rfl;unfold gN;simp only
 have h5:z.p+1<=(if(qz s 125 (cE s (aQ s (qH z)).1 (aQ s (qH z)).2).2).1 then(qz s 125 (cE s (aQ s (qH z)).1 (aQ s (qH z)).2).2).2 else qC 15 (qz s 125 (cE s (aQ s (qH z)).1 (aQ s (qH z)).2).2).2.p (qz s 125 (cE s (aQ s (qH z)).1 (aQ s (qH z)).2).2).2).p:=by
  split
  ·omega
  ·rw[aS];omega
 split
 ·exact h5
 ·rw[aS];exact h5
theorem d3{s:qM}{z:PS}{c:UInt8}(h:nxR s z=some c):Stp s z (cF s z).2/\z.p<(cF s z).2.p:=by
 have hz:=(qS h).2.1;have h0:=(qS h).1;have h1:=jk h;unfold cF
 cases hn:nxR s (qH z)with
 |none=>exact⟨h1.trans (j2 s (by decide) hz _),by simp only[aS];exact Nat.lt_succ_self _⟩
 |some d=>
  have h2:=h1.trans (jk hn);have hl:z.p<(qH (qH z)).p:=by show z.p<z.p+1+1;omega
  simp only
  cases iY d with
  |some a=>exact⟨h2,hl⟩
  |none=>
   simp only
   cases kY d with
   |some a=>exact⟨h2,hl⟩
   |none=>
    simp only;split
    ·cases hx:nE s (z.p+1)with
     |some b=>
      have hlt:z.p+1+2<s.length:=by
       unfold nE at hx;split at hx
       ·rename_i g;exact g.1
       ·cases hx
      exact⟨⟨by show z.p<=z.p+4;omega,fun _=>by show z.p+4<=s.length;omega,fun g=>absurd h0 g,id,fun h _=>h⟩,by show z.p<z.p+4;omega⟩
     |none=>exact⟨h2.trans (j2 s (by decide) hz _),by simp only[aS];exact hl⟩
    ·exact⟨h2.trans (j2 s (by decide) hz _),by simp only[aS];exact hl⟩
theorem eE{s:qM}{z:PS}(hz:z.p<=s.length):Stp s z (jZ s z).2:=by
 unfold jZ
 cases hn:nxR s z with
 |none=>exact j2 s (by decide) hz z
 |some c=>
  simp only;split
  ·exact(d3 hn).1
  ·split
   ·exact j2 s (by decide) hz z
   ·exact jk hn
theorem gQ{s:qM}{frm:Nat}(hf:frm<=s.length){z:PS}(hz:z.p<=s.length):Stp s z (bC s frm z).2:=by
 have h1:=eE (s:=s) hz;have h2:=h1.trans (j3 s 45 _);unfold bC;simp only;split
 ·cases hn:nxR s (qz s 45 (jZ s z).2).2 with
  |none=>exact h2.trans (j2 s (by decide) hf _)
  |some c=>
   simp only;split
   ·exact kZ h2 (by decide) hz
   ·have h3:=h2.trans (eE (s:=s) (h2.len hz))
    split
    ·exact h3
    ·split
     ·exact h3.trans (j2 s (by decide) (h1.len hz) _)
     ·exact h3
 ·exact h2
theorem oP{s:qM}{frm:Nat}{z:PS}(hz:z.p<s.length):(bC s frm z).2.e≠0\/z.p<(bC s frm z).2.p:=by
 have hc:(jZ s z).2.e≠0\/z.p<(jZ s z).2.p:=by
  unfold jZ
  cases hn:nxR s z with
  |none=>exact .inl (ju z (by decide))
  |some c=>
   simp only;split
   ·exact .inr (d3 hn).2
   ·split
    ·exact .inl (ju z (by decide))
    ·exact .inr (Nat.lt_succ_self _)
 rcases hc with hc|hc
 ·left
  unfold bC;simp only[nF hc]
  exact hc
 ·right
  have h1:=(j3 s 45 (jZ s z).2).le;have hz2:=eE (s:=s) (Nat.le_of_lt hz);have hz3:=(j3 s 45 (jZ s z).2).len (hz2.len (Nat.le_of_lt hz));unfold bC;simp only;split
  ·cases hn:nxR s (qz s 45 (jZ s z).2).2 with
   |none=>simp only[aS];omega
   |some c=>
    simp only;have h3:=(eE (s:=s) hz3).le;split
    ·rw[aS];omega
    ·split
     ·show z.p<(jZ s (qz s 45 (jZ s z).2).2).2.p;omega
     ·split
      ·rw[aS];omega
      ·show z.p<(jZ s (qz s 45 (jZ s z).2).2).2.p;omega
  ·show z.p<(qz s 45 (jZ s z).2).2.p;omega
theorem iA{s:qM}{frm:Nat}(hf:frm<=s.length):∀(f a:Nat) (z:PS),z.p<=s.length->Stp s z (fE s frm f a z).2
 |0,_,z,_=>Stp.refl s z
 |f+1,a,z,hz=>by
  unfold fE;split
  ·exact Stp.refl s z
  ·have h1:=j3 s 93 z
   simp only;split
   ·exact h1
   ·split
    ·exact h1.trans (j2 s (by decide) hf _)
    ·have h2:=h1.trans (gQ (s:=s) hf (h1.len hz))
     exact h2.trans (iA hf f _ _ (h2.len hz))
theorem l7{s:qM}{frm:Nat}(hf:frm<=s.length){z:PS}(hz:z.p<=s.length):Stp s z (iZ s frm z).2:=by
 have h1:=j3 s 94 z;have h2:=h1.trans (iA hf (s.length+1) 0 _ (h1.len hz));unfold iZ;simp only;split
 ·split
  ·exact h2.trans (j2 s (by decide) hf _)
  ·exact h2
 ·split
  ·exact h2.trans (j2 s (by decide) hf _)
  ·exact h2
end Go.Cm
namespace Go.Cm
section
variable {s : qM} {alt : PS → List Nd × PS} (hA : ∀ z, z.p ≤ s.length → Stp s z (alt z).2)
include hA
theorem l8{z:PS}{c:UInt8}(h:nxR s z=some c):Stp s z (eD s alt z).2/\((eD s alt z).2.e≠0\/z.p<(eD s alt z).2.p):=by
 have hz:=(qS h).2.1;have h1:=jk h;have hz1:=h1.len (Nat.le_of_lt hz);have e1:(qH z).p=z.p+1:=rfl;unfold eD;simp only;split
 ·exact⟨(d3 h).1,.inr (d3 h).2⟩
 ·split
  ·have h2:=h1.trans (hA _ hz1)
   have h3:=h2.trans (j3 s 41 _);have hl:=((hA _ hz1).trans (j3 s 41 _)).le;split
   ·exact⟨h3,.inr (by show z.p<(qz s 41 (alt (qH z)).2).2.p;omega)⟩
   ·exact⟨h3.trans (j2 s (by decide) (Nat.le_of_lt hz) _),.inr (by simp only[aS];omega)⟩
  ·split
   ·have h2:=l7 (s:=s) (frm:=z.p) (Nat.le_of_lt hz) hz1
    exact⟨h1.trans h2,.inr (by have:=h2.le;show z.p<(iZ s z.p (qH z)).2.p;omega)⟩
   ·split
    ·exact⟨h1,.inr (Nat.lt_succ_self _)⟩
    ·split
     ·exact⟨j2 s (by decide) (Nat.le_of_lt hz) z,.inl (ju z (by decide))⟩
     ·exact⟨h1,.inr (Nat.lt_succ_self _)⟩
omit hA in
theorem bH:∀(f:Nat) (l:List Nd) (z:PS),Stp s z (fF s f l z).2
 |0,_,z=>Stp.refl s z
 |f+1,l,z=>by
  unfold fF;simp only;split
  ·rename_i h;exact(jk (aR h (by decide))).trans (bH f _ _)
  ·split
   ·rename_i h;exact(jk (aR h (by decide))).trans (bH f _ _)
   ·split
    ·rename_i h;exact(jk (aR h (by decide))).trans (bH f _ _)
    ·split
     ·rename_i h;exact(l5 (aR h (by decide))).trans (bH f _ _)
     ·exact Stp.refl s z
theorem gR{z:PS}{c:UInt8}(h:nxR s z=some c):Stp s z (fG s alt z).2/\((fG s alt z).2.e≠0\/z.p<(fG s alt z).2.p):=by
 obtain⟨h1,h2⟩:=l8 hA h;have h3:=bH (s:=s) (s.length+1) (eD s alt z).1 (eD s alt z).2;refine⟨h1.trans h3,?_⟩
 rcases h2 with h2|h2
 ·left;show(fF s (s.length+1) (eD s alt z).1 (eD s alt z).2).2.e≠0;rw[h3.er h2];exact h2
 ·right;exact qd h2 h3.le
omit hA in
theorem gS{z:PS}(h:inR s z=true):∃c,nxR s z=some c/\c≠124/\c≠41:=by
 unfold inR at h
 cases hn:nxR s z with
 |none=>rw[hn]at h;cases h
 |some c=>rw[hn]at h;simp only[Bool.and_eq_true,decide_eq_true_eq]at h;exact⟨c,rfl,h⟩
theorem eF:∀(f:Nat) (l:List (List Nd)) (z:PS),Stp s z (gI s alt f l z).2
 |0,_,z=>Stp.refl s z
 |f+1,l,z=>by
  unfold gI;split
  ·rename_i h
   obtain⟨c,hc,-⟩:=gS h
   exact(gR hA hc).1.trans (eF f _ _)
  ·exact Stp.refl s z
theorem d4(z:PS):Stp s z (jg s alt z).2:=eF hA _ _ z
theorem eG:∀(f:Nat) (l:List (List Nd)) (z:PS),Stp s z (aX s alt f l z).2
 |0,_,z=>Stp.refl s z
 |f+1,l,z=>by
  unfold aX;split
  ·exact((j3 s 124 z).trans (d4 hA _)).trans (eG f _ _)
  ·exact Stp.refl s z
end
theorem aY(s:qM):∀(f:Nat) (z:PS),Stp s z (jN s f z).2
 |0,z=>Stp.refl s z
 |f+1,z=>(d4 (fun z _=>aY s f z) z).trans (eG (fun z _=>aY s f z) _ _ _)
def jO(l:List (List Nd)):Nat:=l.flatten.length
theorem fH(l:List (List Nd))(x:List Nd):jO (l++[x])=jO l+x.length:=by simp[jO]
theorem bI(x:Nd)(l:List (List Nd)):(j1 x l).length=jO l+1:=by simp[j1,jO]
theorem l9(kd:Int):∀l:List (List Nd),(f9 kd l).length<=jO l+1
 |[]=>by simp[f9,j1,jO]
 |[l]=>by simp[f9,jO]
 |a::b::l=>by simp[f9,j1,jO]
theorem iB(kd:Int)(l:List Nd):(f9 kd [l]).length=l.length:=rfl
structure Sml(s:qM)(z:PS)(r:List Nd×PS):Prop where
 lt:r.1.length+2*z.p+1<=2*r.2.p\/(r.1.length=0/\r.2.e≠0)
section
variable {s : qM} {alt : PS → List Nd × PS} (hA : ∀ z, z.p ≤ s.length → Stp s z (alt z).2) (hL : ∀ z, z.p ≤ s.length → (alt z).1.length + 2 * z.p ≤ 2 * (alt z).2.p + 1)
include hA hL
omit hA in
theorem lA{z:PS}{c:UInt8}(h:nxR s z=some c):Sml s z (eD s alt z):=by
 have hz:=(qS h).2.1;have h1:=jk h;have hz1:=h1.len (Nat.le_of_lt hz);have e1:(qH z).p=z.p+1:=rfl;refine⟨?_⟩;unfold eD;simp only;split
 ·left;have:=(d3 h).2;show 1+2*z.p+1<=2*(cF s z).2.p;omega
 ·split
  ·left
   have hl:=hL _ hz1;have ht:=(j3 s 41 (alt (qH z)).2).le;split
   ·show(alt (qH z)).1.length+2*z.p+1<=2*(qz s 41 (alt (qH z)).2).2.p;omega
   ·simp only[aS];omega
  ·split
   ·left
    have h2:=l7 (s:=s) (frm:=z.p) (Nat.le_of_lt hz) hz1;have:=h2.le
    show 1+2*z.p+1<=2*(iZ s z.p (qH z)).2.p;omega
   ·split
    ·left;show 1+2*z.p+1<=2*(z.p+1);omega
    ·split
     ·right;exact⟨rfl,ju z (by decide)⟩
     ·left;show 1+2*z.p+1<=2*(z.p+1);omega
omit hA hL in
theorem iC:∀(f:Nat) (l:List Nd) (z0 z:PS),(l.length+2*z0.p+1<=2*z.p\/(l.length=0/\z.e≠0))->Sml s z0 (fF s f l z)
 |0,_,_,_,h=>⟨h⟩
 |f+1,l,z0,z,h=>by
  have step:∀(x:Nd) (z1:PS) (c:UInt8),nxR s z=some c->z.p<z1.p->Sml s z0 (fF s f (j1 x [l]) z1):=fun x z1 c hc hlt=>by
   refine iC f _ z0 z1 (.inl ?_);rw[bI];have:jO [l]=l.length:=by simp[jO]
   rcases h with h|h
   ·omega
   ·exact absurd (qS hc).1 h.2
  unfold fF;simp only;split
  ·rename_i g;exact step _ _ _ (aR g (by decide)) (Nat.lt_succ_self _)
  ·split
   ·rename_i g;exact step _ _ _ (aR g (by decide)) (Nat.lt_succ_self _)
   ·split
    ·rename_i g;exact step _ _ _ (aR g (by decide)) (Nat.lt_succ_self _)
    ·split
     ·rename_i g;exact step _ _ _ (aR g (by decide)) (oO (aR g (by decide)))
     ·exact⟨h⟩
omit hA in
theorem pK{z:PS}{c:UInt8}(h:nxR s z=some c):Sml s z (fG s alt z):=iC _ _ _ _ (lA hL h).lt
theorem eH:∀(f:Nat) (l:List (List Nd)) (z0 z:PS),(jO l+l.length+2*z0.p<=2*z.p\/(jO l+l.length+2*z0.p<=2*z.p+1/\z.e≠0))->
  jO (gI s alt f l z).1+(gI s alt f l z).1.length+2*z0.p<=2*(gI s alt f l z).2.p+1
 |0,_,_,_,h=>by
  rcases h with h|h
  ·exact Nat.le_succ_of_le h
  ·exact h.1
 |f+1,l,z0,z,h=>by
  unfold gI;split
  ·rename_i g
   obtain⟨c,hc,-⟩:=gS g;have hr:=(pK hL hc).lt;have hs:=(gR hA hc).1.le;refine eH f _ z0 _ ?_;rw[fH,qg,List.length_singleton]
   rcases h with h|h
   ·rcases hr with hr|hr
    ·left;omega
    ·right;exact⟨by omega,hr.2⟩
   ·exact absurd (qS hc).1 h.2
  ·rcases h with h|h
   ·exact Nat.le_succ_of_le h
   ·exact h.1
theorem gT(z:PS):(jg s alt z).1.length+2*z.p<=2*(jg s alt z).2.p+1:=by
 have h:=eH hA hL (s.length+1) [] z z (.inl (by simp[jO]))
 have hle:=(d4 hA z).le;have e:(jg s alt z).2=(gI s alt (s.length+1) [] z).2:=rfl;have e1:(jg s alt z).1=f9 3 (gI s alt (s.length+1) [] z).1:=rfl;rw[e]at hle;rw[e1,e];generalize gI s alt (s.length+1) [] z=r at*;obtain⟨l,z'⟩:=r
 dsimp only at*
 match l,h with
 |[],_=>simp only[f9,j1,List.length_cons,List.flatten_nil,List.length_nil];omega
 |[x],h=>rw[iB];simp only[jO,List.flatten_cons,List.flatten_nil,List.append_nil,List.length_cons,List.length_nil]at h;omega
 |a::b::l,h=>
  have:=l9 3 (a::b::l);simp only[List.length_cons]at h;omega
theorem eI:∀(f:Nat) (l:List (List Nd)) (z0 z:PS),jO l+l.length+2*z0.p<=2*z.p+2->
  jO (aX s alt f l z).1+(aX s alt f l z).1.length+2*z0.p<=2*(aX s alt f l z).2.p+2
 |0,_,_,_,h=>h
 |f+1,l,z0,z,h=>by
  unfold aX;split
  ·rename_i g
   obtain⟨hc,ha⟩:=bG g;refine eI f _ z0 _ ?_;rw[fH,qg,List.length_singleton,ha];have:=gT hA hL (qH z);have e:(qH z).p=z.p+1:=rfl;omega
  ·exact h
end
theorem eJ(s:qM):∀(f:Nat) (z:PS),(jN s f z).1.length+2*z.p<=2*(jN s f z).2.p+1
 |0,z=>by show 0+2*z.p<=2*z.p+1;omega
 |f+1,z=>by
  have hA:=fun z (_:z.p<=s.length)=>aY s f z
  have hL:=fun z (_:z.p<=s.length)=>eJ s f z
  have hc:=gT hA hL z;have h:=eI hA hL (s.length+1) [(jg s (jN s f) z).1] z (jg s (jN s f) z).2 (by simp only[jO,List.flatten_cons,List.flatten_nil,List.append_nil,List.length_singleton];omega)
  have hn:(aX s (jN s f) (s.length+1) [(jg s (jN s f) z).1] (jg s (jN s f) z).2).1≠[]:=by
   have:∀(g:Nat) (l:List (List Nd)) (z:PS),l≠[]->(aX s (jN s f) g l z).1≠[]:=by
    intro g
    induction g with
    |zero=>intro l z h;exact h
    |succ g ih=>
     intro l z h;unfold aX;split
     ·exact ih _ _ (by simp)
     ·exact h
   exact this _ _ _ (by simp)
  show(f9 4 (aX s (jN s f) (s.length+1) [(jg s (jN s f) z).1] (jg s (jN s f) z).2).1).length+2*z.p<=2*(aX s (jN s f) (s.length+1) [(jg s (jN s f) z).1] (jg s (jN s f) z).2).2.p+1
  generalize aX s (jN s f) (s.length+1) [(jg s (jN s f) z).1] (jg s (jN s f) z).2=r at*;obtain⟨l,z'⟩:=r
  dsimp only at*
  match l,h,hn with
  |[x],h,_=>rw[iB];simp only[jO,List.flatten_cons,List.flatten_nil,List.append_nil,List.length_cons,List.length_nil]at h;omega
  |a::b::l,h,_=>
   have:=l9 4 (a::b::l);simp only[List.length_cons]at h;omega
end Go.Cm
namespace Go.Cm
open Go.RowKit Go.Proofs
def gU(w:World)(v:Value)(ll:List (List Value)):Prop:=∃vs,Sl w v vs/\vs.length=ll.length/\∀i,i<ll.length->Sl w (vs.getD i undef) (ll.getD i [])
theorem gU.up{w w':World}{v:Value}{ll:List (List Value)}(h:gU w v ll)(hb:Below w.heap.size w w'):gU w' v ll:=by
 obtain⟨vs,h1,h2,h3⟩:=h
 exact⟨vs,h1.up hb,h2,fun i hi=>(h3 i hi).up hb⟩
theorem gU.open{w:World}{v:Value}{ll:List (List Value)}(h:gU w v ll):
  ∃oa cap b off,v=.slice oa ll.length cap/\Hd w oa ll.length cap b off/\∀i,i<ll.length->
   ∃oi ci bi fi,w.cell? ⟨b,off+i,none⟩=some (.slice oi (ll.getD i []).length ci)/\Hd w oi (ll.getD i []).length ci bi fi/\
    (∀j,j<(ll.getD i []).length->w.cell? ⟨bi,fi+j,none⟩=some ((ll.getD i []).getD j undef))/\Sl w (.slice oi (ll.getD i []).length ci) (ll.getD i []):=by
 obtain⟨vs,⟨oa,cap,b,off,rfl,hd,hc⟩,h2,h3⟩:=h;rw[h2]at hd hc⊢;refine⟨oa,cap,b,off,rfl,hd,fun i hi=>?_⟩
 have h4:=h3 i hi;obtain⟨oi,ci,bi,fi,he,hdi,hci⟩:=h4;refine⟨oi,ci,bi,fi,?_,hdi,hci,?_⟩
 ·rw[hc i hi,he]
 ·rw[<-he];exact h3 i hi
theorem eK(ll:List (List Int))(i:Nat):(ll.map ints).getD i []=ints (ll.getD i []):=by
 simp only[List.getD_eq_getElem?_getD,List.getElem?_map]
 cases ll[i]? <;>simp[ints]
theorem gU.ints{w:World}{v:Value}{ll:List (List Int)}(h:gU w v (ll.map ints)):dS w v ll:=by
 obtain⟨vs,h1,h2,h3⟩:=h;refine⟨vs,h1,by simpa using h2,fun i hi=>?_⟩
 have:=h3 i (by simpa using hi)
 rwa [eK]at this
structure k9(w:World)(B E E':Nat)(v:Value)(vs:List Value)(ll:List (List Value)):Prop where
 outer:Own w B E v vs
 len:vs.length=ll.length
 rows:∀i,i<ll.length->Own w B E' (vs.getD i undef) (ll.getD i [])
 apart:∀i j,i<ll.length->j<ll.length->i≠j->∀k,(vs.getD i undef).ownBlock=some k->(vs.getD j undef).ownBlock≠some k
 off:∀i,i<ll.length->∀k,(vs.getD i undef).ownBlock=some k->v.ownBlock≠some k
variable {w w' : World} {B E E' : Nat} {v : Value} {vs : List Value} {ll : List (List Value)}
theorem k9.nil(w:World)(B E E':Nat):k9 w B E E' (.slice none 0 0) [] []:=⟨Own.nil w B E,rfl,fun i hi=>absurd hi (Nat.not_lt_zero i),fun i _ hi=>absurd hi (Nat.not_lt_zero i),fun i hi=>absurd hi (Nat.not_lt_zero i)⟩
theorem bJ{u:Value}{row:Option Nat}(h:∀k,u.ownBlock=some k->row≠some k):u.ownBlock=none\/u.ownBlock≠row:=by
 cases hu:u.ownBlock with
 |none=>exact .inl rfl
 |some k=>exact .inr (fun e=>h k hu e.symm)
theorem k9.keep(h:k9 w B E E' v vs ll){row:Option Nat}(hg:w.grownBy w' row)(hv:∀k,v.ownBlock=some k->row≠some k)(hr:∀i,i<ll.length->∀k,(vs.getD i undef).ownBlock=some k->row≠some k):k9 w' B E E' v vs ll:=
 ⟨h.outer.keep hg (bJ hv),h.len,fun i hi=>(h.rows i hi).keep hg (bJ (hr i hi)),h.apart,h.off⟩
theorem k9.up(h:k9 w B E E' v vs ll)(hb:Below w.heap.size w w'):k9 w' B E E' v vs ll:=
 h.keep (row:=none) (qs hb none) (fun _ _ e=>by cases e) (fun _ _ _ _ e=>by cases e)
def k9.free(v:Value)(vs:List Value)(row:Option Nat):Prop:=(∀k,v.ownBlock=some k->row≠some k)/\∀i,i<vs.length->∀k,(vs.getD i undef).ownBlock=some k->row≠some k
theorem jI{α:Type}{l m:List α}{i:Nat}{d:α}(h:i<l.length):(l++m).getD i d=l.getD i d:=by simp[List.getD,List.getElem?_append_left h]
theorem aB{α:Type}{l:List α}{x d:α}:(l++[x]).getD l.length d=x:=by simp[List.getD]
theorem k9.push(h:k9 w B E E' v vs ll){r:Value}{xs:List Value}(hr:Own w B E' r xs)(hf:k9.free v vs r.ownBlock){v':Value}{w0:World}(hw0:w.grownBy w0 none)(ho:Own w' B E v' (vs++[r]))(hg:w0.grownBy w' v.ownBlock)(hk:∀k,v'.ownBlock=some k->v.ownBlock=some k\/w0.heap.size<=k):
  k9 w' B E E' v' (vs++[r]) (ll++[xs]):=by
 have hg':w.grownBy w' v.ownBlock:=qr ⟨hw0.os,hw0.tape,hw0.output,hw0.size,fun k hk _=>hw0.block k hk (by simp)⟩ hg
 have hvr:∀k,r.ownBlock=some k->v.ownBlock≠some k:=fun k hk e=>hf.1 k e hk
 have hrow:∀i,i<ll.length->Own w' B E' (vs.getD i undef) (ll.getD i []):=fun i hi=>(h.rows i hi).keep hg' (bJ (h.off i hi))
 have hl:=h.len
 have idx:∀i,i<(ll++[xs]).length->(i<ll.length/\(vs++[r]).getD i undef=vs.getD i undef/\(ll++[xs]).getD i []=ll.getD i [])\/(i=ll.length/\(vs++[r]).getD i undef=r/\(ll++[xs]).getD i []=xs):=by
  intro i hi;rw[qg,List.length_singleton]at hi
  rcases Nat.lt_succ_iff_lt_or_eq.1 hi with h1|rfl
  ·exact .inl ⟨h1,jI (by omega),jI h1⟩
  ·exact .inr ⟨rfl,by rw[<-hl];exact aB,aB⟩
 refine⟨ho,by simp[hl],fun i hi=>?_,fun i j hi hj hne k hik=>?_,fun i hi k hik=>?_⟩
 ·rcases idx i hi with⟨h1,e1,e2⟩|⟨h1,e1,e2⟩
  ·rw[e1,e2];exact hrow i h1
  ·rw[e1,e2];exact hr.keep hg' (bJ hvr)
 ·rcases idx i hi with⟨h1,e1,e2⟩|⟨h1,e1,e2⟩<;>rcases idx j hj with⟨h3,e3,e4⟩|⟨h3,e3,e4⟩<;>rw[e1]at hik<;>rw[e3]
  ·exact h.apart i j h1 h3 hne k hik
  ·exact hf.2 i (by omega) k hik
  ·intro e;exact hf.2 j (by omega) k e hik
  ·omega
 ·have hsz:w.heap.size<=w0.heap.size:=hw0.size
  rcases idx i hi with⟨h1,e1,e2⟩|⟨h1,e1,e2⟩<;>rw[e1]at hik<;>intro e
  ·rcases hk k e with h2|h2
   ·exact h.off i h1 k hik h2
   ·have:=(h.rows i h1).lt k hik;omega
  ·rcases hk k e with h2|h2
   ·exact hvr k hik h2
   ·have:=hr.lt k hik;omega
theorem Own.storeList{B:Nat}{E:TypeId}{g n cap:Nat}(ys:List Value):∀{w:World} {xs:List Value} (o:Nat),Own w B E (.slice (some ⟨g,0,none⟩) n cap) xs->o+ys.length<=xs.length->
  Own (w.setCells g o ys) B E (.slice (some ⟨g,0,none⟩) n cap) (xs.take o++ys++xs.drop (o+ys.length))/\w.grownBy (w.setCells g o ys) (some g):=by
 induction ys with
 |nil=>intro w xs o h hl;simp only[World.setCells];exact⟨by simpa using h,jo w _⟩
 |cons y ys ih=>
  intro w xs o h hl;rw[List.length_cons]at hl;obtain⟨h1,h2⟩:=h.store o y;obtain⟨h3,h4⟩:=ih (o+1) h1 (by rw[List.length_set];omega)
  refine⟨?_,qr h2 h4⟩
  have e:(xs.set o y).take (o+1)++ys++(xs.set o y).drop (o+1+ys.length)=xs.take o++y::ys++xs.drop (o+(y::ys).length):=by
   rw[List.take_set,List.take_succ_eq_append_getElem (by omega),List.set_append_right _ _ (by simp[Nat.min_le_left]),List.drop_set_of_lt (by omega)]
   simp[Nat.min_eq_left (show o<=xs.length by omega),show o+1+ys.length=o+(ys.length+1) by omega]
  rw[<-e]
  exact h3
theorem j5{P:Program}{ops:Array Oper}{rest:List Oper}{o:Oper}{a:Act}{w:World}{Q:Exit->Act->World->Prop}(hgd:o.guard=none)(ty:TypeId)(x y:Operand)(ho:o.op=.store ty x y)
  (B E g n cap:Nat) (hx:a.eval x=.pointer (some ⟨g,0,none⟩)) (C:Array Value) (hy:a.eval y=.agg C) (hi:(P.info? ty).map (·.size)=some C.size) (xs:List Value) (hown:Own w B E (.slice (some ⟨g,0,none⟩) n cap) xs) (hle:C.size<=xs.length) (h1:∀u∈C.toList,u.oneCell'=true)
  (h:∀w',Own w' B E (.slice (some ⟨g,0,none⟩) n cap) (C.toList++xs.drop C.size)->w.grownBy w' (some g)->wpList P ops Q rest (a.put o.dst undef) w'):wpList P ops Q (o::rest) a w:=by
 have hst:=run_storeCells_cells (P:=P) g 0 C.toList 0 w (fun j hj=>by
   rw[Array.length_toList]at hj;rw[Nat.zero_add,hown.cell (by omega)];rfl) (fun j _=>by rw[Nat.zero_add];exact hown.free j) h1
 have hl:=hown.storeList C.toList 0 (by simpa using hle)
 rw[List.take_zero,List.nil_append,Nat.zero_add,Array.length_toList]at hl;refine wpList_plain hgd fun K hK=>?_
 have hsz:(sizeOf ty).run P w=.ok C.size w:=by
  cases hq:P.info? ty with
  |none=>simp[hq]at hi
  |some i=>simp[hq]at hi;simp[sizeOf,typeInfo,hq,hi]
 unfold Oper.wp execOp;simp only[ho,hx,hy,Instr.storeAt,Instr.sureAddr,storeVar,Value.cells,Sem.run_bind,Sem.run_pure,Result.andThen_ok,hsz,ne_eq,not_true_eq_false,if_false,hst]
 exact hK _ _ (h _ hl.1 hl.2)
structure eL(w:World)(T n g:Nat)(cl:List Int):Prop where
 own:Own w g T (.slice (some ⟨g,0,none⟩) n n) (ints cl)
 len:cl.length=n
section
variable {w w' : World} {T n g : Nat} {cl : List Int}
theorem eL.keep{row:Option Nat}(h:eL w T n g cl)(hg:w.grownBy w' row)(hne:row≠some g):eL w' T n g cl:=⟨h.own.keep hg (.inr (fun e=>hne e.symm)),h.len⟩
theorem eL.up(h:eL w T n g cl)(hb:Below w.heap.size w w'):eL w' T n g cl:=⟨h.own.up hb,h.len⟩
theorem eL.lt(h:eL w T n g cl):g<w.heap.size:=(h.own.lt g rfl).2
theorem eL.cell(h:eL w T n g cl){c:Nat}(hc:c<n):w.cell? ⟨g,c,none⟩=some (.int .i64 (cl.getD c 0)):=by
 rw[h.own.cell (by rw[aV,h.len];exact hc),fB _ _ (by rw[h.len];exact hc)]
theorem eL.free(h:eL w T n g cl)(c:Nat):w.frozen? ⟨g,c,none⟩=false:=h.own.free c
theorem eL.set(h:eL w T n g cl)(c:Nat)(k:Int):eL (w.setCell ⟨g,c,none⟩ (.int .i64 k)) T n g (cl.set c k)/\w.grownBy (w.setCell ⟨g,c,none⟩ (.int .i64 k)) (some g):=by
 obtain⟨h1,h2⟩:=h.own.store c (.int .i64 k);have e:(ints cl).set c (.int .i64 k)=ints (cl.set c k):=by simp[ints,List.map_set]
 rw[e]at h1
 exact⟨⟨h1,by simp[h.len]⟩,h2⟩
theorem eL.open(h:eL w T n g cl):∃A,w.heap[g]? =some (.cells A T (0,0))/\A.size=n/\A.toList=ints cl:=by
 rcases h.own.1.2 with⟨h1,_⟩|⟨g',cap,cur,h1,_,hg,hnc,hcm,hcs,vC⟩
 ·cases h1
 ·simp only[Value.slice.injEq,Option.some.injEq,Addr.mk.injEq,and_true]at h1
  obtain⟨rfl,h2,rfl⟩:=h1;have hl:(ints cl).length=n:=by rw[aV,h.len]
  have hs:cur.size=n:=by omega
  refine⟨cur,hg,hs,?_⟩;rw[<-vC,List.take_of_length_le];rw[Array.length_toList];omega
end
theorem eM{P:Program}{ops:Array Oper}{rest:List Oper}{o:Oper}{a:Act}{w:World}{Q:Exit->Act->World->Prop}(hgd:o.guard=none)(T n:Nat)(x:Operand)(ho:o.op=.load T x)
  (g:Nat) (hx:a.eval x=.pointer (some ⟨g,0,none⟩)) (A:Array Value) (hs:A.size=n) (hg:w.heap[g]? =some (.cells A T (0,0))) (d:TypeDesc) (hu:P.underlying T=some d) (hd:(match d with|.struct _|.array _ _=>true|_=>false)=true) (hi:(P.info? T).map (·.size)=some n)
  (h:wpList P ops Q rest (a.put o.dst (.agg A)) w):wpList P ops Q (o::rest) a w:=
 cV hgd T x ho g 0 n hx T A A (0,0) d hg hu hd hi (by rw[hs];omega) (by rw[<-hs];simp) h
theorem aT{P:Program}{C:World->Prop}{o:Oper}{a:Act}{K:Act->Prop}(T n:Nat)(x:Operand)(ho:o.op=.load T x)(g:Nat)(hx:a.eval x=.pointer (some ⟨g,0,none⟩))(A:Array Value)(hs:A.size=n)
  (hg:∀w',C w'->w'.heap[g]? =some (.cells A T (0,0))) (d:TypeDesc) (hu:P.underlying T=some d) (hd:(match d with|.struct _|.array _ _=>true|_=>false)=true) (hi:(P.info? T).map (·.size)=some n) (h:K (a.put o.dst (.agg A))):o.quiet P a C K:=by
 refine⟨.agg A,fun w' hw'=>?_,h⟩
 have hl:=jh (P:=P) w' g 0 n T T A (0,0) d (hg w' hw') hu hd hi (by rw[hs];omega)
 unfold Oper.quietAt execOp;simp only[ho,hx,Instr.loadAt,Instr.sureAddr,Sem.run_bind,Sem.run_pure,Result.andThen_ok,hl,Oper.quietUpon]
 exact⟨trivial,by rw[<-hs];simp⟩
theorem cG{P:Program}{fn:Func}{tmps:Array Value}{w:World}{a t b:Nat}{ad:Addr}{v:Value}(hf:fn.results=#[.cell a t,.tmp b])(ha:tmps.getD a undef=.pointer (some ad))(hl:(loadVar t ad).run P w=.ok v w):
  (results fn tmps).run P w=.ok (.tuple #[v,tmps.getD b undef]) w:=by
 have ha':tmps[a]?.getD undef=.pointer (some ad):=by simpa using ha
 simp[results,hf,asAddr,ha',hl]
theorem cH{P:Program}{fn:Func}{tmps:Array Value}{w:World}{a t b:Nat}{ad:Addr}{v:Value}(hf:fn.results=#[.tmp b,.cell a t])(ha:tmps.getD a undef=.pointer (some ad))(hl:(loadVar t ad).run P w=.ok v w):
  (results fn tmps).run P w=.ok (.tuple #[tmps.getD b undef,v]) w:=by
 have ha':tmps[a]?.getD undef=.pointer (some ad):=by simpa using ha
 simp[results,hf,asAddr,ha',hl]
theorem qI{P:Program}{fn:Func}{tmps:Array Value}{w:World}{ds:List Deferred}{s b t:Nat}{ad:Addr}{x y:Value}{R:Ending->World->Prop}(hf:fn.results=#[.cell s t,.tmp b])(ha:tmps.getD s undef=.pointer (some ad))(hb:tmps.getD b undef=y)(hd:ds=[])
  (hl:(loadVar t ad).run P w=.ok x w) (h:R (.returned (.tuple #[x,y])) w):bodyPost P fn R .ret ⟨tmps,ds⟩ w:=
 bodyPost_ret (v:=.tuple #[x,y]) (by rw[cG hf ha hl,hb]) hd h
theorem fI{P:Program}{fn:Func}{tmps:Array Value}{w:World}{ds:List Deferred}{s b t:Nat}{ad:Addr}{x y:Value}{R:Ending->World->Prop}(hf:fn.results=#[.tmp b,.cell s t])(ha:tmps.getD s undef=.pointer (some ad))(hb:tmps.getD b undef=y)(hd:ds=[])
  (hl:(loadVar t ad).run P w=.ok x w) (h:R (.returned (.tuple #[y,x])) w):bodyPost P fn R .ret ⟨tmps,ds⟩ w:=
 bodyPost_ret (v:=.tuple #[y,x]) (by rw[cH hf ha hl,hb]) hd h
theorem eL.load{P:Program}{w:World}{T n g:Nat}{cl:List Int}(h:eL w T n g cl)(d:TypeDesc)(hu:P.underlying T=some d)(hd:(match d with|.struct _|.array _ _=>true|_=>false)=true)(hi:(P.info? T).map (·.size)=some n):
  (loadVar T ⟨g,0,none⟩).run P w=.ok (.agg (ints cl).toArray) w:=by
 obtain⟨A,hg,hs,hA⟩:=h.open;have hl:=jh (P:=P) w g 0 n T T A (0,0) d hg hu hd hi (by omega)
 have e:A.extract 0 (0+n)=(ints cl).toArray:=by rw[Nat.zero_add,<-hs,Array.extract_size,<-hA]
 rw[e]at hl
 exact hl
def SlK(k:Nat)(w:World)(v:Value)(l:List (List Value)):Prop:=
 ∃oa cap b off,v=.slice oa l.length cap/\Hd w oa l.length cap b off/\∀i,i<l.length->∀c,c<k->w.cell? ⟨b,off+i*k+c,none⟩=some ((l.getD i []).getD c undef)
theorem SlK.up{k:Nat}{w w':World}{v:Value}{l:List (List Value)}(h:SlK k w v l)(hb:Below w.heap.size w w'):SlK k w' v l:=by
 obtain⟨oa,cap,b,off,rfl,hd,hc⟩:=h;refine⟨oa,cap,b,off,rfl,⟨hd.hat,hd.hcap,hd.hmax,hd.hsml,fun h=>qd (hd.hblk h) hb.size⟩,fun i hi c hcl=>?_⟩
 rw[hb.cell (p:=⟨b,off+i*k+c,none⟩) (hd.hblk (by omega))]
 exact hc i hi c hcl
theorem SlK.nil(k:Nat)(w:World):SlK k w (.slice none 0 0) []:=⟨none,0,0,0,rfl,⟨fun h=>absurd h (Nat.lt_irrefl 0),qa _,by simp[maxLen],by simp,fun h=>absurd h (Nat.lt_irrefl 0)⟩,fun i hi=>absurd hi (Nat.not_lt_zero i)⟩
theorem cM{P:Program}{E:TypeId}{k:Nat}(hE:(P.info? E).map (·.size)=some k)(W:World):(sizeOf E).run P W=.ok k W:=by
 cases hq:P.info? E with
 |none=>simp[hq]at hE
 |some inf=>
  have hs:inf.size=k:=by simpa[hq]using hE
  simp[sizeOf,typeInfo,hq,hs]
theorem je{P:Program}{w:World}{oa:Option Addr}{b off len cap:Nat}(k:Nat)(T E:TypeId)(hT:P.underlying T=some (.slice E))(hE:(P.info? E).map (·.size)=some k)(h:Hd w oa len cap b off):
  ∀(W:World) (kd:IntKind) (i:Int),0<=i->i<len->(Instr.indexAt T (.slice oa len cap) (.int kd i)).run P W=.ok (.pointer (some ⟨b,off+i.toNat*k,none⟩)) W:=by
 intro W kd i h0 h1;rw[h.hat (by omega)]
 have he:P.elem T=E:=by simp[Program.elem,hT]
 rw[run_indexAt_slice W T ⟨b,off,none⟩ len cap kd i (by rw[he];exact hT),if_pos ⟨h0,h1⟩,he,cM hE]
 simp[Result.andThen,Addr.add]
theorem iD{P:Program}{k:Nat}(t E:TypeId)(ht:P.underlying t=some (.slice E))(hE:(P.info? E).map (·.size)=some k):P.underlying t=some (.slice (P.elem t))/\∀W:World,(sizeOf (P.elem t)).run P W=.ok k W:=by
 have he:P.elem t=E:=by simp[Program.elem,ht]
 refine⟨by rw[he];exact ht,fun W=>?_⟩
 rw[he];exact cM hE W
theorem SlK.high{P:Program}{k:Nat}{w:World}{v:Value}{l:List (List Value)}(h:SlK k w v l)(t E:TypeId)(ht:P.underlying t=some (.slice E))(hE:(P.info? E).map (·.size)=some k)(n:Nat)(hn:n<=l.length):
  ∃u,(∀W:World,(Instr.sliceAt t v (some (.int .i64 (n:Int))) none none).run P W=.ok u W)/\SlK k w u (l.drop n):=by
 obtain⟨oa,cap,b,off,rfl,hd,hc⟩:=h;obtain⟨h1,h2⟩:=iD t E ht hE;have hcap:=hd.hcap;have hl:(l.drop n).length=l.length-n:=by rw[List.length_drop]
 refine⟨sliced oa n l.length cap k,fun W=>?_,?_⟩
 ·rw[run_sliceAt_slice (P:=P) (t:=t) (h:=h1),run_slice_l (t:=t) (ht:=h1) (h0:=by omega) (h1:=by omega),h2]
  simp[Result.andThen]
 ·refine⟨if cap=n then oa else oa.map (·.add (n*k)),cap-n,b,off+n*k,by rw[hl];simp[sliced],⟨fun h0=>?_,by omega,by have:=hd.hmax;omega,by have:=hd.hsml;omega,fun h0=>hd.hblk (by omega)⟩,fun i hi c hcl=>?_⟩
  ·rw[hl]at h0
   rw[if_neg (by omega),hd.hat (by omega)]
   simp[aA]
  ·rw[hl]at hi
   have:=hc (n+i) (by omega) c hcl
   rw[Nat.add_mul,<-Nat.add_assoc]at this;rw[this]
   simp[List.getD]
theorem jJ{P:Program}(w:World)(g off n:Nat)(ty:TypeId)(C:Array Value)(d:TypeDesc)(hc:∀c,c<n->w.cell? ⟨g,off+c,none⟩=some (C.getD c undef))(hs:C.size=n)
  (hu:P.underlying ty=some d) (hd:(match d with|.struct _|.array _ _=>true|_=>false)=true) (hi:(P.info? ty).map (·.size)=some n):
  (loadVar ty ⟨g,off,none⟩).run P w=.ok (.agg C) w:=by
 have hl:(loadCells ⟨g,off,none⟩ C.toList.length).run P w=.ok C.toList.toArray w:=
  run_loadCells_list (P:=P) w ⟨g,off,none⟩ C.toList (fun j v hv=>by
   rw[aA]
   have hj:j<n:=by
    have:=(List.getElem?_eq_some_iff.1 hv).1;rw[Array.length_toList]at this;omega
   rw[hc j hj];simp only[Array.getElem?_toList]at hv
   simp[Array.getD_eq_getD_getElem?,hv])
 rw[Array.length_toList,hs]at hl;simp only[Array.toArray_toList]at hl
 have hagg:(isAgg ty).run P w=.ok true w:=by
  unfold isAgg;rw[Sem.run_bind,run_underlying hu w]
  cases d<;>simp_all
 simp[loadVar,Sem.run_bind,hagg,cM hi,hl]
theorem qY{P:Program}{ops:Array Oper}{rest:List Oper}{o:Oper}{a:Act}{w:World}{Q:Exit->Act->World->Prop}(hgd:o.guard=none)(ty:TypeId)(x:Operand)(ho:o.op=.load ty x)
  (g off n:Nat) (hx:a.eval x=.pointer (some ⟨g,off,none⟩)) (C:Array Value) (d:TypeDesc) (hc:∀c,c<n->w.cell? ⟨g,off+c,none⟩=some (C.getD c undef)) (hs:C.size=n)
  (hu:P.underlying ty=some d) (hd:(match d with|.struct _|.array _ _=>true|_=>false)=true) (hi:(P.info? ty).map (·.size)=some n)
  (h:wpList P ops Q rest (a.put o.dst (.agg C)) w):wpList P ops Q (o::rest) a w:=by
 refine wpList_plain hgd fun K hK=>?_
 unfold Oper.wp execOp;simp only[ho,hx,Instr.loadAt,Instr.sureAddr,Sem.run_bind,Sem.run_pure,Result.andThen_ok,jJ w g off n ty C d hc hs hu hd hi]
 exact hK _ _ h
theorem jY{P:Program}{C:World->Prop}{o:Oper}{a:Act}{K:Act->Prop}(T n:Nat)(x:Operand)(ho:o.op=.load T x)(g off:Nat)(hx:a.eval x=.pointer (some ⟨g,off,none⟩))(A:Array Value)(hs:A.size=n)
  (hg:∀w',C w'->∀c,c<n->w'.cell? ⟨g,off+c,none⟩=some (A.getD c undef)) (d:TypeDesc) (hu:P.underlying T=some d) (hd:(match d with|.struct _|.array _ _=>true|_=>false)=true) (hi:(P.info? T).map (·.size)=some n) (h:K (a.put o.dst (.agg A))):o.quiet P a C K:=by
 refine⟨.agg A,fun w' hw'=>?_,h⟩
 have hl:=jJ (P:=P) w' g off n T A d (hg w' hw') hs hu hd hi;unfold Oper.quietAt execOp;simp only[ho,hx,Instr.loadAt,Instr.sureAddr,Sem.run_bind,Sem.run_pure,Result.andThen_ok,hl,Oper.quietUpon]
 exact⟨trivial,trivial⟩
def qJ(k:Nat)(w:World)(B:Nat)(E:TypeId)(v:Value)(l:List (List Value)):Prop:=
 w.ownsRow B E k v l.length l.flatten/\l.length<=140737488351232/\∀x∈l,x.length=k
theorem qJ.nil(k:Nat)(w:World)(B:Nat)(E:TypeId):qJ k w B E (.slice none 0 0) []:=⟨World.ownsRow_nil w B E k,by simp,by simp⟩
theorem aZ{k:Nat}{l:List (List Value)}(h:∀x∈l,x.length=k):l.flatten.length=l.length*k:=by
 induction l with
 |nil=>simp
 |cons x l ih=>
  rw[List.flatten_cons,qg,ih (fun y hy=>h y (List.mem_cons_of_mem _ hy)),h x List.mem_cons_self,List.length_cons,Nat.succ_mul,Nat.add_comm]
theorem bW{k:Nat}{l:List (List Value)}(h:∀x∈l,x.length=k):∀(i c:Nat),i<l.length->c<k->l.flatten[i*k+c]? =(l.getD i [])[c]? :=by
 induction l with
 |nil=>intro i c hi;simp at hi
 |cons x l ih=>
  intro i c hi hc;have hx:=h x List.mem_cons_self;rw[List.flatten_cons]
  cases i with
  |zero=>rw[Nat.zero_mul,Nat.zero_add,List.getElem?_append_left (by omega)];simp
  |succ i=>
   rw[List.getElem?_append_right (by rw[hx,Nat.succ_mul];omega),hx,show(i+1)*k+c-k=i*k+c by rw[Nat.succ_mul];omega,ih (fun y hy=>h y (List.mem_cons_of_mem _ hy)) i c (by simpa using hi) hc]
   simp
theorem qJ.sl{k:Nat}{w:World}{B:Nat}{E:TypeId}{v:Value}{l:List (List Value)}(h:qJ k w B E v l):SlK k w v l:=by
 obtain⟨⟨_,h⟩,hl,hk⟩:=h
 rcases h with⟨rfl,h0⟩|⟨g,cap,cur,rfl,hb,hg,hnc,hcm,hcs,vC⟩
 ·obtain rfl:l=[]:=List.length_eq_zero_iff.1 h0
  exact SlK.nil k w
 ·refine⟨some ⟨g,0,none⟩,cap,g,0,rfl,⟨fun _=>rfl,hnc,hcm,hl,fun _=>(Array.getElem?_eq_some_iff.1 hg).1⟩,fun i hi c hc=>?_⟩
  rw[cell_of_row w g (0+i*k+c) cur E (0,0) hg,Nat.zero_add]
  have hlt:i*k+c<l.length*k:=by
   have h1:(i+1)*k<=l.length*k:=Nat.mul_le_mul_right k hi;rw[Nat.succ_mul]at h1;omega
  have h1:l.flatten[i*k+c]? =cur[i*k+c]? :=by
   rw[<-vC,List.getElem?_take,if_pos hlt];simp
  rw[<-h1,bW hk i c hi hc];have hxl:c<(l.getD i []).length:=by rw[hk _ (by simp[List.getD,hi])];exact hc
  generalize l.getD i []=y at*
  simp[List.getD,hxl]
theorem qJ.keep{k:Nat}{w w':World}{B:Nat}{E:TypeId}{v:Value}{l:List (List Value)}{row:Option Nat}(h:qJ k w B E v l)(hg:w.grownBy w' row)(hne:v.ownBlock=none\/v.ownBlock≠row):qJ k w' B E v l:=⟨h.1.kept hg hne,h.2⟩
theorem qJ.up{k:Nat}{w w':World}{B:Nat}{E:TypeId}{v:Value}{l:List (List Value)}(h:qJ k w B E v l)(hb:Below w.heap.size w w'):qJ k w' B E v l:=
 h.keep (row:=none) ⟨hb.os,hb.tape,hb.output,hb.size,fun k hk _=>hb.block k hk⟩ (by cases v.ownBlock<;>simp)
theorem qJ.lt{k:Nat}{w:World}{B:Nat}{E:TypeId}{v:Value}{l:List (List Value)}(h:qJ k w B E v l):∀q,v.ownBlock=some q->B<=q/\q<w.heap.size:=h.1.lt
theorem qJ.mono{k:Nat}{w:World}{B B' E:Nat}{v:Value}{l:List (List Value)}(h:qJ k w B E v l)(hB:B'<=B):qJ k w B' E v l:=
 ⟨⟨h.1.1,h.1.2.imp id fun⟨g,cap,cur,h1,h2,h3⟩=>⟨g,cap,cur,h1,by omega,h3⟩⟩,h.2⟩
theorem nI{P:Program}{k:Nat}(w:World)(B:Nat)(t ty E:TypeId)(z:Value)(bytes:Nat)(ht:P.underlying t=some (.slice E))(vM:(P.info? E).map (fun i=>(i.zero,i.size,i.bytes))=some (some z,k,bytes))(hz:z.cells.size=k)(hk:0<k)(hby:bytes<=64)
  (v:Value) (xs:List (List Value)) (hown:qJ k w B E v xs) (xv:Value) (news:List (List Value)) (hx:SlK k w xv news) (hnk:∀x∈news,x.length=k) (h1:∀u∈news.flatten,u.oneCell'=true) (hlen:xs.length+news.length<=1000000000) (hB:B<=w.heap.size):
  ∃v' w',(Builtin.append_ #[t,t] ty #[v,xv]).run P w=.ok v' w'/\qJ k w' B E v' (xs++news)/\w.grownBy w' v.ownBlock/\(∀q,v'.ownBlock=some q->v.ownBlock=some q\/w.heap.size<=q):=by
 obtain⟨i0,hi,hz0,hz1,hz2⟩:∃i0,P.info? E=some i0/\i0.zero=some z/\i0.size=k/\i0.bytes=bytes:=by
  cases hq:P.info? E with
  |none=>simp[hq]at vM
  |some i0=>simp[hq]at vM;exact⟨i0,rfl,vM.1,vM.2.1,vM.2.2⟩
 have hl1:xs.length+news.length<=maxLen:=by simp only[maxLen];omega
 have hl2:(xs.length+news.length)*bytes<=140737488355328:=by
  have:=Nat.mul_le_mul hlen hby;omega
 obtain⟨oa,cx,b,off,rfl,hd,hc⟩:=hx;obtain⟨hrow,hsm,hxk⟩:=hown;have vD:news.flatten.length=news.length*k:=aZ hnk
 have hall:∀x∈xs++news,x.length=k:=fun x hx=>by
  rcases List.mem_append.1 hx with h|h
  ·exact hxk x h
  ·exact hnk x h
 have vQ:(xs++news).length<=140737488351232:=by rw[qg];omega
 by_cases hn:news=[]
 ·subst hn
  refine⟨v,w,?_,⟨by simpa using hrow,by simpa using hsm,by simpa using hxk⟩,⟨rfl,rfl,rfl,qa _,fun _ _ _=>rfl⟩,fun k hk=>.inl hk⟩
  rcases hrow.2 with⟨rfl,hx0⟩|⟨g,cap,cur,rfl,_,_,hnc,_⟩
  ·cases oa<;>simp[Builtin.append_,run_underlying ht,sizeOf,typeInfo,hi,Builtin.lenOf,Builtin.firstCells,loadCells,loadCellsFrom]
  ·cases oa<;>simp[Builtin.append_,run_underlying ht,sizeOf,typeInfo,hi,Builtin.lenOf,Builtin.firstCells,loadCells,loadCellsFrom,hnc,storeCells]
 ·have vR:0<news.length:=List.length_pos_iff.2 hn
  obtain rfl:=hd.hat vR
  have hnews:∀j u,news.flatten[j]? =some u->w.cell? ((⟨b,off,none⟩:Addr).add j)=some u:=fun j u hu=>by
   have hj:=(List.getElem?_eq_some_iff.1 hu).1;rw[vD]at hj;have hdm:j=j/k*k+j%k:=by rw[Nat.mul_comm];exact(Nat.div_add_mod j k).symm
   have hq:j/k<news.length:=(Nat.div_lt_iff_lt_mul hk).2 hj;have hm:=Nat.mod_lt j hk;rw[aA,hdm,<-Nat.add_assoc,hc (j/k) hq (j%k) hm];rw[hdm,bW hnk _ _ hq hm]at hu;rw[List.getD_eq_getElem?_getD,hu];rfl
  rcases hrow.2 with⟨rfl,hx0⟩|⟨g,cap,cur,rfl,hbg,hg,hnc,hcm,hcs,vC⟩
  ·obtain rfl:xs=[]:=List.length_eq_zero_iff.1 hx0
   obtain⟨v',w',hr,ho,hgr,-⟩:=run_append_own (P:=P) w w.heap.size t ty E i0 z k bytes ht hi hz0 hz1 hz2 hz hk (.slice none 0 0) 0 [] (World.ownsRow_nil _ _ _ _) ⟨b,off,none⟩ news.length cx news.flatten vD hnews h1 (by simpa using hl1) (by simpa using hl2) (qa _)
   have hkk:=ho.lt;refine⟨v',w',hr,⟨⟨by simpa using vD,?_⟩,vQ,hall⟩,hgr,fun q hq=>.inr (hkk q hq).1⟩
   simp only[Nat.zero_add,List.nil_append]at ho
   rcases ho.2 with⟨h1,h2⟩|⟨g,cap,cur,h1,h2,h3⟩
   ·exact .inl ⟨h1,by simpa using h2⟩
   ·exact .inr ⟨g,cap,cur,h1,by omega,by simpa using h3⟩
  ·by_cases hroom:xs.length+news.length<=cap
   ·obtain⟨w',hr,ho,hgr⟩:=run_append_fits (P:=P) w B t ty E i0 k ht hi hz1 g xs.length cap xs.flatten ⟨hrow.1,.inr ⟨g,cap,cur,rfl,hbg,hg,hnc,hcm,hcs,vC⟩⟩ ⟨b,off,none⟩ news.length cx news.flatten vD hnews h1 hroom
    exact⟨_,w',hr,⟨by rw[qg,List.flatten_append];exact ho,vQ,hall⟩,hgr,fun k hk=>.inl hk⟩
   ·have holds:∀j u,xs.flatten[j]? =some u->w.cell? ((⟨g,0,none⟩:Addr).add j)=some u:=World.ownsRow.cells (g:=g) hrow rfl
    have hxl:xs.flatten.length=xs.length*k:=aZ hxk;have hr:=run_append_grow (P:=P) w t ty E i0 z ht hi hz0 ⟨g,0,none⟩ xs.length cap xs.flatten (by rw[hz1];exact hxl) holds ⟨b,off,none⟩ news.length cx news.flatten (by rw[hz1];exact vD) hnews (by omega) (by omega) (growslice_fits (by omega) (by rw[hz2];exact hl2))
    have hge:=grownCap_ge w (xs.length+news.length) cap E;have xQ:grownCap w (xs.length+news.length) cap E<=maxLen:=grownCap_le_maxLen w _ cap E hl1;refine⟨_,_,hr,⟨⟨by rw[qg,List.flatten_append,qg,hxl,vD,Nat.add_mul],.inr ⟨w.heap.size,_,_,by rw[qg],hB,heap_alloc_new w.drew _,by rw[qg];exact hge,xQ,?_,?_⟩⟩,vQ,hall⟩,⟨rfl,rfl,rfl,by simp,fun k hk _=>Below.heap_alloc w.drew _ k hk⟩,fun k hk=>.inr (by simp[Value.ownBlock]at hk;omega)⟩
    ·simp only[Array.size_append,List.size_toArray,size_zeroCells,hz,hxl,vD,<-Nat.add_mul]
     congr 1;omega
    ·simp only[Array.toList_append,qh,qg,List.flatten_append]
     rw[<-qh,Nat.add_mul,<-hxl,<-vD,<-qg]
     exact List.take_left
theorem d5{P:Program}{ops:Array Oper}{rest:List Oper}{o:Oper}{a:Act}{w:World}{Q:Exit->Act->World->Prop}(k:Nat)(hgd:o.guard=none)(s x:Operand)(t:TypeId)
  (ho:o.op=.call {callee:=.builtin .append,args:=#[s,x],argTypes:=#[t,t]})
  (B E:TypeId) (z:Value) (bytes:Nat) (ht:P.underlying t=some (.slice E)) (vM:(P.info? E).map (fun i=>(i.zero,i.size,i.bytes))=some (some z,k,bytes)) (hz:z.cells.size=k) (hk:0<k) (hby:bytes<=64)
  (v:Value) (xs:List (List Value)) (hs:a.eval s=v) (hown:qJ k w B E v xs) (xv:Value) (news:List (List Value)) (hxe:a.eval x=xv) (hx:SlK k w xv news) (hnk:∀x∈news,x.length=k) (h1:∀u∈news.flatten,u.oneCell'=true) (hlen:xs.length+news.length<=1000000000) (hB:B<=w.heap.size)
  (h:∀v' w',qJ k w' B E v' (xs++news)->w.grownBy w' v.ownBlock->(∀q,v'.ownBlock=some q->v.ownBlock=some q\/w.heap.size<=q)->wpList P ops Q rest (a.put o.dst v') w'):wpList P ops Q (o::rest) a w:=by
 obtain⟨v',w',hr,h2,h3,h4⟩:=nI (P:=P) w B t o.type E z bytes ht vM hz hk hby v xs hown xv news hx hnk h1 hlen hB;refine wpList_plain hgd fun K hK=>?_
 unfold Oper.wp execOp;simp only[ho,resolve,invoke,builtin,Sem.run_bind,Sem.run_pure,Result.andThen_ok,List.map_toArray,List.map_cons,List.map_nil,hs,hxe,hr]
 exact hK _ _ (h v' w' h2 h3 h4)
theorem lB(k:Nat)(w:World)(c:Array Value)(E:TypeId)(l:List (List Value))(hl:c.toList=l.flatten)(hk:∀x∈l,x.length=k)(hc:l.length<=4294967296):SlK k (w.alloc (.cells c E)) (.slice (some ⟨w.heap.size,0,none⟩) l.length l.length) l:=by
 refine⟨some ⟨w.heap.size,0,none⟩,l.length,w.heap.size,0,rfl,⟨fun _=>rfl,qa _,by simp only[maxLen];omega,by omega,fun _=>by simp⟩,fun i hi x hx=>?_⟩
 rw[Nat.zero_add,World.cell?_alloc_new,<-Array.getElem?_toList,hl,bW hk i x hi hx]
 have hxl:x<(l.getD i []).length:=by rw[hk _ (by simp[List.getD,hi])];exact hx
 generalize l.getD i []=y at*
 simp[List.getD,hxl]
theorem nJ(k:Nat)(w:World)(B:Nat)(c:Array Value)(E:TypeId)(l:List (List Value))(hl:c.toList=l.flatten)(hk:∀x∈l,x.length=k)(hc:l.length<=4294967296)(hB:B<=w.heap.size):qJ k (w.alloc (.cells c E)) B E (.slice (some ⟨w.heap.size,0,none⟩) l.length l.length) l:=by
 have hs:c.size=l.length*k:=by rw[<-Array.length_toList,hl,aZ hk]
 have h:=World.ownsRow_lit (base:=B) (e:=E) (size:=k) w c l.length hB (by simp only[maxLen];omega) hs
 rw[hl]at h
 exact⟨h,by omega,hk⟩
end Go.Cm
namespace Go.Cm
open Go.RowKit
section
variable {P : Program} {ops : Array Oper} {md : Region.Mode} {C : World → Prop} {o3 : List Nat}
def n9(o3:List Nat)(listed:Array Bool):Bool:=o3.any fun t=>listed.getD t false
def bK(P:Program)(md:Region.Mode)(ops:Array Oper)(C:World->Prop)(o3:List Nat)(Q:Act->World->Prop):Nat->Array Bool->Act->World->Prop
 |0,listed,a,w=>(n9 o3 listed=false->C w)/\Region.ready md ops listed=[]/\Q a w
 |fuel+1,listed,a,w=>(n9 o3 listed=false->C w)/\(Region.ready md ops listed=[]->Q a w)/\
  ∀i∈Region.ready md ops listed,wpOp P ops noQ i (bK P md ops C o3 Q fuel (listed.setIfInBounds i true)) a w
theorem dX{Q:Act->World->Prop}{Q':Exit->Act->World->Prop}(hQ:∀a w,Q a w->Q' .normal a w):∀(fuel:Nat) (listed:Array Bool) (a:Act) (w:World),
  bK P md ops C o3 Q fuel listed a w->wpAny P md ops Q' fuel listed a w
 |0,_,_,_,h=>⟨h.2.1,hQ _ _ h.2.2⟩
 |fuel+1,listed,a,w,h=>⟨fun h0=>hQ _ _ (h.2.1 h0),fun i hi=>by
   have h1:=wpOp_mono (fun a w=>dX (Q':=Q') hQ fuel _ a w) (h.2.2 i hi)
   unfold wpOp at h1⊢;split
   ·rename_i ho;simpa[ho]using h1
   ·rename_i o ho
    simp only[ho]at h1;split
    ·rename_i hw
     simp only[hw,if_true]at h1
     rcases h1 with h1|⟨-,h1⟩
     ·exact .inl (cK (fun _ _ _ h=>h) cW h1)
     ·exact(cW h1).elim
    ·rename_i hw;simpa[hw]using h1⟩
def d6(md:Region.Mode)(ops:Array Oper)(listed:Array Bool):Prop:=∀(j:Nat) (oj:Oper),ops[j]? =some oj->listed.getD j false=true->∀e∈oj.after,Region.binds md e=true->listed.getD e.on false=true
theorem d6.set{listed:Array Bool}{j:Nat}(h:d6 md ops listed)(hj:j∈Region.ready md ops listed):d6 md ops (listed.setIfInBounds j true):=by
 obtain⟨_,oj,hoj,hall⟩:=mem_ready.1 hj;intro k ok hok hl e he hb
 by_cases hjk:j=k
 ·subst hjk
  have:ok=oj:=qk (hok.symm.trans hoj);subst this
  exact getD_set_true (hall e he hb)
 ·rw[getD_set_ne false hjk]at hl
  exact getD_set_true (h k ok hok hl e he hb)
def anc(md:Region.Mode)(ops:Array Oper):Nat->Nat->Nat->Bool
 |0,_,_=>false
 |f+1,i,t=>match ops[t]? with
  |some o=>o.after.any fun e=>Region.binds md e&&(e.on==i||anc md ops f i e.on)
  |none=>false
theorem dY{listed:Array Bool}(hc:d6 md ops listed){i:Nat}:∀(f t:Nat),anc md ops f i t=true->listed.getD t false=true->listed.getD i false=true
 |0,_,h,_=>by cases h
 |f+1,t,h,ht=>by
  unfold anc at h;split at h
  ·rename_i o ho
   obtain⟨e,he,hb⟩:=Array.any_eq_true'.1 h;simp only[Bool.and_eq_true,Bool.or_eq_true,beq_iff_eq]at hb;have h1:=hc t o ho ht e he hb.1
   rcases hb.2 with h2|h2
   ·rw[<-h2];exact h1
   ·exact dY hc f e.on h2 h1
  ·cases h
theorem iE{listed:Array Bool}{i:Nat}(hi:i∉o3):n9 o3 (listed.setIfInBounds i true)=n9 o3 listed:=by
 unfold n9
 induction o3 with
 |nil=>rfl
 |cons t o3 ih=>
  simp only[List.mem_cons,not_or]at hi;simp only[List.any_cons];rw[ih hi.2,getD_set_ne false hi.1]
theorem dZ{listed:Array Bool}{i f:Nat}(hc:d6 md ops listed)(ha:∀t∈o3,anc md ops f i t=true)(hu:listed.getD i false=false):n9 o3 listed=false:=by
 cases h:n9 o3 listed with
 |false=>rfl
 |true=>
  obtain⟨t,ht,hl⟩:=List.any_eq_true.1 h;rw[dY hc f t (ha t ht) hl]at hu
  cases hu
theorem eN{listed:Array Bool}{i:Nat}(h:listed.getD i true=false):i<listed.size/\listed.getD i false=false:=by
 rcases Nat.lt_or_ge i listed.size with h'|h'
 ·exact⟨h',by simp[h']at h⊢;exact h⟩
 ·simp[Array.getElem?_eq_none h']at h
theorem fJ{Q:Act->World->Prop}{i f:Nat}{oi:Oper}{v:Value}(hi:ops[i]? =some oi)(wT:∀(j:Nat) (o:Oper) cs b,ops[j]? =some o->o.op≠.select cs b)(hi3:i∉o3)(ha:∀t∈o3,anc md ops f i t=true):
  ∀(fuel:Nat) (listed:Array Bool) (a:Act) (w:World),d6 md ops listed->
   (∀j oj,ops[j]? =some oj->j≠i->listed.getD j true=false->(∀e∈oj.after,Region.binds md e=true->e.on≠i)->oi.apart ops oj=true)->
   i∈Region.ready md ops listed->Yin P ops C oi v a->
   bK P md ops C o3 Q fuel (listed.setIfInBounds i true) (a.put oi.dst v) w->bK P md ops C o3 Q (fuel+1) listed a w:=by
 intro fuel
 induction fuel with
 |zero=>
  intro listed a w hcl _ hr hy H;have hl:=dZ hcl ha (eN (mem_ready.1 hr).1).2;have h1:=H.1;rw[iE hi3]at h1;refine⟨h1,fun h=>(by rw[h]at hr;cases hr),fun j hj=>?_⟩
  by_cases hji:j=i
  ·subst hji;exact hy.wpOp (h1 hl) hi H
  ·have:=ready_mono hj hji
   rw[H.2.1]at this
   cases this
 |succ fuel ih=>
  intro listed a w hcl vU hr hy H;have hl:=dZ hcl ha (eN (mem_ready.1 hr).1).2;have h1:=H.1;rw[iE hi3]at h1;refine⟨h1,fun h=>(by rw[h]at hr;cases hr),fun j hj=>?_⟩
  by_cases hji:j=i
  ·subst hji;exact hy.wpOp (h1 hl) hi H
  ·have h1:=H.2.2 j (ready_mono hj hji)
   obtain⟨wW,oj,hoj,hall⟩:=mem_ready.1 hj
   have xJ:∀e∈oj.after,Region.binds md e=true->e.on≠i:=fun e he hb heq=>by
    have h1:=hall e he hb;have h0:=(mem_ready.1 hr).1;rw[heq]at h1;rw[(eN h0).2]at h1
    cases h1
   have h2:=kW hoj (vU j oj hoj hji wW xJ) (fun cs b=>wT i oi cs b hi) (fun cs b=>wT j oj cs b hoj) hy h1
   have vT:∀k ok,ops[k]? =some ok->k≠i->(listed.setIfInBounds j true).getD k true=false->
     (∀e∈ok.after,Region.binds md e=true->e.on≠i)->oi.apart ops ok=true:=fun k ok hk hki hun hno=>by
    refine vU k ok hk hki ?_ hno
    by_cases hjk:j=k
    ·subst hjk;exact wW
    ·rw[getD_set_ne true hjk]at hun;exact hun
   refine wpOp_mono (fun a' w' h3=>ih (listed.setIfInBounds j true) a' w' (hcl.set hj) vT (ready_mono hr (Ne.symm hji)) h3.1 ?_) h2
   rw[Array.setIfInBounds_comm _ _ hji]
   exact h3.2
theorem lC{listed:Array Bool}{i:Nat}(hi:i∈o3)(hs:i<listed.size):n9 o3 (listed.setIfInBounds i true)=true:=
 List.any_eq_true.2 ⟨i,hi,by simp[hs]⟩
theorem e6{Q K:Act->World->Prop}{C':World->Prop}{i n:Nat}{listed:Array Bool}{a:Act}{w:World}(hr:Region.ready md ops listed=[i])(hC:n9 o3 listed=false->C w)
  (hK:∀a' w',C' w'->K a' w'->bK P md ops C o3 Q n (listed.setIfInBounds i true) a' w') (h:wpList P ops (oN C' K) [ops.toList.getD i default] a w):bK P md ops C o3 Q (n+1) listed a w:=by
 have him:i∈Region.ready md ops listed:=by rw[hr];simp
 obtain⟨_,o,ho,_⟩:=mem_ready.1 him;have hol:ops.toList.getD i default=o:=by rw[List.getD_eq_getElem?_getD,Array.getElem?_toList,ho];rfl
 refine⟨hC,fun h0=>(by rw[hr]at h0;cases h0),fun j hj=>?_⟩
 obtain rfl:j=i:=by rw[hr]at hj;simpa using hj
 rw[hol]at h;unfold wpList at h;unfold wpOp;simp only[ho];split
 ·rename_i hw
  rw[if_pos hw]at h
  rcases h with h'|⟨-,h'⟩
  ·refine .inl (Oper.wp_mono ?_ (cK (fun _ _ _ h=>h) cL h'))
   intro a' w' hh;obtain⟨hC',hk⟩:=(hh:oN C' K .normal a' w')
   exact hK a' w' hC' hk
  ·exact(cL h').elim
 ·rename_i hw
  rw[if_neg hw]at h;obtain⟨hC',hk⟩:=(h:oN C' K .normal (a.put o.dst undef) w)
  exact hK _ _ hC' hk
theorem d7{Q:Act->World->Prop}:∀(o:List Nat) (listed:Array Bool) (a:Act) (w:World),(∀t∈o,t∈o3)->pH md ops o listed=true->(n9 o3 listed=false->C w)->
  qX P ops (fun _=>True) Q (aW ops.toList o) a w->bK P md ops C o3 Q o.length listed a w
 |[],listed,a,w,_,hB,hC,h=>⟨hC,by simpa[pH]using hB,h⟩
 |i::r,listed,a,w,ho,hB,hC,h=>by
  simp only[pH,Bool.and_eq_true,beq_iff_eq]at hB;have him:i∈Region.ready md ops listed:=by rw[hB.1];simp
  have hs:=(eN (mem_ready.1 him).1).1;refine e6 (C':=fun _=>True) hB.1 hC (fun a' w' _ hk=>d7 r _ a' w' (fun t ht=>ho t (by simp[ht])) hB.2 (fun hl=>by rw[lC (ho i (by simp)) hs]at hl;cases hl) hk) ?_
  simp only[aW,List.map_cons]at h
  exact h
theorem e7{Q:Act->World->Prop}:∀(o2:List Nat) (listed:Array Bool) (a:Act) (w:World),pH md ops (o2++o3) listed=true->C w->
  qX P ops C (qX P ops (fun _=>True) Q (aW ops.toList o3)) (aW ops.toList o2) a w->bK P md ops C o3 Q (o2.length+o3.length) listed a w
 |[],listed,a,w,hB,hC,h=>by
  rw[List.length_nil,Nat.zero_add]
  exact d7 o3 listed a w (fun _ h=>h) hB (fun _=>hC) h
 |i::r,listed,a,w,hB,hC,h=>by
  simp only[List.cons_append,pH,Bool.and_eq_true,beq_iff_eq]at hB;rw[List.length_cons,Nat.add_right_comm];refine e6 (C':=C) hB.1 (fun _=>hC) (fun a' w' hC' hk=>e7 r _ a' w' hB.2 hC' hk) ?_
  simp only[aW,List.map_cons]at h
  exact h
def nK(md:Region.Mode)(ops:Array Oper)(o1 o3:List Nat):Bool:=o1.all fun i=> !o3.contains i&&o3.all fun t=>anc md ops ops.size i t
theorem cC{Q:Act->World->Prop}(hs:Region.noSelect ops=true)(o2:List Nat){w:World}(hC:C w):∀(o1:List Nat) (listed:Array Bool) (a:Act),nK md ops o1 o3=true->d6 md ops listed->s9 md ops (o2++o3) o1 listed=true->
  wpQuiet P ops C (fun a'=>qX P ops C (qX P ops (fun _=>True) Q (aW ops.toList o3)) (aW ops.toList o2) a' w) (aW ops.toList o1) a->bK P md ops C o3 Q (o1.length+(o2.length+o3.length)) listed a w
 |[],listed,a,_,_,hB,h=>by
  rw[List.length_nil,Nat.zero_add]
  exact e7 o2 listed a w (by simpa[s9]using hB) hC h
 |i::r,listed,a,hh,hcl,hB,h=>by
  simp only[s9,Bool.and_eq_true]at hB;obtain⟨⟨⟨hr,hf⟩,hn⟩,hB'⟩:=hB;simp only[nK,List.all_cons,Bool.and_eq_true]at hh;have him:i∈Region.ready md ops listed:=by simpa using hr
  obtain⟨_,o,ho,_⟩:=mem_ready.1 him;have hol:ops.toList.getD i default=o:=by rw[List.getD_eq_getElem?_getD,Array.getElem?_toList,ho];rfl
  simp only[aW,List.map_cons,hol]at h;have hn':cX o.op=true:=by simpa[ho]using hn
  obtain⟨v,hy,hK⟩:=dV (K:=wpQuiet P ops C (fun a'=>qX P ops C (qX P ops (fun _=>True) Q (aW ops.toList o3)) (aW ops.toList o2) a' w) (aW ops.toList r)) hn' h
  rw[List.length_cons,Nat.add_right_comm]
  exact fJ ho (Region.noSelect_spec hs) (by simpa using hh.1.1) (fun t ht=>(List.all_eq_true.1 hh.1.2) t ht) _ listed a w hcl (Region.free_spec ho hf) him hy
   (cC hs o2 hC r _ _ (by simpa[nK]using hh.2) (hcl.set him) hB' hK)
def pL(md:Region.Mode)(ops:Array Oper)(o1 o2 o3:List Nat):Bool:=
 Region.noSelect ops&&(o1.length+(o2.length+o3.length)==ops.size)&&nK md ops o1 o3&&s9 md ops (o2++o3) o1 (Array.replicate ops.size false)
theorem gV(m j:Nat):(Array.replicate m false).getD j false=false:=by
 rcases Nat.lt_or_ge j m with h|h<;>simp[h]
theorem jC{id:Nat}{Q:Exit->Act->World->Prop}{a:Act}{w:World}{l:List Oper}(C:World->Prop)(o1 o2 o3:List Nat)(hm:P.follows .mixedOrders=true)(hB:pL .any l.toArray o1 o2 o3=true)(hC:C w.drew)
  (h:wpQuiet P l.toArray C (fun a'=>qX P l.toArray C (qX P l.toArray (fun _=>True) (fun a'' w''=>Q .normal a'' w'') (aW l o3)) (aW l o2) a' w.drew) (aW l o1) a):(Code.region id l.toArray true).wp P Q a w:=by
 simp only[pL,Bool.and_eq_true,beq_iff_eq]at hB;obtain⟨⟨⟨hs,hlen⟩,hh⟩,hB⟩:=hB;refine wp_region_any hm ?_;have h1:=cC (Q:=fun a'' w''=>Q .normal a'' w'') (md:=.any) (w:=w.drew) hs o2 hC o1 (Array.replicate l.toArray.size false) a hh (fun j oj _ hl=>by rw[gV]at hl;cases hl) hB (by simpa using h)
 rw[hlen]at h1
 exact dX (fun a w hq=>hq) _ _ _ _ h1
theorem jx{id:Nat}{Q:Exit->Act->World->Prop}{a:Act}{w:World}{l:List Oper}(o1 o2 o3:List Nat)(hm:P.follows .mixedOrders=true)(hB:pL .any l.toArray o1 o2 o3=true)
  (h:wpQuiet P l.toArray (fun w'=>∃x,w'=ext w x) (fun a'=>qX P l.toArray (fun w'=>∃x,w'=ext w x) (qX P l.toArray (fun _=>True) (fun a'' w''=>Q .normal a'' w'') (aW l o3)) (aW l o2) a' w.drew) (aW l o1) a):(Code.region id l.toArray true).wp P Q a w:=
 jC (C:=fun w'=>∃x,w'=ext w x) o1 o2 o3 hm hB (qv (qy w 1)) h
end
end Go.Cm
namespace Go.Cm
open Go.RowKit Go.Proofs
def ndC(x:Nd):List Value:=[.int .i64 x.kd,.int .i64 x.n,.int .u64 x.a,.int .u64 x.b,.int .u64 x.c,.int .u64 x.d,.int .i64 x.lo,.int .i64 x.hi]
def zN:Nd:=⟨0,0,0,0,0,0,0,0⟩
def j4(w:World)(v:Value)(l:List Nd):Prop:=SlK 8 w v (l.map ndC)
theorem j4.up{w w':World}{v:Value}{l:List Nd}(h:j4 w v l)(hb:Below w.heap.size w w'):j4 w' v l:=SlK.up h hb
theorem j4.open{w:World}{v:Value}{l:List Nd}(h:j4 w v l):
  ∃oa cap b off,v=.slice oa l.length cap/\Hd w oa l.length cap b off/\∀i,i<l.length->∀c,c<8->w.cell? ⟨b,off+i*8+c,none⟩=some ((ndC (l.getD i zN)).getD c undef):=by
 obtain⟨oa,cap,b,off,rfl,hd,hc⟩:=h;rw[List.length_map]at hd hc⊢;refine⟨oa,cap,b,off,rfl,hd,fun i hi c hcl=>?_⟩
 rw[hc i hi c hcl]
 simp[List.getD,hi]
theorem bX{w:World}{oa:Option Addr}{b off len cap:Nat}(h:Hd w oa len cap b off):
  ∀(W:World) (kd:IntKind) (i:Int),0<=i->i<len->(Instr.indexAt 37 (.slice oa len cap) (.int kd i)).run Tryd.prog W=.ok (.pointer (some ⟨b,off+i.toNat*8,none⟩)) W:=
 je (P:=Tryd.prog) 8 37 74 Tryd.underlying37 (by kernel_rfl) h
theorem lD(L:Nat)(want:Int)(l:List Nd)(k:Nat)(h:k<l.length):
  i7 L want (l.drop k) k=if(l.getD k zN).n<0\/(L:Int)<(l.getD k zN).n then -1 else if want+((l.getD k zN).n-1)=0 then(k:Int)+1 else i7 L (want+((l.getD k zN).n-1)) (l.drop (k+1)) (k+1):=by
 rw[List.drop_eq_getElem_cons h]
 simp[i7,List.getD,h]
theorem uL{w:World}{v:Value}{l:List Nd}(h:j4 w v l)(hl:l.length<=400)(i:Nat):
  Calls Tryd.prog 45 #[v,.int .i64 i] w fun e w'=>e=.returned (.int .i64 (i7 l.length 1 (l.drop i) i))/\∃x,w'=ext w x:=by
 obtain⟨oa,cap,b,off,rfl,hd,hc⟩:=h.open;have hix:=bX hd;have HC:Hid (∀i,i<l.length->w.cell? ⟨b,off+i*8+1,none⟩=some (.int .i64 (l.getD i zN).n)):=q9 (fun i hi=>hc i hi 1 (by decide))
 have HB:=q9 hd.hblk;have HE:=q9 (lD l.length);obtain⟨R,hR⟩:∃R,R=i7 l.length 1 (l.drop i) i:=⟨_,rfl⟩;have HR:=q9 hR;rw[<-hR];clear h hd hc hR
 go_enter Tryd.func45,Tryd.ntmps45
 go_wp2
 go_loop [1,5] (fun iv wv=>∃(j:Nat) (wn:Int),iv=.int .i64 j/\wv=.int .i64 wn/\1<=wn/\(j<l.length->wn<=1+400*j)/\R=i7 l.length wn (l.drop j) j) (fun iv _=>l.length-(intOf iv).toNat)
 case atStart=>exact⟨i,1,rfl,rfl,by omega,by omega,HR.out⟩
 case round=>
  obtain⟨j,wn,rfl,rfl,hw1,hw2,hrr⟩:=hrel
  by_cases hlt:j<l.length
  ·have hcell:=HC.out j hlt
   have hb:=HB.out (by omega)
   have he:=HE.out wn l j hlt;rw[<-hrr]at he;have hw3:=hw2 hlt;generalize l.getD j zN=x at*;obtain⟨xk,n,xa,xb,xc,xd,xl,xh⟩:=x;simp only at hcell he;clear hrr hw2
   by_cases h1:n<0
   ·rw[if_pos (.inl h1)]at he
    have HE2:=q9 he;clear he;go_wp2;go_ret
    exact⟨by rw[HE2.out];rfl,jt _⟩
   ·by_cases h2:(l.length:Int)<n
    ·rw[if_pos (.inr h2)]at he
     have HE2:=q9 he;clear he;go_wp2;go_ret
     exact⟨by rw[HE2.out];rfl,jt _⟩
    ·rw[if_neg (by omega)]at he
     have hwr:(wn-1)+n=wn+(n-1):=by omega
     by_cases h3:wn+(n-1)=0
     ·rw[if_pos h3]at he
      have HE2:=q9 he;clear he;go_wp2;go_ret
      exact⟨by rw[HE2.out];rfl,jt _⟩
     ·rw[if_neg h3]at he
      have HE2:=q9 he;clear he;go_wp2
      go_round
      case rel=>
       refine⟨j+1,wn+(n-1),by go_num,by go_num,by omega,fun h=>by omega,HE2.out⟩
      case measure=>simp[intOf];omega
  ·have hdr:l.drop j=[]:=List.drop_eq_nil_of_le (by omega)
   rw[hdr]at hrr;simp only[i7]at hrr;have HE2:=q9 hrr;clear hrr;go_wp2;go_ret
   exact⟨by rw[HE2.out];rfl,jt _⟩
theorem Own.whole{w:World}{B T g n:Nat}{xs:List Value}(h:Own w B T (.slice (some ⟨g,0,none⟩) n n) xs):∃A,w.heap[g]? =some (.cells A T (0,0))/\A.size=n/\A.toList=xs:=by
 have hl:=h.len
 rcases h.1.2 with⟨h1,_⟩|⟨g',cap,cur,h1,_,hg,hnc,hcm,hcs,vC⟩
 ·cases h1
 ·simp only[Value.slice.injEq,Option.some.injEq,Addr.mk.injEq,and_true]at h1
  obtain⟨rfl,h2,rfl⟩:=h1;have hs:cur.size=n:=by omega
  refine⟨cur,hg,hs,?_⟩;rw[<-vC,List.take_of_length_le];rw[Array.length_toList];omega
theorem fO{P:Program}{fn:Func}{tmps:Array Value}{w:World}{a t:Nat}{ad:Addr}{v:Value}(hf:fn.results=#[.cell a t])(ha:tmps.getD a undef=.pointer (some ad))(hl:(loadVar t ad).run P w=.ok v w):
  (results fn tmps).run P w=.ok v w:=by
 have ha':tmps[a]?.getD undef=.pointer (some ad):=by simpa using ha
 simp[results,hf,asAddr,ha',hl]
theorem qD{P:Program}{fn:Func}{tmps:Array Value}{w:World}{ds:List Deferred}{s t:Nat}{ad:Addr}{x:Value}{R:Ending->World->Prop}(hf:fn.results=#[.cell s t])(ha:tmps.getD s undef=.pointer (some ad))(hd:ds=[])
  (hl:(loadVar t ad).run P w=.ok x w) (h:R (.returned x) w):bodyPost P fn R .ret ⟨tmps,ds⟩ w:=
 bodyPost_ret (v:=x) (fO hf ha hl) hd h
theorem aL{P:Program}{w:World}{B T g n:Nat}{xs:List Value}(h:Own w B T (.slice (some ⟨g,0,none⟩) n n) xs)(d:TypeDesc)(hu:P.underlying T=some d)(hd:(match d with|.struct _|.array _ _=>true|_=>false)=true)(hi:(P.info? T).map (·.size)=some n):
  (loadVar T ⟨g,0,none⟩).run P w=.ok (.agg xs.toArray) w:=by
 obtain⟨A,hg,hs,hA⟩:=h.whole;have hl:=jh (P:=P) w g 0 n T T A (0,0) d hg hu hd hi (by omega)
 have e:A.extract 0 (0+n)=xs.toArray:=by rw[Nat.zero_add,<-hs,Array.extract_size,<-hA]
 rw[e]at hl
 exact hl
end Go.Cm
namespace Go.Cm
theorem qE{α:Type}(l:List α)(k:Nat)(d:α)(h:k<l.length):l.take (k+1)=l.take k++[l.getD k d]:=by
 rw[List.take_succ_eq_append_getElem h,List.getD_eq_getElem?_getD,List.getElem?_eq_getElem h,Option.getD_some]
theorem nS{α:Type}(l:List α)(k:Nat)(d:α)(h:k<l.length):l.getD k d∈l:=by
 simp[List.getD,h]
end Go.Cm
namespace Go.Cm
open Go.RowKit
section
variable {P : Program} {ops : Array Oper} {md : Region.Mode} {C : World → Prop}
def tJ(md:Region.Mode)(ops:Array Oper)(k:Array Bool->Bool):List Nat->Array Bool->Bool
 |[],listed=>k listed
 |i::r,listed=>Region.ready md ops listed==[i]&&tJ md ops k r (listed.setIfInBounds i true)
def tK(md:Region.Mode)(ops:Array Oper)(k:Array Bool->Bool):List Nat->Array Bool->Bool
 |[],listed=>k listed
 |i::r,listed=>(Region.ready md ops listed).contains i&&Region.free md ops listed i&&((ops[i]?).map (fun o=>cX o.op)).getD false&&tK md ops k r (listed.setIfInBounds i true)
def tL(md:Region.Mode)(ops:Array Oper):List (List Nat×List Nat)->Array Bool->Bool
 |[],listed=>Region.ready md ops listed==[]
 |ph::r,listed=>tK md ops (tJ md ops (tL md ops r) ph.2) ph.1 listed
def pY:List (List Nat×List Nat)->Nat
 |[]=>0
 |ph::r=>ph.1.length+(ph.2.length+pY r)
def oY(md:Region.Mode)(ops:Array Oper)(l:List (List Nat×List Nat)):Bool:=
 Region.noSelect ops&&(pY l==ops.size)&&tL md ops l (Array.replicate ops.size false)
def jQ(P:Program)(ops:Array Oper)(C:World->Prop)(Q:Act->World->Prop):List (List Nat×List Nat)->Act->World->Prop
 |[],a,w=>Q a w
 |ph::r,a,w=>wpQuiet P ops C (fun a'=>qX P ops C (jQ P ops C Q r) (aW ops.toList ph.2) a' w) (aW ops.toList ph.1) a
theorem b7{Q K:Act->World->Prop}{k:Array Bool->Bool}{n:Nat}(hk:∀listed a w,k listed=true->C w->K a w->bF P md ops C Q n listed a w):
  ∀(o2:List Nat) (listed:Array Bool) (a:Act) (w:World),tJ md ops k o2 listed=true->C w->
  qX P ops C K (aW ops.toList o2) a w->bF P md ops C Q (o2.length+n) listed a w
 |[],listed,a,w,hB,hC,h=>by rw[List.length_nil,Nat.zero_add];exact hk listed a w hB hC h
 |i::r,listed,a,w,hB,hC,h=>by
  simp only[tJ,Bool.and_eq_true,beq_iff_eq]at hB;obtain⟨hr,hB'⟩:=hB;have him:i∈Region.ready md ops listed:=by rw[hr];simp
  obtain⟨_,o,ho,_⟩:=mem_ready.1 him;have hol:ops.toList.getD i default=o:=by rw[List.getD_eq_getElem?_getD,Array.getElem?_toList,ho];rfl
  rw[List.length_cons,Nat.add_right_comm];refine⟨hC,fun h0=>(by rw[hr]at h0;cases h0),fun j hj=>?_⟩
  obtain rfl:j=i:=by rw[hr]at hj;simpa using hj
  simp only[aW,List.map_cons,hol]at h;have h':wpList P ops (oN C (qX P ops C K (aW ops.toList r))) [o] a w:=h;unfold wpList at h';unfold wpOp;simp only[ho];split
  ·rename_i hw
   rw[if_pos hw]at h'
   rcases h' with h'|⟨-,h'⟩
   ·refine .inl (Oper.wp_mono ?_ (cK (fun _ _ _ h=>h) cL h'))
    intro a' w' hh;obtain⟨hC',hk'⟩:=(hh:oN C (qX P ops C K (aW ops.toList r)) .normal a' w')
    exact b7 hk r _ a' w' hB' hC' hk'
   ·exact(cL h').elim
  ·rename_i hw
   rw[if_neg hw]at h';obtain⟨hC',hk'⟩:=(h':oN C (qX P ops C K (aW ops.toList r)) .normal (a.put o.dst undef) w)
   exact b7 hk r _ _ _ hB' hC' hk'
theorem dC{Q:Act->World->Prop}{K:Act->Prop}{k:Array Bool->Bool}{n:Nat}{w:World}(hs:Region.noSelect ops=true)(hk:∀listed a,k listed=true->K a->bF P md ops C Q n listed a w):
  ∀(o1:List Nat) (listed:Array Bool) (a:Act),tK md ops k o1 listed=true->
  wpQuiet P ops C K (aW ops.toList o1) a->bF P md ops C Q (o1.length+n) listed a w
 |[],listed,a,hB,h=>by rw[List.length_nil,Nat.zero_add];exact hk listed a hB h
 |i::r,listed,a,hB,h=>by
  simp only[tK,Bool.and_eq_true]at hB;obtain⟨⟨⟨hr,hf⟩,hn⟩,hB'⟩:=hB;have him:i∈Region.ready md ops listed:=by simpa using hr
  obtain⟨_,o,ho,_⟩:=mem_ready.1 him;have hol:ops.toList.getD i default=o:=by rw[List.getD_eq_getElem?_getD,Array.getElem?_toList,ho];rfl
  simp only[aW,List.map_cons,hol]at h;have hn':cX o.op=true:=by simpa[ho]using hn
  obtain⟨v,hy,hK⟩:=dV (K:=wpQuiet P ops C K (aW ops.toList r)) hn' h;rw[List.length_cons,Nat.add_right_comm]
  exact fD ho (Region.noSelect_spec hs) _ listed a w (Region.free_spec ho hf) him hy (dC hs hk r _ _ hB' hK)
theorem dD{Q:Act->World->Prop}(hs:Region.noSelect ops=true):∀(l:List (List Nat×List Nat)) (listed:Array Bool) (a:Act) (w:World),tL md ops l listed=true->C w->
  jQ P ops C Q l a w->bF P md ops C Q (pY l) listed a w
 |[],listed,a,w,hB,hC,h=>⟨hC,by simpa[tL]using hB,h⟩
 |ph::r,listed,a,w,hB,hC,h=>
  dC hs (fun listed' a' hB' hK=>b7 (K:=jQ P ops C Q r) (fun l'' a'' w'' zX zW zV=>dD hs r l'' a'' w'' zX zW zV) ph.2 listed' a' w hB' hC hK) ph.1 listed a hB h
theorem cJ{id:Nat}{Q:Exit->Act->World->Prop}{a:Act}{w:World}{l:List Oper}(C:World->Prop)(ps:List (List Nat×List Nat))(hm:P.follows .mixedOrders=true)(hB:oY .any l.toArray ps=true)(hC:C w.drew)
  (h:jQ P l.toArray C (fun a'' w''=>C w''->Q .normal a'' w'') ps a w.drew):(Code.region id l.toArray true).wp P Q a w:=by
 simp only[oY,Bool.and_eq_true,beq_iff_eq]at hB;obtain⟨⟨hs,hlen⟩,hB⟩:=hB;refine wp_region_any hm ?_;have h1:=dD (Q:=fun a'' w''=>C w''->Q .normal a'' w'') (md:=.any) hs ps (Array.replicate l.toArray.size false) a w.drew hB hC h
 rw[hlen]at h1
 exact dU (fun a w hC hq=>hq hC) _ _ _ _ h1
end
end Go.Cm
namespace Go.Cm
def jb(v:Nat):Nat->Nat
 |0=>0
 |n+1=>2*jb v n+(v.testBit n).toNat
theorem jL(v n:Nat):jb v (n+1)=2*jb v n+(v.testBit n).toNat:=rfl
theorem eS(v n:Nat):jb v n<2^n:=by
 induction n with
 |zero=>simp[jb]
 |succ n ih=>
  rw[jL,Nat.pow_succ];have:(v.testBit n).toNat<=1:=by cases v.testBit n<;>simp
  omega
theorem dF(a:Nat)(b:Bool)(i:Nat):(2*a+b.toNat).testBit i=if i=0 then b else a.testBit (i-1):=by
 cases i with
 |zero=>
  rw[Nat.testBit_zero]
  cases b<;>simp<;>omega
 |succ i=>
  rw[Nat.testBit_succ];have:(2*a+b.toNat)/2=a:=by cases b<;>simp<;>omega
  rw[this];simp
theorem bO(v n i:Nat):(jb v n).testBit i=(decide (i<n)&&v.testBit (n-1-i)):=by
 induction n generalizing i with
 |zero=>simp[jb]
 |succ n ih=>
  rw[jL,dF]
  cases i with
  |zero=>simp
  |succ i=>
   rw[if_neg (by omega),Nat.add_sub_cancel,ih]
   rw[show n+1-1-(i+1)=n-1-i by omega]
   simp
theorem e9{a b:Nat}(n:Nat)(ha:a<2^n)(hb:b<2^n)(h:∀i,i<n->a.testBit i=b.testBit i):a=b:=by
 apply Nat.eq_of_testBit_eq
 intro i
 rcases Nat.lt_or_ge i n with hi|hi
 ·exact h i hi
 ·rw[Nat.testBit_lt_two_pow (qd ha (qe (by decide) hi)),Nat.testBit_lt_two_pow (qd hb (qe (by decide) hi))]
end Go.Cm
namespace Go.Cm
open Go.RowKit Go.Proofs
section
variable {w : World} {g : Nat} {vb : Value} {rest n : Nat}
end
def Fr(g:Nat)(vb vb':Value)(w w':World):Prop:=(∀k,k<w.heap.size->k≠g->vb.ownBlock≠some k->w'.heap[k]? =w.heap[k]?)/\(∀k,vb'.ownBlock=some k->vb.ownBlock=some k\/w.heap.size<=k)/\w.heap.size<=w'.heap.size
theorem Fr.refl(g:Nat)(vb:Value)(w:World):Fr g vb vb w w:=⟨fun _ _ _ _=>rfl,fun _ h=>.inl h,qa _⟩
theorem Fr.step{g:Nat}{vb vb':Value}{w w1 w2:World}{row:Option Nat}(h:Fr g vb vb' w w1)(hg:w1.grownBy w2 row)(hr:∀k,row=some k->k=g\/vb'.ownBlock=some k):Fr g vb vb' w w2:=by
 refine⟨fun k hk h1 h2=>?_,h.2.1,qb h.2.2 hg.size⟩
 rw[hg.block k (qd hk h.2.2) ?_,h.1 k hk h1 h2];intro e
 rcases hr k e.symm with q|q
 ·exact h1 q
 ·rcases h.2.1 k q with z|z
  ·exact h2 z
  ·omega
theorem Fr.below{g:Nat}{vb vb':Value}{w w1 w2:World}(h:Fr g vb vb' w w1)(hb:Below w1.heap.size w1 w2):Fr g vb vb' w w2:=h.step (row:=none) (qs hb none) (fun k e=>by cases e)
theorem Fr.val{g:Nat}{vb vb' vc:Value}{w w1:World}{n:Nat}(h:Fr g vb vb' w w1)(hk:∀k,vc.ownBlock=some k->vb'.ownBlock=some k\/n<=k)(hn:w.heap.size<=n):Fr g vb vc w w1:=by
 refine⟨h.1,fun k hk'=>?_,h.2.2⟩
 rcases hk k hk' with q|q
 ·exact h.2.1 k q
 ·exact .inr (by omega)
theorem Fr.trans{g:Nat}{vb vb' vc:Value}{w w1 w2:World}(h:Fr g vb vb' w w1)(k:Fr g vb' vc w1 w2):Fr g vb vc w w2:=by
 refine⟨fun q hq h1 h2=>?_,fun q hq=>?_,qb h.2.2 k.2.2⟩
 ·rw[k.1 q (qd hq h.2.2) h1 ?_,h.1 q hq h1 h2]
  intro e
  rcases h.2.1 q e with z|z
  ·exact h2 z
  ·omega
 ·rcases k.2.1 q hq with z|z
  ·exact h.2.1 q z
  ·exact .inr (qb h.2.2 z)
def uU(N p n:Nat):Nat:=N/2^p%2^n
end Go.Cm
namespace Go.Cm
def kw(x:Nat):Nat:=if 0<x then 2^(15-x)else 0
def fV(L:List Nat):Nat:=(L.map kw).sum
def js(L:List Nat):Nat->Nat
 |0=>0
 |n+1=>if n=0 then 0 else 2*(js L n+L.count n)
def kJ(L:List Nat)(i:Nat):Nat:=(L.take i).count (L.getD i 0)
def jR(L:List Nat)(i:Nat):Nat:=if L.getD i 0=0 then 0 else js L (L.getD i 0)+kJ L i
def fA(L:List Nat):Nat->Nat
 |0=>0
 |k+1=>fA L k+L.count (k+1)*2^(14-k)
theorem o0(k:Nat):fA [] k=0:=by induction k with
 |zero=>rfl
 |succ k ih=>simp[fA,ih]
theorem m5(x:Nat)(L:List Nat)(k:Nat)(hk:k<=15):fA (x::L) k=fA L k+if 0<x/\x<=k then 2^(15-x)else 0:=by
 induction k with
 |zero=>simp[fA];omega
 |succ k ih=>
  simp only[fA];rw[ih (by omega),List.count_cons]
  by_cases h:x=k+1
  ·subst h
   rw[if_neg (show¬(0<k+1/\k+1<=k) by omega),if_pos (show 0<k+1/\k+1<=k+1 by omega),if_pos (beq_self_eq_true _)]
   rw[Nat.add_mul,Nat.one_mul,show 15-(k+1)=14-k by omega];omega
  ·have:(x==k+1)=false:=by simpa using h
   simp only[this,Bool.false_eq_true,if_false,Nat.add_zero]
   by_cases h2:0<x/\x<=k
   ·rw[if_pos h2,if_pos (by omega)];omega
   ·rw[if_neg h2,if_neg (by omega)];omega
theorem o4(L:List Nat)(h:∀x∈L,x<=15):fA L 15=fV L:=by
 induction L with
 |nil=>rw[o0];rfl
 |cons x L ih=>
  rw[m5 x L 15 (by omega),ih (fun y hy=>h y (by simp[hy]))]
  have hx:=h x (by simp)
  unfold fV kw;simp only[List.map_cons,List.sum_cons]
  by_cases h2:0<x
  ·rw[if_pos ⟨h2,hx⟩,if_pos h2];omega
  ·rw[if_neg (by omega),if_neg h2];omega
theorem m6 (L : List Nat) {j k : Nat} (h : j ≤ k) : fA L j ≤ fA L k := by
  induction k with
  | zero => have : j = 0 := by omega
            subst this; exact qa _
  | succ k ih =>
    by_cases e : j = k + 1
    · subst e; exact qa _
    · exact qb (ih (by omega)) (by simp [fA])
theorem m7(L:List Nat)(n:Nat)(hn:n<=14):js L (n+1)*2^(14-n)=fA L n:=by
 induction n with
 |zero=>simp[js,fA]
 |succ n ih=>
  have h:=ih (by omega)
  show(if n+1=0 then 0 else 2*(js L (n+1)+L.count (n+1)))*2^(14-(n+1))=fA L n+L.count (n+1)*2^(14-n)
  rw[if_neg (by omega),<-h]
  obtain⟨q,hq⟩:∃q,14-n=q+1:=⟨13-n,by omega⟩
  rw[hq,show 14-(n+1)=q by omega,Nat.pow_succ,<-Nat.add_mul]
  rw[Nat.mul_comm 2,Nat.mul_assoc,Nat.mul_comm 2]
theorem eA(L:List Nat)(n:Nat)(hn:1<=n):js L (n+1)=2*(js L n+L.count n):=by
 show(if n=0 then 0 else 2*(js L n+L.count n))=_
 rw[if_neg (by omega)]
section
variable {L : List Nat} (hL : ∀ x ∈ L, x ≤ 15) (hK : fV L ≤ 32768)
include hL hK
theorem rD(n:Nat)(h1:1<=n)(h2:n<=15):js L n+L.count n<=2^n:=by
 obtain⟨m,rfl⟩:∃m,n=m+1:=⟨n-1,by omega⟩
 have h:=m7 L m (by omega)
 have h3:fA L (m+1)<=fA L 15:=m6 L (by omega)
 rw[o4 L hL]at h3
 have h4:fA L (m+1)=(js L (m+1)+L.count (m+1))*2^(14-m):=by
  show fA L m+L.count (m+1)*2^(14-m)=_
  rw[<-h,Nat.add_mul]
 have h5:(js L (m+1)+L.count (m+1))*2^(14-m)<=2^(m+1)*2^(14-m):=by
  rw[<-h4,<-Nat.pow_add,show m+1+(14-m)=15 by omega]
  exact qb h3 hK
 exact Nat.le_of_mul_le_mul_right h5 (Nat.pow_pos (by decide))
end
theorem m8(L:List Nat)(n d:Nat)(h1:1<=n):(js L n+L.count n)*2^(d+1)<=js L (n+(d+1)):=by
 induction d with
 |zero=>rw[show n+(0+1)=n+1 by omega,eA L n h1];omega
 |succ d ih=>
  rw[show n+(d+1+1)=(n+(d+1))+1 by omega,eA L _ (by omega),Nat.pow_succ,<-Nat.mul_assoc]
  omega
theorem m9(L:List Nat)(i:Nat)(hi:i<L.length):kJ L i<L.count (L.getD i 0):=by
 unfold kJ;have h:=qE L i 0 hi;have h2:(L.take (i+1)).count (L.getD i 0)<=L.count (L.getD i 0):=List.Sublist.count_le _ (List.take_sublist _ _);rw[h,List.count_append]at h2;simp only[List.count_cons_self,List.count_nil]at h2;omega
theorem aG(L:List Nat)(i n:Nat)(hi:i<L.length):(L.take (i+1)).count n=(L.take i).count n+if L.getD i 0=n then 1 else 0:=by
 rw[qE L i 0 hi,List.count_append,List.count_singleton]
 by_cases h:L.getD i 0=n
 ·simp
 ·rw[if_neg h,if_neg (by simpa using h)]
theorem rE{L:List Nat}(hL:∀x∈L,x<=15)(hK:fV L<=32768)(i:Nat)(hi:i<L.length):jR L i<2^L.getD i 0:=by
 unfold jR;split
 ·rename_i h;rw[h];decide
 ·have h15:=hL _ (nS L i 0 hi)
  have:=rD hL hK (L.getD i 0) (by omega) h15
  have:=m9 L i hi;omega
theorem dG{L:List Nat}(i:Nat)(hi:i<L.length)(h0:L.getD i 0≠0):js L (L.getD i 0)<=jR L i/\jR L i<js L (L.getD i 0)+L.count (L.getD i 0):=by
 unfold jR;rw[if_neg h0];have:=m9 L i hi;omega
theorem kK{L:List Nat}(i j:Nat)(hi:i<L.length)(hj:j<L.length)(h0:L.getD i 0≠0)(hle:L.getD i 0<=L.getD j 0)(h:jR L j/2^(L.getD j 0-L.getD i 0)=jR L i):i=j:=by
 by_cases he:L.getD i 0=L.getD j 0
 ·rw[he,Nat.sub_self,Nat.pow_zero,Nat.div_one]at h
  unfold jR at h;rw[if_neg (by omega),if_neg h0,he]at h
  have hr:kJ L i=kJ L j:=by omega
  unfold kJ at hr;rw[he]at hr
  rcases Nat.lt_trichotomy i j with hlt|rfl|hlt
  ·have h1:=aG L i (L.getD j 0) hi
   rw[if_pos he]at h1;have h2:(L.take (i+1)).count (L.getD j 0)<=(L.take j).count (L.getD j 0):=List.Sublist.count_le _ (List.take_sublist_take_left (by omega))
   omega
  ·rfl
  ·have h1:=aG L j (L.getD j 0) hj
   rw[if_pos rfl]at h1;have h2:(L.take (j+1)).count (L.getD j 0)<=(L.take i).count (L.getD j 0):=List.Sublist.count_le _ (List.take_sublist_take_left (by omega))
   omega
 ·exfalso
  have h1:=dG i hi h0;have h2:=dG j hj (by omega)
  obtain⟨d,hd⟩:∃d,L.getD j 0=L.getD i 0+(d+1):=⟨L.getD j 0-L.getD i 0-1,by omega⟩
  have h3:=m8 L (L.getD i 0) d (by omega)
  rw[<-hd]at h3;have h4:(js L (L.getD i 0)+L.count (L.getD i 0))*2^(d+1)<=jR L j:=qb h3 h2.1;rw[show L.getD j 0-L.getD i 0=d+1 by omega]at h
  have h5:=(Nat.le_div_iff_mul_le (Nat.pow_pos (n:=d+1) (show 0<2 by decide))).2 h4
  omega
theorem aH(V m n:Nat)(h:n<=m):jb (V%2^m) n=jb V n:=by
 refine e9 n (eS _ _) (eS _ _) fun i hi=>?_
 rw[bO,bO,Nat.testBit_mod_two_pow,decide_eq_true (show n-1-i<m by omega),Bool.true_and]
theorem fW(V n d:Nat):jb V (n+d)/2^d=jb V n:=by
 induction d with
 |zero=>simp
 |succ d ih=>
  rw[<-Nat.add_assoc,jL,Nat.pow_succ,Nat.mul_comm (2^d),<-Nat.div_div_eq_div_mul];have hb:(V.testBit (n+d)).toNat<=1:=by cases V.testBit (n+d)<;>simp
  rw[show(2*jb V (n+d)+(V.testBit (n+d)).toNat)/2=jb V (n+d) by omega,ih]
def mB(L:List Nat)(V i:Nat):Prop:=L.getD i 0≠0/\jR L i=jb V (L.getD i 0)
theorem rF{L:List Nat}{V i j:Nat}(hi:i<L.length)(hj:j<L.length)(h1:mB L V i)(h2:mB L V j):i=j:=by
 have key:∀i j,i<L.length->j<L.length->mB L V i->mB L V j->L.getD i 0<=L.getD j 0->i=j:=by
  intro i j hi hj h1 h2 hle;refine kK i j hi hj h1.1 hle ?_;rw[h2.2,h1.2];obtain⟨d,hd⟩:∃d,L.getD j 0=L.getD i 0+d:=⟨L.getD j 0-L.getD i 0,by omega⟩
  rw[hd,Nat.add_sub_cancel_left,fW]
 rcases Nat.le_total (L.getD i 0) (L.getD j 0)with h|h
 ·exact key i j hi hj h1 h2 h
 ·exact(key j i hj hi h2 h1 h).symm
end Go.Cm
namespace Go.Cm
structure Ent where
 s:Nat
 b:Nat
 t:Nat
def Ent.zero:Ent:=⟨0,0,0⟩
structure Sub where
 g:Nat
 m:Nat
 F:Nat->Ent
theorem jS(c n:Nat)(h:c<2^n):jb (jb c n) n=c:=by
 refine e9 n (eS _ _) h fun i hi=>?_
 rw[bO,bO,decide_eq_true hi,Bool.true_and,decide_eq_true (show n-1-i<n by omega),Bool.true_and]
 congr 1;omega
theorem o5(x c n:Nat)(h:c<2^n):x%2^n=jb c n↔c=jb x n:=by
 constructor
 ·intro he
  rw[<-aH x n n (qa _),he,jS c n h]
 ·intro he
  rw[he,<-aH x n n (qa _),jS _ n (Nat.mod_lt _ (Nat.pow_pos (by decide)))]
theorem mC(V n r:Nat):jb V (n+r)=jb V n*2^r+jb (V/2^n) r:=by
 induction r with
 |zero=>simp[jb]
 |succ r ih=>
  rw[<-Nat.add_assoc,jL,ih,jL,Nat.testBit_div_two_pow,Nat.pow_succ,Nat.add_comm r n,Nat.mul_add,<-Nat.mul_assoc (jb V n),Nat.mul_comm (jb V n*2^r) 2];omega
def eT(L:List Nat)(j x:Nat):Prop:=9<L.getD j 0/\jR L j/2^(L.getD j 0-9)=jb x 9
section
variable {L : List Nat}
theorem dH{V j:Nat}(h:mB L V j)(h9:9<L.getD j 0):eT L j (V%512):=by
 refine⟨h9,?_⟩;rw[h.2];obtain⟨d,hd⟩:∃d,L.getD j 0=9+d:=⟨L.getD j 0-9,by omega⟩
 rw[hd,Nat.add_sub_cancel_left,fW,show(512:Nat)=2^9 by decide,aH V 9 9 (qa _)]
theorem iO{j x y:Nat}(hx:x<512)(hy:y<512)(h:eT L j x)(k:eT L j y):x=y:=by
 have e:=h.2.symm.trans k.2;have h1:=jS x 9 (by simpa using hx)
 have h2:=jS y 9 (by simpa using hy)
 rw[<-h1,<-h2,e]
structure kL(L:List Nat)(i:Nat)(E:Nat->Ent)(fs:List Sub):Prop where
 low:∀x,x<512->(E x).t=0->(∀j,j<i->mB L x j->L.getD j 0<=9->E x=⟨j,L.getD j 0,0⟩)/\((E x).b≠0->∃j,j<i/\mB L x j/\L.getD j 0<=9)
 far:∀x k,x<512->(E x).t=k+1->∃f,fs[k]? =some f/\f.m<=6/\(∀j,j<L.length->eT L j x->L.getD j 0<=9+f.m)/\(∃j,j<i/\eT L j x)/\
  ∀y,y<2^f.m->(∀j,j<i->9<L.getD j 0->mB L (x+512*y) j->f.F y=⟨j,L.getD j 0,0⟩)/\((f.F y).b≠0->∃j,j<i/\9<L.getD j 0/\mB L (x+512*y) j)
 one:∀x y,x<512->y<512->(E x).t=(E y).t->(E x).t≠0->x=y
 all:∀j,j<i->∀x,x<512->eT L j x->(E x).t≠0
variable {i : Nat} {E : Nat → Ent} {fs : List Sub}
def sT(E:Nat->Ent)(c n:Nat)(e:Ent):Nat->Ent:=fun x=>if x%2^n=jb c n then e else E x
theorem kL.none(h:kL L i E fs)(h0:L.getD i 0=0):kL L (i+1) E fs:=by
 have hno:∀V,¬mB L V i:=fun V hh=>hh.1 h0
 have hnh:∀x,¬eT L i x:=fun x hh=>by have:=hh.1;omega
 refine⟨fun x hx ht=>?_,fun x k hx ht=>?_,h.one,fun j hj x hx hh=>?_⟩
 ·obtain⟨h1,h2⟩:=h.low x hx ht
  refine⟨fun j hj hh=>?_,fun hb=>?_⟩
  ·rcases Nat.lt_succ_iff_lt_or_eq.1 hj with hj|rfl
   ·exact h1 j hj hh
   ·exact absurd hh (hno _)
  ·obtain⟨j,hj,hr⟩:=h2 hb;exact⟨j,by omega,hr⟩
 ·obtain⟨f,hf,hm,hl,⟨j0,hj0,hh0⟩,hy⟩:=h.far x k hx ht
  refine⟨f,hf,hm,hl,⟨j0,by omega,hh0⟩,fun y hym=>?_⟩
  obtain⟨h1,h2⟩:=hy y hym;refine⟨fun j hj h9 hh=>?_,fun hb=>?_⟩
  ·rcases Nat.lt_succ_iff_lt_or_eq.1 hj with hj|rfl
   ·exact h1 j hj h9 hh
   ·exact absurd hh (hno _)
  ·obtain⟨j,hj,hr⟩:=h2 hb;exact⟨j,by omega,hr⟩
 ·rcases Nat.lt_succ_iff_lt_or_eq.1 hj with hj|rfl
  ·exact h.all j hj x hx hh
  ·exact absurd hh (hnh _)
def sU(E:Nat->Ent)(x:Nat)(e:Ent):Nat->Ent:=fun z=>if z=x then e else E z
theorem o6(_hc:∀j,j<L.length->jR L j<2^L.getD j 0){i x y r:Nat}(_hi:i<L.length)(hx:x<512)(hr:L.getD i 0=9+r)(hh:jR L i/2^r=jb x 9):
  (y%2^r=jb (jR L i%2^r) r↔jR L i=jb (x+512*y) (L.getD i 0)):=by
 have hm:jR L i%2^r<2^r:=Nat.mod_lt _ (Nat.pow_pos (by decide))
 rw[o5 _ _ _ hm,hr,mC];have h1:(x+512*y)/2^9=y:=by rw[show(2:Nat)^9=512 by decide];omega
 have h2:jb (x+512*y) 9=jb x 9:=by
  rw[<-aH (x+512*y) 9 9 (qa _),<-aH x 9 9 (qa _),show(2:Nat)^9=512 by decide]
  congr 1;omega
 rw[h1,h2,<-hh];have h3:=Nat.div_add_mod (jR L i) (2^r);rw[Nat.mul_comm]at h3
 constructor
 ·intro h;rw[<-h];omega
 ·intro h;omega
theorem kL.fresh(h:kL L i E fs)(hi:i<L.length)(h15:∀x∈L,x<=15)(hk:fV L<=32768)(h9:9<L.getD i 0){x:Nat}(hx:x<512)(hh:eT L i x)(ht:(E x).t=0){g m:Nat}(hm:m<=6)(hml:∀j,j<L.length->eT L j x->L.getD j 0<=9+m){b:Nat}:
  kL L (i+1) (sU E x ⟨0,b,fs.length+1⟩) (fs++[⟨g,m,sT (fun _=>Ent.zero) (jR L i%2^(L.getD i 0-9)) (L.getD i 0-9) ⟨i,L.getD i 0,0⟩⟩]):=by
 have hc:=fun j hj=>rE h15 hk j hj
 have hr:L.getD i 0=9+(L.getD i 0-9):=by omega
 have hEx:sU E x ⟨0,b,fs.length+1⟩ x=⟨0,b,fs.length+1⟩:=by unfold sU;rw[if_pos rfl]
 have hEz:∀z,z≠x->sU E x ⟨0,b,fs.length+1⟩ z=E z:=fun z hz=>by unfold sU;rw[if_neg hz]
 have hle:∀z k,z<512->(E z).t=k+1->k<fs.length:=fun z k hz htz=>by
  obtain⟨f,hf,_⟩:=h.far z k hz htz
  exact(List.getElem?_eq_some_iff.1 hf).1
 have hlt:∀z,z<512->(E z).t<=fs.length:=fun z hz=>by
  cases hq:(E z).t with
  |zero=>omega
  |succ k=>exact hle z k hz hq
 refine⟨fun z hz htz=>?_,fun z q hz htz=>?_,fun y z hy hz he hne=>?_,fun j hj z hz hhz=>?_⟩
 ·by_cases hzx:z=x
  ·subst hzx;rw[hEx]at htz;cases htz
  ·rw[hEz z hzx]at htz⊢
   obtain⟨h1,h2⟩:=h.low z hz htz;refine⟨fun j hj hhj hj9=>?_,fun hb=>?_⟩
   ·rcases Nat.lt_succ_iff_lt_or_eq.1 hj with hj|rfl
    ·exact h1 j hj hhj hj9
    ·omega
   ·obtain⟨j,hj,hr⟩:=h2 hb;exact⟨j,by omega,hr⟩
 ·by_cases hzx:z=x
  ·subst hzx
   rw[hEx]at htz;obtain rfl:fs.length=q:=by simpa using htz
   refine⟨_,by rw[List.getElem?_append_right (qa _),Nat.sub_self];rfl,hm,hml,⟨i,by omega,hh⟩,fun y hym=>?_⟩
   have hkey:=o6 hc (i:=i) (x:=z) (y:=y) hi hz hr hh.2;simp only[sT]
   by_cases hmt:y%2^(L.getD i 0-9)=jb (jR L i%2^(L.getD i 0-9)) (L.getD i 0-9)
   ·rw[if_pos hmt]
    have yG:mB L (z+512*y) i:=⟨by omega,hkey.1 hmt⟩
    refine⟨fun j hj hj9 hhj=>?_,fun _=>⟨i,by omega,h9,yG⟩⟩
    have:i=j:=rF hi (by omega) yG hhj
    subst this;rfl
   ·rw[if_neg hmt]
    refine⟨fun j hj hj9 hhj=>?_,fun hb=>absurd rfl hb⟩
    rcases Nat.lt_succ_iff_lt_or_eq.1 hj with hj|rfl
    ·have hz2:=dH hhj hj9
     rw[show(z+512*y)%512=z by omega]at hz2
     exact absurd ht (h.all j hj z hz hz2)
    ·exact absurd (hkey.2 hhj.2) hmt
  ·rw[hEz z hzx]at htz
   obtain⟨f',hf',hm',hl,⟨j0,hj0,hh0⟩,hy⟩:=h.far z q hz htz;refine⟨f',by rw[List.getElem?_append_left (hle z q hz htz)];exact hf',hm',hl,⟨j0,by omega,hh0⟩,fun y hym=>?_⟩
   obtain⟨h1,h2⟩:=hy y hym;refine⟨fun j hj hj9 hhj=>?_,fun hb=>?_⟩
   ·rcases Nat.lt_succ_iff_lt_or_eq.1 hj with hj|rfl
    ·exact h1 j hj hj9 hhj
    ·have hz2:=dH hhj hj9
     rw[show(z+512*y)%512=z by omega]at hz2
     exact absurd (iO hz hx hz2 hh) hzx
   ·obtain⟨j,hj,hr⟩:=h2 hb;exact⟨j,by omega,hr⟩
 ·by_cases hyx:y=x
  ·by_cases hzx:z=x
   ·rw[hyx,hzx]
   ·rw[hyx,hEx,hEz z hzx]at he
    have:=hlt z hz;simp only at he;omega
  ·by_cases hzx:z=x
   ·rw[hEz y hyx,hzx,hEx]at he
    have:=hlt y hy;simp only at he;omega
   ·rw[hEz y hyx,hEz z hzx]at he
    rw[hEz y hyx]at hne
    exact h.one y z hy hz he hne
 ·by_cases hzx:z=x
  ·subst hzx;rw[hEx];simp
  ·rw[hEz z hzx]
   rcases Nat.lt_succ_iff_lt_or_eq.1 hj with hj|rfl
   ·exact h.all j hj z hz hhz
   ·exact absurd (iO hz hx hhz hh) hzx
end
end Go.Cm
namespace Go.Cm
open Go.RowKit
inductive Scr where
 |done
 |q (i:Nat) (s:Scr)
 |br (i:Nat) (s:Scr) (t:Scr)
 |no
def Scr.heads:Scr->List Nat
 |.br i _ t=>i::t.heads
 |_=>[]
def Scr.run(md:Region.Mode)(ops:Array Oper):Scr->Bool->Nat->Array Bool->Bool
 |.done,top,n,listed=>top&&n==0&&Region.ready md ops listed==[]
 |.q i s,top,n,listed=>top&&decide (0<n)&&(Region.ready md ops listed).contains i&&Region.free md ops listed i&&((ops[i]?).map (fun o=>cX o.op)).getD false&&s.run md ops true (n-1) (listed.setIfInBounds i true)
 |.br i s t,top,n,listed=>(!top||Region.ready md ops listed==i::t.heads)&&decide (0<n)&&((ops[i]?).isSome)&&s.run md ops true (n-1) (listed.setIfInBounds i true)&&t.run md ops false n listed
 |.no,top,_,_=> !top
def Scr.as:List Nat->Scr->Scr
 |[],s=>s
 |i::r,s=>.br i (Scr.as r s) .no
section
variable {P : Program} {ops : Array Oper} {md : Region.Mode} {C : World → Prop}
end
end Go.Cm
namespace Go.Cm
open Go.RowKit Go.Extern.Stop Go.Stop Go.Extern Go.Proofs
theorem Ea.valueOf27(t:Addr)(w:World):(ReflectliteValue.unpack (.iface 67 (.pointer (some t)))).run Tryd.prog w
  =.ok (.agg #[.pointer (some ⟨7,67,none⟩),.pointer (some ⟨w.heap.size,0,none⟩),.int .u64 150]) (w.alloc (.cells #[.pointer (some t)] 67)):=by kernel_rfl
theorem Ea.type27(a:Addr)(w:World):(ReflectliteValue.methodAny (ReflectliteValue.valueError "reflectlite.Value.Type" 0) (fun t _ _ _=>ReflectliteType.toType t) #[.agg #[.pointer (some ⟨7,67,none⟩),.pointer (some a),.int .u64 150]]).run Tryd.prog w
  =.ok (.iface 101 (.agg #[.pointer (some ⟨7,67,none⟩)])) w:=by kernel_rfl
theorem Ea.methodKind(h:Value)(w:World):(Go.method 266 101 (.agg #[h]) "Kind").run Tryd.prog w=.ok (99,h) w:=by kernel_rfl
theorem Ea.kind27(w:World):((ReflectliteType.abiMethod fun t=>Functor.map (fun a:Nat=>Value.int IntKind.u8 (a:Int)) (Rtype.kind t)) #[.pointer (some ⟨7,67,none⟩)]).run Tryd.prog w=.ok (.int .u8 22) w:=by kernel_rfl
theorem Ea.kind25(w:World):((ReflectliteType.abiMethod fun t=>Functor.map (fun a:Nat=>Value.int IntKind.u8 (a:Int)) (Rtype.kind t)) #[.pointer (some ⟨7,52,none⟩)]).run Tryd.prog w=.ok (.int .u8 22) w:=by kernel_rfl
theorem rlm(z:Sem Value)(f:TypeId->Addr->Nat->Nat->Sem Value)(v:Value):
  ReflectliteValue.method z f #[v]=(do match<-ReflectliteValue.parts v with|none=>z|some (t,a,fl)=>f t a fl (fl%32)):=rfl
theorem Ea.parts27(a:Addr)(w:World):(ReflectliteValue.parts (.agg #[.pointer (some ⟨7,67,none⟩),.pointer (some a),.int .u64 150])).run Tryd.prog w=.ok (some (67,a,150)) w:=by kernel_rfl
theorem Ea.isNil27(a p:Addr)(W:World)(ha:W.cell? a=some (.pointer (some p))):
  (ReflectliteValue.method (ReflectliteValue.valueError "reflectlite.Value.IsNil" 0) ReflectliteValue.isNil #[.agg #[.pointer (some ⟨7,67,none⟩),.pointer (some a),.int .u64 150]]).run Tryd.prog W=.ok (.bool false) W:=by
 rw[rlm];simp only[Sem.run_bind,Ea.parts27,Result.andThen]
 simp[ReflectliteValue.isNil,loadVar,isAgg,underlying,Tryd.underlying67,ha,Result.andThen]
theorem Ea.methodElem(h:Value)(w:World):(Go.method 266 101 (.agg #[h]) "Elem").run Tryd.prog w=.ok (109,.agg #[h]) w:=by kernel_rfl
theorem Ea.methodImplements(h:Value)(w:World):(Go.method 266 101 (.agg #[h]) "Implements").run Tryd.prog w=.ok (110,.agg #[h]) w:=by kernel_rfl
theorem Ea.methodAssignableTo(h:Value)(w:World):(Go.method 266 101 (.agg #[h]) "AssignableTo").run Tryd.prog w=.ok (107,.agg #[h]) w:=by kernel_rfl
theorem Ea.elem27(w:World):(ReflectliteType.method ReflectliteType.elem #[.agg #[.pointer (some ⟨7,67,none⟩)]]).run Tryd.prog w=.ok (.iface 101 (.agg #[.pointer (some ⟨7,52,none⟩)])) w:=by kernel_rfl
theorem Ea.implements25(w:World):(ReflectliteType.relation "Implements" ReflectliteType.implements_ #[.agg #[.pointer (some ⟨7,52,none⟩)],.iface 101 (.agg #[.pointer (some ⟨7,30,none⟩)])]).run Tryd.prog w=.ok (.bool true) w:=by kernel_rfl
theorem Ea.typeOf25(v:Value)(w:World):(ReflectliteType.typeOf #[.iface 52 v]).run Tryd.prog w=.ok (.iface 101 (.agg #[.pointer (some ⟨7,52,none⟩)])) w:=by kernel_rfl
theorem Ea.assignable25(w:World):(ReflectliteType.relation "AssignableTo" ReflectliteType.assignableTo #[.agg #[.pointer (some ⟨7,52,none⟩)],.iface 101 (.agg #[.pointer (some ⟨7,52,none⟩)])]).run Tryd.prog w=.ok (.bool true) w:=by kernel_rfl
theorem Ea.valueOf25(e:Addr)(w:World):(ReflectliteValue.unpack (.iface 52 (.pointer (some e)))).run Tryd.prog w
  =.ok (.agg #[.pointer (some ⟨7,52,none⟩),.pointer (some ⟨w.heap.size,0,none⟩),.int .u64 150]) (w.alloc (.cells #[.pointer (some e)] 52)):=by kernel_rfl
theorem Ea.elemOf27(w:World):(Rtype.elem? 67).run Tryd.prog w=.ok (some 52) w:=by kernel_rfl
theorem Ea.mk25(p:Addr)(w:World):(ReflectliteValue.mk 52 p ReflectliteValue.flagAddr).run Tryd.prog w=.ok (.agg #[.pointer (some ⟨7,52,none⟩),.pointer (some p),.int .u64 406]) w:=by kernel_rfl
theorem Ea.elemV27(a p:Addr)(W:World)(ha:W.cell? a=some (.pointer (some p))):
  (ReflectliteValue.method (ReflectliteValue.valueError "reflectlite.Value.Elem" 0) ReflectliteValue.elem #[.agg #[.pointer (some ⟨7,67,none⟩),.pointer (some a),.int .u64 150]]).run Tryd.prog W
   =.ok (.agg #[.pointer (some ⟨7,52,none⟩),.pointer (some p),.int .u64 406]) W:=by
 rw[rlm];simp only[Sem.run_bind,Ea.parts27,Result.andThen]
 simp[ReflectliteValue.elem,loadVar,isAgg,underlying,Tryd.underlying67,ha,Result.andThen,Ea.elemOf27,Ea.mk25]
theorem rls(v x:Value):ReflectliteValue.set #[v,x]=(do
  let (some (dst,a,fl),some (src,b,_)):=(<-ReflectliteValue.parts v,<-ReflectliteValue.parts x)
   |unsupported (.noEntry "extern/(internal/reflectlite.Value).Set.zeroValue")
  if fl/ReflectliteValue.flagAddr%2==0 then unsupported (.noEntry "extern/(internal/reflectlite.Value).Set.unaddressable")
  let val<-loadVar src b
  if<-Rtype.directlyAssignable dst src then storeVar dst a val
  else if<-Rtype.implements dst src then
   if(<-Rtype.kind src)==20 then
    match val with
    |.nilIface=>unsupported (.noEntry "extern/reflectlite: a nil value of one interface type handed on as a value of another")
    |_=>storeVar dst a val
   else storeVar dst a (.iface src val)
  else panicString ("reflectlite.Set: value of type " ++(<-Rtype.spelt src)++ " is not assignable to type " ++(<-Rtype.spelt dst))
  pure (.tuple #[])):=rfl
theorem Ea.parts25a(a:Addr)(w:World):(ReflectliteValue.parts (.agg #[.pointer (some ⟨7,52,none⟩),.pointer (some a),.int .u64 406])).run Tryd.prog w=.ok (some (52,a,406)) w:=by kernel_rfl
theorem Ea.parts25(a:Addr)(w:World):(ReflectliteValue.parts (.agg #[.pointer (some ⟨7,52,none⟩),.pointer (some a),.int .u64 150])).run Tryd.prog w=.ok (some (52,a,150)) w:=by kernel_rfl
theorem Ea.direct25(w:World):(Rtype.directlyAssignable 52 52).run Tryd.prog w=.ok true w:=by kernel_rfl
theorem Ea.set25(ta b e:Addr)(old:Value)(W:World)(hb:W.cell? b=some (.pointer (some e)))(ht:W.cell? ta=some old)(hf:W.frozen? ta=false):
  (ReflectliteValue.set #[.agg #[.pointer (some ⟨7,52,none⟩),.pointer (some ta),.int .u64 406],.agg #[.pointer (some ⟨7,52,none⟩),.pointer (some b),.int .u64 150]]).run Tryd.prog W
   =.ok (.tuple #[]) (W.setCell ta (.pointer (some e))):=by
 rw[rls];simp only[Sem.run_bind,Ea.parts25a,Ea.parts25,Result.andThen]
 simp[ReflectliteValue.flagAddr,loadVar,isAgg,underlying,Tryd.underlying52,hb,Result.andThen,Ea.direct25,storeVar,Value.cells,storeCells,Addr.add]
 rw[run_store Tryd.prog W ta _ _ (by rfl)]
 simp[ht,hf]
theorem Ea.typeOf29(v:Value)(w:World):(ReflectliteType.typeOf #[.iface 134 v]).run Tryd.prog w=.ok (.iface 101 (.agg #[.pointer (some ⟨7,134,none⟩)])) w:=by kernel_rfl
theorem Ea.assignable29(w:World):(ReflectliteType.relation "AssignableTo" ReflectliteType.assignableTo #[.agg #[.pointer (some ⟨7,134,none⟩)],.iface 101 (.agg #[.pointer (some ⟨7,52,none⟩)])]).run Tryd.prog w=.ok (.bool false) w:=by kernel_rfl
theorem Ea.noAs(v:Value)(xT:TypeId)(w:World):(Instr.typeAssert (.iface 134 v) xT 106 true).run Tryd.prog w=.ok (.tuple #[.nilIface,.bool false]) w:=run_typeAssert_lacksB Tryd.underlying106 (by kernel_rfl) (by kernel_rfl) v xT w
theorem Ea.noUn(v:Value)(xT:TypeId)(w:World):(Instr.typeAssert (.iface 134 v) xT 109 true).run Tryd.prog w=.ok (.tuple #[.nilIface,.bool false]) w:=run_typeAssert_lacksB Tryd.underlying109 (by kernel_rfl) (by kernel_rfl) v xT w
theorem Ea.noUns(v:Value)(xT:TypeId)(w:World):(Instr.typeAssert (.iface 134 v) xT 111 true).run Tryd.prog w=.ok (.tuple #[.nilIface,.bool false]) w:=run_typeAssert_lacksB Tryd.underlying111 (by kernel_rfl) (by kernel_rfl) v xT w
theorem rL(e:Value)(t:Addr)(w:World)(hg:w.cell? ⟨0,0,none⟩=some (.iface 101 (.agg #[.pointer (some ⟨7,30,none⟩)]))):
  Calls Tryd.prog 40 #[.iface 134 e,.iface 67 (.pointer (some t))] w fun ev w'=>ev=.returned (.bool false)/\w'=(((w.alloc (.cells #[.pointer (some t)] 67)).alloc (.cells #[.pointer (some ⟨7,67,none⟩),.pointer (some ⟨w.heap.size,0,none⟩),.int .u64 150] 83)).alloc (.cells #[.pointer (some ⟨7,67,none⟩),.pointer (some ⟨w.heap.size,0,none⟩),.int .u64 150] 83)):=by
 have h6:=@run_callFunc_extern Tryd.prog 50 _ (fun args=>ReflectliteValue.unpack (args.getD 0 (.tuple #[]))) Tryd.func50 (by kernel_rfl) (by kernel_rfl) (by kernel_rfl) (by kernel_rfl)
 have h7:=@run_callFunc_extern Tryd.prog 51 _ (ReflectliteValue.methodAny (ReflectliteValue.valueError "reflectlite.Value.Type" 0) (fun t _ _ _=>ReflectliteType.toType t)) Tryd.func51 (by kernel_rfl) (by kernel_rfl) (by kernel_rfl) (by kernel_rfl)
 have h8:=@run_callFunc_extern Tryd.prog 52 _ (ReflectliteValue.method (ReflectliteValue.valueError "reflectlite.Value.IsNil" 0) ReflectliteValue.isNil) Tryd.func52 (by kernel_rfl) (by kernel_rfl) (by kernel_rfl) (by kernel_rfl)
 have h27:=@run_callFunc_extern Tryd.prog 99 _ (ReflectliteType.abiMethod fun t=>do pure (.int .u8 (<-Rtype.kind t))) Tryd.func99 (by kernel_rfl) (by kernel_rfl) (by kernel_rfl) (by kernel_rfl)
 have h37:=@run_callFunc_extern Tryd.prog 109 _ (ReflectliteType.method ReflectliteType.elem) Tryd.func109 (by kernel_rfl) (by kernel_rfl) (by kernel_rfl) (by kernel_rfl)
 have h38:=@run_callFunc_extern Tryd.prog 110 _ (ReflectliteType.relation "Implements" ReflectliteType.implements_) Tryd.func110 (by kernel_rfl) (by kernel_rfl) (by kernel_rfl) (by kernel_rfl)
 have h10:=@run_callFunc_extern Tryd.prog 61 _ ReflectliteType.typeOf Tryd.func61 (by kernel_rfl) (by kernel_rfl) (by kernel_rfl) (by kernel_rfl)
 have h35:=@run_callFunc_extern Tryd.prog 107 _ (ReflectliteType.relation "AssignableTo" ReflectliteType.assignableTo) Tryd.func107 (by kernel_rfl) (by kernel_rfl) (by kernel_rfl) (by kernel_rfl)
 have tO:=Ea.typeOf29;have a25:=Ea.assignable29;have x1:=Ea.noAs;have x2:=Ea.noUn;have x3:=Ea.noUns;have f6:=Ea.valueOf27;have f7:=Ea.type27;have mK:=Ea.methodKind;have mE:=Ea.methodElem;have mI:=Ea.methodImplements;have k27:=Ea.kind27;have k25:=Ea.kind25;have e27:=Ea.elem27;have i25:=Ea.implements25;have mA:=Ea.methodAssignableTo;have n8:=Ea.isNil27 ⟨w.heap.size,0,none⟩ t ((w.alloc (.cells #[.pointer (some t)] 67)).alloc (.cells #[.pointer (some ⟨7,67,none⟩),.pointer (some ⟨w.heap.size,0,none⟩),.int .u64 150] 83)) (by simp)
 have hlt:0<w.heap.size:=by
  rcases Nat.lt_or_ge 0 w.heap.size with h|h
  ·exact h
  ·simp[World.cell?,Array.getElem?_eq_none h]at hg
 have hg2:((w.alloc (.cells #[.pointer (some t)] 67)).alloc (.cells #[.pointer (some ⟨7,67,none⟩),.pointer (some ⟨w.heap.size,0,none⟩),.int .u64 150] 83)).cell? ⟨0,0,none⟩=some (.iface 101 (.agg #[.pointer (some ⟨7,30,none⟩)])):=by
  rw[World.cell?_alloc_lt _ _ ⟨0,0,none⟩ (by first|(simp;done)|(simp;omega)),World.cell?_alloc_lt _ _ ⟨0,0,none⟩ hlt];exact hg
 go_enter Tryd.func40,Tryd.ntmps40
 go_wp2;refine wp_loop_rounds 1 ?_;rw[rounds_succ];go_wp2;go_ret
 exact⟨rfl,rfl⟩
theorem sY(e t:Addr)(old:Value)(w:World)(hg:w.cell? ⟨0,0,none⟩=some (.iface 101 (.agg #[.pointer (some ⟨7,30,none⟩)])))(ht0:w.cell? t=some old)(hf0:w.frozen? t=false):
  Calls Tryd.prog 40 #[.iface 52 (.pointer (some e)),.iface 67 (.pointer (some t))] w fun ev w'=>ev=.returned (.bool true)/\w'=((((w.alloc (.cells #[.pointer (some t)] 67)).alloc (.cells #[.pointer (some ⟨7,67,none⟩),.pointer (some ⟨w.heap.size,0,none⟩),.int .u64 150] 83)).alloc (.cells #[.pointer (some ⟨7,67,none⟩),.pointer (some ⟨w.heap.size,0,none⟩),.int .u64 150] 83)).alloc (.cells #[.pointer (some e)] 52)).setCell t (.pointer (some e)):=by
 have h6:=@run_callFunc_extern Tryd.prog 50 _ (fun args=>ReflectliteValue.unpack (args.getD 0 (.tuple #[]))) Tryd.func50 (by kernel_rfl) (by kernel_rfl) (by kernel_rfl) (by kernel_rfl)
 have h7:=@run_callFunc_extern Tryd.prog 51 _ (ReflectliteValue.methodAny (ReflectliteValue.valueError "reflectlite.Value.Type" 0) (fun t _ _ _=>ReflectliteType.toType t)) Tryd.func51 (by kernel_rfl) (by kernel_rfl) (by kernel_rfl) (by kernel_rfl)
 have h8:=@run_callFunc_extern Tryd.prog 52 _ (ReflectliteValue.method (ReflectliteValue.valueError "reflectlite.Value.IsNil" 0) ReflectliteValue.isNil) Tryd.func52 (by kernel_rfl) (by kernel_rfl) (by kernel_rfl) (by kernel_rfl)
 have h27:=@run_callFunc_extern Tryd.prog 99 _ (ReflectliteType.abiMethod fun t=>do pure (.int .u8 (<-Rtype.kind t))) Tryd.func99 (by kernel_rfl) (by kernel_rfl) (by kernel_rfl) (by kernel_rfl)
 have h37:=@run_callFunc_extern Tryd.prog 109 _ (ReflectliteType.method ReflectliteType.elem) Tryd.func109 (by kernel_rfl) (by kernel_rfl) (by kernel_rfl) (by kernel_rfl)
 have h38:=@run_callFunc_extern Tryd.prog 110 _ (ReflectliteType.relation "Implements" ReflectliteType.implements_) Tryd.func110 (by kernel_rfl) (by kernel_rfl) (by kernel_rfl) (by kernel_rfl)
 have h10:=@run_callFunc_extern Tryd.prog 61 _ ReflectliteType.typeOf Tryd.func61 (by kernel_rfl) (by kernel_rfl) (by kernel_rfl) (by kernel_rfl)
 have h35:=@run_callFunc_extern Tryd.prog 107 _ (ReflectliteType.relation "AssignableTo" ReflectliteType.assignableTo) Tryd.func107 (by kernel_rfl) (by kernel_rfl) (by kernel_rfl) (by kernel_rfl)
 have h11:=@run_callFunc_extern Tryd.prog 62 _ (ReflectliteValue.method (ReflectliteValue.valueError "reflectlite.Value.Elem" 0) ReflectliteValue.elem) Tryd.func62 (by kernel_rfl) (by kernel_rfl) (by kernel_rfl) (by kernel_rfl)
 have h12:=@run_callFunc_extern Tryd.prog 63 _ ReflectliteValue.set Tryd.func63 (by kernel_rfl) (by kernel_rfl) (by kernel_rfl) (by kernel_rfl)
 have tO:=Ea.typeOf25;have a25:=Ea.assignable25;have v25:=Ea.valueOf25;have f6:=Ea.valueOf27;have f7:=Ea.type27;have mK:=Ea.methodKind;have mE:=Ea.methodElem;have mI:=Ea.methodImplements;have k27:=Ea.kind27;have k25:=Ea.kind25;have e27:=Ea.elem27;have i25:=Ea.implements25;have mA:=Ea.methodAssignableTo;have n8:=Ea.isNil27 ⟨w.heap.size,0,none⟩ t ((w.alloc (.cells #[.pointer (some t)] 67)).alloc (.cells #[.pointer (some ⟨7,67,none⟩),.pointer (some ⟨w.heap.size,0,none⟩),.int .u64 150] 83)) (by simp)
 have hlt:0<w.heap.size:=by
  rcases Nat.lt_or_ge 0 w.heap.size with h|h
  ·exact h
  ·simp[World.cell?,Array.getElem?_eq_none h]at hg
 have hg2:((w.alloc (.cells #[.pointer (some t)] 67)).alloc (.cells #[.pointer (some ⟨7,67,none⟩),.pointer (some ⟨w.heap.size,0,none⟩),.int .u64 150] 83)).cell? ⟨0,0,none⟩=some (.iface 101 (.agg #[.pointer (some ⟨7,30,none⟩)])):=by
  rw[World.cell?_alloc_lt _ _ ⟨0,0,none⟩ (by first|(simp;done)|(simp;omega)),World.cell?_alloc_lt _ _ ⟨0,0,none⟩ hlt];exact hg
 have htl:t.block<w.heap.size:=by
  rcases Nat.lt_or_ge t.block w.heap.size with h|h
  ·exact h
  ·simp[World.cell?,Array.getElem?_eq_none h]at ht0
 have el:=Ea.elemV27 ⟨w.heap.size,0,none⟩ t (((w.alloc (.cells #[.pointer (some t)] 67)).alloc (.cells #[.pointer (some ⟨7,67,none⟩),.pointer (some ⟨w.heap.size,0,none⟩),.int .u64 150] 83)).alloc (.cells #[.pointer (some ⟨7,67,none⟩),.pointer (some ⟨w.heap.size,0,none⟩),.int .u64 150] 83)) (by rw[World.cell?_alloc_lt _ _ ⟨w.heap.size,0,none⟩ (by simp;omega)];simp)
 have st:=Ea.set25 t ⟨w.heap.size+1+1+1,0,none⟩ e old ((((w.alloc (.cells #[.pointer (some t)] 67)).alloc (.cells #[.pointer (some ⟨7,67,none⟩),.pointer (some ⟨w.heap.size,0,none⟩),.int .u64 150] 83)).alloc (.cells #[.pointer (some ⟨7,67,none⟩),.pointer (some ⟨w.heap.size,0,none⟩),.int .u64 150] 83)).alloc (.cells #[.pointer (some e)] 52))
  (by rw[World.cell?_alloc_at _ _ _ _ (by simp)];rfl)
  (by rw[World.cell?_alloc_lt _ _ t (by simp;omega),World.cell?_alloc_lt _ _ t (by simp;omega),World.cell?_alloc_lt _ _ t (by simp;omega),World.cell?_alloc_lt _ _ t htl];exact ht0)
  (by rw[World.frozen?_alloc_old _ _ t (by simp;omega),World.frozen?_alloc_old _ _ t (by simp;omega),World.frozen?_alloc_old _ _ t (by simp;omega),World.frozen?_alloc_old _ _ t (Nat.ne_of_lt htl)];exact hf0)
 go_enter Tryd.func40,Tryd.ntmps40
 go_wp2;refine wp_loop_rounds 1 ?_;rw[rounds_succ];go_wp2;go_ret
 exact⟨rfl,rfl⟩
end Go.Cm
namespace Go.Cm
def rM:Nat->Nat->List UInt8
 |0,_=>[]
 |f+1,n=>if n<10 then [UInt8.ofNat (48+n)]else rM f (n/10)++[UInt8.ofNat (48+n%10)]
def fX(n:Nat):List UInt8:=rM (n+1) n
theorem mL:∀f g n,n<f->n<g->rM f n=rM g n
 |0,_,_,h,_=>absurd h (Nat.not_lt_zero _)
 |_,0,_,_,h=>absurd h (Nat.not_lt_zero _)
 |f+1,g+1,n,hf,hg=>by
  unfold rM
  by_cases h:n<10
  ·rw[if_pos h,if_pos h]
  ·rw[if_neg h,if_neg h,mL f g (n/10) (by omega) (by omega)]
theorem aM{n:Nat}(h:n<10):fX n=[UInt8.ofNat (48+n)]:=by unfold fX rM;rw[if_pos h]
theorem cP{n:Nat}(h:¬n<10):fX n=fX (n/10)++[UInt8.ofNat (48+n%10)]:=by
 conv=>lhs;unfold fX rM
 rw[if_neg h,mL n (n/10+1) (n/10) (by omega) (by omega)];rfl
theorem bR:∀(k n:Nat),n<10^k->(fX n).length<=max k 1
 |0,n,h=>by
  have:n<10:=by simp at h;omega
  rw[aM this];simp
 |k+1,n,h=>by
  by_cases h1:n<10
  ·rw[aM h1,List.length_singleton];omega
  ·rw[cP h1,qg]
   have:=bR k (n/10) (by rw[Nat.pow_succ]at h;omega)
   have h2:1<=k:=by
    rcases Nat.eq_zero_or_pos k with rfl|h2
    ·simp at h;omega
    ·exact h2
   simp only[List.length_cons,List.length_nil];omega
theorem o9(n:Nat):1<=(fX n).length:=by
 by_cases h:n<10
 ·rw[aM h];simp
 ·rw[cP h];simp
def sZ:List (List UInt8):=
 [[111,107],[97,114,103,117,109,101,110,116],[115,104,111,114,116],[98,105,103],[102,111,114,109],[115,117,109],[115,105,122,101],[111,118,101,114],[117,110,100,101,114],[99,111,100,101],[100,105,115,116,97,110,99,101],[98,108,111,99,107],[109,97,103,105,99],[102,108,97,103,115],[109,111,114,101],[99,104,97,114],[111,112,101,110],[101,109,112,116,121],[114,97,110,103,101],[116,119,105,99,101],[110,97,109,101],[110,111,110,101],[102,117,108,108],[112,97,103,101],[111,114,100,101,114],[110,105,108],[100,105,102,102,101,114],[109,97,116,99,104]]
def nmB(k:Nat):List UInt8:=sZ.getD k [63]
def fY:List UInt8:=sZ.flatMap fun l=>l++[32]
theorem mM{k:Nat}:(nmB k).length<=8:=by
 unfold nmB
 by_cases h:k<28
 ·have:∀i,i<28->(sZ.getD i [63]).length<=8:=by decide
  exact this k h
 ·rw[List.getD_eq_getElem?_getD,List.getElem?_eq_none (by simp[sZ];omega)];simp
def aI(k:Nat):Nat:=((sZ.take k).flatMap fun l=>l++[32]).length
def jw(i:Nat):Nat:=((fY.take i).filter (· ==32)).length
theorem rN:∀i,i<155->jw i<28/\aI (jw i)<=i/\(fY.getD i 0=32->(fY.drop (aI (jw i))).take (i-aI (jw i))=nmB (jw i)/\jw (i+1)=jw i+1/\aI (jw i+1)=i+1)/\(fY.getD i 0≠32->jw (i+1)=jw i):=by decide+kernel
theorem pD:jw 155=28/\fY.length=155:=by decide+kernel
def kO(x:Nat×Nat):List UInt8:=nmB x.1++[32,97,116,32]++fX x.2
def eV:List (Nat×Nat)->List UInt8
 |[]=>[]
 |[x]=>kO x
 |x::y::l=>kO x++[58,32]++eV (y::l)
theorem fZ(x:Nat×Nat)(h:x.2<10^19):(kO x).length<=40:=by
 have h1:=mM (k:=x.1);have h2:=bR 19 x.2 h;unfold kO;simp only[qg,List.length_cons,List.length_nil];omega
theorem iP:∀(l:List (Nat×Nat)),(∀x∈l,x.2<10^19)->(eV l).length<=42*l.length
 |[],_=>by simp[eV]
 |[x],h=>by
  have:=fZ x (h x (by simp))
  simp only[eV,List.length_cons,List.length_nil];omega
 |x::y::l,h=>by
  have h1:=fZ x (h x (by simp))
  have h2:=iP (y::l) (fun z hz=>h z (List.mem_cons_of_mem _ hz))
  simp only[eV,qg,List.length_cons,List.length_nil]at h2⊢;omega
end Go.Cm
namespace Go.Cm
open Go.RowKit Go.Proofs
structure j6(w:World):Prop where
 et:w.cell? ⟨0,0,none⟩=some (.iface 101 (.agg #[.pointer (some ⟨7,30,none⟩)]))
 fam:∀g,g=1\/g=2\/g=3\/g=4\/g=5->∃q,w.cell? ⟨g,0,none⟩=some (.iface 134 (.pointer (some q)))
theorem j6.lt{w:World}(h:j6 w):∀g,g=0\/g=1\/g=2\/g=3\/g=4\/g=5->g<w.heap.size:=by
 intro g hg
 rcases Nat.lt_or_ge g w.heap.size with h1|h1
 ·exact h1
 ·rcases hg with rfl|hg
  ·have:=h.et;simp[World.cell?,Array.getElem?_eq_none h1]at this
  ·obtain⟨q,hq⟩:=h.fam g hg
   simp[World.cell?,Array.getElem?_eq_none h1]at hq
theorem j6.up{w w':World}(h:j6 w)(hb:Below w.heap.size w w'):j6 w' where
 et:=by rw[hb.cell (p:=⟨0,0,none⟩) (h.lt _ (.inl rfl))];exact h.et
 fam g hg:=by
  obtain⟨q,hq⟩:=h.fam g hg
  exact⟨q,by rw[hb.cell (p:=⟨g,0,none⟩) (h.lt _ (.inr hg))];exact hq⟩
def j9(w:World):List (Nat×Nat)->Value->Prop
 |[],v=>∃q,v=.iface 134 (.pointer (some q))
 |x::l,v=>∃p u,v=.iface 52 (.pointer (some ⟨p,0,none⟩))/\p<w.heap.size/\w.cell? ⟨p,0,none⟩=some (.int .i64 (x.1:Nat))/\w.cell? ⟨p,1,none⟩=some (.int .i64 (x.2:Nat))/\w.cell? ⟨p,2,none⟩=some u/\j9 w l u
theorem j9.up{w w':World}(hb:Below w.heap.size w w'):∀{l:List (Nat×Nat)} {v:Value},j9 w l v->j9 w' l v
 |[],_,h=>h
 |x::l,v,⟨p,u,h1,h2,h3,h4,h5,h6⟩=>⟨p,u,h1,qd h2 hb.size,by rw[hb.cell (p:=⟨p,0,none⟩) h2];exact h3,by rw[hb.cell (p:=⟨p,1,none⟩) h2];exact h4,by rw[hb.cell (p:=⟨p,2,none⟩) h2];exact h5,j9.up hb h6⟩
def qQ(w:World)(l:List (Nat×Nat))(v:Value):Prop:=if l=[]then v=.nilIface else j9 w l v
def jd(w:World)(l:List (Nat×Nat))(v:Value):Prop:=∃e,v=.agg #[e]/\qQ w l e
theorem qQ.up{w w':World}{l:List (Nat×Nat)}{v:Value}(hb:Below w.heap.size w w')(h:qQ w l v):qQ w' l v:=by
 unfold qQ at h⊢;split at h
 ·rename_i h0;rw[if_pos h0];exact h
 ·rename_i h0;rw[if_neg h0];exact h.up hb
theorem jd.up{w w':World}{l:List (Nat×Nat)}{v:Value}(hb:Below w.heap.size w w')(h:jd w l v):jd w' l v:=by
 obtain⟨e,rfl,he⟩:=h;exact⟨e,rfl,he.up hb⟩
theorem j9.one{w:World}:∀{l:List (Nat×Nat)} {v:Value},j9 w l v->v.oneCell'=true
 |[],_,⟨_,h⟩=>by rw[h];rfl
 |_::_,_,⟨_,_,h,_⟩=>by rw[h];rfl
theorem qQ.one{w:World}{l:List (Nat×Nat)}{v:Value}(h:qQ w l v):v.oneCell'=true:=by
 unfold qQ at h;split at h
 ·rw[h];rfl
 ·exact h.one
def hI:Value->Value
 |.iface t (.pointer p)=>if t=52 then .pointer p else .pointer none
 |_=>.pointer none
theorem eW(w:World):Calls Tryd.prog 28 #[.nilIface] w fun e w'=>e=.returned (.pointer none)/\∃x,w'=ext w x:=by
 go_enter Tryd.func28,Tryd.ntmps28
 go_wp2;go_ret
 exact⟨rfl,(qv (by repeat(first|exact qi _ _|assumption|refine qF ?_ _|refine qj ?_|refine qL ?_ _|refine qx ?_ _)))⟩
theorem iQ{w:World}{v:Value}(hL:j6 w)(h:j9 w [] v):Calls Tryd.prog 28 #[v] w fun e w'=>e=.returned (.pointer none)/\∃x,w'=ext w x:=by
 obtain⟨q,rfl⟩:=h
 have hg:(w.alloc (.cells #[.pointer none] 52)).cell? ⟨0,0,none⟩=some (.iface 101 (.agg #[.pointer (some ⟨7,30,none⟩)])):=by
  rw[World.cell?_alloc_lt _ _ ⟨0,0,none⟩ (hL.lt _ (.inl rfl))];exact hL.et
 go_enter Tryd.func28,Tryd.ntmps28
 go_wp2_with((with_reducible go_at_call 40);refine(rL _ _ _ hg).mono ?_;rintro en w2 ⟨rfl,rfl⟩)
 go_ret
 exact⟨rfl,(qv (by repeat(first|exact qi _ _|assumption|refine qF ?_ _|refine qj ?_|refine qL ?_ _|refine qx ?_ _)))⟩
theorem mN{w:World}{x:Nat×Nat}{l:List (Nat×Nat)}{v:Value}(hL:j6 w)(h:j9 w (x::l) v):Calls Tryd.prog 28 #[v] w fun e w'=>e=.returned (hI v)/\∃x,w'=ext w x:=by
 obtain⟨p,u,rfl,h1,h2,h3,h4,h5⟩:=h
 have hg:(w.alloc (.cells #[.pointer none] 52)).cell? ⟨0,0,none⟩=some (.iface 101 (.agg #[.pointer (some ⟨7,30,none⟩)])):=by
  rw[World.cell?_alloc_lt _ _ ⟨0,0,none⟩ (hL.lt _ (.inl rfl))];exact hL.et
 have ht:(w.alloc (.cells #[.pointer none] 52)).cell? ⟨w.heap.size,0,none⟩=some (.pointer none):=by simp
 have hf:(w.alloc (.cells #[.pointer none] 52)).frozen? ⟨w.heap.size,0,none⟩=false:=by simp
 have hlp:hI (.iface 52 (.pointer (some ⟨p,0,none⟩)))=.pointer (some ⟨p,0,none⟩):=rfl;rw[hlp];clear h1 h2 h3 h4 h5 hlp
 go_enter Tryd.func28,Tryd.ntmps28
 go_wp2_with((with_reducible go_at_call 40);refine(sY _ _ (.pointer none) _ hg ht hf).mono ?_;rintro en w2 ⟨rfl,rfl⟩)
 go_ret
 exact⟨rfl,(qv (by repeat(first|exact qi _ _|assumption|refine qF ?_ _|refine qj ?_|refine qL ?_ _|refine qx ?_ _)))⟩
theorem pE{c:Nat}(hc:c<=27)(w:World):Calls Tryd.prog 58 #[.int .i64 c] w fun e w'=>e=.returned (.bool true)/\∃x,w'=ext w x:=by
 go_enter Tryd.func58,Tryd.ntmps58
 go_wp2;go_ret
 exact⟨by simp;omega,(qv (by repeat(first|exact qi _ _|assumption|refine qF ?_ _|refine qj ?_|refine qL ?_ _|refine qx ?_ _)))⟩
theorem mO{c:Nat}(hc:c<=27)(w:World):Calls Tryd.prog 59 #[.int .i64 c] w fun e w'=>e=.returned (.int .i64 c)/\∃x,w'=ext w x:=by
 go_enter Tryd.func59,Tryd.ntmps59
 go_wp2_with((with_reducible go_at_call 58);refine(pE hc _).mono ?_;rintro en w2 ⟨rfl,x2,rfl⟩)
 go_ret
 exact⟨rfl,(qv (by repeat(first|exact qi _ _|assumption|refine qF ?_ _|refine qj ?_|refine qL ?_ _|refine qx ?_ _)))⟩
theorem rO{c:Nat}{w:World}(hL:j6 w):Calls Tryd.prog 60 #[.int .i64 c] w fun e w'=>∃v,e=.returned v/\j9 w [] v/\∃x,w'=ext w x:=by
 obtain⟨q1,h1⟩:=hL.fam 1 (.inl rfl);obtain⟨q2,h2⟩:=hL.fam 2 (.inr (.inl rfl));obtain⟨q3,h3⟩:=hL.fam 3 (.inr (.inr (.inl rfl)));obtain⟨q4,h4⟩:=hL.fam 4 (.inr (.inr (.inr (.inl rfl))));obtain⟨q5,h5⟩:=hL.fam 5 (.inr (.inr (.inr (.inr rfl))))
 go_enter Tryd.func60,Tryd.ntmps60
 go_wp2
 all_goals
  go_ret
  exact⟨_,rfl,⟨_,rfl⟩,(qv (by repeat(first|exact qi _ _|assumption|refine qF ?_ _|refine qj ?_|refine qL ?_ _|refine qx ?_ _)))⟩
theorem qQ.some{w:World}{x:Nat×Nat}{l:List (Nat×Nat)}{v:Value}(h:qQ w (x::l) v):j9 w (x::l) v:=by unfold qQ at h;rwa [if_neg (by simp)]at h
theorem qQ.of{w:World}{x:Nat×Nat}{l:List (Nat×Nat)}{v:Value}(h:j9 w (x::l) v):qQ w (x::l) v:=by unfold qQ;rwa [if_neg (by simp)]
def qP(l:List (Nat×Nat))(w:World)(e:Ending)(w':World):Prop:=∃v,e=.returned v/\jd w' l v/\∃x,w'=ext w x
theorem g7(w:World)(x y:Value)(T:TypeId):∃w1,(w.alloc (.cells #[x] T)).alloc (.cells #[y] T)=w1/\Own w1 w.heap.size T (.slice (some ⟨w.heap.size,0,none⟩) 1 1) [x]/\Own w1 w.heap.size T (.slice (some ⟨w.heap.size+1,0,none⟩) 1 1) [y]/\Below w.heap.size w w1:=
 ⟨_,rfl,(jj w w.heap.size #[x] T (by simp) (qa _)).up (qo _ _),by
  have h:=jj (w.alloc (.cells #[x] T)) w.heap.size #[y] T (by simp) (by simp)
  simpa using h,qx (qo w _) _⟩
theorem b9{W:World}{n o:Nat}{c:Array Value}{t:TypeId}(h:W.heap.size=n):(W.alloc (.cells c t)).cell? ⟨n,o,none⟩=c[o]? :=by subst h;exact World.cell?_alloc_new _ _ _ _
theorem g8{w w3:World}{g6 c at_:Nat}{l:List (Nat×Nat)}{u:Value}{x0:Value}(h6:Own w3 w.heap.size 32 (.slice (some ⟨g6,0,none⟩) 1 1) [x0])(hb:Below w.heap.size w w3)(hu:∀W,(w3.setCell ⟨g6,0,none⟩ (.iface 52 (.pointer (some ⟨w3.heap.size,0,none⟩)))).heap.size<=W.heap.size->(∀k,k≠g6->k<w3.heap.size->W.heap[k]? =w3.heap[k]?)->j9 W l u):
  (loadVar 32 ⟨g6,0,none⟩).run Tryd.prog ((w3.setCell ⟨g6,0,none⟩ (.iface 52 (.pointer (some ⟨w3.heap.size,0,none⟩)))).alloc (.cells #[.int .i64 c,.int .i64 at_,u] 56))=.ok (.agg #[.iface 52 (.pointer (some ⟨w3.heap.size,0,none⟩))]) ((w3.setCell ⟨g6,0,none⟩ (.iface 52 (.pointer (some ⟨w3.heap.size,0,none⟩)))).alloc (.cells #[.int .i64 c,.int .i64 at_,u] 56))
  /\qP ((c,at_)::l) w (.returned (.agg #[.iface 52 (.pointer (some ⟨w3.heap.size,0,none⟩))])) ((w3.setCell ⟨g6,0,none⟩ (.iface 52 (.pointer (some ⟨w3.heap.size,0,none⟩)))).alloc (.cells #[.int .i64 c,.int .i64 at_,u] 56)):=by
 obtain⟨hs,hgr⟩:=h6.store 0 (.iface 52 (.pointer (some ⟨w3.heap.size,0,none⟩)));have hblk:=h6.blk;have hsz:(w3.setCell ⟨g6,0,none⟩ (.iface 52 (.pointer (some ⟨w3.heap.size,0,none⟩)))).heap.size=w3.heap.size:=by simp
 have hb2:Below w.heap.size w (w3.setCell ⟨g6,0,none⟩ (.iface 52 (.pointer (some ⟨w3.heap.size,0,none⟩)))):=hb.setCell hblk.1 _
 have hk:∀k,k≠g6->k<w3.heap.size->((w3.setCell ⟨g6,0,none⟩ (.iface 52 (.pointer (some ⟨w3.heap.size,0,none⟩)))).alloc (.cells #[.int .i64 c,.int .i64 at_,u] 56)).heap[k]? =w3.heap[k]? :=fun k h1 h2=>by
  rw[Below.heap_alloc _ _ _ (by rw[hsz];exact h2),hgr.block k h2 (by simpa using h1)]
 refine⟨?_,⟨_,rfl,⟨_,rfl,qQ.of ⟨w3.heap.size,u,rfl,by simp,?_,?_,?_,hu _ (by simp) hk⟩⟩,qv (qx hb2 _)⟩⟩
 ·have:=aL (P:=Tryd.prog) (T:=32) (hs.up (qo _ (.cells #[.int .i64 c,.int .i64 at_,u] 56))) _ Tryd.underlying32 rfl (by kernel_rfl)
  simpa using this
 ·rw[b9 hsz];rfl
 ·rw[b9 hsz];rfl
 ·rw[b9 hsz];rfl
theorem pF{c at_:Nat}{w:World}(hL:j6 w)(hc:c<=27)(hc0:c≠0):Calls Tryd.prog 49 #[.int .i64 c,.int .i64 at_,.agg #[.nilIface]] w (qP [(c,at_)] w):=by
 have hne:((c:Int)==0)=false:=by simpa using hc0
 have HL:=q9 hL;clear hL
 go_enter Tryd.func49,Tryd.ntmps49
 go_upto_region 1 with(fail)
 obtain⟨w1,he,h5,h6,hb1⟩:=g7 w .nilIface .nilIface 32;rw[he];clear he;have H6:=q9 h6;have H5:=q9 h5;have HB:=q9 hb1;clear h5 h6 hb1
 go_wp2_with(first
  |((with_reducible go_at_call 59);refine(mO hc _).mono ?_;rintro en w2 ⟨rfl,hx⟩;have hb2:=qn hx;clear hx;have K5:=H5.out.up hb2;have K6:=H6.out.up hb2;have HL2:=q9 (HL.out.up (j7 HB.out hb2));have HB2:=q9 (j7 HB.out hb2);have c5:w2.cell? ⟨w.heap.size,0,none⟩=some .nilIface:=K5.cell (i:=0) (by simp);have H5b:=q9 K5;have H6b:=q9 K6;clear hb2 K5 K6)
  |((with_reducible go_at_call 60);refine(rO HL2.out).mono ?_;rintro en w3 ⟨vf,rfl,⟨q,rfl⟩,hx⟩;have hb3:=qn hx;clear hx c5;have K6:=H6b.out.up hb3;have HB3:=q9 (j7 HB2.out hb3);have c6:w3.cell? ⟨w.heap.size+1,0,none⟩=some .nilIface:=K6.cell (i:=0) (by simp);have f6:w3.frozen? ⟨w.heap.size+1,0,none⟩=false:=K6.free 0;have l6:w.heap.size+1<w3.heap.size:=K6.blk.2;have H6c:=q9 K6;clear hb3 K6))
 obtain⟨hl,hr⟩:=g8 (c:=c) (at_:=at_) (l:=[]) (u:=.iface 134 (.pointer (some q))) H6c.out HB3.out (fun _ _ _=>⟨q,rfl⟩)
 exact qD rfl rfl rfl hl hr
theorem j9.same{w w':World}(hs:w.heap.size<=w'.heap.size){w3:World}{g:Nat}(hk:∀k,k<w.heap.size->w'.heap[k]? =w.heap[k]?):∀{l:List (Nat×Nat)} {v:Value},j9 w l v->j9 w' l v
 |[],_,h=>h
 |x::l,v,⟨p,u,h1,h2,h3,h4,h5,h6⟩=>⟨p,u,h1,qd h2 hs,by rw[World.cell?_of_block (w:=w) (hk p h2)];exact h3,by rw[World.cell?_of_block (w:=w) (hk p h2)];exact h4,by rw[World.cell?_of_block (w:=w) (hk p h2)];exact h5,j9.same hs (w3:=w3) (g:=g) hk h6⟩
theorem t0{c at_:Nat}{w:World}{y:Nat×Nat}{l:List (Nat×Nat)}{u:Value}(hc:c<=27)(hc0:c≠0)(h:j9 w (y::l) u):Calls Tryd.prog 49 #[.int .i64 c,.int .i64 at_,.agg #[u]] w (qP ((c,at_)::y::l) w):=by
 have hne:((c:Int)==0)=false:=by simpa using hc0
 have HE:=q9 h;obtain⟨p,-,rfl,-⟩:=h
 go_enter Tryd.func49,Tryd.ntmps49
 go_upto_region 1 with(fail)
 obtain⟨w1,he,h5,h6,hb1⟩:=g7 w (.iface 52 (.pointer (some ⟨p,0,none⟩))) .nilIface 32;rw[he];clear he;have H6:=q9 h6;have H5:=q9 h5;have HB:=q9 hb1;clear h5 h6 hb1
 go_wp2_with((with_reducible go_at_call 59);refine(mO hc _).mono ?_;rintro en w2 ⟨rfl,hx⟩;have hb2:=qn hx;clear hx;have K5:=H5.out.up hb2;have K6:=H6.out.up hb2;have HB2:=q9 (j7 HB.out hb2);have c5:w2.cell? ⟨w.heap.size,0,none⟩=some (.iface 52 (.pointer (some ⟨p,0,none⟩))):=K5.cell (i:=0) (by simp);have c6:w2.cell? ⟨w.heap.size+1,0,none⟩=some .nilIface:=K6.cell (i:=0) (by simp);have f6:w2.frozen? ⟨w.heap.size+1,0,none⟩=false:=K6.free 0;have l6:w.heap.size+1<w2.heap.size:=K6.blk.2;have H6b:=q9 K6;clear hb2 K5 K6)
 obtain⟨hl,hr⟩:=g8 (c:=c) (at_:=at_) (l:=y::l) (u:=.iface 52 (.pointer (some ⟨p,0,none⟩))) H6b.out HB2.out (fun W h1 h2=>j9.same (by have:=HB2.out.size;simp at h1;omega) (w3:=w) (g:=0) (fun k hk=>by rw[h2 k (by omega) (qd hk HB2.out.size),HB2.out.block k hk]) HE.out)
 exact qD rfl rfl rfl hl hr
theorem t6{c at_:Nat}{w:World}{l:List (Nat×Nat)}{v:Value}(hL:j6 w)(hc:c<=27)(hc0:c≠0)(h:jd w l v):Calls Tryd.prog 49 #[.int .i64 c,.int .i64 at_,v] w (qP ((c,at_)::l) w):=by
 obtain⟨e,rfl,he⟩:=h
 cases l with
 |nil=>
  have:e=.nilIface:=by unfold qQ at he;rwa [if_pos rfl]at he
  subst this
  exact pF hL hc hc0
 |cons y l=>exact t0 hc hc0 he.some
theorem uY{c at_:Nat}{w:World}(hL:j6 w)(hc:c<=27)(hc0:c≠0):Calls Tryd.prog 35 #[.int .i64 c,.int .i64 at_] w (qP [(c,at_)] w):=by
 have HL:=q9 (hL.up (qo w (.cells #[.nilIface] 32)));clear hL
 go_enter Tryd.func35,Tryd.ntmps35
 go_upto_region 1 with(fail)
 have h4:=jj w w.heap.size #[.nilIface] 32 (by simp) (qa _)
 have H4:=q9 h4;have HB:=q9 (qo w (.cells #[.nilIface] 32));clear h4;generalize w.alloc (.cells #[.nilIface] 32)=w1 at*
 go_wp2_with((with_reducible go_at_call 49);refine(pF HL.out hc hc0).mono ?_;rintro en w2 ⟨v,rfl,⟨e,rfl,he⟩,hx⟩;have hb2:=qn hx;clear hx;have hc1:=he.some;have K4:=H4.out.up hb2;have HB2:=q9 (j7 HB.out hb2);have c4:w2.cell? ⟨w.heap.size,0,none⟩=some .nilIface:=K4.cell (i:=0) (by simp);have f4:w2.frozen? ⟨w.heap.size,0,none⟩=false:=K4.free 0;obtain⟨p,u,rfl,-⟩:=id hc1;have H4b:=q9 K4;have HC:=q9 hc1;have HB3:=q9 hb2;clear hb2 K4 he hc1)
 have hs:=(H4b.out.store 0 (.iface 52 (.pointer (some ⟨p,0,none⟩)))).1;have hb4:Below w.heap.size w (w2.setCell ⟨w.heap.size,0,none⟩ (.iface 52 (.pointer (some ⟨p,0,none⟩)))):=HB2.out.setCell (qa _) _;obtain⟨p',q,e1,h1,h2,h3,h4,⟨q',rfl⟩⟩:=HC.out
 cases e1
 have zH:p≠w.heap.size:=by
  rintro rfl;have:=h2.symm.trans (H4b.out.cell (i:=0) (by simp))
  simp at this
 have hkk:∀o,(w2.setCell ⟨w.heap.size,0,none⟩ (.iface 52 (.pointer (some ⟨p,0,none⟩)))).cell? ⟨p,o,none⟩=w2.cell? ⟨p,o,none⟩:=fun o=>World.cell?_of_block (w:=w2) (Below.heap_setCell _ _ _ _ zH)
 refine qD rfl rfl rfl (x:=.agg #[.iface 52 (.pointer (some ⟨p,0,none⟩))]) ?_ ⟨_,rfl,⟨_,rfl,qQ.of ⟨p,_,rfl,by simpa using h1,by rw[hkk];exact h2,by rw[hkk];exact h3,by rw[hkk];exact h4,⟨_,rfl⟩⟩⟩,qv hb4⟩
 simpa using aL (P:=Tryd.prog) (T:=32) hs _ Tryd.underlying32 rfl (by kernel_rfl)
theorem dI{w:World}{p:Nat}{x:Nat×Nat}{l:List (Nat×Nat)}(hL:j6 w)(h:j9 w (x::l) (.iface 52 (.pointer (some ⟨p,0,none⟩)))):Calls Tryd.prog 28 #[.iface 52 (.pointer (some ⟨p,0,none⟩))] w fun e w'=>e=.returned (.pointer (some ⟨p,0,none⟩))/\∃x,w'=ext w x:=mN hL h
theorem jd.nil{w:World}{v:Value}(h:jd w [] v):v=.agg #[.nilIface]:=by
 obtain⟨e,rfl,he⟩:=h;unfold qQ at he;rw[if_pos rfl]at he;rw[he]
theorem rP{w:World}{g k:Nat}{p:Value}(hc:w.cell? ⟨g,0,none⟩=some (.int .i64 k))(hf:w.frozen? ⟨g,0,none⟩=false)(hk:k<=1000000):Calls Tryd.prog 27 #[p,.pointer (some ⟨g,0,none⟩)] w fun e w'=>e=.returned (.tuple #[])/\w'=w.setCell ⟨g,0,none⟩ (.int .i64 ((k:Int)+1)):=by
 go_enter Tryd.func27,Tryd.ntmps27
 go_wp2
 go_end0
 exact⟨rfl,rfl⟩
theorem g9{w:World}{u:Value}(h:j9 w [] u):hI u=.pointer none:=by obtain⟨q,rfl⟩:=h;simp[hI]
theorem tV{w0 w:World}{l:List (Nat×Nat)}{v:Value}{g:Nat}(hL:j6 w0)(h:jd w0 l v)(hb:Below w0.heap.size w0 w)(ho:Own w w0.heap.size 3 (.slice (some ⟨g,0,none⟩) 1 1) [.int .i64 0])(hl:l.length<=100000):
  Calls Tryd.prog 26 #[v,.func (Fn.func 27) #[] #[.pointer (some ⟨g,0,none⟩)]] w fun e w'=>e=.returned (.tuple #[])/\Below w0.heap.size w0 w'/\Own w' w0.heap.size 3 (.slice (some ⟨g,0,none⟩) 1 1) [.int .i64 (l.length:Nat)]:=by
 obtain⟨e,rfl,he⟩:=h;have HL:=q9 hL;have HB0:=q9 hb;have HO0:=q9 ho
 have xS:(l=[]/\e=.nilIface)\/(l≠[]/\j9 w0 l e/\∃q,e=.iface 52 (.pointer (some ⟨q,0,none⟩))):=by
  cases l with
  |nil=>exact .inl ⟨rfl,by unfold qQ at he;rwa [if_pos rfl]at he⟩
  |cons y l=>obtain⟨p,u,h1,-⟩:=id he.some;exact .inr ⟨by simp,he.some,_,h1⟩
 obtain⟨K,hK⟩:∃K,K=l.length:=⟨_,rfl⟩;have HK:=q9 hK;rw[<-hK]at hl⊢;clear he hL hb ho hK
 go_enter Tryd.func26,Tryd.ntmps26
 rcases xS with⟨rfl,rfl⟩|⟨hne,hc,q,rfl⟩
 ·have hz:K=0:=HK.out
  subst hz
  go_wp2_with((with_reducible go_at_call 28);refine(eW _).mono ?_;rintro en w2 ⟨rfl,x2,rfl⟩)
  refine wp_loop_rounds 1 ?_;rw[rounds_succ];go_wp2
  go_end0
  have hbz:=qL (qo w (.cells #[.nilIface] 32)) x2
  exact⟨rfl,j7 HB0.out hbz,HO0.out.up hbz⟩
 ·have hlp:hI (.iface 52 (.pointer (some ⟨q,0,none⟩)))=.pointer (some ⟨q,0,none⟩):=rfl
  obtain⟨y,l2,rfl⟩:∃y l2,l=y::l2:=by cases l with|nil=>exact absurd rfl hne|cons y l2=>exact⟨y,l2,rfl⟩
  have HC:=q9 hc;clear hc hne
  go_wp2_with((with_reducible go_at_call 28);(refine(dI (HL.out.up (HB0.out.trans ((qo _ _).mono HB0.out.size))) (HC.out.up (HB0.out.trans ((qo _ _).mono HB0.out.size)))).mono ?_);rintro en w2 ⟨rfl,x2,hw2⟩;have hb2:Below w.heap.size w w2:=(by rw[hw2];exact qL (qo _ _) _);clear hw2;have HB2:=q9 (HB0.out.trans (hb2.mono HB0.out.size));have HO2:=q9 (HO0.out.up hb2);clear hb2)
  clear hlp
  go_loopg [4] K (fun gk nv wr=>∃(l':List (Nat×Nat)) (u:Value) (k':Nat),nv=hI u/\Hid (j9 w0 l' u)/\Hid (Below w0.heap.size w0 wr)/\Hid (Own wr w0.heap.size 3 (.slice (some ⟨g,0,none⟩) 1 1) [.int .i64 (k':Nat)])/\k'+l'.length=K/\gk=l'.length)
  case atStart=>exact⟨_,_,0,rfl,HC,HB2,HO2,by rw[HK.out];simp,HK.out⟩
  case round=>
   obtain⟨l',u,k',rfl,HC2,HBr,HOr,wC,rfl⟩:=hrel
   cases l' with
   |nil=>
    have hz:k'=K:=by simpa using wC
    subst hz;rw[g9 HC2.out];go_wp2
    go_end0
    exact⟨rfl,HBr.out,HOr.out⟩
   |cons x l3=>
    obtain⟨p,u2,rfl,h1,h2,h3,h4,h5⟩:=HC2.out;have hlp:hI (.iface 52 (.pointer (some ⟨p,0,none⟩)))=.pointer (some ⟨p,0,none⟩):=rfl;rw[hlp];clear hlp;have c0:wr.cell? ⟨g,0,none⟩=some (.int .i64 (k':Nat)):=HOr.out.cell (i:=0) (by simp)
    have f0:wr.frozen? ⟨g,0,none⟩=false:=HOr.out.free 0;obtain⟨ho,hgr⟩:=HOr.out.store 0 (.int .i64 ((k':Int)+1));have hb3:Below w0.heap.size w0 (wr.setCell ⟨g,0,none⟩ (.int .i64 ((k':Int)+1))):=HBr.out.setCell (HOr.out.blk.1) _;have hk':k'<=1000000:=by simp only[List.length_cons]at wC;omega
    have c2:(wr.setCell ⟨g,0,none⟩ (.int .i64 ((k':Int)+1))).cell? ⟨p,2,none⟩=some u2:=by rw[hb3.cell (p:=⟨p,2,none⟩) h1];exact h4
    have hd:=rP (p:=.pointer (some ⟨p,0,none⟩)) c0 f0 hk';have hm:Hid (k'+1+l3.length=K):=q9 (by simp only[List.length_cons]at wC;omega)
    have e1:((k':Int)+1)=((k'+1:Nat):Int):=by omega
    simp only[List.set_cons_zero]at ho;rw[e1]at ho hb3 c2 hd;generalize wr.setCell ⟨g,0,none⟩ (.int .i64 ((k'+1:Nat):Int))=w5 at*;have HO5:=q9 ho;have HB5:=q9 hb3;have HC5:=q9 (h5.up hb3);clear ho hb3 hgr HOr h2 h3 h4 e1 hk' HC2;have HD:=q9 hd;have H5:=q9 h5;clear hd h5
    cases l3 with
    |nil=>
     go_wp2_with(first
      |((with_reducible go_at_call 27);refine HD.out.mono ?_;rintro en w6 ⟨rfl,hw6⟩;rw[hw6];clear hw6)
      |((with_reducible go_at_call 28);refine(iQ (HL.out.up HB5.out) HC5.out).mono ?_;rintro en w6 ⟨rfl,x2,hw2⟩;have hb6:Below w5.heap.size w5 w6:=(by rw[hw2];exact qB _ _);clear hw2;have HB6:=q9 (HB5.out.trans (hb6.mono HB5.out.size));have HO6:=q9 (HO5.out.up hb6);clear hb6))
     go_roundg 0
     case measure=>simp
     case rel=>exact⟨[],u2,k'+1,(g9 HC5.out).symm,H5,HB6,HO6,hm.out,rfl⟩
    |cons z l4=>
     obtain⟨p2,u3,rfl,-⟩:=id H5.out
     go_wp2_with(first
      |((with_reducible go_at_call 27);refine HD.out.mono ?_;rintro en w6 ⟨rfl,hw6⟩;rw[hw6];clear hw6)
      |((with_reducible go_at_call 28);refine(dI (HL.out.up HB5.out) HC5.out).mono ?_;rintro en w6 ⟨rfl,x2,hw2⟩;have hb6:Below w5.heap.size w5 w6:=(by rw[hw2];exact qB _ _);clear hw2;have HB6:=q9 (HB5.out.trans (hb6.mono HB5.out.size));have HO6:=q9 (HO5.out.up hb6);clear hb6))
     go_roundg (l4.length+1)
     case measure=>simp
     case rel=>exact⟨z::l4,_,k'+1,rfl,H5,HB6,HO6,hm.out,rfl⟩
theorem mP{w:World}{l:List (Nat×Nat)}{v:Value}(hL:j6 w)(h:jd w l v)(hl:l.length<=100000):Calls Tryd.prog 12 #[v] w fun e w'=>e=.returned (.int .i64 (l.length:Nat))/\∃x,w'=ext w x:=by
 have hbl:=h;obtain⟨e,rfl,he⟩:=h;have h4:=jj (w.alloc (.cells #[e] 32)) w.heap.size #[.int .i64 0] 3 (by simp) (by simp)
 have hsz:(w.alloc (.cells #[e] 32)).heap.size=w.heap.size+1:=by simp
 rw[hsz]at h4;have HC:=tV hL hbl (qx (qo w (.cells #[e] 32)) (.cells #[.int .i64 0] 3)) h4 hl;clear hbl he h4 hsz hL
 go_enter Tryd.func12,Tryd.ntmps12
 go_wp2_with((with_reducible go_at_call 26);refine HC.mono ?_;rintro en w2 ⟨rfl,hb2,ho2⟩;have c1:w2.cell? ⟨w.heap.size+1,0,none⟩=some (.int .i64 (l.length:Nat)):=ho2.cell (i:=0) (by simp))
 go_ret
 exact⟨rfl,qv hb2⟩
theorem eX(x y:qM):(⟨x.toArray⟩:ByteArray)++⟨y.toArray⟩=⟨(x++y).toArray⟩:=by
 have h:((⟨x.toArray⟩:ByteArray)++⟨y.toArray⟩).data=(x++y).toArray:=by simp
 cases hz:((⟨x.toArray⟩:ByteArray)++⟨y.toArray⟩)with
 |mk d=>rw[hz]at h;simp only at h;rw[h]
theorem rQ{P:Program}(x y:qM)(hb:x.length+y.length<=9223372036854775807)(w:World):(Op.stringOp .add ⟨x.toArray⟩ ⟨y.toArray⟩).run P w=.ok (.string ⟨(x++y).toArray⟩) w:=by
 rw[run_string_add_sum _ _ _ (by simpa[ByteArray.size]using hb),eX]
theorem gA{P:Program}{C:World->Prop}{o:Oper}{a:Act}{K:Act->Prop}(x y:Operand)(T R:TypeId)(ho:o.op=.binOp .add T x y R)(l m:qM)(hx:a.eval x=.string ⟨l.toArray⟩)(hy:a.eval y=.string ⟨m.toArray⟩)
  (hb:l.length+m.length<=9223372036854775807) (h:K (a.put o.dst (.string ⟨(l++m).toArray⟩))):o.quiet P a C K:=by
 refine⟨.string ⟨(l++m).toArray⟩,fun w' _=>?_,h⟩
 have hr:=rQ (P:=P) l m hb w';unfold Oper.quietAt execOp;simp only[ho,Sem.run_bind,Sem.run_pure,Result.andThen_ok,hx,hy,eqGuard,binOp,Bool.not_false,if_true,hr,Oper.quietUpon]
 exact⟨trivial,trivial⟩
theorem j9.if2{w:World}:∀{l:List (Nat×Nat)} {v:Value},j9 w l v->∃t u,v=.iface t u
 |[],_,⟨_,h⟩=>⟨_,_,h⟩
 |_::_,_,⟨_,_,h,_⟩=>⟨_,_,h⟩
theorem j9.keep{w w':World}{g:Nat}(hg:w.grownBy w' (some g))(h2:∀t u,w.cell? ⟨g,2,none⟩≠some (.iface t u)):∀{l:List (Nat×Nat)} {v:Value},j9 w l v->j9 w' l v
 |[],_,h=>h
 |x::l,v,⟨p,u,h1,hp,h3,h4,h5,h6⟩=>by
  have hne:p≠g:=by
   rintro rfl;obtain⟨t,u',rfl⟩:=h6.if2
   exact h2 t u' h5
  have hb:=hg.block p hp (by intro e;cases e;exact hne rfl)
  exact⟨p,u,h1,qd hp hg.size,by rw[World.cell?_of_block hb];exact h3,by rw[World.cell?_of_block hb];exact h4,by rw[World.cell?_of_block hb];exact h5,j9.keep hg h2 h6⟩
theorem eY{w w':World}{g:Nat}{l:List (Nat×Nat)}{v:Value}(hg:w.grownBy w' (some g))(h2:∀t u,w.cell? ⟨g,2,none⟩≠some (.iface t u))(h:qQ w l v):qQ w' l v:=by
 unfold qQ at h⊢;split at h
 ·rename_i h0;rw[if_pos h0];exact h
 ·rename_i h0;rw[if_neg h0];exact h.keep hg h2
theorem c9{w:World}{B g T:Nat}{v:Value}(h:Own w B T (.slice (some ⟨g,0,none⟩) 1 1) [v]):∀t u,w.cell? ⟨g,2,none⟩≠some (.iface t u):=by
 intro t u e;obtain⟨A,hgA,hsA,hA⟩:=h.whole;have hz:A.size=1:=by rw[<-Array.length_toList,hA];rfl
 unfold World.cell? at e;simp only[hgA]at e
 simp[hz]at e
theorem bS{fn:Func}{tmps:Array Value}{ds:List Deferred}{w0 w w':World}{s g B:Nat}{e:Value}{l:List (Nat×Nat)}(hf:fn.results=#[.cell s 32])(ha:tmps.getD s undef=.pointer (some ⟨g,0,none⟩))(hd:ds=[])
  (ho:Own w' B 32 (.slice (some ⟨g,0,none⟩) 1 1) [e]) (hb:Below w0.heap.size w0 w) (hg:w.grownBy w' (some g)) (hge:w0.heap.size<=g) (h2:∀t u,w.cell? ⟨g,2,none⟩≠some (.iface t u)) (he:qQ w l e):
  bodyPost Tryd.prog fn (qP l w0) .ret ⟨tmps,ds⟩ w':=
 qD hf ha hd (x:=.agg #[e]) (by simpa using aL (P:=Tryd.prog) (T:=32) ho _ Tryd.underlying32 rfl (by kernel_rfl))
  ⟨_,rfl,⟨_,rfl,eY hg h2 he⟩,qv (hb.grown hg hb.size (by intro k e;cases e;exact hge))⟩
end Go.Cm
namespace Go.Cm
open Go.RowKit Go.Proofs Go.Proofs.YtcdaljipemapbaaDoor
def oK:List (String×DataW Unit):=[("errors.errorType",Rows.laid_errors_errorType),("collimator/blame.errBytes",Rows.laid_collimator_blame_errBytes),("collimator/blame.errCodes",Rows.laid_collimator_blame_errCodes),("collimator/blame.errTexts",Rows.laid_collimator_blame_errTexts),("collimator/blame.errRoom",Rows.laid_collimator_blame_errRoom),("collimator/blame.errOther",Rows.laid_collimator_blame_errOther)]
theorem uA:Tryd.prog.globalNamed "errors.errorType" =some 0:=by kernel_rfl
theorem uB:(Tryd.prog.cutTypes.find? (·.1== "internal/reflectlite.rtype")).map (·.2)=some 101:=by kernel_rfl
theorem tG:((List.range Tryd.prog.types.size).filter fun t=>Tryd.prog.rowNamed t [101,114,114,111,114])=[30]:=by kernel_rfl
theorem mX:typeHandle Tryd.prog 30=.pointer (some ⟨7,30,none⟩):=by kernel_rfl
theorem mY: "*" ++ "errors.errorString" = "*errors.errorString" :=by decide
theorem uC(u:TypeId)(h:Tryd.prog.typeName? 3 u=some "*errors.errorString"):u=134:=
 typeName_ptr_named (nm:= "errors.errorString") (by rw[mY];kernel_rfl) (by kernel_rfl) (by decide) u (by rw[mY];exact h)
theorem uD:Tryd.prog.cellsOf 154=1:=by kernel_rfl
theorem uE:Tryd.prog.cellsOf 9=1:=by kernel_rfl
theorem oL{W:World}(h:handlesMet Tryd.prog [("errors.errorType",Rows.laid_errors_errorType)] W):W.cell? ⟨0,0,none⟩=some (.iface 101 (.agg #[.pointer (some ⟨7,30,none⟩)])):=by
 obtain⟨name,u,ty,e1,e2,e3,e4,e5⟩:=h _ (List.mem_singleton.2 rfl);have en:name=[101,114,114,111,114]:=(qk e1).symm;subst en;obtain rfl:=qk (uB.symm.trans e2);have hm:ty∈(List.range Tryd.prog.types.size).filter fun t=>Tryd.prog.rowNamed t [101,114,114,111,114]:=List.mem_filter.2 ⟨List.mem_range.2 e3,e4⟩
 rw[tG]at hm;obtain rfl:=List.mem_singleton.1 hm;rw[mX]at e5
 simpa using World.var?_cell uA e5 0
theorem dM{W:World}{n:String}{g0 g:Nat}{t:TypeId}{cs:Array Value}{fuel:Nat}{p:List MemPlace}{text:List UInt8}(hg0:Tryd.prog.globalNamed n=some g0)(ht0:(Tryd.prog.globals[g0]?).map (·.type)=some 30)(hg:Tryd.prog.globalNamed n=some g)(ht:(Tryd.prog.globals[g]?).map (·.type)=some t)(hv:W.var? Tryd.prog n=some cs)
  (htr:DataW.trod (fun _=>()) Tryd.prog W 0 (fun _=>true) false fuel t cs.toList=some (.iface "*errors.errorString" (.ptr (.agg [.lit (.string text)])),p)) (hok:∀u v,W.cell? ⟨g,0,none⟩=some (.iface u v)->Value.okWide Tryd.prog W .any 0 u v):
  ∃q,W.cell? ⟨g0,0,none⟩=some (.iface 134 (.pointer (some q))):=by
 obtain rfl:=qk (hg0.symm.trans hg);obtain rfl:=qk (ht0.symm.trans ht)
 obtain⟨a,s,hcs,-⟩:=errorString_of_trod (nm:= "*errors.errorString") Tryd.underlying30 uC Tryd.underlying134 Tryd.underlying154 rfl rfl Tryd.underlying9 uD uE htr (fun u v e=>hok u v (by
  have h0:=World.var?_cell hg0 hv 0;rw[h0,<-Array.getElem?_toList,e];rfl))
 refine⟨a,?_⟩;have h0:=World.var?_cell hg0 hv 0;rw[h0,<-Array.getElem?_toList,hcs];rfl
theorem gH{W:World}{n:String}{g0 g:Nat}{t:TypeId}{cs:Array Value}{fuel:Nat}{p:List MemPlace}{d:DataW Unit}(hg0:Tryd.prog.globalNamed n=some g0)(ht0:(Tryd.prog.globals[g0]?).map (·.type)=some 30)(hg:Tryd.prog.globalNamed n=some g)(ht:(Tryd.prog.globals[g]?).map (·.type)=some t)
  (htr:DataW.trod (fun _=>()) Tryd.prog W 0 (fun _=>true) false fuel t cs.toList=some (.iface "*errors.errorString" d,p)):cs.size≠0:=by
 obtain rfl:=qk (hg0.symm.trans hg);obtain rfl:=qk (ht0.symm.trans ht);obtain⟨_,u,v,e,-⟩:=iface_of_trod Tryd.underlying30 htr;rw[<-Array.length_toList,e];exact Nat.one_ne_zero
theorem j6.of{W:World}(h:laidMetH Tryd.prog oK W):j6 W:=by
 have h':laidMet Tryd.prog [("collimator/blame.errBytes",Rows.laid_collimator_blame_errBytes),("collimator/blame.errCodes",Rows.laid_collimator_blame_errCodes),("collimator/blame.errTexts",Rows.laid_collimator_blame_errTexts),("collimator/blame.errRoom",Rows.laid_collimator_blame_errRoom),("collimator/blame.errOther",Rows.laid_collimator_blame_errOther)] W/\handlesMet Tryd.prog [("errors.errorType",Rows.laid_errors_errorType)] W:=h;obtain⟨⟨ps,hl,-,hok⟩,hh⟩:=h';obtain⟨g1,t1,c1,f1,p1,q1,a1,b1,v1,r1,⟨g2,t2,c2,f2,p2,q2,a2,b2,v2,r2,⟨g3,t3,c3,f3,p3,q3,a3,b3,v3,r3,⟨g4,t4,c4,f4,p4,q4,a4,b4,v4,r4,⟨g5,t5,c5,f5,p5,q5,a5,b5,v5,r5,-,e5⟩,e4⟩,e3⟩,e2⟩,e1⟩:=hl
 have hrow:∀(g:Nat) (c:Array Value),c.size≠0->MemPlace.cell g 0∈MemPlace.row ⟨g,0,none⟩ c.size:=fun g c h=>by
  obtain⟨k,hk⟩:=Nat.exists_eq_succ_of_ne_zero h;rw[hk]
  exact List.mem_map.2 ⟨0,List.mem_range.2 (Nat.succ_pos k),rfl⟩
 have i1:=hrow g1 c1 (gH (g0:=1) (by kernel_rfl) (by kernel_rfl) a1 b1 r1)
 have i2:=hrow g2 c2 (gH (g0:=2) (by kernel_rfl) (by kernel_rfl) a2 b2 r2)
 have i3:=hrow g3 c3 (gH (g0:=3) (by kernel_rfl) (by kernel_rfl) a3 b3 r3)
 have i4:=hrow g4 c4 (gH (g0:=4) (by kernel_rfl) (by kernel_rfl) a4 b4 r4)
 have i5:=hrow g5 c5 (gH (g0:=5) (by kernel_rfl) (by kernel_rfl) a5 b5 r5)
 subst e5 e4 e3 e2 e1;have s1:=dM (g0:=1) (by kernel_rfl) (by kernel_rfl) a1 b1 v1 r1 (hok g1 0 (by simp[i1])).2
 have s2:=dM (g0:=2) (by kernel_rfl) (by kernel_rfl) a2 b2 v2 r2 (hok g2 0 (by simp[i2])).2
 have s3:=dM (g0:=3) (by kernel_rfl) (by kernel_rfl) a3 b3 v3 r3 (hok g3 0 (by simp[i3])).2
 have s4:=dM (g0:=4) (by kernel_rfl) (by kernel_rfl) a4 b4 v4 r4 (hok g4 0 (by simp[i4])).2
 have s5:=dM (g0:=5) (by kernel_rfl) (by kernel_rfl) a5 b5 v5 r5 (hok g5 0 (by simp[i5])).2
 refine⟨oL hh,fun g hg=>?_⟩
 rcases hg with rfl|rfl|rfl|rfl|rfl
 ·exact s1
 ·exact s2
 ·exact s3
 ·exact s4
 ·exact s5
noncomputable def mZ:Nat:=(World.holding Tryd.prog default ⟨#[],#[],[]⟩).heap.size
def n4(k:Nat):ByteArray:=if k=0 then⟨#[98,121,116,101,115]⟩else if k=1 then⟨#[99,111,100,101,115]⟩else if k=2 then⟨#[116,101,120,116,115]⟩else if k=3 then⟨#[114,111,111,109]⟩else⟨#[111,116,104,101,114]⟩
def kS(h:Array Obj)(g:Nat)(v:Value):Array Obj:=h.modify g fun
 |.cells _ t frozen=>.cells #[v] t frozen
 |o=>o
noncomputable def rX(os:Os):World:=
 let w0:=World.holding Tryd.prog os ⟨#[.cells #[.string (n4 0)] 154,.cells #[.string (n4 1)] 154,.cells #[.string (n4 2)] 154,.cells #[.string (n4 3)] 154,.cells #[.string (n4 4)] 154],#[],[]⟩
 {w0 with heap:=kS (kS (kS (kS (kS (kS w0.heap 0 (.iface 101 (.agg #[.pointer (some ⟨7,30,none⟩)])))
  1 (.iface 134 (.pointer (some ⟨mZ,0,none⟩)))) 2 (.iface 134 (.pointer (some ⟨mZ+1,0,none⟩)))) 3 (.iface 134 (.pointer (some ⟨mZ+2,0,none⟩))))
  4 (.iface 134 (.pointer (some ⟨mZ+3,0,none⟩)))) 5 (.iface 134 (.pointer (some ⟨mZ+4,0,none⟩)))}
end Go.Cm
namespace Go.Cm
open Go.RowKit Go.Proofs Go.WideShapes Go.ChangeShapes Go.Deep
section
variable {H : Type} {enc : TypeId × Value → H} {P : Program}
theorem jW{f:Func}{s:ChangeSpec}{apart fresh wL again:Bool}{W W':World}{args:Array Value}{v:Value}{ds gs:List (DataW H)}{before pa pv:List MemPlace}
  (hW:DataW.Whole enc P f.params.toList s.vars apart W args.toList ds gs before)
  (hres:∀(b:Nat) (sp:Nat->Bool) (hd:Bool),DataW.TrodAll enc P W' b sp hd f.resultTypes.toList (v.resultList f.resultTypes.size) (s.fn H (ds++gs)).results [])
  (wY:∀sp:Nat->Bool,(∀p∈before,sp p.block=true)->DataW.TrodAll enc P W' 0 sp true f.params.toList args.toList (s.fn H (ds++gs)).args pa)
  (wR:∀sp:Nat->Bool,(∀p∈before,sp p.block=true)->DataW.TrodVars enc P W' sp s.vars (s.fn H (ds++gs)).vars pv)
  (hps:before=pa++pv) (hb:Below W.heap.size W W')
  (hok:∀(j:Nat) (t:TypeId) (r:Value),f.resultTypes[j]? =some t->(v.resultList f.resultTypes.size)[j]? =some r->Value.okWide P W' .any 0 t r):
  s.post enc P f apart fresh wL again W args v W':=by
 have hlt:∀p∈before,p.block<W.heap.size:=fun p hp=>hW.lt p hp
 have hold:∀p∈before,(fun b=>decide (b<W.heap.size)) p.block=true:=fun p hp=>by simpa using hlt p hp
 refine⟨ds,gs,before,[],pa,pv,hW,hres _ _ _,wY _ hold,wR _ hold,World.keptBut_mono (fun p hp=>⟨hp,?_⟩) (hb.frame (· ∈before)),fun _=>?_⟩
 ·rw[hps,List.mem_append]at hp
  exact Or.inr hp
 ·obtain⟨_,_,_,_,_,hz,hn⟩:=hW
  refine⟨hok,_,_,([]++pa)++pv,⟨[]++pa,pv,trodAll_append (wY _ (fun _ _=>rfl)) (hres _ _ _),wR _ (fun _ _=>rfl),rfl,?_,?_⟩,?_⟩
  ·intro b off hp
   have hin:MemPlace.cell b off∈before:=by rw[hps];simpa using hp
   rw[hb.frozen (hlt _ hin)]
   exact hz b off hin
  ·intro ha
   have:=hn ha;rw[hps]at this
   simpa using this
  ·intro p hp _
   rw[hps]
   simpa using hp
end
section
variable {H : Type} {enc : TypeId × Value → H} {P : Program} {w : World} {base : Nat} {held : Bool}
theorem aN:reachBytes=140737488351232:=rfl
end
section
variable {H : Type} {enc : TypeId × Value → H} {w : World} {base : Nat} {held : Bool}
end
end Go.Cm
