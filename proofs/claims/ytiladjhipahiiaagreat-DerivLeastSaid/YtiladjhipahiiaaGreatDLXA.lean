/- Walks of functions and plain facts, joined and squeezed by a program. Conditions: as each says. -/
import Derived.Test.YtiladjhipahiiaaGreatRows
import Derived.WalkKit
import Derived.WalkSpells
import Derived.WalkLawsBesides
import Derived.Deep.QuietTactic
import Derived.BigQuiet
import Derived.Lib.Hide
import Derived.Laws.Small
import Derived.Maps.OwnSet
import Derived.Deep.Quiet
import Derived.Maps.Own
import Derived.Maps.OwnOps
import Derived.Maps.Views
import Derived.SizedLaws
import Derived.ProofKit
import Derived.OpenShut
import Derived.Deep.Slices
import Derived.ChangeSlices
import Derived.WideKeyArgs
import Derived.Laws.BitsLemmas
import Derived.LaidEql
import Derived.Stop.Asserts
import Derived.RowKitTokens
import Derived.Test.YtiladjhipahiiaaGreatDLX0
set_option maxHeartbeats 8000000
set_option maxRecDepth 100000
set_option linter.unusedSimpArgs false
open Go.Proofs.Tryz
namespace Go.Cm
open Go.RowKit
theorem ZmA0{P:Prop}(h:P:=by
 have:∀(l:List α) (ks:List α) (js:List β),js.length<=ks.length->(∀x∈ks,f x∈js)->((l.map f).foldl aQ js).length<=(l.foldl aQ ks).length:=by
  intro l
  induction l with
  |nil=>intro ks js h _;exact h
  |cons a l ih=>
   intro ks js h hk;simp only[qJ,qL];refine ih _ _ ?_ ?_
   ·unfold aQ
    by_cases ha:a∈ks
    ·rw[qw ha,qw (hk a ha)];exact h
    rw[qv ha];split<;>simp<;>omega
   intro x hx;rcases cR.1 hx with h1|rfl
   ·exact cR.2 (.inl (hk x h1))
   exact cR.2 (.inr rfl)
 exact this l [] [] (qb _) (fun x hx=>by cases hx)):P:=h
theorem ZmA1{P:Prop}(h:P:=by
 intro hm;have e:=h a (hm a (by simp)) s hs;simp only[qJ,List.idxOf_cons];by_cases hf:f a=f s
 ·have h1:(f a==f s)=true:=by simpa using hf
  have h2:(g a==g s)=true:=by simpa using e.1 hf
  rw[h1,h2];simp
 have h1:(f a==f s)=false:=by simpa using hf
 have h2:(g a==g s)=false:=by simpa using fun q=>hf (e.2 q)
 rw[h1,h2,ih fun a ha=>hm a (by simp[ha])]):P:=h
theorem ZmA2{P:Prop}(h:P:=by
 have:∀n (l:List α),l.length=n->P l:=by
  intro n
  induction n with
  |zero=>intro l hl;obtain rfl:=List.length_eq_zero_iff.1 hl;exact h0
  |succ n ih=>
   intro l hl;have hne:l≠[]:=by intro e;subst e;cases hl
   have:=List.dropLast_concat_getLast hne;rw[<-this];exact h _ _ (ih _ (by simp[hl]))
 exact this _ l rfl):P:=h
theorem ZmA3{P:Prop}(h:P:=by
 rename_i hw
 simp only[hw,jJ]at h1;rcases h1 with h1|⟨-,h1⟩
 ·exact .inl (tY (fun _ _ _ h=>h) zL h1)
 exact(zL h1).elim):P:=h
theorem ZmA4{P:Prop}(h:P:=by simp[Instr.entryStore,MapKept.run_getObj_map hb1,hfi,asInt,asIntOf,Result.andThen,MapKept.run_setObj_map _ hb1,hw2]):P:=h
theorem ZmA5{P:Prop}(h:P:=by rename_i hn;rw[List.nodup_append];exact⟨h,by simp,fun a ha b hb e=>by simp at hb;subst hb;subst e;exact hn ha⟩):P:=h
theorem ZmA6{P:Prop}(h:P:=by
 obtain⟨k,hk⟩:=ih (aQ l a);rw[qL,hk];unfold aQ;split
 ·exact⟨k,rfl⟩
 exact⟨a::k,by simp⟩):P:=h
theorem ZmA7{P:Prop}(h:P:=by
 rcases List.mem_append.1 h with h|h
 ·exact j5 _ (ih h)
 exact List.mem_append_right _ h):P:=h
theorem ZmA8{P:Prop}(h:P:=by
 rcases List.mem_cons.1 h1 with rfl|h2
 ·exact .inl (cR.2 (.inr rfl))
 exact .inr h2):P:=h
theorem ZmA9{P:Prop}(h:P:=by obtain⟨vs,h1,h2,h3⟩:=h;exact⟨vs,h1.up hb,h2,fun i hi=>(h3 i hi).up hb⟩):P:=h
noncomputable def ext(w x:World):World:=@ite _ (Below w.heap.size w x) (Classical.propDecidable _) x w
theorem aE(w x:World):Below w.heap.size w (ext w x):=by
 unfold ext;split
 ·assumption
 exact qn _ _
theorem qa8{w x:World}(h:Below w.heap.size w x):ext w x=x:=by
 unfold ext;rw[qw h]
theorem aJ{w x:World}(h:Below w.heap.size w x):∃y,x=ext w y:=⟨x,(qa8 h).symm⟩
theorem aI{w w':World}(h:∃x,w'=ext w x):Below w.heap.size w w':=by
 obtain⟨x,rfl⟩:=h;exact aE w x
theorem aX(w:World)(n:Nat):Below w.heap.size w (w.drewN n):=⟨rfl,rfl,rfl,qb _,fun _ _=>rfl⟩
theorem fD{w x y:World}(h:Below w.heap.size w x)(k:Below x.heap.size x y):Below w.heap.size w y:=h.trans (k.mono h.size)
theorem q44(w x y:World):∃z,ext (ext w x) y=ext w z:=aJ (fD (aE w x) (aE _ y))
theorem aD(w:World)(o:Obj):Below w.heap.size w (w.alloc o):=(qn _ _).alloc (qb _) o
theorem dP(w:World):∃x,w=ext w x:=aJ (qn _ _)
@[go_sem] theorem cell?_ext(w x:World)(b o:Nat)(h:b<w.heap.size):(ext w x).cell? ⟨b,o,none⟩=w.cell? ⟨b,o,none⟩:=(aE w x).cell (p:=⟨b,o,none⟩) h
@[go_sem] theorem frozen?_ext(w x:World)(b o:Nat)(h:b<w.heap.size):(ext w x).frozen? ⟨b,o,none⟩=w.frozen? ⟨b,o,none⟩:=(aE w x).frozen (p:=⟨b,o,none⟩) h
theorem iP(w x:World):w.heap.size<=(ext w x).heap.size:=(aE w x).size
theorem yQ(w x:World)(b:Nat)(h:b<w.heap.size):(ext w x).heap[b]? =w.heap[b]? :=(aE w x).block b h
@[go_sem] theorem cell?_ext_alloc_old(w x:World)(a:Obj)(b o:Nat)(h:b<w.heap.size):(ext (w.alloc a) x).cell? ⟨b,o,none⟩=w.cell? ⟨b,o,none⟩:=by
 rw[cell?_ext _ _ _ _ (by simp;omega),World.cell?_alloc_past _ _ _ h]
@[go_sem] theorem cell?_ext_alloc_new(w x:World)(c:Array Value)(t:TypeId)(o:Nat):(ext (w.alloc (.cells c t)) x).cell? ⟨w.heap.size,o,none⟩=c[o]? :=by
 rw[cell?_ext _ _ _ _ (by simp),World.cell?_alloc_new]
structure Hd(w:World)(oa:Option Addr)(len cap b off:Nat):Prop where
 hat:0<len->oa=some ⟨b,off,none⟩
 hcap:len<=cap
 hmax:cap<=maxLen
 hsml:len<=140737488351232
 hblk:0<len->b<w.heap.size
theorem Hd.len{w:World}{oa:Option Addr}{len cap b off:Nat}(h:Hd w oa len cap b off):len<=9223372036854775807:=by
 have h1:=h.hsml;omega
def Sl(w:World)(v:Value)(l:List Value):Prop:=
 ∃oa cap b off,v=.slice oa l.length cap/\Hd w oa l.length cap b off/\∀i,i<l.length->w.cell? ⟨b,off+i,none⟩=some (l.getD i undef)
theorem Sl.up{w w':World}{v:Value}{l:List Value}(h:Sl w v l)(hb:Below w.heap.size w w'):Sl w' v l:=by
 obtain⟨oa,cap,b,off,rfl,hd,hc⟩:=h;refine⟨oa,cap,b,off,rfl,⟨hd.hat,hd.hcap,hd.hmax,hd.hsml,fun h=>qe (hd.hblk h) hb.size⟩,fun i hi=>?_⟩;rw[hb.cell (p:=⟨b,off+i,none⟩) (hd.hblk (by omega))];exact hc i hi
theorem Sl.nil(w:World):Sl w (.slice none 0 0) []:=⟨none,0,0,0,rfl,⟨fun h=>absurd h (jK 0),qb _,by simp[maxLen],by simp,fun h=>absurd h (jK 0)⟩,fun i hi=>absurd hi (qC i)⟩
theorem aT{P:Program}{w:World}{oa:Option Addr}{b off len cap:Nat}(T E:TypeId)(hT:P.underlying T=some (.slice E))(hE:(P.info? E).map (·.size)=some 1)(h:Hd w oa len cap b off):
  ∀(W:World) (k:IntKind) (i:Int),0<=i->i<len->(Instr.indexAt T (.slice oa len cap) (.int k i)).run P W=.ok (.pointer (some ⟨b,off+i.toNat,none⟩)) W:=by
 intro W k i h0 h1;rw[h.hat (by omega)];have he:P.elem T=E:=by simp[Program.elem,hT]
 rw[run_indexAt_slice W T ⟨b,off,none⟩ len cap k i (by rw[he];exact hT),qw ⟨h0,h1⟩,he];cases hq:P.info? E with
 |none=>simp[hq]at hE
 |some inf=>
  have hs:inf.size=1:=by simpa[hq]using hE
  simp[sizeOf,typeInfo,hq,hs,Result.andThen,Addr.add]
def ints(l:List Int):List Value:=l.map (Value.int .i64)
@[simp] theorem aS(l:List Int):(ints l).length=l.length:=by simp[ints]
theorem fF(l:List Int)(i:Nat)(h:i<l.length):(ints l).getD i undef=.int .i64 (l.getD i 0):=by
 simp[ints,List.getD,h]
def eB(w:World)(v:Value)(l:List Int):Prop:=Sl w v (ints l)
theorem eB.up{w w':World}{v:Value}{l:List Int}(h:eB w v l)(hb:Below w.heap.size w w'):eB w' v l:=Sl.up h hb
theorem eB.open{w:World}{v:Value}{l:List Int}(h:eB w v l):
  ∃oa cap b off,v=.slice oa l.length cap/\Hd w oa l.length cap b off/\∀i,i<l.length->w.cell? ⟨b,off+i,none⟩=some (.int .i64 (l.getD i 0)):=by
 obtain⟨oa,cap,b,off,rfl,hd,hc⟩:=h;simp only[aS]at hd hc⊢;exact⟨oa,cap,b,off,rfl,hd,fun i hi=>by rw[hc i hi,fF l i hi]⟩
def o8(w:World)(v:Value)(ll:List (List Int)):Prop:=
 ∃vs,Sl w v vs/\vs.length=ll.length/\∀i,i<ll.length->eB w (vs.getD i undef) (ll.getD i [])
theorem o8.up{w w':World}{v:Value}{l:List (List Int)}(h:o8 w v l)(hb:Below w.heap.size w w'):o8 w' v l:=by
 exact ZmA9
theorem o8.open{w:World}{v:Value}{ll:List (List Int)}(h:o8 w v ll):
  ∃oa cap b off,v=.slice oa ll.length cap/\Hd w oa ll.length cap b off/\∀i,i<ll.length->
   ∃oi ci bi fi,w.cell? ⟨b,off+i,none⟩=some (.slice oi (ll.getD i []).length ci)/\Hd w oi (ll.getD i []).length ci bi fi/\
    (∀j,j<(ll.getD i []).length->w.cell? ⟨bi,fi+j,none⟩=some (.int .i64 ((ll.getD i []).getD j 0)))/\eB w (.slice oi (ll.getD i []).length ci) (ll.getD i []):=by
 obtain⟨vs,⟨oa,cap,b,off,rfl,hd,hc⟩,h2,h3⟩:=h;rw[h2]at hd hc⊢;refine⟨oa,cap,b,off,rfl,hd,fun i hi=>?_⟩;have h4:=h3 i hi;obtain⟨oi,ci,bi,fi,he,hdi,hci⟩:=h4.open;refine⟨oi,ci,bi,fi,?_,hdi,hci,?_⟩
 ·rw[hc i hi,he]
 rw[<-he];exact h4
theorem dA{P:Program}(w:World)(g off n:Nat)(t ty:TypeId)(cs:Array Value)(fr:Nat×Nat)(d:TypeDesc)(hg:w.heap[g]? =some (.cells cs t fr))
  (hu:P.underlying ty=some d) (hd:(match d with|.struct _|.array _ _=>true|_=>false)=true) (hi:(P.info? ty).map (·.size)=some n) (hs:off+n<=cs.size):
  (loadVar ty ⟨g,off,none⟩).run P w=.ok (.agg (cs.extract off (off+n))) w:=by
 have hlen:(cs.extract off (off+n)).toList.length=n:=by simp;omega
 have hl:(loadCells ⟨g,off,none⟩ (cs.extract off (off+n)).toList.length).run P w=.ok (cs.extract off (off+n)).toList.toArray w:=
  run_loadCells_list (P:=P) w ⟨g,off,none⟩ (cs.extract off (off+n)).toList (fun j v hv=>by
   have qkF:(⟨g,off,none⟩:Addr).add j=⟨g,off+j,none⟩:=by unfold Addr.add;split<;>simp_all
   rw[qkF,cell_of_row w g (off+j) cs t fr hg]
   have hj:j<n:=by
    have:=(List.getElem?_eq_some_iff.1 hv).1;omega
   rw[<-hv];simp[hj])
 rw[hlen]at hl;simp only[Array.toArray_toList]at hl;cases hq:P.info? ty with
 |none=>simp[hq]at hi
 |some i=>
  have hs':i.size=n:=by simpa[hq]using hi
  have hagg:(isAgg ty).run P w=.ok true w:=by
   unfold isAgg;rw[Sem.run_bind,run_underlying hu w];cases d<;>simp_all
  simp[loadVar,Sem.run_bind,hagg,sizeOf,typeInfo,hq,hs',hl]
theorem kI{P:Program}{ops:Array Oper}{rest:List Oper}{o:Oper}{a:Act}{w:World}{Q:Exit->Act->World->Prop}(hgd:o.guard=none)(ty:TypeId)(x:Operand)(ho:o.op=.load ty x)
  (g off n:Nat) (hx:a.eval x=.pointer (some ⟨g,off,none⟩)) (t:TypeId) (cs B:Array Value) (fr:Nat×Nat) (d:TypeDesc) (hg:w.heap[g]? =some (.cells cs t fr))
  (hu:P.underlying ty=some d) (hd:(match d with|.struct _|.array _ _=>true|_=>false)=true) (hi:(P.info? ty).map (·.size)=some n) (hs:off+n<=cs.size) (hB:cs.extract off (off+n)=B)
  (h:wpList P ops Q rest (a.put o.dst (.agg B)) w):wpList P ops Q (o::rest) a w:=by
 subst hB;refine wpList_plain hgd fun K hK=>?_;unfold Oper.wp execOp;simp only[ho,hx,Instr.loadAt,Instr.sureAddr,Sem.run_bind,Sem.run_pure,Result.andThen_ok,dA w g off n t ty cs fr d hg hu hd hi hs];exact hK _ _ h
theorem lY{B:Nat}{w v:World}(h:Below B w v)(n:Nat):Below B w (v.drewN n):=h.trans ⟨rfl,rfl,rfl,qb _,fun _ _=>rfl⟩
theorem X9{B:Nat}{w v:World}(h:Below B w v)(hB:B<=v.heap.size)(x:World):Below B w (ext v x):=h.trans ((aE v x).mono hB)
theorem gK{w v:World}(h:Below w.heap.size w v)(x:World):Below w.heap.size w (ext v x):=X9 h h.size x
theorem Q0{w v:World}(h:Below w.heap.size w v)(o:Obj):Below w.heap.size w (v.alloc o):=h.alloc h.size o
theorem dH{P:Program}{f:FuncId}{args:Array Value}{w x:World}{v:Value}
  (h:Calls P f args (ext w x) fun e w'=>e=.returned v/\∃y,w'=ext (ext w x) y):Calls P f args (ext w x) fun e w'=>e=.returned v/\∃y,w'=ext w y:=
 h.mono fun _ _ ⟨he,y,hy⟩=>⟨he,by rw[hy];exact q44 w x y⟩
theorem cO{P:Program}{id:Nat}{Q:Exit->Act->World->Prop}{a:Act}{w:World}{l:List Oper}(hm:P.follows .mixedOrders=true)(hB:Region.lexB .any l.toArray=true)
  (h:wpQuiet P l.toArray (fun w'=>∃x,w'=ext w x) (fun a'=>∀w',(∃x,w'=ext w x)->Q .normal a' w') l a):(Code.region id l.toArray true).wp P Q a w:=
 wp_region_quiet (C:=fun w'=>∃x,w'=ext w x) hm hB (aJ (aX w 1)) (by simpa using h)
theorem yD{P:Program}(w:World)(T E n:Nat)(hT:P.underlying T=some (.array n E))(hE:P.underlying E=some (.int .i64))(hs:(P.info? E).map (·.size)=some 1)
  (xs ys:Array Value) (l m:List Int) (hl:l.length=n) (hm:m.length=n) (hx:∀i,i<n->xs[i]? =some (.int .i64 (l.getD i 0))) (hy:∀i,i<n->ys[i]? =some (.int .i64 (m.getD i 0))) (d:Nat):
  (Op.equalIn (d+2) T (.agg xs) (.agg ys)).run P w=.ok (decide (l=m)) w:=by
 have hsz:∀W,(sizeOf E).run P W=.ok 1 W:=fun W=>by
  cases hq:P.info? E with
  |none=>simp[hq]at hs
  |some inf=>
   have:inf.size=1:=by simpa[hq]using hs
   simp[sizeOf,typeInfo,hq,this]
 have hag:∀W,(isAgg E).run P W=.ok false W:=fun W=>by unfold isAgg;rw[Sem.run_bind,run_underlying hE];rfl
 have qds:∀(zs:Array Value) (q:List Int) (i:Nat) (W:World),zs[i]? =some (.int .i64 (q.getD i 0))->(part E zs (i*1)).run P W=.ok (.int .i64 (q.getD i 0)) W:=fun zs q i W h=>by
  unfold part;rw[Sem.run_bind,hag];simp only[Result.andThen,Nat.mul_one,h];rfl
 have hel:∀(x y:Int) (W:World),(Op.equalIn (d+1) E (.int .i64 x) (.int .i64 y)).run P W=.ok (x==y) W:=fun x y W=>by
  rw[Op.equalIn,Sem.run_bind,run_underlying hE];simp[Result.andThen]
 rw[Op.equalIn,Sem.run_bind,run_underlying hT];simp only[Result.andThen_ok,Sem.run_bind,hsz]
 have key:∀(k s:Nat),s+k=n->l.take s=m.take s->∀W,(forIn (List.range' s k) ((none,()):Option Bool×Unit) fun i r=>do
   let __do_lift<-part E xs (i*1)
   let __do_lift_1<-part E ys (i*1)
   let __do_lift<-Op.equalIn (d+1) E __do_lift __do_lift_1
   if(!__do_lift)=true then pure (ForInStep.done (some false,()))else pure (ForInStep.yield (none,())):Sem (Option Bool×Unit)).run P W=.ok (if l=m then(none,())else(some false,())) W:=by
  intro k
  induction k with
  |zero=>
   intro s hs' ht W;have:l=m:=by rwa [qG (by omega),qG (by omega)]at ht
   simp[this]
  |succ k ih=>
   intro s hs' ht W;simp only[List.range'_succ,List.forIn_cons,Sem.run_bind,qds xs l s W (hx s (by omega)),Result.andThen_ok,qds ys m s W (hy s (by omega)),hel];by_cases he:l.getD s 0=m.getD s 0
   ·have h2:l.take (s+1)=m.take (s+1):=by
     have he':l[s]'(by omega)=m[s]'(by omega):=by simpa[List.getD,show s<l.length by omega,show s<m.length by omega]using he
     rw[qM (by omega),qM (by omega),ht,he']
    have h3:=ih (s+1) (by omega) h2 W;simp only[he,beq_self_eq_true,Bool.not_true,qT,jt];exact h3
   have hne:l≠m:=fun h=>he (by rw[h]);have hb:(l.getD s 0==m.getD s 0)=false:=by simpa using he
   simp only[hb,Bool.not_false,jJ,Sem.run_pure,Result.andThen_ok,hne,jt]
 have h0:=key n 0 (by omega) (by simp) w;rw[Std.Legacy.Range.forIn_eq_forIn_range'];simp only[Std.Legacy.Range.size,Nat.sub_zero,Nat.add_sub_cancel,Nat.div_one];rw[h0];by_cases he:l=m<;>simp[he]
theorem aO{B:Nat}{a w:World}(h:Below B a w:=by repeat(first|exact qn _ _|assumption|refine lY ?_ _|refine qo ?_|refine gK ?_ _|refine Q0 ?_ _)):Below B a w:=h
end Go.Cm
namespace Go.Cm
open Go.RowKit
def q45(C:World->Prop)(K:Act->World->Prop):Exit->Act->World->Prop
 |.normal,a,w=>C w/\K a w
 |_,_,_=>False
def noQ:Exit->Act->World->Prop:=fun _ _ _=>False
def aF(P:Program)(ops:Array Oper)(C:World->Prop)(Q:Act->World->Prop):List Oper->Act->World->Prop
 |[],a,w=>Q a w
 |o::rest,a,w=>wpList P ops (q45 C (aF P ops C Q rest)) [o] a w
section
variable {P : Program} {ops : Array Oper} {md : Region.Mode} {C : World → Prop}
def tX(P:Program)(md:Region.Mode)(ops:Array Oper)(C:World->Prop)(Q:Act->World->Prop):Nat->Array Bool->Act->World->Prop
 |0,listed,a,w=>C w/\Region.ready md ops listed=[]/\Q a w
 |fuel+1,listed,a,w=>C w/\(Region.ready md ops listed=[]->Q a w)/\
  ∀i∈Region.ready md ops listed,wpOp P ops noQ i (tX P md ops C Q fuel (listed.setIfInBounds i true)) a w
theorem tY{o:Oper}{a:Act}{w:World}{K:Act->World->Prop}{Q1 Q2:Exit->Act->World->Prop}(h1:∀c a w,¬Q1 (.panic c) a w)(h2:¬LetsOut Q1)(h:o.wp P a w K Q1):o.wp P a w K Q2:=by
 unfold Oper.wp at*;generalize (execOp a.eval o).run P w=r at*;cases r with
 |ok n w'=>
  cases n<;>simp only[Oper.upon]at h⊢ <;>
   first
    |exact h
    |exact Calls.mono h (fun e w'' he=>by cases e<;>first|exact he|exact(h1 _ _ _ he).elim|exact(h2 he).elim)
    |exact Rows.mono h (fun _ _ he=>he)
 |halt x w'=>cases x<;>simp only[Oper.upon]at h⊢ <;>first|exact h.elim|exact(h1 _ _ _ h).elim
theorem zL:¬LetsOut noQ:=fun⟨_,_,h⟩=>h
theorem rW{K:Act->World->Prop}:¬LetsOut (q45 C K):=fun⟨_,_,h⟩=>h
theorem wJ{Q:Act->World->Prop}{Q':Exit->Act->World->Prop}(hQ:∀a w,C w->Q a w->Q' .normal a w):∀(fuel:Nat) (listed:Array Bool) (a:Act) (w:World),
  tX P md ops C Q fuel listed a w->wpAny P md ops Q' fuel listed a w
 |0,_,_,_,h=>⟨h.2.1,hQ _ _ h.1 h.2.2⟩
 |fuel+1,listed,a,w,h=>⟨fun h0=>hQ _ _ h.1 (h.2.1 h0),fun i hi=>by
   have h1:=wpOp_mono (fun a w=>wJ (Q':=Q') hQ fuel _ a w) (h.2.2 i hi);unfold wpOp at h1⊢;split
   ·rename_i ho;simpa[ho]using h1
   rename_i o ho;simp only[ho]at h1;split
   ·exact ZmA3
   rename_i hw;simpa[hw]using h1⟩
def zM:Op->Bool
 |.call c=>(match c.callee with|.builtin .len|.builtin .cap|.builtin .min|.builtin .max=>true|_=>false)
 |.go _|.defer _|.panic _|.send .. |.recv .. |.select .. =>false
 |_=>true
theorem q10{s:Sem Value}{w w':World}{f:FuncId}{args:Array Value}:(s>>=fun x=>pure (Next.value x):Sem Next).run P w≠.ok (.enter f args) w':=by
 rw[Sem.run_bind];cases s.run P w<;>simp[Result.andThen]
theorem q11{s:Sem Unit}{w w':World}{f:FuncId}{args:Array Value}:(s>>=fun _=>pure Next.skip:Sem Next).run P w≠.ok (.enter f args) w':=by
 rw[Sem.run_bind];cases s.run P w<;>simp[Result.andThen]
def Yin(P:Program)(ops:Array Oper)(C:World->Prop)(o:Oper)(v:Value)(a:Act):Prop:=
 (Region.wanted o (yielded ops a.tmps)=true/\∀w,C w->(execOp a.eval o).run P w=.ok (.value v) w\/((execOp a.eval o).run P w=.ok .skip w/\v=undef))\/
 (Region.wanted o (yielded ops a.tmps)=false/\v=undef)
theorem Yin.of_same{o:Oper}{v:Value}{a a':Act}(hy:Yin P ops C o v a)(he:execOp a'.eval o=execOp a.eval o)
  (hw:Region.wanted o (yielded ops a'.tmps)=Region.wanted o (yielded ops a.tmps)):Yin P ops C o v a':=by
 unfold Yin at*;rw[he,hw];exact hy
theorem Yin.wpOp{i:Nat}{o:Oper}{v:Value}{a:Act}{w:World}(hC:C w)(hi:ops[i]? =some o)(hy:Yin P ops C o v a)
  {K:Act->World->Prop} (h:K (a.put o.dst v) w):wpOp P ops noQ i K a w:=by
 unfold Go.wpOp;simp only[hi];rcases hy with⟨hw,hv⟩|⟨hw,rfl⟩
 ·simp only[hw,jJ,Oper.wp]
  rcases hv w hC with hx|⟨hx,he⟩
  ·rw[hx];exact .inl h
  subst he;rw[hx];exact .inl h
 simp only[hw,qT,jt];exact h
theorem q46{j:Nat}{oi oj:Oper}{v:Value}(hj:ops[j]? =some oj)(hap:oi.apart ops oj=true)
  (hsi:∀cs b,oi.op≠.select cs b) (hsj:∀cs b,oj.op≠.select cs b) {K:Act->World->Prop} {a:Act} {w:World}
  (hy:Yin P ops C oi v a) (h:wpOp P ops noQ j K (a.put oi.dst v) w):
  wpOp P ops noQ j (fun a' w'=>Yin P ops C oi v a'/\K (a'.put oi.dst v) w') a w:=by
 obtain⟨h1,h2,h3⟩:=Oper.apart_spec hap
 have keep:∀(a:Act),Yin P ops C oi v a->∀u,Yin P ops C oi v (a.put oj.dst u):=fun a hy u=>
  hy.of_same (execOp_put oi hsi a oj.dst u h3) (wanted_put oi a oj.dst u h3)
 have keepD:∀d,Yin P ops C oi v {a with defers:=d::a.defers}:=fun d=>hy.of_same rfl rfl;unfold wpOp at*;simp only[hj]at*;rw[wanted_put oj a oi.dst v h1]at h;split
 ·rename_i hw
  simp only[hw,jJ]at h;rcases h with h|⟨_,qgy⟩
  case inr=>exact(zL qgy).elim
  refine .inl ?_;unfold Oper.wp at*;rw[execOp_put oj hsj a oi.dst v h1]at h;generalize (execOp a.eval oj).run P w=r at*;cases r with
  |ok n w'=>
   cases n<;>simp only[Oper.upon]at h⊢
   case value u=>exact⟨keep a hy u,by rw[<-Act.put_comm a v u h2];exact h⟩
   case skip=>exact⟨keep a hy _,by rw[<-Act.put_comm a v undef h2];exact h⟩
   case defer d=>
    refine⟨keep _ (keepD d) _,?_⟩;rw[<-Act.put_comm _ v undef h2,<-Act.put_defers];exact h
   case enter f args=>
    refine Calls.mono h fun e w'' he=>?_;cases e with
    |returned u=>exact⟨keep a hy u,by rw[<-Act.put_comm a v u h2];exact he⟩
    |panicked c=>exact(he:False).elim
    |outgrown=>exact he
   case row row args=>exact Rows.mono h fun u w'' he=>⟨keep a hy u,by rw[<-Act.put_comm a v u h2];exact he⟩
  |halt x w'=>
   cases x<;>simp only[Oper.upon]at h⊢
   case panic u=>exact(h:False).elim
 rename_i hw;simp only[hw]at h;exact⟨keep a hy _,by rw[<-Act.put_comm a v undef h2];exact h⟩
theorem xQ{Q:Act->World->Prop}{i:Nat}{oi:Oper}{v:Value}(hi:ops[i]? =some oi)(qeU:∀(j:Nat) (o:Oper) cs b,ops[j]? =some o->o.op≠.select cs b):
  ∀(fuel:Nat) (listed:Array Bool) (a:Act) (w:World),
   (∀j oj,ops[j]? =some oj->j≠i->listed.getD j true=false->(∀e∈oj.after,Region.binds md e=true->e.on≠i)->oi.apart ops oj=true)->
   i∈Region.ready md ops listed->Yin P ops C oi v a->
   tX P md ops C Q fuel (listed.setIfInBounds i true) (a.put oi.dst v) w->tX P md ops C Q (fuel+1) listed a w:=by
 intro fuel
 induction fuel with
 |zero=>
  intro listed a w _ hr hy H;refine⟨H.1,fun h=>(by rw[h]at hr;cases hr),fun j hj=>?_⟩;by_cases hji:j=i
  ·subst hji;exact hy.wpOp H.1 hi H
  have:=ready_mono hj hji;rw[H.2.1]at this;cases this
 |succ fuel ih=>
  intro listed a w qd1 hr hy H;refine⟨H.1,fun h=>(by rw[h]at hr;cases hr),fun j hj=>?_⟩;by_cases hji:j=i
  ·subst hji;exact hy.wpOp H.1 hi H
  have h1:=H.2.2 j (ready_mono hj hji);obtain⟨qfd,oj,hoj,hall⟩:=mem_ready.1 hj
  have qgv:∀e∈oj.after,Region.binds md e=true->e.on≠i:=fun e he hb heq=>by
   have h1:=hall e he hb;have h0:=(mem_ready.1 hr).1;rw[heq]at h1;rcases jR i listed.size with h'|h'
   ·simp[h']at h0 h1;rw[h0]at h1;cases h1
   simp[jw h']at h1
  have h2:=q46 hoj (qd1 j oj hoj hji qfd qgv) (fun cs b=>qeU i oi cs b hi) (fun cs b=>qeU j oj cs b hoj) hy h1
  have qdy:∀k ok,ops[k]? =some ok->k≠i->(listed.setIfInBounds j true).getD k true=false->
    (∀e∈ok.after,Region.binds md e=true->e.on≠i)->oi.apart ops ok=true:=fun k ok hk hki hun hno=>by
   refine qd1 k ok hk hki ?_ hno;by_cases hjk:j=k
   ·subst hjk;exact qfd
   rw[getD_set_ne true hjk]at hun;exact hun
  refine wpOp_mono (fun a' w' h3=>ih (listed.setIfInBounds j true) a' w' qdy (ready_mono hr (Ne.symm hji)) h3.1 ?_) h2;rw[Array.setIfInBounds_comm _ _ hji];exact h3.2
def oA(l:List Oper)(o:List Nat):List Oper:=o.map fun i=>l.getD i default
theorem pk:(∀l i o,oA l (i::o)=l.getD i default::oA l o)/\(∀l,oA l []=[])/\(∀(x:Oper) xs d,(x::xs).getD 0 d=x)/\∀(x:Oper) xs n d,(x::xs).getD (n+1) d=xs.getD n d:=⟨fun _ _ _=>rfl,fun _=>rfl,fun _ _ _=>rfl,fun _ _ _ _=>rfl⟩
def q6J(md:Region.Mode)(ops:Array Oper):List Nat->Array Bool->Bool
 |[],listed=>Region.ready md ops listed==[]
 |i::r,listed=>Region.ready md ops listed==[i]&&q6J md ops r (listed.setIfInBounds i true)
def q6P(md:Region.Mode)(ops:Array Oper)(o2:List Nat):List Nat->Array Bool->Bool
 |[],listed=>q6J md ops o2 listed
 |i::r,listed=>(Region.ready md ops listed).contains i&&Region.free md ops listed i&&((ops[i]?).map (fun o=>zM o.op)).getD false&&q6P md ops o2 r (listed.setIfInBounds i true)
def qb4(md:Region.Mode)(ops:Array Oper)(o1 o2:List Nat):Bool:=
 Region.noSelect ops&&(o1.length+o2.length==ops.size)&&q6P md ops o2 o1 (Array.replicate ops.size false)
theorem wK{Q:Act->World->Prop}:∀(o2:List Nat) (listed:Array Bool) (a:Act) (w:World),q6J md ops o2 listed=true->C w->
  aF P ops C Q (oA ops.toList o2) a w->tX P md ops C Q o2.length listed a w
 |[],listed,a,w,hB,hC,h=>⟨hC,by simpa[q6J]using hB,h⟩
 |i::r,listed,a,w,hB,hC,h=>by
  simp only[q6J,qK,a7]at hB;obtain⟨hr,hB'⟩:=hB;have him:i∈Region.ready md ops listed:=by rw[hr];simp
  obtain⟨_,o,ho,_⟩:=mem_ready.1 him;have hol:ops.toList.getD i default=o:=by rw[qu,j9,ho];rfl
  rw[qA];refine⟨hC,fun h0=>(by rw[hr]at h0;cases h0),fun j hj=>?_⟩;obtain rfl:j=i:=by rw[hr]at hj;simpa using hj
  simp only[oA,qJ,hol]at h;have h':wpList P ops (q45 C (aF P ops C Q (oA ops.toList r))) [o] a w:=h;unfold wpList at h';unfold wpOp;simp only[ho];split
  ·rename_i hw
   rw[qw hw]at h';rcases h' with h'|⟨-,h'⟩
   ·refine .inl (Oper.wp_mono ?_ (tY (fun _ _ _ h=>h) rW h'))
    intro a' w' hh;obtain⟨hC',hk⟩:=(hh:q45 C (aF P ops C Q (oA ops.toList r)) .normal a' w');exact wK r _ a' w' hB' hC' hk
   exact(rW h').elim
  rename_i hw;rw[qv hw]at h';obtain⟨hC',hk⟩:=(h':q45 C (aF P ops C Q (oA ops.toList r)) .normal (a.put o.dst undef) w);exact wK r _ _ _ hB' hC' hk
theorem wL{o:Oper}{a:Act}{K:Act->Prop}(hn:zM o.op=true)
  (h:if Region.wanted o (yielded ops a.tmps)then o.quiet P a C K else K (a.put o.dst undef)):∃v,Yin P ops C o v a/\K (a.put o.dst v):=by
 by_cases hw:Region.wanted o (yielded ops a.tmps)=true
 ·simp only[hw,jJ]at h
  obtain⟨v,h1,h2⟩:=h;refine⟨v,.inl ⟨hw,fun w hC=>?_⟩,h2⟩;have h3:=h1 w hC;unfold Oper.quietAt at h3;generalize hr:(execOp a.eval o).run P w=r at h3;cases r with
  |halt x w'=>simp[Oper.quietUpon]at h3
  |ok n w'=>
   cases n<;>simp only[Oper.quietUpon]at h3
   case value u=>obtain⟨rfl,rfl⟩:=h3;exact .inl rfl
   case skip=>obtain⟨rfl,rfl⟩:=h3;exact .inr ⟨rfl,rfl⟩
   case enter f args=>
    exfalso
    revert hr
    unfold execOp
    cases ho:o.op<;>simp only[ho,zM]at hn⊢ <;>
     first
      |(cases hn;done)
      |exact q10
      |exact q11
      |skip
    ·simp
    ·simp
    ·rw[Sem.run_bind];cases(asBool _).run P w<;>simp[Result.andThen]
    ·split
     all_goals first|(simp;done)|skip
     all_goals first|(unfold runtimePanic;simp;done)|skip
     split
     all_goals first|(simp;done)|(unfold runtimePanic;simp;done)|skip
     simp only[Sem.run_bind];cases(program).run P w with
     |halt=>simp[Result.andThen]
     |ok p w1=>
      simp only[Result.andThen];cases(nilAhead _ _ _ _).run P w1 with
      |halt=>simp
      |ok q w2=>
       simp only[];split<;>simp[unsupported]
    rename_i c;unfold resolve;split at hn
    all_goals first|(cases hn;done)|skip
    all_goals rename_i qks;simp only[qks,Sem.run_bind,Sem.run_pure,Result.andThen_ok,invoke,builtin]
    all_goals
     generalize Sem.run P _ w=r;cases r<;>simp[Result.andThen]
 simp only[hw]at h;exact⟨undef,.inr ⟨by simpa using hw,rfl⟩,h⟩
theorem xR{Q:Act->World->Prop}(hs:Region.noSelect ops=true)(o2:List Nat){w:World}(hC:C w):∀(o1:List Nat) (listed:Array Bool) (a:Act),q6P md ops o2 o1 listed=true->
  wpQuiet P ops C (fun a'=>aF P ops C Q (oA ops.toList o2) a' w) (oA ops.toList o1) a->tX P md ops C Q (o1.length+o2.length) listed a w
 |[],listed,a,hB,h=>by
  rw[qO,qI];exact wK o2 listed a w (by simpa[q6P]using hB) hC h
 |i::r,listed,a,hB,h=>by
  simp only[q6P,qK]at hB;obtain⟨⟨⟨hr,hf⟩,hn⟩,hB'⟩:=hB;have him:i∈Region.ready md ops listed:=by simpa using hr
  obtain⟨_,o,ho,_⟩:=mem_ready.1 him;have hol:ops.toList.getD i default=o:=by rw[qu,j9,ho];rfl
  simp only[oA,qJ,hol]at h;have hn':zM o.op=true:=by simpa[ho]using hn
  obtain⟨v,hy,hK⟩:=wL (K:=wpQuiet P ops C (fun a'=>aF P ops C Q (oA ops.toList o2) a' w) (oA ops.toList r)) hn' h;rw[qA,Nat.add_right_comm];exact xQ ho (Region.noSelect_spec hs) _ listed a w (Region.free_spec ho hf) him hy (xR hs o2 hC r _ _ hB' hK)
theorem tZ{id:Nat}{Q:Exit->Act->World->Prop}{a:Act}{w:World}{l:List Oper}(C:World->Prop)(o1 o2:List Nat)(hm:P.follows .mixedOrders=true)(hB:qb4 .any l.toArray o1 o2=true)(hC:C w.drew)
  (h:wpQuiet P l.toArray C (fun a'=>aF P l.toArray C (fun a'' w''=>C w''->Q .normal a'' w'') (oA l o2) a' w.drew) (oA l o1) a):(Code.region id l.toArray true).wp P Q a w:=by
 simp only[qb4,qK,a7]at hB;obtain⟨⟨hs,hlen⟩,hB⟩:=hB;refine wp_region_any hm ?_;have h1:=xR (Q:=fun a'' w''=>C w''->Q .normal a'' w'') (md:=.any) (w:=w.drew) hs o2 hC o1 (Array.replicate l.toArray.size false) a hB (by simpa using h);rw[hlen]at h1;exact wJ (fun a w hC hq=>hq hC) _ _ _ _ h1
theorem I6{id:Nat}{Q:Exit->Act->World->Prop}{a:Act}{w:World}{l:List Oper}(o1 o2:List Nat)(hm:P.follows .mixedOrders=true)(hB:qb4 .any l.toArray o1 o2=true)
  (h:wpQuiet P l.toArray (fun w'=>∃x,w'=ext w x) (fun a'=>aF P l.toArray (fun w'=>∃x,w'=ext w x) (fun a'' w''=>(∃x,w''=ext w x)->Q .normal a'' w'') (oA l o2) a' w.drew) (oA l o1) a):(Code.region id l.toArray true).wp P Q a w:=
 tZ (C:=fun w'=>∃x,w'=ext w x) o1 o2 hm hB (aJ (aX w 1)) h
noncomputable def chg(w:World)(row:Option Nat)(x:World):World:=@ite _ (w.grownBy x row) (Classical.propDecidable _) x w
theorem gQ{B:Nat}{w v:World}(h:Below B w v):Below B w v.drew:=h.trans ⟨rfl,rfl,rfl,qb _,fun _ _=>rfl⟩
theorem dL(w:World)(row:Option Nat):w.grownBy w row:=⟨rfl,rfl,rfl,qb _,fun _ _ _=>rfl⟩
theorem aL{w x y:World}{row:Option Nat}(h:w.grownBy x row)(k:x.grownBy y row):w.grownBy y row:=
 ⟨k.os.trans h.os,k.tape.trans h.tape,k.output.trans h.output,qc h.size k.size,fun i hi hr=>(k.block i (qe hi h.size) hr).trans (h.block i hi hr)⟩
theorem aK{w x:World}(h:Below w.heap.size w x)(row:Option Nat):w.grownBy x row:=⟨h.os,h.tape,h.output,h.size,fun k hk _=>h.block k hk⟩
theorem eW(w:World)(row:Option Nat):w.grownBy w.drew row:=aK (aX w 1) row
theorem uA(w x:World)(row:Option Nat):w.grownBy (chg w row x) row:=by
 unfold chg;split
 ·assumption
 exact dL w row
theorem qa9{w x:World}{row:Option Nat}(h:w.grownBy x row):chg w row x=x:=by unfold chg;rw[qw h]
theorem dD{w x:World}{row:Option Nat}(h:w.grownBy x row):∃y,x=chg w row y:=⟨x,(qa9 h).symm⟩
@[go_sem] theorem cell?_chg(w x:World)(row:Option Nat)(b o:Nat)(h:b<w.heap.size)(hr:some b≠row):(chg w row x).cell? ⟨b,o,none⟩=w.cell? ⟨b,o,none⟩:=World.cell?_of_block ((uA w x row).block b h hr)
@[go_sem] theorem frozen?_chg(w x:World)(row:Option Nat)(b o:Nat)(h:b<w.heap.size)(hr:some b≠row):(chg w row x).frozen? ⟨b,o,none⟩=w.frozen? ⟨b,o,none⟩:=World.frozen?_of_block ((uA w x row).block b h hr)
theorem oT{id:Nat}{Q:Exit->Act->World->Prop}{a:Act}{w:World}{l:List Oper}(row:Option Nat)(o1 o2:List Nat)(hm:P.follows .mixedOrders=true)(hB:qb4 .any l.toArray o1 o2=true)
  (h:wpQuiet P l.toArray (fun w'=>∃x,w'=chg w row x) (fun a'=>aF P l.toArray (fun w'=>∃x,w'=chg w row x) (fun a'' w''=>(∃x,w''=chg w row x)->Q .normal a'' w'') (oA l o2) a' w.drew) (oA l o1) a):(Code.region id l.toArray true).wp P Q a w:=
 tZ (C:=fun w'=>∃x,w'=chg w row x) o1 o2 hm hB (dD (eW w row)) h
end
end Go.Cm
namespace Go.Cm
open Go.RowKit Go.Proofs
def Own(w:World)(B:Nat)(E:TypeId)(v:Value)(xs:List Value):Prop:=
 w.ownsRow B E 1 v xs.length xs/\xs.length<=140737488351232
theorem Own.nil(w:World)(B:Nat)(E:TypeId):Own w B E (.slice none 0 0) []:=⟨World.ownsRow_nil w B E 1,by simp⟩
theorem Own.sl{w:World}{B:Nat}{E:TypeId}{v:Value}{xs:List Value}(h:Own w B E v xs):Sl w v xs:=by
 obtain⟨⟨_,h⟩,hl⟩:=h;rcases h with⟨rfl,h0⟩|⟨g,cap,cur,rfl,hb,hg,hnc,hcm,hcs,qcz⟩
 ·obtain rfl:xs=[]:=List.length_eq_zero_iff.1 h0
  exact Sl.nil w
 refine⟨some ⟨g,0,none⟩,cap,g,0,rfl,⟨fun _=>rfl,hnc,hcm,hl,fun _=>(Array.getElem?_eq_some_iff.1 hg).1⟩,fun i hi=>?_⟩;rw[cell_of_row w g (0+i) cur E (0,0) hg,qI]
 have h1:xs[i]? =cur[i]? :=by
  rw[<-qcz,List.getElem?_take,qw (by omega)];simp
 rw[<-h1];simp[List.getD,hi]
theorem Own.keep{w w':World}{B:Nat}{E:TypeId}{v:Value}{xs:List Value}{row:Option Nat}(h:Own w B E v xs)(hg:w.grownBy w' row)(hne:v.ownBlock=none\/v.ownBlock≠row):Own w' B E v xs:=⟨h.1.kept hg hne,h.2⟩
theorem Own.up{w w':World}{B:Nat}{E:TypeId}{v:Value}{xs:List Value}(h:Own w B E v xs)(hb:Below w.heap.size w w'):Own w' B E v xs:=
 h.keep (row:=none) ⟨hb.os,hb.tape,hb.output,hb.size,fun k hk _=>hb.block k hk⟩ (by cases v.ownBlock<;>simp)
theorem Own.lt{w:World}{B:Nat}{E:TypeId}{v:Value}{xs:List Value}(h:Own w B E v xs):∀k,v.ownBlock=some k->B<=k/\k<w.heap.size:=h.1.lt
theorem eO{B:Nat}{w0 w w':World}{E:TypeId}{v:Value}{xs:List Value}(h:Below B w0 w)(hB:B<=w.heap.size)(ho:Own w B E v xs)(hg:w.grownBy w' v.ownBlock):Below B w0 w':=
 h.grown hg hB fun k hk=>(ho.lt k hk).1
theorem Own.cases{w:World}{B:Nat}{E:TypeId}{v:Value}{xs:List Value}(h:Own w B E v xs):
  ∃oa cap g,v=.slice oa xs.length cap/\Hd w oa xs.length cap g 0/\(0<xs.length->v.ownBlock=some g/\B<=g)/\(∀i,i<xs.length->w.cell? ⟨g,i,none⟩=some (xs.getD i undef))/\(∀i,i<xs.length->w.frozen? ⟨g,i,none⟩=false)/\
   ∀i u,i<xs.length->Own (w.setCell ⟨g,i,none⟩ u) B E v (xs.set i u)/\w.grownBy (w.setCell ⟨g,i,none⟩ u) (some g):=by
 obtain⟨⟨h0,h⟩,hl⟩:=h;rcases h with⟨rfl,hx⟩|⟨g,cap,cur,rfl,hb,hg,hnc,hcm,hcs,qcz⟩
 ·obtain rfl:xs=[]:=List.length_eq_zero_iff.1 hx
  exact⟨none,0,0,rfl,⟨fun h=>absurd h (jK 0),qb _,by simp[maxLen],by simp,fun h=>absurd h (jK 0)⟩,fun h=>absurd h (jK 0),fun i hi=>absurd hi (qC i),fun i hi=>absurd hi (qC i),fun i u hi=>absurd hi (qC i)⟩
 have hown:w.ownsRow B E 1 (.slice (some ⟨g,0,none⟩) xs.length cap) xs.length xs:=⟨h0,.inr ⟨g,cap,cur,rfl,hb,hg,hnc,hcm,hcs,qcz⟩⟩;refine⟨some ⟨g,0,none⟩,cap,g,rfl,⟨fun _=>rfl,hnc,hcm,hl,fun _=>(Array.getElem?_eq_some_iff.1 hg).1⟩,fun _=>⟨rfl,hb⟩,fun i hi=>?_,fun i hi=>hown.frozenAt i,fun i u hi=>?_⟩
 ·rw[hown.cellAt i (by omega)];simp[List.getD,hi]
 have:=hown.stored i u;refine⟨⟨?_,by simpa using hl⟩,this.2⟩;rw[jb];exact this.1
theorem kJ(b off j:Nat):(⟨b,off,none⟩:Addr).add j=⟨b,off+j,none⟩:=by unfold Addr.add;split<;>simp_all
theorem q8Q{P:Program}(w:World)(B:Nat)(t ty E:TypeId)(z:Value)(bytes:Nat)(ht:P.underlying t=some (.slice E))(qcE:(P.info? E).map (fun i=>(i.zero,i.size,i.bytes))=some (some z,1,bytes))(hz:z.cells.size=1)(hby:bytes<=24)
  (v:Value) (xs:List Value) (hown:Own w B E v xs) (xv:Value) (news:List Value) (hx:Sl w xv news) (h1:∀u∈news,u.oneCell'=true) (hlen:xs.length+news.length<=4294967296) (hB:B<=w.heap.size):
  ∃v' w',(Builtin.append_ #[t,t] ty #[v,xv]).run P w=.ok v' w'/\Own w' B E v' (xs++news)/\w.grownBy w' v.ownBlock/\(∀k,v'.ownBlock=some k->v.ownBlock=some k\/w.heap.size<=k):=by
 obtain⟨i0,hi,hz0,hz1,hz2⟩:∃i0,P.info? E=some i0/\i0.zero=some z/\i0.size=1/\i0.bytes=bytes:=by
  cases hq:P.info? E with
  |none=>simp[hq]at qcE
  |some i0=>simp[hq]at qcE;exact⟨i0,rfl,qcE.1,qcE.2.1,qcE.2.2⟩
 have hl1:xs.length+news.length<=maxLen:=by simp only[maxLen];omega
 have hl2:(xs.length+news.length)*bytes<=140737488355328:=by
  have:=Nat.mul_le_mul hlen hby;omega
 obtain⟨oa,cx,b,off,rfl,hd,hc⟩:=hx;have qcN:xs.length+news.length<=140737488351232:=by omega
 rcases hown with⟨hrow,hsm⟩;by_cases hn:news=[]
 ·subst hn
  refine⟨v,w,?_,⟨by simpa using hrow,by simpa using hsm⟩,⟨rfl,rfl,rfl,qb _,fun _ _ _=>rfl⟩,fun k hk=>.inl hk⟩;rcases hrow.2 with⟨rfl,hx0⟩|⟨g,cap,cur,rfl,_,_,hnc,_⟩
  ·cases oa<;>simp[Builtin.append_,run_underlying ht,sizeOf,typeInfo,hi,Builtin.lenOf,Builtin.firstCells,loadCells,loadCellsFrom]
  cases oa<;>simp[Builtin.append_,run_underlying ht,sizeOf,typeInfo,hi,Builtin.lenOf,Builtin.firstCells,loadCells,loadCellsFrom,hnc,storeCells]
 have qcL:0<news.length:=List.length_pos_iff.2 hn;obtain rfl:=hd.hat qcL
 have hnews:∀j u,news[j]? =some u->w.cell? ((⟨b,off,none⟩:Addr).add j)=some u:=fun j u hu=>by
  have hj:=(List.getElem?_eq_some_iff.1 hu).1;rw[kJ,hc j hj];simp[List.getD,hu]
 rcases hrow.2 with⟨rfl,hx0⟩|⟨g,cap,cur,rfl,hbg,hg,hnc,hcm,hcs,qcz⟩
 ·obtain rfl:xs=[]:=List.length_eq_zero_iff.1 hx0
  obtain⟨v',w',hr,ho,hgr,-⟩:=run_append_own (P:=P) w w.heap.size t ty E i0 z 1 bytes ht hi hz0 hz1 hz2 hz (by decide) (.slice none 0 0) 0 [] (World.ownsRow_nil _ _ _ _) ⟨b,off,none⟩ news.length cx news (by simp) hnews h1 (by simpa using hl1) (by simpa using hl2) (qb _);have hk:=ho.lt;refine⟨v',w',hr,⟨⟨by simp,?_⟩,by simp only[List.nil_append];omega⟩,hgr,fun k hk'=>.inr (hk k hk').1⟩;simp only[qI,List.nil_append]at ho;rcases ho.2 with⟨h1,h2⟩|⟨g,cap,cur,h1,h2,h3⟩
  ·exact .inl ⟨h1,by simpa using h2⟩
  exact .inr ⟨g,cap,cur,h1,by omega,by simpa using h3⟩
 by_cases hroom:xs.length+news.length<=cap
 ·obtain⟨w',hr,ho,hgr⟩:=run_append_fits (P:=P) w B t ty E i0 1 ht hi hz1 g xs.length cap xs ⟨hrow.1,.inr ⟨g,cap,cur,rfl,hbg,hg,hnc,hcm,hcs,qcz⟩⟩ ⟨b,off,none⟩ news.length cx news (by simp) hnews h1 hroom
  exact⟨_,w',hr,⟨by rw[qj];exact ho,by rw[qj];exact qcN⟩,hgr,fun k hk=>.inl hk⟩
 have holds:∀j u,xs[j]? =some u->w.cell? ((⟨g,0,none⟩:Addr).add j)=some u:=World.ownsRow.cells (g:=g) hrow rfl;have qhN:xs.length+news.length<=9223372036854775807:=by omega
 have hr:=run_append_grow (P:=P) w t ty E i0 z ht hi hz0 ⟨g,0,none⟩ xs.length cap xs (by rw[hz1];exact hrow.1) holds ⟨b,off,none⟩ news.length cx news (by rw[hz1];simp) hnews (by omega) (by omega) (growslice_fits (by omega) (by rw[hz2];exact hl2));have hge:=grownCap_ge w (xs.length+news.length) cap E;have qgK:grownCap w (xs.length+news.length) cap E<=maxLen:=grownCap_le_maxLen w _ cap E hl1;refine⟨_,_,hr,⟨⟨by simp,.inr ⟨w.heap.size,_,_,by rw[qj],hB,heap_alloc_new w.drew _,by rw[qj];exact hge,qgK,?_,?_⟩⟩,by rw[qj];exact qcN⟩,⟨rfl,rfl,rfl,by simp,fun k hk _=>Below.heap_alloc w.drew _ k hk⟩,fun k hk=>.inr (by simp[Value.ownBlock]at hk;omega)⟩
 ·simp only[Array.size_append,jD,size_zeroCells,hz]
  omega
 simp only[Array.toList_append,qk];rw[<-qk,Nat.mul_one];exact List.take_left
theorem bF{P:Program}{ops:Array Oper}{rest:List Oper}{o:Oper}{a:Act}{w:World}{Q:Exit->Act->World->Prop}(hgd:o.guard=none)(s x:Operand)(t:TypeId)
  (ho:o.op=.call {callee:=.builtin .append,args:=#[s,x],argTypes:=#[t,t]})
  (B E:TypeId) (z:Value) (bytes:Nat) (ht:P.underlying t=some (.slice E)) (qcE:(P.info? E).map (fun i=>(i.zero,i.size,i.bytes))=some (some z,1,bytes)) (hz:z.cells.size=1) (hby:bytes<=24)
  (v:Value) (xs:List Value) (hs:a.eval s=v) (hown:Own w B E v xs) (xv:Value) (news:List Value) (hxe:a.eval x=xv) (hx:Sl w xv news) (h1:∀u∈news,u.oneCell'=true) (hlen:xs.length+news.length<=4294967296) (hB:B<=w.heap.size)
  (h:∀v' w',Own w' B E v' (xs++news)->w.grownBy w' v.ownBlock->(∀k,v'.ownBlock=some k->v.ownBlock=some k\/w.heap.size<=k)->wpList P ops Q rest (a.put o.dst v') w'):wpList P ops Q (o::rest) a w:=by
 obtain⟨v',w',hr,h2,h3,h4⟩:=q8Q (P:=P) w B t o.type E z bytes ht qcE hz hby v xs hown xv news hx h1 hlen hB;refine wpList_plain hgd fun K hK=>?_;unfold Oper.wp execOp;simp only[ho,resolve,invoke,builtin,Sem.run_bind,Sem.run_pure,Result.andThen_ok,List.map_toArray,qJ,ju,hs,hxe,hr];exact hK _ _ (h v' w' h2 h3 h4)
theorem eK(w:World)(c:Array Value)(E:TypeId)(hc:c.size<=4294967296):Sl (w.alloc (.cells c E)) (.slice (some ⟨w.heap.size,0,none⟩) c.size c.size) c.toList:=by
 refine⟨some ⟨w.heap.size,0,none⟩,c.size,w.heap.size,0,by simp,⟨fun _=>rfl,by simp,by simp only[maxLen];omega,by simp;omega,fun _=>by simp⟩,fun i hi=>?_⟩;have hi':i<c.size:=by simpa using hi
 rw[qI,World.cell?_alloc_new];simp[List.getD,hi']
theorem cN(w:World)(B:Nat)(c:Array Value)(E:TypeId)(hc:c.size<=4294967296)(hB:B<=w.heap.size):Own (w.alloc (.cells c E)) B E (.slice (some ⟨w.heap.size,0,none⟩) c.size c.size) c.toList:=by
 have h:=World.ownsRow_lit (base:=B) (e:=E) (size:=1) w c c.size hB (by simp only[maxLen];omega) (by simp);exact⟨by simpa using h,by simp;omega⟩
theorem J8{P:Program}(t E:TypeId)(z:Value)(bytes n:Nat)(ht:P.underlying t=some (.slice E))(qcE:(P.info? E).map (fun i=>(i.zero,i.size,i.bytes))=some (some z,1,bytes))(hz:z.cells=#[z])(hby:bytes<=24)(hn:n<=4294967296):
  ∀W:World,(Instr.makeSlice t (.int .i64 (n:Int)) (.int .i64 (n:Int))).run P W=.ok (.slice (some ⟨W.heap.size,0,none⟩) n n) (W.alloc (.cells (madeCells #[z] n) E)):=by
 intro W
 obtain⟨i0,hi,hz0,hz1,hz2⟩:∃i0,P.info? E=some i0/\i0.zero=some z/\i0.size=1/\i0.bytes=bytes:=by
  cases hq:P.info? E with
  |none=>simp[hq]at qcE
  |some i0=>simp[hq]at qcE;exact⟨i0,rfl,qcE.1,qcE.2.1,qcE.2.2⟩
 have hb:bytes*n<=24*4294967296:=Nat.mul_le_mul hby hn
 have hb':(i0.bytes:Int)*(n:Int)<=281474976710656:=by
  rw[hz2,<-Int.natCast_mul];omega
 have hr:=run_make (P:=P) W t E i0 z ht hi hz0 .i64 .i64 n n (by omega) (Int.le_refl _) hb' (by omega);simp only[qD,hz1,hz,Nat.mul_one]at hr;exact hr
theorem yR(W:World)(B E:TypeId)(z:Value)(n:Nat)(hB:B<=W.heap.size)(hn:n<=4294967296):Own (W.alloc (.cells (madeCells #[z] n) E)) B E (.slice (some ⟨W.heap.size,0,none⟩) n n) (List.replicate n z):=by
 have h:=cN W B (madeCells #[z] n) E (by rw[size_madeCells];simpa using hn) hB;rw[toList_madeCells_one]at h;rw[size_madeCells]at h;simpa using h
section
variable {w : World} {B : Nat} {E : TypeId} {g n cap : Nat} {xs : List Value}
theorem Own.len(h:Own w B E (.slice (some ⟨g,0,none⟩) n cap) xs):n=xs.length:=by
 rcases h.1.2 with⟨h1,_⟩|⟨g',cap',cur,h1,_⟩
 ·cases h1
 simp at h1;exact h1.2.1
theorem Own.row(h:Own w B E (.slice (some ⟨g,0,none⟩) n cap) xs):w.ownsRow B E 1 (.slice (some ⟨g,0,none⟩) xs.length cap) xs.length xs:=by
 have:=h.len;subst this;exact h.1
theorem Own.cell(h:Own w B E (.slice (some ⟨g,0,none⟩) n cap) xs){i:Nat}(hi:i<xs.length):w.cell? ⟨g,i,none⟩=some (xs.getD i undef):=by
 rw[h.row.cellAt i (by omega)];simp[List.getD,hi]
theorem Own.free(h:Own w B E (.slice (some ⟨g,0,none⟩) n cap) xs)(i:Nat):w.frozen? ⟨g,i,none⟩=false:=h.row.frozenAt i
theorem Own.store(h:Own w B E (.slice (some ⟨g,0,none⟩) n cap) xs)(i:Nat)(u:Value):Own (w.setCell ⟨g,i,none⟩ u) B E (.slice (some ⟨g,0,none⟩) n cap) (xs.set i u)/\w.grownBy (w.setCell ⟨g,i,none⟩ u) (some g):=by
 have h1:=h.row.stored i u;have hl:=h.len;subst hl;exact⟨⟨by rw[jb];exact h1.1,by rw[jb];exact h.2⟩,h1.2⟩
theorem Own.blk(h:Own w B E (.slice (some ⟨g,0,none⟩) n cap) xs):B<=g/\g<w.heap.size:=h.lt g rfl
end
theorem Own.mono{w:World}{B B' E:Nat}{v:Value}{xs:List Value}(h:Own w B E v xs)(hB:B'<=B):Own w B' E v xs:=
 ⟨⟨h.1.1,h.1.2.imp id fun⟨g,cap,cur,h1,h2,h3⟩=>⟨g,cap,cur,h1,by omega,h3⟩⟩,h.2⟩
theorem Own.upB{w w':World}{B E n:Nat}{v:Value}{xs:List Value}(h:Own w B E v xs)(hn:w.heap.size<=n)(hb:Below n w w'):Own w' B E v xs:=h.up (hb.mono hn)
def zO(w:World)(v:Value)(ll:List (List Value)):Prop:=∃vs,Sl w v vs/\vs.length=ll.length/\∀i,i<ll.length->Sl w (vs.getD i undef) (ll.getD i [])
theorem zO.up{w w':World}{v:Value}{ll:List (List Value)}(h:zO w v ll)(hb:Below w.heap.size w w'):zO w' v ll:=by
 exact ZmA9
theorem zO.open{w:World}{v:Value}{ll:List (List Value)}(h:zO w v ll):
  ∃oa cap b off,v=.slice oa ll.length cap/\Hd w oa ll.length cap b off/\∀i,i<ll.length->
   ∃oi ci bi fi,w.cell? ⟨b,off+i,none⟩=some (.slice oi (ll.getD i []).length ci)/\Hd w oi (ll.getD i []).length ci bi fi/\
    (∀j,j<(ll.getD i []).length->w.cell? ⟨bi,fi+j,none⟩=some ((ll.getD i []).getD j undef))/\Sl w (.slice oi (ll.getD i []).length ci) (ll.getD i []):=by
 obtain⟨vs,⟨oa,cap,b,off,rfl,hd,hc⟩,h2,h3⟩:=h;rw[h2]at hd hc⊢;refine⟨oa,cap,b,off,rfl,hd,fun i hi=>?_⟩;have h4:=h3 i hi;obtain⟨oi,ci,bi,fi,he,hdi,hci⟩:=h4;refine⟨oi,ci,bi,fi,?_,hdi,hci,?_⟩
 ·rw[hc i hi,he]
 rw[<-he];exact h3 i hi
theorem Q3(ll:List (List Int))(i:Nat):(ll.map ints).getD i []=ints (ll.getD i []):=by
 simp only[qu,qU];cases ll[i]? <;>simp[ints]
theorem zO.ints{w:World}{v:Value}{ll:List (List Int)}(h:zO w v (ll.map ints)):o8 w v ll:=by
 obtain⟨vs,h1,h2,h3⟩:=h;refine⟨vs,h1,by simpa using h2,fun i hi=>?_⟩;have:=h3 i (by simpa using hi);rwa [Q3]at this
structure eG(w:World)(B E E':Nat)(v:Value)(vs:List Value)(ll:List (List Value)):Prop where
 outer:Own w B E v vs
 len:vs.length=ll.length
 rows:∀i,i<ll.length->Own w B E' (vs.getD i undef) (ll.getD i [])
 apart:∀i j,i<ll.length->j<ll.length->i≠j->∀k,(vs.getD i undef).ownBlock=some k->(vs.getD j undef).ownBlock≠some k
 off:∀i,i<ll.length->∀k,(vs.getD i undef).ownBlock=some k->v.ownBlock≠some k
variable {w w' : World} {B E E' : Nat} {v : Value} {vs : List Value} {ll : List (List Value)}
theorem eG.nil(w:World)(B E E':Nat):eG w B E E' (.slice none 0 0) [] []:=⟨Own.nil w B E,rfl,fun i hi=>absurd hi (qC i),fun i _ hi=>absurd hi (qC i),fun i hi=>absurd hi (qC i)⟩
theorem eG.rowsG(h:eG w B E E' v vs ll):zO w v ll:=⟨vs,h.outer.sl,h.len,fun i hi=>(h.rows i hi).sl⟩
theorem bN{u:Value}{row:Option Nat}(h:∀k,u.ownBlock=some k->row≠some k):u.ownBlock=none\/u.ownBlock≠row:=by
 cases hu:u.ownBlock with
 |none=>exact .inl rfl
 |some k=>exact .inr (fun e=>h k hu e.symm)
theorem eG.keep(h:eG w B E E' v vs ll){row:Option Nat}(hg:w.grownBy w' row)(hv:∀k,v.ownBlock=some k->row≠some k)(hr:∀i,i<ll.length->∀k,(vs.getD i undef).ownBlock=some k->row≠some k):eG w' B E E' v vs ll:=
 ⟨h.outer.keep hg (bN hv),h.len,fun i hi=>(h.rows i hi).keep hg (bN (hr i hi)),h.apart,h.off⟩
theorem eG.up(h:eG w B E E' v vs ll)(hb:Below w.heap.size w w'):eG w' B E E' v vs ll:=
 h.keep (row:=none) (aK hb none) (fun _ _ e=>by cases e) (fun _ _ _ _ e=>by cases e)
def eG.free(v:Value)(vs:List Value)(row:Option Nat):Prop:=(∀k,v.ownBlock=some k->row≠some k)/\∀i,i<vs.length->∀k,(vs.getD i undef).ownBlock=some k->row≠some k
theorem eG.keep'(h:eG w B E E' v vs ll){row:Option Nat}(hg:w.grownBy w' row)(hf:eG.free v vs row):eG w' B E E' v vs ll:=
 h.keep hg hf.1 fun i hi=>hf.2 i (by rw[h.len];exact hi)
theorem eG.free_new(h:eG w B E E' v vs ll){k:Nat}(hk:w.heap.size<=k):eG.free v vs (some k):=
 ⟨fun q hq e=>by have:=h.outer.lt q hq;injection e with e;omega,fun i hi q hq e=>by have:=(h.rows i (by rw[<-h.len];exact hi)).lt q hq;injection e with e;omega⟩
theorem eG.free_none:eG.free v vs none:=⟨fun _ _ e=>(by cases e),fun _ _ _ _ e=>(by cases e)⟩
theorem eG.free_below(h:eG w B E E' v vs ll){k:Nat}(hk:k<B):eG.free v vs (some k):=
 ⟨fun q hq e=>by have:=h.outer.lt q hq;injection e with e;omega,fun i hi q hq e=>by have:=(h.rows i (by rw[<-h.len];exact hi)).lt q hq;injection e with e;omega⟩
theorem bC{α:Type}{l m:List α}{i:Nat}{d:α}(h:i<l.length):(l++m).getD i d=l.getD i d:=by simp[List.getD,qW h]
theorem cJ{α:Type}{l:List α}{x d:α}:(l++[x]).getD l.length d=x:=by simp[List.getD]
theorem d6{α:Type}{l:List α}{i j:Nat}{x d:α}(h:i≠j):(l.set i x).getD j d=l.getD j d:=by simp[List.getD,h]
theorem cU{α:Type}{l:List α}{i:Nat}{x d:α}(h:i<l.length):(l.set i x).getD i d=x:=by simp[List.getD,h]
theorem eG.push(h:eG w B E E' v vs ll){r:Value}{xs:List Value}(hr:Own w B E' r xs)(hf:eG.free v vs r.ownBlock){v':Value}{w0:World}(hw0:w.grownBy w0 none)(ho:Own w' B E v' (vs++[r]))(hg:w0.grownBy w' v.ownBlock)(hk:∀k,v'.ownBlock=some k->v.ownBlock=some k\/w0.heap.size<=k):
  eG w' B E E' v' (vs++[r]) (ll++[xs]):=by
 have hg':w.grownBy w' v.ownBlock:=aL ⟨hw0.os,hw0.tape,hw0.output,hw0.size,fun k hk _=>hw0.block k hk (by simp)⟩ hg;have hvr:∀k,r.ownBlock=some k->v.ownBlock≠some k:=fun k hk e=>hf.1 k e hk;have hrow:∀i,i<ll.length->Own w' B E' (vs.getD i undef) (ll.getD i []):=fun i hi=>(h.rows i hi).keep hg' (bN (h.off i hi));have hl:=h.len
 have idx:∀i,i<(ll++[xs]).length->(i<ll.length/\(vs++[r]).getD i undef=vs.getD i undef/\(ll++[xs]).getD i []=ll.getD i [])\/(i=ll.length/\(vs++[r]).getD i undef=r/\(ll++[xs]).getD i []=xs):=by
  intro i hi;rw[qj,qE]at hi;rcases Nat.lt_succ_iff_lt_or_eq.1 hi with h1|rfl
  ·exact .inl ⟨h1,bC (by omega),bC h1⟩
  exact .inr ⟨rfl,by rw[<-hl];exact cJ,cJ⟩
 refine⟨ho,by simp[hl],fun i hi=>?_,fun i j hi hj hne k hik=>?_,fun i hi k hik=>?_⟩
 ·rcases idx i hi with⟨h1,e1,e2⟩|⟨h1,e1,e2⟩
  ·rw[e1,e2];exact hrow i h1
  rw[e1,e2];exact hr.keep hg' (bN hvr)
 ·rcases idx i hi with⟨h1,e1,e2⟩|⟨h1,e1,e2⟩<;>rcases idx j hj with⟨h3,e3,e4⟩|⟨h3,e3,e4⟩<;>rw[e1]at hik<;>rw[e3]
  ·exact h.apart i j h1 h3 hne k hik
  ·exact hf.2 i (by omega) k hik
  ·intro e;exact hf.2 j (by omega) k e hik
  omega
 have hsz:w.heap.size<=w0.heap.size:=hw0.size;rcases idx i hi with⟨h1,e1,e2⟩|⟨h1,e1,e2⟩<;>rw[e1]at hik<;>intro e
 ·rcases hk k e with h2|h2
  ·exact h.off i h1 k hik h2
  have:=(h.rows i h1).lt k hik;omega
 rcases hk k e with h2|h2
 ·exact hvr k hik h2
 have:=hr.lt k hik;omega
theorem eG.writeRow(h:eG w B E E' v vs ll){i:Nat}(hi:i<ll.length){xs:List Value}(hr:Own w' B E' (vs.getD i undef) xs)(hg:w.grownBy w' (vs.getD i undef).ownBlock):eG w' B E E' v vs (ll.set i xs):=by
 refine⟨h.outer.keep hg (bN fun k hk e=>h.off i hi k e hk),by simp[h.len],fun j hj=>?_,fun a b ha hb=>h.apart a b (by simpa using ha) (by simpa using hb),fun a ha=>h.off a (by simpa using ha)⟩;rw[jb]at hj;by_cases hij:i=j
 ·subst hij;rw[cU hi];exact hr
 rw[d6 hij];exact(h.rows j hj).keep hg (bN fun k hk e=>h.apart i j hi hj hij k e hk)
theorem eG.setRow{g:Nat}{n cap:Nat}(h:eG w B E E' (.slice (some ⟨g,0,none⟩) n cap) vs ll){i:Nat}(hi:i<ll.length){r:Value}{xs:List Value}(hr:Own w' B E' r xs)(hg:w.grownBy w' (vs.getD i undef).ownBlock)(hk:∀k,r.ownBlock=some k->(vs.getD i undef).ownBlock=some k\/w.heap.size<=k):
  eG (w'.setCell ⟨g,i,none⟩ r) B E E' (.slice (some ⟨g,0,none⟩) n cap) (vs.set i r) (ll.set i xs)/\w'.grownBy (w'.setCell ⟨g,i,none⟩ r) (some g):=by
 have ho:Own w' B E (.slice (some ⟨g,0,none⟩) n cap) vs:=h.outer.keep hg (bN fun k hk e=>h.off i hi k e hk);obtain⟨h1,h2⟩:=ho.store i r;have hgb:=h.outer.blk;have hvi:i<vs.length:=by rw[h.len];exact hi
 have hrg:∀k,r.ownBlock=some k->k≠g:=fun k hk' e=>by
  rcases hk k hk' with h3|h3
  ·exact h.off i hi k h3 (by rw[e];rfl)
  omega
 refine⟨⟨h1,by simp[h.len],fun j hj=>?_,fun a b ha hb hne k hak=>?_,fun a ha k hak=>?_⟩,h2⟩
 ·rw[jb]at hj
  by_cases hij:i=j
  ·subst hij;rw[cU hvi,cU hi]
   exact hr.keep h2 (bN fun k hk' e=>hrg k hk' (by injection e with e;exact e.symm))
  rw[d6 hij,d6 hij];exact((h.rows j hj).keep hg (bN fun k hk e=>h.apart i j hi hj hij k e hk)).keep h2 (bN fun k hk' e=>h.off j hj k hk' (by simpa[Value.ownBlock]using e))
 ·rw[jb]at ha hb
  by_cases hia:i=a<;>by_cases hib:i=b
  ·omega
  ·subst hia
   rw[cU hvi]at hak;rw[d6 hib];rcases hk k hak with h3|h3
   ·exact h.apart i b hi hb hib k h3
   intro e;have:=(h.rows b hb).lt k e;omega
  ·subst hib
   rw[d6 hia]at hak;rw[cU hvi];intro e;rcases hk k e with h3|h3
   ·exact h.apart a i ha hi (fun q=>hia q.symm) k hak h3
   have:=(h.rows a ha).lt k hak;omega
  rw[d6 hia]at hak;rw[d6 hib];exact h.apart a b ha hb hne k hak
 rw[jb]at ha;by_cases hia:i=a
 ·subst hia;rw[cU hvi]at hak
  intro e;simp[Value.ownBlock]at e;exact hrg k hak e.symm
 rw[d6 hia]at hak;exact h.off a ha k hak
end Go.Cm
namespace Go.Cm
structure Nd where
 kd:Int
 n:Int
 a:Int
 b:Int
 c:Int
 d:Int
 lo:Int
 hi:Int
inductive Fo where
 |nil:Fo
 |cons (x:Nd) (k r:Fo):Fo
def bO:Fo->List Nd
 |.nil=>[]
 |.cons x k r=>x::(bO k++bO r)
def cnt:Fo->Nat
 |.nil=>0
 |.cons _ _ r=>cnt r+1
def wf:Fo->Prop
 |.nil=>True
 |.cons x k r=>x.n=cnt k/\wf k/\wf r
def mM(p:Nd->Prop):Fo->Prop
 |.nil=>True
 |.cons x k r=>p x/\mM p k/\mM p r
theorem iQ{p:Nd->Prop}:∀f,mM p f↔∀x∈bO f,p x
 |.nil=>by simp[mM,bO]
 |.cons x k r=>by
  rw[mM,iQ k,iQ r,bO]
  constructor
  ·rintro⟨h1,h2,h3⟩ y hy
   rcases List.mem_cons.1 hy with rfl|hy
   ·exact h1
   rcases List.mem_append.1 hy with hy|hy
   ·exact h2 y hy
   exact h3 y hy
  intro h;exact⟨h x jh,fun y hy=>h y (qY _ (j5 _ hy)),fun y hy=>h y (qY _ (List.mem_append_right _ hy))⟩
theorem r0:∀f,cnt f<=(bO f).length
 |.nil=>by simp[cnt,bO]
 |.cons x k r=>by have:=r0 r;simp only[cnt,bO,qA,qj];omega
theorem mE:∀f,cnt f=0->f=.nil
 |.nil,_=>rfl
 |.cons _ _ _,h=>by simp[cnt]at h
def yE(L:Nat):Int->List Nd->Nat->Int
 |_,[],_=> -1
 |want,x::r,at_=>if x.n<0\/(L:Int)<x.n then -1 else if want+(x.n-1)=0 then at_+1 else yE L (want+(x.n-1)) r (at_+1)
theorem tE(L:Nat)(post:List Nd):∀(f:Fo),wf f->(bO f).length<=L->∀(w at_:Nat),0<cnt f+w->yE L ((cnt f+w:Nat):Int) (bO f++post) at_=if w=0 then(at_:Int)+(bO f).length else yE L w post (at_+(bO f).length)
 |.nil,_,_,w,at_,h=>by
  simp only[cnt,qI]at h;rw[qv (by omega)];simp[cnt,bO]
 |.cons x k r,hwf,hL,w,at_,h=>by
  obtain⟨hn,hk,hr⟩:=hwf;simp only[bO,qA,qj]at hL;have hck:=r0 k;simp only[bO,jm,yE,cnt,qk];rw[qv (by omega)];have e:((cnt r+1+w:Nat):Int)+(x.n-1)=((cnt k+(cnt r+w):Nat):Int):=by rw[hn];push_cast;omega
  rw[e];by_cases h0:cnt k+(cnt r+w)=0
  ·rw[qw (by omega),qw (by omega)]
   have hk0:=mE k (by omega);have hr0:=mE r (by omega);subst hk0;subst hr0;simp[bO]
  rw[qv (by omega),tE L (bO r++post) k hk (by omega) (cnt r+w) (at_+1) (by omega)];by_cases h1:cnt r+w=0
  ·rw[qw h1,qw (by omega)]
   have hr0:=mE r (by omega);subst hr0;simp only[bO,j7,qA]
   push_cast;omega
  rw[qv h1,tE L post r hr (by omega) w (at_+1+(bO k).length) (by omega)];simp only[qA,qj];by_cases h2:w=0
  ·rw[qw h2,qw h2];push_cast;omega
  rw[qv h2,qv h2]
  congr 1;omega
theorem Y0(L:Nat)(post:List Nd)(x:Nd)(k:Fo)(hn:x.n=cnt k)(hk:wf k)(hL:1+(bO k).length<=L)(at_:Nat):yE L 1 (x::(bO k++post)) at_=(at_:Int)+(1+(bO k).length):=by
 have h:=tE L post (.cons x k .nil) ⟨hn,hk,trivial⟩ (by simp[bO];omega) 0 at_ (by simp[cnt]);simp only[bO,cnt,j7,jm,jJ,qA]at h;have e:((0+1+0:Nat):Int)=1:=rfl;rw[e]at h;rw[h];push_cast;omega
theorem J9:∀(f:Fo) (n:Nat),wf f->n<=cnt f->∃a b,cnt a=n/\cnt b+n=cnt f/\bO f=bO a++bO b/\wf a/\wf b
 |f,0,hf,_=>⟨.nil,f,rfl,rfl,by simp[bO],trivial,hf⟩
 |.nil,n+1,_,h=>by simp[cnt]at h
 |.cons x k r,n+1,hf,h=>by
  obtain⟨h1,h2,h3⟩:=hf;obtain⟨a,b,e1,e2,e3,e4,e5⟩:=J9 r n h3 (by simp[cnt]at h;omega);exact⟨.cons x k a,b,by simp[cnt,e1],by simp[cnt];omega,by simp[bO,e3],⟨h1,h2,e4⟩,e5⟩
theorem Y1(L:Nat):∀(l:List Nd) (w at_:Nat),0<w->yE L w l at_=(at_:Int)+l.length->∃f,bO f=l/\wf f/\cnt f=w
 |[],w,at_,_,h=>by simp only[yE,qO]at h;omega
 |x::r,w,at_,hw,h=>by
  simp only[yE]at h;by_cases h1:x.n<0\/(L:Int)<x.n
  ·rw[qw h1]at h;omega
  rw[qv h1]at h;by_cases h2:(w:Int)+(x.n-1)=0
  ·rw[qw h2]at h
   have hr:r=[]:=List.length_eq_zero_iff.1 (by simp only[qA]at h;push_cast at h;omega);subst hr;exact⟨.cons x .nil .nil,by simp[bO],⟨by simp only[cnt];omega,trivial,trivial⟩,by simp only[cnt];omega⟩
  rw[qv h2]at h;obtain⟨m,hm⟩:∃m:Nat,x.n=m:=⟨x.n.toNat,by omega⟩;have e:(w:Int)+(x.n-1)=((w+m-1:Nat):Int):=by omega
  rw[e]at h;obtain⟨f,e1,e2,e3⟩:=Y1 L r (w+m-1) (at_+1) (by omega) (by rw[h];simp only[qA];push_cast;omega);obtain⟨a,b,c1,c2,c3,c4,c5⟩:=J9 f m e2 (by omega);exact⟨.cons x a b,by rw[bO,<-c3,e1],⟨by rw[hm,c1],c4,c5⟩,by simp[cnt];omega⟩
def yF(x:Nd):Prop:=x.lo=0/\x.hi=0
def lO(x:Nd):Prop:=x.a=0/\x.b=0/\x.c=0/\x.d=0
instance(x:Nd):Decidable (yF x):=by unfold yF;infer_instance
instance(x:Nd):Decidable (lO x):=by unfold lO;infer_instance
def okN(x:Nd):Prop:=
 (x.kd=1/\x.n=0/\¬lO x/\yF x)\/(x.kd=2/\x.n=0/\lO x/\yF x)\/((x.kd=3\/x.kd=4)/\2<=x.n/\lO x/\yF x)\/((x.kd=5\/x.kd=6\/x.kd=7)/\x.n=1/\lO x/\yF x)\/
  (x.kd=8/\x.n=1/\lO x/\0<=x.lo/\x.lo<=30/\(x.hi= -1\/(x.lo<=x.hi/\x.hi<=30)))
instance(x:Nd):Decidable (okN x):=by unfold okN;infer_instance
def Chk(l:List Nd):Prop:=l.length<=400/\l.length≠0/\yE l.length 1 l 0=l.length/\∀x∈l,okN x
instance(l:List Nd):Decidable (Chk l):=by unfold Chk;infer_instance
theorem oV{l:List Nd}(h:Chk l):∃x k,l=x::bO k/\x.n=cnt k/\wf k/\okN x/\mM okN k/\(bO k).length<400:=by
 obtain⟨h1,h2,h3,h4⟩:=h;obtain⟨f,e1,e2,e3⟩:=Y1 l.length l 1 0 (by omega) (by simpa using h3);cases f with
 |nil=>simp[cnt]at e3
 |cons x k r=>
  have hr:=mE r (by simpa[cnt]using e3);subst hr;simp only[bO,j7]at e1;subst e1;refine⟨x,k,rfl,e2.1,e2.2.1,h4 x jh,(iQ k).2 fun y hy=>h4 y (qY _ hy),?_⟩;simp at h1;omega
def fA(x:Nd):Int:=if x.hi<0 then max x.lo 1 else x.hi
def sR(x:Nd)(s:Int):Int:=min (if x.kd=1\/x.kd=2 then 2 else if x.kd=4\/x.kd=5\/x.kd=6\/x.kd=7 then s+2 else if x.kd=8 then 2+fA x*s else s) 1000000
def iF:Fo->Int
 |.nil=>0
 |.cons x k r=>sR x (iF k)+iF r
theorem uB{x:Nd}(h:okN x)(h8:x.kd=8):0<=fA x/\fA x<=30:=by
 unfold okN at h;unfold fA;split<;>omega
theorem lP{x:Nd}{s:Int}(h:okN x)(hs:0<=s):0<=sR x s/\sR x s<=1000000:=by
 unfold sR;by_cases h8:x.kd=8
 ·have:=uB h h8
  have h2:0<=fA x*s:=Int.mul_nonneg this.1 hs
  (repeat' split)<;>omega
 (repeat' split)<;>omega
theorem lL:∀f,mM okN f->0<=iF f/\iF f<=1000000*(bO f).length
 |.nil,_=>by simp[iF,bO]
 |.cons x k r,h=>by
  have h1:=lL k h.2.1;have h2:=lL r h.2.2;have h3:=lP h.1 h1.1;simp only[iF,bO,qA,qj]
  push_cast
  omega
theorem Q5:∀(f g:Fo) (p q:List Nd),wf f->wf g->cnt f=cnt g->bO f++p=bO g++q->f=g/\p=q
 |.nil,g,p,q,_,_,hc,h=>by
  have hg:=mE g (by simpa[cnt]using hc.symm);subst hg;exact⟨rfl,by simpa[bO]using h⟩
 |.cons x k r,.nil,p,q,_,_,hc,h=>by simp[cnt]at hc
 |.cons x k r,.cons y a b,p,q,hf,hg,hc,h=>by
  simp only[bO,jm,qk,List.cons.injEq]at h;obtain⟨rfl,h⟩:=h;have hkc:cnt k=cnt a:=by have h1:=hf.1;have h2:=hg.1;omega
  obtain⟨e1,h1⟩:=Q5 k a _ _ hf.2.1 hg.2.1 hkc h;obtain⟨e2,h2⟩:=Q5 r b _ _ hf.2.2 hg.2.2 (by simpa[cnt]using hc) h1;rw[e1,e2];exact⟨rfl,h2⟩
open Classical in
noncomputable def kD(l:List Nd):Fo:=if h:∃f,bO f=l/\wf f/\cnt f=1 then h.choose else .nil
theorem fN(x:Nd)(k:Fo)(hn:x.n=cnt k)(hk:wf k):kD (x::bO k)=.cons x k .nil:=by
 have h:∃f,bO f=x::bO k/\wf f/\cnt f=1:=⟨.cons x k .nil,by simp[bO],⟨hn,hk,trivial⟩,rfl⟩;unfold kD;rw[dif_pos h];obtain⟨h1,h2,h3⟩:=h.choose_spec;exact(Q5 _ (.cons x k .nil) [] [] h2 ⟨hn,hk,trivial⟩ h3 (by rw[h1];simp[bO])).1
noncomputable def kK(l:List Nd):Int:=if Chk l then iF (kD l)else 0
theorem q1P(l:List Nd):0<=kK l/\kK l<=1000000:=by
 unfold kK;split
 ·next h=>
  obtain⟨x,k,rfl,h1,h2,h3,h4,-⟩:=oV h;rw[fN x k h1 h2];simp only[iF,Int.add_zero];exact lP h3 (lL k h4).1
 omega
noncomputable def uC(ll:List (List Nd)):Int:=
 if ll.length=0 then 17 else if 32<ll.length then 3 else if¬∀l∈ll,Chk l then 4 else if 3000<1+(ll.map kK).sum then 3 else 0
end Go.Cm
namespace Go.Cm
open Go.RowKit
section
variable {P : Program} {ops : Array Oper} {md : Region.Mode} {C : World → Prop} {o3 : List Nat}
def q6K(o3:List Nat)(listed:Array Bool):Bool:=o3.any fun t=>listed.getD t false
def uD(P:Program)(md:Region.Mode)(ops:Array Oper)(C:World->Prop)(o3:List Nat)(Q:Act->World->Prop):Nat->Array Bool->Act->World->Prop
 |0,listed,a,w=>(q6K o3 listed=false->C w)/\Region.ready md ops listed=[]/\Q a w
 |fuel+1,listed,a,w=>(q6K o3 listed=false->C w)/\(Region.ready md ops listed=[]->Q a w)/\
  ∀i∈Region.ready md ops listed,wpOp P ops noQ i (uD P md ops C o3 Q fuel (listed.setIfInBounds i true)) a w
theorem K1{Q:Act->World->Prop}{Q':Exit->Act->World->Prop}(hQ:∀a w,Q a w->Q' .normal a w):∀(fuel:Nat) (listed:Array Bool) (a:Act) (w:World),
  uD P md ops C o3 Q fuel listed a w->wpAny P md ops Q' fuel listed a w
 |0,_,_,_,h=>⟨h.2.1,hQ _ _ h.2.2⟩
 |fuel+1,listed,a,w,h=>⟨fun h0=>hQ _ _ (h.2.1 h0),fun i hi=>by
   have h1:=wpOp_mono (fun a w=>K1 (Q':=Q') hQ fuel _ a w) (h.2.2 i hi);unfold wpOp at h1⊢;split
   ·rename_i ho;simpa[ho]using h1
   rename_i o ho;simp only[ho]at h1;split
   ·exact ZmA3
   rename_i hw;simpa[hw]using h1⟩
def zR(md:Region.Mode)(ops:Array Oper)(listed:Array Bool):Prop:=∀(j:Nat) (oj:Oper),ops[j]? =some oj->listed.getD j false=true->∀e∈oj.after,Region.binds md e=true->listed.getD e.on false=true
theorem zR.set{listed:Array Bool}{j:Nat}(h:zR md ops listed)(hj:j∈Region.ready md ops listed):zR md ops (listed.setIfInBounds j true):=by
 obtain⟨_,oj,hoj,hall⟩:=mem_ready.1 hj;intro k ok hok hl e he hb;by_cases hjk:j=k
 ·subst hjk
  have:ok=oj:=qr (hok.symm.trans hoj);subst this;exact getD_set_true (hall e he hb)
 rw[getD_set_ne false hjk]at hl;exact getD_set_true (h k ok hok hl e he hb)
def anc(md:Region.Mode)(ops:Array Oper):Nat->Nat->Nat->Bool
 |0,_,_=>false
 |f+1,i,t=>match ops[t]? with
  |some o=>o.after.any fun e=>Region.binds md e&&(e.on==i||anc md ops f i e.on)
  |none=>false
theorem K2{listed:Array Bool}(hc:zR md ops listed){i:Nat}:∀(f t:Nat),anc md ops f i t=true->listed.getD t false=true->listed.getD i false=true
 |0,_,h,_=>by cases h
 |f+1,t,h,ht=>by
  unfold anc at h;split at h
  ·rename_i o ho
   obtain⟨e,he,hb⟩:=Array.any_eq_true'.1 h;simp only[qK,Bool.or_eq_true,a7]at hb;have h1:=hc t o ho ht e he hb.1;rcases hb.2 with h2|h2
   ·rw[<-h2];exact h1
   exact K2 hc f e.on h2 h1
  cases h
theorem q1R{listed:Array Bool}{i:Nat}(hi:i∉o3):q6K o3 (listed.setIfInBounds i true)=q6K o3 listed:=by
 unfold q6K
 induction o3 with
 |nil=>rfl
 |cons t o3 ih=>
  simp only[jM,not_or]at hi;simp only[List.any_cons];rw[ih hi.2,getD_set_ne false hi.1]
theorem K3{listed:Array Bool}{i f:Nat}(hc:zR md ops listed)(ha:∀t∈o3,anc md ops f i t=true)(hu:listed.getD i false=false):q6K o3 listed=false:=by
 cases h:q6K o3 listed with
 |false=>rfl
 |true=>
  obtain⟨t,ht,hl⟩:=List.any_eq_true.1 h;rw[K2 hc f t (ha t ht) hl]at hu;cases hu
theorem Q8{listed:Array Bool}{i:Nat}(h:listed.getD i true=false):i<listed.size/\listed.getD i false=false:=by
 rcases jR i listed.size with h'|h'
 ·exact⟨h',by simp[h']at h⊢;exact h⟩
 simp[jw h']at h
theorem Y3{Q:Act->World->Prop}{i f:Nat}{oi:Oper}{v:Value}(hi:ops[i]? =some oi)(qeU:∀(j:Nat) (o:Oper) cs b,ops[j]? =some o->o.op≠.select cs b)(hi3:i∉o3)(ha:∀t∈o3,anc md ops f i t=true):
  ∀(fuel:Nat) (listed:Array Bool) (a:Act) (w:World),zR md ops listed->
   (∀j oj,ops[j]? =some oj->j≠i->listed.getD j true=false->(∀e∈oj.after,Region.binds md e=true->e.on≠i)->oi.apart ops oj=true)->
   i∈Region.ready md ops listed->Yin P ops C oi v a->
   uD P md ops C o3 Q fuel (listed.setIfInBounds i true) (a.put oi.dst v) w->uD P md ops C o3 Q (fuel+1) listed a w:=by
 intro fuel
 induction fuel with
 |zero=>
  intro listed a w hcl _ hr hy H;have hl:=K3 hcl ha (Q8 (mem_ready.1 hr).1).2;have h1:=H.1;rw[q1R hi3]at h1;refine⟨h1,fun h=>(by rw[h]at hr;cases hr),fun j hj=>?_⟩;by_cases hji:j=i
  ·subst hji;exact hy.wpOp (h1 hl) hi H
  have:=ready_mono hj hji;rw[H.2.1]at this;cases this
 |succ fuel ih=>
  intro listed a w hcl qd1 hr hy H;have hl:=K3 hcl ha (Q8 (mem_ready.1 hr).1).2;have h1:=H.1;rw[q1R hi3]at h1;refine⟨h1,fun h=>(by rw[h]at hr;cases hr),fun j hj=>?_⟩;by_cases hji:j=i
  ·subst hji;exact hy.wpOp (h1 hl) hi H
  have h1:=H.2.2 j (ready_mono hj hji);obtain⟨qfd,oj,hoj,hall⟩:=mem_ready.1 hj
  have qgv:∀e∈oj.after,Region.binds md e=true->e.on≠i:=fun e he hb heq=>by
   have h1:=hall e he hb;have h0:=(mem_ready.1 hr).1;rw[heq]at h1;rw[(Q8 h0).2]at h1;cases h1
  have h2:=q46 hoj (qd1 j oj hoj hji qfd qgv) (fun cs b=>qeU i oi cs b hi) (fun cs b=>qeU j oj cs b hoj) hy h1
  have qdy:∀k ok,ops[k]? =some ok->k≠i->(listed.setIfInBounds j true).getD k true=false->
    (∀e∈ok.after,Region.binds md e=true->e.on≠i)->oi.apart ops ok=true:=fun k ok hk hki hun hno=>by
   refine qd1 k ok hk hki ?_ hno;by_cases hjk:j=k
   ·subst hjk;exact qfd
   rw[getD_set_ne true hjk]at hun;exact hun
  refine wpOp_mono (fun a' w' h3=>ih (listed.setIfInBounds j true) a' w' (hcl.set hj) qdy (ready_mono hr (Ne.symm hji)) h3.1 ?_) h2;rw[Array.setIfInBounds_comm _ _ hji];exact h3.2
theorem q49{listed:Array Bool}{i:Nat}(hi:i∈o3)(hs:i<listed.size):q6K o3 (listed.setIfInBounds i true)=true:=
 List.any_eq_true.2 ⟨i,hi,by simp[hs]⟩
theorem K4{Q K:Act->World->Prop}{C':World->Prop}{i n:Nat}{listed:Array Bool}{a:Act}{w:World}(hr:Region.ready md ops listed=[i])(hC:q6K o3 listed=false->C w)
  (hK:∀a' w',C' w'->K a' w'->uD P md ops C o3 Q n (listed.setIfInBounds i true) a' w') (h:wpList P ops (q45 C' K) [ops.toList.getD i default] a w):uD P md ops C o3 Q (n+1) listed a w:=by
 have him:i∈Region.ready md ops listed:=by rw[hr];simp
 obtain⟨_,o,ho,_⟩:=mem_ready.1 him;have hol:ops.toList.getD i default=o:=by rw[qu,j9,ho];rfl
 refine⟨hC,fun h0=>(by rw[hr]at h0;cases h0),fun j hj=>?_⟩;obtain rfl:j=i:=by rw[hr]at hj;simpa using hj
 rw[hol]at h;unfold wpList at h;unfold wpOp;simp only[ho];split
 ·rename_i hw
  rw[qw hw]at h;rcases h with h'|⟨-,h'⟩
  ·refine .inl (Oper.wp_mono ?_ (tY (fun _ _ _ h=>h) rW h'))
   intro a' w' hh;obtain⟨hC',hk⟩:=(hh:q45 C' K .normal a' w');exact hK a' w' hC' hk
  exact(rW h').elim
 rename_i hw;rw[qv hw]at h;obtain⟨hC',hk⟩:=(h:q45 C' K .normal (a.put o.dst undef) w);exact hK _ _ hC' hk
theorem zS{Q:Act->World->Prop}:∀(o:List Nat) (listed:Array Bool) (a:Act) (w:World),(∀t∈o,t∈o3)->q6J md ops o listed=true->(q6K o3 listed=false->C w)->
  aF P ops (fun _=>True) Q (oA ops.toList o) a w->uD P md ops C o3 Q o.length listed a w
 |[],listed,a,w,_,hB,hC,h=>⟨hC,by simpa[q6J]using hB,h⟩
 |i::r,listed,a,w,ho,hB,hC,h=>by
  simp only[q6J,qK,a7]at hB;have him:i∈Region.ready md ops listed:=by rw[hB.1];simp
  have hs:=(Q8 (mem_ready.1 him).1).1;refine K4 (C':=fun _=>True) hB.1 hC (fun a' w' _ hk=>zS r _ a' w' (fun t ht=>ho t (by simp[ht])) hB.2 (fun hl=>by rw[q49 (ho i (by simp)) hs]at hl;cases hl) hk) ?_;simp only[oA,qJ]at h;exact h
theorem K5{Q:Act->World->Prop}:∀(o2:List Nat) (listed:Array Bool) (a:Act) (w:World),q6J md ops (o2++o3) listed=true->C w->
  aF P ops C (aF P ops (fun _=>True) Q (oA ops.toList o3)) (oA ops.toList o2) a w->uD P md ops C o3 Q (o2.length+o3.length) listed a w
 |[],listed,a,w,hB,hC,h=>by
  rw[qO,qI];exact zS o3 listed a w (fun _ h=>h) hB (fun _=>hC) h
 |i::r,listed,a,w,hB,hC,h=>by
  simp only[jm,q6J,qK,a7]at hB;rw[qA,Nat.add_right_comm];refine K4 (C':=C) hB.1 (fun _=>hC) (fun a' w' hC' hk=>K5 r _ a' w' hB.2 hC' hk) ?_;simp only[oA,qJ]at h;exact h
def q6W(md:Region.Mode)(ops:Array Oper)(o1 o3:List Nat):Bool:=o1.all fun i=> !o3.contains i&&o3.all fun t=>anc md ops ops.size i t
theorem xT{Q:Act->World->Prop}(hs:Region.noSelect ops=true)(o2:List Nat){w:World}(hC:C w):∀(o1:List Nat) (listed:Array Bool) (a:Act),q6W md ops o1 o3=true->zR md ops listed->q6P md ops (o2++o3) o1 listed=true->
  wpQuiet P ops C (fun a'=>aF P ops C (aF P ops (fun _=>True) Q (oA ops.toList o3)) (oA ops.toList o2) a' w) (oA ops.toList o1) a->uD P md ops C o3 Q (o1.length+(o2.length+o3.length)) listed a w
 |[],listed,a,_,_,hB,h=>by
  rw[qO,qI];exact K5 o2 listed a w (by simpa[q6P]using hB) hC h
 |i::r,listed,a,hh,hcl,hB,h=>by
  simp only[q6P,qK]at hB;obtain⟨⟨⟨hr,hf⟩,hn⟩,hB'⟩:=hB;simp only[q6W,List.all_cons,qK]at hh;have him:i∈Region.ready md ops listed:=by simpa using hr
  obtain⟨_,o,ho,_⟩:=mem_ready.1 him;have hol:ops.toList.getD i default=o:=by rw[qu,j9,ho];rfl
  simp only[oA,qJ,hol]at h;have hn':zM o.op=true:=by simpa[ho]using hn
  obtain⟨v,hy,hK⟩:=wL (K:=wpQuiet P ops C (fun a'=>aF P ops C (aF P ops (fun _=>True) Q (oA ops.toList o3)) (oA ops.toList o2) a' w) (oA ops.toList r)) hn' h;rw[qA,Nat.add_right_comm]
  exact Y3 ho (Region.noSelect_spec hs) (by simpa using hh.1.1) (fun t ht=>(List.all_eq_true.1 hh.1.2) t ht) _ listed a w hcl (Region.free_spec ho hf) him hy
   (xT hs o2 hC r _ _ (by simpa[q6W]using hh.2) (hcl.set him) hB' hK)
def q8W(md:Region.Mode)(ops:Array Oper)(o1 o2 o3:List Nat):Bool:=
 Region.noSelect ops&&(o1.length+(o2.length+o3.length)==ops.size)&&q6W md ops o1 o3&&q6P md ops (o2++o3) o1 (Array.replicate ops.size false)
theorem q15(m j:Nat):(Array.replicate m false).getD j false=false:=by
 rcases jR j m with h|h<;>simp[h]
theorem cL{id:Nat}{Q:Exit->Act->World->Prop}{a:Act}{w:World}{l:List Oper}(C:World->Prop)(o1 o2 o3:List Nat)(hm:P.follows .mixedOrders=true)(hB:q8W .any l.toArray o1 o2 o3=true)(hC:C w.drew)
  (h:wpQuiet P l.toArray C (fun a'=>aF P l.toArray C (aF P l.toArray (fun _=>True) (fun a'' w''=>Q .normal a'' w'') (oA l o3)) (oA l o2) a' w.drew) (oA l o1) a):(Code.region id l.toArray true).wp P Q a w:=by
 simp only[q8W,qK,a7]at hB;obtain⟨⟨⟨hs,hlen⟩,hh⟩,hB⟩:=hB;refine wp_region_any hm ?_;have h1:=xT (Q:=fun a'' w''=>Q .normal a'' w'') (md:=.any) (w:=w.drew) hs o2 hC o1 (Array.replicate l.toArray.size false) a hh (fun j oj _ hl=>by rw[q15]at hl;cases hl) hB (by simpa using h);rw[hlen]at h1;exact K1 (fun a w hq=>hq) _ _ _ _ h1
theorem aR{id:Nat}{Q:Exit->Act->World->Prop}{a:Act}{w:World}{l:List Oper}(o1 o2 o3:List Nat)(hm:P.follows .mixedOrders=true)(hB:q8W .any l.toArray o1 o2 o3=true)
  (h:wpQuiet P l.toArray (fun w'=>∃x,w'=ext w x) (fun a'=>aF P l.toArray (fun w'=>∃x,w'=ext w x) (aF P l.toArray (fun _=>True) (fun a'' w''=>Q .normal a'' w'') (oA l o3)) (oA l o2) a' w.drew) (oA l o1) a):(Code.region id l.toArray true).wp P Q a w:=
 cL (C:=fun w'=>∃x,w'=ext w x) o1 o2 o3 hm hB (aJ (aX w 1)) h
end
end Go.Cm
namespace Go.Cm
open Go.RowKit
inductive Scr where
 |done
 |q (i:Nat) (s:Scr)
 |br (i:Nat) (s:Scr) (t:Scr)
 |no
def Scr.heads:Scr->List Nat
 |.br i _ t=>i::t.heads
 |_=>[]
def Scr.run(md:Region.Mode)(ops:Array Oper):Scr->Bool->Nat->Array Bool->Bool
 |.done,top,n,listed=>top&&n==0&&Region.ready md ops listed==[]
 |.q i s,top,n,listed=>top&&decide (0<n)&&(Region.ready md ops listed).contains i&&Region.free md ops listed i&&((ops[i]?).map (fun o=>zM o.op)).getD false&&s.run md ops true (n-1) (listed.setIfInBounds i true)
 |.br i s t,top,n,listed=>(!top||Region.ready md ops listed==i::t.heads)&&decide (0<n)&&((ops[i]?).isSome)&&s.run md ops true (n-1) (listed.setIfInBounds i true)&&t.run md ops false n listed
 |.no,top,_,_=> !top
def Scr.qs:List Nat->Scr->Scr
 |[],s=>s
 |i::r,s=>.q i (Scr.qs r s)
section
variable {P : Program} {ops : Array Oper} {md : Region.Mode} {C : World → Prop}
def aZ(P:Program)(ops:Array Oper)(C:World->Prop)(Q:Act->World->Prop):Scr->Act->World->Prop
 |.done,a,w=>Q a w
 |.q i s,a,w=>wpQuiet P ops C (fun a'=>aZ P ops C Q s a' w) (oA ops.toList [i]) a
 |.br i s t,a,w=>aF P ops C (aZ P ops C Q s) (oA ops.toList [i]) a w/\aZ P ops C Q t a w
 |.no,_,_=>True
theorem q20{i:Nat}{o:Oper}(ho:ops[i]? =some o):oA ops.toList [i]=[o]:=by
 have hol:ops.toList.getD i default=o:=by rw[qu,j9,ho];rfl
 show [ops.toList.getD i default]=[o];rw[hol]
theorem q1a{K:Act->World->Prop}{K':Act->World->Prop}{i:Nat}{o:Oper}{a:Act}{w:World}(ho:ops[i]? =some o)(h:aF P ops C K [o] a w)(hk:∀a w,C w->K a w->K' a w):wpOp P ops noQ i K' a w:=by
 have h':wpList P ops (q45 C (aF P ops C K [])) [o] a w:=h;unfold wpList at h';unfold wpOp;simp only[ho];split
 ·rename_i hw
  rw[qw hw]at h';rcases h' with h'|⟨-,h'⟩
  ·refine .inl (Oper.wp_mono ?_ (tY (fun _ _ _ h=>h) rW h'))
   intro a' w' hh;obtain⟨hC',hk'⟩:=(hh:q45 C (aF P ops C K []) .normal a' w');exact hk a' w' hC' hk'
  exact(rW h').elim
 rename_i hw;rw[qv hw]at h';obtain⟨hC',hk'⟩:=(h':q45 C (aF P ops C K []) .normal (a.put o.dst undef) w);exact hk _ _ hC' hk'
theorem q3b{Q:Act->World->Prop}(hs:Region.noSelect ops=true):∀(s:Scr) (n:Nat) (listed:Array Bool) (a:Act) (w:World),C w->aZ P ops C Q s a w->
  (s.run md ops true n listed=true->tX P md ops C Q n listed a w)/\
  (s.run md ops false n listed=true->∀j∈s.heads,∃m,n=m+1/\wpOp P ops noQ j (tX P md ops C Q m (listed.setIfInBounds j true)) a w):=by
 intro s
 induction s with
 |done=>
  intro n listed a w hC h;refine⟨fun hB=>?_,fun _ j hj=>by cases hj⟩;simp only[Scr.run,j6,qK,a7]at hB;obtain⟨rfl,hr⟩:=hB;exact⟨hC,hr,h⟩
 |no=>
  intro n listed a w hC h;exact⟨fun hB=>by simp[Scr.run]at hB,fun _ j hj=>by cases hj⟩
 |q i s ih=>
  intro n listed a w hC h;refine⟨fun hB=>?_,fun _ j hj=>by cases hj⟩;simp only[Scr.run,j6,qK,jn]at hB;obtain⟨⟨⟨⟨h0,hr⟩,hf⟩,hn⟩,hB'⟩:=hB;obtain⟨m,rfl⟩:∃m,n=m+1:=⟨n-1,by omega⟩;have him:i∈Region.ready md ops listed:=by simpa using hr
  obtain⟨_,o,ho,_⟩:=mem_ready.1 him;have hn':zM o.op=true:=by simpa[ho]using hn
  have h':wpQuiet P ops C (fun a'=>aZ P ops C Q s a' w) [o] a:=by
   have:=h;unfold aZ at this;rwa [q20 ho]at this
  obtain⟨v,hy,hK⟩:=wL (K:=wpQuiet P ops C (fun a'=>aZ P ops C Q s a' w) []) hn' h';exact xQ ho (Region.noSelect_spec hs) _ listed a w (Region.free_spec ho hf) him hy ((ih m _ _ w hC hK).1 hB')
 |br i s t ihs iht=>
  intro n listed a w hC h;obtain⟨h1,h2⟩:=h
  have key:s.run md ops true (n-1) (listed.setIfInBounds i true)=true->(ops[i]?).isSome=true->0<n->t.run md ops false n listed=true->∀j∈(Scr.br i s t).heads,∃m,n=m+1/\wpOp P ops noQ j (tX P md ops C Q m (listed.setIfInBounds j true)) a w:=by
   intro hB1 hsome h0 hB2 j hj;obtain⟨m,rfl⟩:∃m,n=m+1:=⟨n-1,by omega⟩;rcases List.mem_cons.1 hj with rfl|hj
   ·obtain⟨o,ho⟩:=Option.isSome_iff_exists.1 hsome
    rw[q20 ho]at h1;exact⟨m,rfl,q1a ho h1 fun a' w' hC' hk=>(ihs m _ a' w' hC' hk).1 hB1⟩
   exact(iht (m+1) listed a w hC h2).2 hB2 j hj
  constructor
  ·intro hB
   simp only[Scr.run,Bool.not_true,Bool.false_or,qK,a7,jn]at hB;obtain⟨⟨⟨⟨hr,h0⟩,hsome⟩,hB1⟩,hB2⟩:=hB;obtain⟨m,rfl⟩:∃m,n=m+1:=⟨n-1,by omega⟩;refine⟨hC,fun h0=>(by rw[hr]at h0;cases h0),fun j hj=>?_⟩;rw[hr]at hj;obtain⟨m',hm,hw⟩:=key hB1 hsome h0 hB2 j hj;obtain rfl:m=m':=by omega
   exact hw
  intro hB;simp only[Scr.run,Bool.not_false,Bool.true_or,j6,qK,jn]at hB;obtain⟨⟨⟨h0,hsome⟩,hB1⟩,hB2⟩:=hB;exact key hB1 hsome h0 hB2
def qbR(md:Region.Mode)(ops:Array Oper)(s:Scr):Bool:=Region.noSelect ops&&s.run md ops true ops.size (Array.replicate ops.size false)
theorem hU{id:Nat}{Q:Exit->Act->World->Prop}{a:Act}{w:World}{l:List Oper}(C:World->Prop)(s:Scr)(hm:P.follows .mixedOrders=true)(hB:qbR .any l.toArray s=true)(hC:C w.drew)
  (h:aZ P l.toArray C (fun a'' w''=>C w''->Q .normal a'' w'') s a w.drew):(Code.region id l.toArray true).wp P Q a w:=by
 simp only[qbR,qK]at hB;obtain⟨hs,hB⟩:=hB;refine wp_region_any hm ?_;have h1:=(q3b (Q:=fun a'' w''=>C w''->Q .normal a'' w'') (md:=.any) hs s l.toArray.size (Array.replicate l.toArray.size false) a w.drew hC h).1 hB;exact wJ (fun a w hC hq=>hq hC) _ _ _ _ h1
end
end Go.Cm
namespace Go.Cm
structure Dfa where
 cls:List Int
 next:List (List Int)
 rules:List Int
def bB:Nat->List Int->Option Nat
 |n,[]=>some n
 |n,k::l=>if k<0\/(n:Int)<k then none else if k=n then bB (n+1) l else bB n l
def iS(l:List Int):Int:=match bB 0 l with|some n=>n|none=> -1
theorem pS(n:Nat)(l:List Int)(k:Nat)(h:k<l.length):
  bB n (l.drop k)=if l.getD k 0<0\/(n:Int)<l.getD k 0 then none else if l.getD k 0=n then bB (n+1) (l.drop (k+1))else bB n (l.drop (k+1)):=by
 rw[jE h];simp[bB,List.getD,h]
def T9(n:Nat)(k:Nat)(r:Int)(row:List Int):Prop:= -1<=r/\r<32/\row.length=k/\∀j,j<row.length->0<=row.getD j 0/\row.getD j 0<n
def bD(d:Dfa):Prop:=1<=d.next.length/\d.next.length<=1000/\d.rules.length=d.next.length/\∃k,bB 0 d.cls=some k/\∀i,i<d.next.length->T9 d.next.length k (d.rules.getD i 0) (d.next.getD i [])
open Classical in
noncomputable def L8(d:Dfa):Bool:=decide (bD d)
theorem lE{d:Dfa}(h:bD d):L8 d=true:=by unfold L8;simpa using h
theorem bI{d:Dfa}(h:¬bD d):L8 d=false:=by unfold L8;simpa using h
def e9(d:Dfa)(at_:Int):List UInt8->Int
 |[]=>at_
 |c::s=>e9 d ((d.next.getD at_.toNat []).getD (d.cls.getD c.toNat 0).toNat 0) s
open Classical in
noncomputable def q8o(d:Dfa)(s:List UInt8):Int:=if bD d then e9 d 0 s else -1
open Classical in
noncomputable def eR(d:Dfa)(s:List UInt8):Int:=if bD d then d.rules.getD (e9 d 0 s).toNat 0 else -1
def uT(a b:Dfa):Bool:=decide (a.cls=b.cls/\a.next=b.next/\a.rules=b.rules)
theorem aV{α:Type}(l:List α)(k:Nat)(d:α)(h:k<l.length):l.take (k+1)=l.take k++[l.getD k d]:=by
 rw[qM h,qu,qy h,qN]
theorem cE{α:Type}(l:List α)(k:Nat)(d:α)(h:k<l.length):l.getD k d∈l:=by
 simp[List.getD,h]
theorem iT(l:List Int):∀n k,bB n l=some k->n<=k/\k<=n+l.length:=by
 induction l with
 |nil=>intro n k h;simp[bB]at h;simp;omega
 |cons a l ih=>
  intro n k h;simp only[bB]at h;split at h
  ·cases h
  split at h
  ·have:=ih _ _ h;simp only[qA];omega
  have:=ih _ _ h;simp only[qA];omega
theorem sW(l:List Int):∀n k,bB n l=some k->∀x∈l,0<=x/\x<k:=by
 induction l with
 |nil=>intro n k _ x hx;cases hx
 |cons a l ih=>
  intro n k h x hx;simp only[bB]at h;split at h
  ·cases h
  rename_i hn;split at h
  ·have h2:=iT l _ _ h
   rcases List.mem_cons.1 hx with rfl|hx
   ·omega
   exact ih _ _ h x hx
  have h2:=iT l _ _ h;rcases List.mem_cons.1 hx with rfl|hx
  ·omega
  exact ih _ _ h x hx
end Go.Cm
namespace Go.Cm
section
variable {α : Type} [DecidableEq α]
def aQ(ks:List α)(s:α):List α:=if s∈ks then ks else ks++[s]
def eH(l:List α):List α:=l.foldl aQ []
theorem cR{ks:List α}{s x:α}:x∈aQ ks s↔x∈ks\/x=s:=by
 unfold aQ;split
 ·rename_i h;exact⟨.inl,fun q=>q.elim id (fun e=>e▸h)⟩
 simp
theorem q04{ks:List α}{s:α}(h:ks.Nodup):(aQ ks s).Nodup:=by
 unfold aQ;split
 ·exact h
 exact ZmA5
theorem fI(l:List α)(s:α):eH (l++[s])=aQ (eH l) s:=by simp[eH,qZ]
theorem sD(l:List α):(eH l).Nodup:=by
 have:∀(l ks:List α),ks.Nodup->(l.foldl aQ ks).Nodup:=by
  intro l
  induction l with
  |nil=>intro ks h;exact h
  |cons a l ih=>intro ks h;exact ih _ (q04 h)
 exact this l [] List.nodup_nil
theorem dF (l : List α) (x : α) : x ∈ eH l ↔ x ∈ l := by
  have : ∀ (l ks : List α), x ∈ l.foldl aQ ks ↔ x ∈ ks ∨ x ∈ l := by
    intro l
    induction l with
    | nil => intro ks; simp
    | cons a l ih => intro ks; rw [qL, ih, cR, jM]; constructor
                     · rintro ((h | h) | h)
                       · exact .inl h
                       · exact .inr (.inl h)
                       · exact .inr (.inr h)
                     · rintro (h | h | h)
                       · exact .inl (.inl h)
                       · exact .inl (.inr h)
                       · exact .inr h
  simpa [eH] using this l []
theorem uU (l : List α) : (eH l).length ≤ l.length := by
  have : ∀ (l ks : List α), (l.foldl aQ ks).length ≤ ks.length + l.length := by
    intro l
    induction l with
    | nil => intro ks; simp
    | cons a l ih => intro ks; have := ih (aQ ks a); simp only [qL, qA]
                     have h2 : (aQ ks a).length ≤ ks.length + 1 := by unfold aQ; split <;> simp
                     omega
  simpa [eH] using this l []
def idx(ks:List α)(x:α):Nat:=ks.idxOf x
theorem cD{ks m:List α}{s:α}(h:s∈ks):idx (ks++m) s=idx ks s:=by
 unfold idx;rw[List.idxOf_append,qw h]
theorem cV{ks:List α}{s:α}(h:s∉ks):idx (ks++[s]) s=ks.length:=by
 unfold idx;rw[List.idxOf_append,qv h];simp
theorem xV{ks:List α}{s x:α}(h:x∈ks):idx (aQ ks s) x=idx ks x:=by
 unfold aQ;split
 ·rfl
 exact cD h
theorem oH(l m:List α){x:α}(h:x∈l):idx (eH (l++m)) x=idx (eH l) x:=by
 have:∀(m ks:List α),x∈ks->idx (m.foldl aQ ks) x=idx ks x:=by
  intro m
  induction m with
  |nil=>intro ks _;rfl
  |cons a m ih=>intro ks hk;rw[qL,ih _ (cR.2 (.inl hk)),xV hk]
 unfold eH;rw[qZ];exact this m _ ((dF l x).2 h)
theorem eJ{ks:List α}{x:α}(hx:x∈ks):idx ks x<ks.length:=List.idxOf_lt_length_of_mem hx
theorem f8{ks:List α}{x:α}(hx:x∈ks):ks[idx ks x]'(eJ hx)=x:=List.getElem_idxOf (eJ hx)
theorem C3{ks:List α}{x y:α}(hx:x∈ks)(hy:y∈ks)(h:idx ks x=idx ks y):x=y:=by
 rw[<-f8 hx,<-f8 hy]
 congr 1
theorem U0{β:Type} [DecidableEq β](l:List α)(f:α->β)(h:(eH l).length=(eH (l.map f)).length):∀x∈l,∀y∈l,f x=f y->x=y:=by
 have hmap:∀(l:List α),(eH (l.map f)).length<=(eH l).length:=by
  intro l
  exact ZmA0
 have key:∀(l:List α) (ks:List α) (js:List β),js.length<=ks.length->(∀x∈ks,f x∈js)->((∃x∈ks,∃y∈ks,f x=f y/\x≠y)->js.length<ks.length)->
   ((∃x,(x∈ks\/x∈l)/\∃y,(y∈ks\/y∈l)/\f x=f y/\x≠y)->((l.map f).foldl aQ js).length<(l.foldl aQ ks).length):=by
  intro l
  induction l with
  |nil=>intro ks js h hk hc ⟨x,hx,y,hy,he⟩;exact hc ⟨x,hx.resolve_right (by simp),y,hy.resolve_right (by simp),he⟩
  |cons a l ih=>
   intro ks js h hk hc hex;simp only[qJ,qL];refine ih _ _ ?_ ?_ ?_ ?_
   ·unfold aQ
    by_cases ha:a∈ks
    ·rw[qw ha,qw (hk a ha)];exact h
    rw[qv ha];split<;>simp<;>omega
   ·intro x hx
    rcases cR.1 hx with h1|rfl
    ·exact cR.2 (.inl (hk x h1))
    exact cR.2 (.inr rfl)
   ·rintro⟨x,hx,y,hy,he,hne⟩
    by_cases ha:a∈ks
    ·have e:aQ ks a=ks:=by unfold aQ;rw[qw ha]
     rw[e]at hx hy⊢;have e2:aQ js (f a)=js:=by unfold aQ;rw[qw (hk a ha)]
     rw[e2];exact hc ⟨x,hx,y,hy,he,hne⟩
    have e:aQ ks a=ks++[a]:=by unfold aQ;rw[qv ha]
    by_cases hf:f a∈js
    ·have e2:aQ js (f a)=js:=by unfold aQ;rw[qw hf]
     rw[e,e2];simp;omega
    have e2:aQ js (f a)=js++[f a]:=by unfold aQ;rw[qv hf]
    rw[e]at hx hy
    have hxk:x∈ks:=by
     rcases List.mem_append.1 hx with h1|h1
     ·exact h1
     simp at h1;subst h1;rcases List.mem_append.1 hy with h2|h2
     ·exact absurd (he▸hk y h2) hf
     simp at h2;exact absurd h2.symm hne
    have hyk:y∈ks:=by
     rcases List.mem_append.1 hy with h1|h1
     ·exact h1
     simp at h1;subst h1;exact absurd (he▸hk x hxk) hf
    have:=hc ⟨x,hxk,y,hyk,he,hne⟩;rw[e,e2];simp;omega
   obtain⟨x,hx,y,hy,he⟩:=hex;refine⟨x,?_,y,?_,he⟩
   ·rcases hx with h1|h1
    ·exact .inl (cR.2 (.inl h1))
    exact ZmA8
   rcases hy with h1|h1
   ·exact .inl (cR.2 (.inl h1))
   exact ZmA8
 intro x hx y hy he;rcases Classical.em (x=y)with h1|h1
 ·exact h1
 exfalso;have:=key l [] [] (qb _) (fun x hx=>by cases hx) (fun⟨x,hx,_⟩=>by cases hx) ⟨x,.inr hx,y,.inr hy,he,h1⟩;unfold eH at h;omega
theorem q1g{β:Type} [DecidableEq β](l:List α)(f:α->β):(eH (l.map f)).length<=(eH l).length:=by
 exact ZmA0
end
end Go.Cm
namespace Go.Cm
def nl(l:List Nat):List Int:=l.map fun n:Nat=>(n:Int)
@[simp] theorem lS(l:List Nat):(nl l).length=l.length:=by simp[nl]
theorem tK(l:List Nat)(k:Nat):(nl l).getD k 0=((l.getD k 0:Nat):Int):=by
 simp only[nl,qu,qU];cases l[k]? <;>simp
theorem uV(a b:List Nat):nl (a++b)=nl a++nl b:=by simp[nl]
theorem q4P {l : List Nat} {n : Nat} : (n : Int) ∈ nl l ↔ n ∈ l := by
  simp only [nl, jB]
  exact ⟨fun ⟨a, h, e⟩ => by have : a = n := by omega
                             exact this ▸ h, fun h => ⟨n, h, rfl⟩⟩
def rowN_MiniM(d:Dfa)(i:Nat):List Nat:=(d.next.getD i []).map Int.toNat
def gG(out:List Nat)(tgt:Nat):List Nat:=if tgt∈out then out else out++[tgt]
def iH(out row:List Nat):List Nat:=row.foldl gG out
def gW(d:Dfa):Nat->Nat->List Nat->List Nat
 |0,_,out=>out
 |f+1,i,out=>if i<out.length then gW d f (i+1) (iH out (rowN_MiniM d (out.getD i 0)))else out
def reach(d:Dfa):List Nat:=gW d (d.next.length+1) 0 [0]
theorem wZ(out row:List Nat)(k:Nat)(h:k<row.length):iH out (row.take (k+1))=gG (iH out (row.take k)) (row.getD k 0):=by
 unfold iH;rw[aV row k 0 h,qZ];rfl
theorem uW{out:List Nat}{tgt:Nat}(h:out.Nodup):(gG out tgt).Nodup:=by
 unfold gG;split
 ·exact h
 exact ZmA5
theorem tL{out:List Nat}{tgt x:Nat}:x∈gG out tgt↔x∈out\/x=tgt:=by
 unfold gG;split
 ·rename_i h;exact⟨.inl,fun q=>q.elim id (fun e=>e▸h)⟩
 simp
theorem C7{out:List Nat}{tgt:Nat}:out.length<=(gG out tgt).length:=by unfold gG;split<;>simp
theorem q05{out:List Nat}{tgt i:Nat}(h:i<out.length):(gG out tgt).getD i 0=out.getD i 0:=by
 unfold gG;split
 ·rfl
 simp[List.getD,qW h]
theorem xW(row:List Nat):∀out,(out.Nodup->(iH out row).Nodup)/\(∀x,x∈iH out row↔x∈out\/x∈row)/\out.length<=(iH out row).length/\∀i,i<out.length->(iH out row).getD i 0=out.getD i 0:=by
 induction row with
 |nil=>intro out;simp[iH]
 |cons a row ih=>
  intro out;obtain⟨h1,h2,h3,h4⟩:=ih (gG out a);refine⟨fun h=>h1 (uW h),fun x=>?_,qc C7 h3,fun i hi=>?_⟩
  ·show x∈iH (gG out a) row↔_
   rw[h2,tL,jM]
   constructor
   ·rintro((h|h)|h)
    ·exact .inl h
    ·exact .inr (.inl h)
    exact .inr (.inr h)
   rintro(h|h|h)
   ·exact .inl (.inl h)
   ·exact .inl (.inr h)
   exact .inr h
  show(iH (gG out a) row).getD i 0=_;rw[h4 i (qe hi C7),q05 hi]
theorem tM{l:List Nat}{n:Nat}(h:l.Nodup)(hb:∀x∈l,x<n):l.length<=n:=by
 induction n generalizing l with
 |zero=>cases l with
  |nil=>simp
  |cons a l=>exact absurd (hb a (by simp)) (by omega)
 |succ n ih=>
  have h1:(l.filter (· ≠n)).length<=n:=ih (h.filter _) (fun x hx=>by
   have:=hb x (List.mem_filter.1 hx).1;have h2:x≠n:=by simpa using(List.mem_filter.1 hx).2
   omega)
  have h2:l.length<=(l.filter (· ≠n)).length+1:=by
   have qeS:∀(l:List Nat),l.Nodup->l.length<=(l.filter (· ≠n)).length+1:=by
    intro l
    induction l with
    |nil=>intro _;simp
    |cons a l ih=>
     intro hd;rw[List.nodup_cons]at hd;by_cases ha:a=n
     ·have:l.filter (· ≠n)=l:=by
       rw[List.filter_eq_self];intro b hb;have:b≠n:=fun e=>hd.1 (by rw[ha,<-e];exact hb);simpa using this
      rw[jU,qv (by simp[ha]),this];simp
     have:=ih hd.2;simp only[jU,ha,ne_eq,not_false_eq_true,decide_true,jJ,qA]at this⊢;omega
   exact qeS l h
  omega
theorem I9(d:Dfa)(i:Nat)(out:List Nat)(h:out.length<=i):∀f,gW d f i out=out
 |0=>rfl
 |f+1=>by simp[gW,Nat.not_lt.2 h]
end Go.Cm
namespace Go.Cm
section
variable {α β : Type} [DecidableEq β]
def aU(f:α->β)(l:List α):List α:=l.foldl (fun ks s=>if f s∈ks.map f then ks else ks++[s]) []
theorem dN(f:α->β)(l:List α)(s:α):aU f (l++[s])=if f s∈(aU f l).map f then aU f l else aU f l++[s]:=by
 unfold aU;rw[qZ];rfl
theorem kL{α:Type}{P:List α->Prop}(h0:P [])(h:∀l a,P l->P (l++[a]))(l:List α):P l:=by
 exact ZmA2
theorem lF(f:α->β)(l:List α):(aU f l).map f=eH (l.map f):=by
 induction l using kL with
 |h0=>rfl
 |h l s ih=>
  rw[qH,qJ,ju,fI,dN,<-ih];unfold aQ;split
  ·rfl
  simp
theorem lG{f:α->β}{l:List α}{x:α}(h:x∈aU f l):x∈l:=by
 induction l using kL with
 |h0=>cases h
 |h l s ih=>
  rw[dN]at h;split at h
  ·exact j5 _ (ih h)
  exact ZmA7
theorem sE(f:α->β)(l:List α):(aU f l).length<=l.length:=by
 have h:=j0 List.length (lF f l);rw[qB]at h;rw[h];have:=uU (l.map f);rwa [qB]at this
theorem uX(f:α->β)(l m:List α):∃k,aU f (l++m)=aU f l++k:=by
 induction m using kL with
 |h0=>exact⟨[],by simp⟩
 |h m s ih=>
  obtain⟨k,hk⟩:=ih;rw[<-qk,dN];split
  ·exact⟨k,hk⟩
  exact⟨k++[s],by rw[hk,qk]⟩
def lT(f:α->β)(l:List α)(s:α):Nat:=idx ((aU f l).map f) (f s)
theorem U1{f:α->β}{l:List α}{s:α}(h:s∈l):lT f l s<(aU f l).length:=by
 have:f s∈(aU f l).map f:=by rw[lF,dF];exact je h
 have:=eJ this;simpa[lT]using this
theorem nF{f:α->β}{l m:List α}{s:α}(h:s∈l):lT f (l++m) s=lT f l s:=by
 obtain⟨k,hk⟩:=uX f l m;unfold lT;rw[hk,qH,cD];rw[lF,dF];exact je h
theorem rB{γ:Type} [DecidableEq γ]{f:α->β}{g:α->γ}{l:List α}(h:∀a∈l,∀b∈l,f a=f b↔g a=g b):aU f l=aU g l/\∀s∈l,lT f l s=lT g l s:=by
 have h1:aU f l=aU g l:=by
  have:∀m,(∀a∈m,a∈l)->aU f m=aU g m:=by
   intro m
   induction m using kL with
   |h0=>intro _;rfl
   |h m s ih=>
    intro hm;have ih:=ih fun a ha=>hm a (j5 _ ha);have hs:=hm s (by simp);rw[dN,dN,<-ih]
    have e:f s∈(aU f m).map f↔g s∈(aU f m).map g:=by
     simp only[jB]
     constructor
     ·rintro⟨a,ha,he⟩;exact⟨a,ha,(h a (hm a (j5 _ (lG ha))) s hs).1 he⟩
     rintro⟨a,ha,he⟩;exact⟨a,ha,(h a (hm a (j5 _ (lG ha))) s hs).2 he⟩
    simp only[e]
  exact this l fun _ h=>h
 refine⟨h1,fun s hs=>?_⟩;unfold lT;rw[<-h1]
 have:∀m:List α,(∀a∈m,a∈l)->idx (m.map f) (f s)=idx (m.map g) (g s):=by
  intro m;unfold idx
  induction m with
  |nil=>intro _;simp
  |cons a m ih=>
   exact ZmA1
 exact this _ fun a ha=>lG ha
end
section
variable {α β : Type} [DecidableEq β] {f : α → β} {l F : List α} {k q : Nat} {s z : α}
theorem mR(hk:k<l.length)(hs:l.getD k z=s):l.take (k+1)=l.take k++[s]:=by
 rw[qM hk,<-hs];simp[List.getD,hk]
theorem U2(l:List β)(q:Nat)(x:β)(h:l[q]? =some x):l.idxOf x<=q:=by
 induction l generalizing q with
 |nil=>simp at h
 |cons a l ih=>
  rw[List.idxOf_cons];cases q with
  |zero=>simp at h;subst h;simp
  |succ q=>
   have:=ih q (by simpa using h);cases a==x
   ·simpa using this
   simp
theorem D1(hk:k<l.length)(hs:l.getD k z=s)(hF:aU f (l.take k)=F)(hq:q<F.length)(h1:∀a,a<q->f (F.getD a z)≠f s)(h2:f (F.getD q z)=f s):aU f (l.take (k+1))=F/\lT f l s=q:=by
 have e:=mR hk hs;have hm:f s∈F.map f:=List.mem_map.2 ⟨F.getD q z,cE F q z hq,h2⟩;have h3:aU f (l.take (k+1))=F:=by rw[e,dN,hF,qw hm]
 refine⟨h3,?_⟩;have h4:=nF (f:=f) (l:=l.take (k+1)) (m:=l.drop (k+1)) (s:=s) (by rw[e];simp);rw[j8]at h4;rw[h4];unfold lT;rw[h3];unfold idx;have h5:(F.map f).idxOf (f s)<(F.map f).length:=List.idxOf_lt_length_of_mem hm;have h6:=List.getElem_idxOf h5;rw[qB]at h5;rw[jx]at h6;rcases Nat.lt_trichotomy ((F.map f).idxOf (f s)) q with h|h|h
 ·exact absurd (by rw[qu,qy h5];exact h6) (h1 _ h)
 ·exact h
 exfalso
 have h7:(F.map f)[q]? =some (f s):=by
  rw[qU,qy hq,jP,<-h2,qu,qy hq,qN]
 have h8:=U2 _ _ _ h7;omega
theorem q06(hk:k<l.length)(hs:l.getD k z=s)(hF:aU f (l.take k)=F)(h1:∀a,a<F.length->f (F.getD a z)≠f s):aU f (l.take (k+1))=F++[s]/\lT f l s=F.length:=by
 have e:=mR hk hs
 have hm:f s∉F.map f:=fun h=>by
  obtain⟨x,hx,he⟩:=List.mem_map.1 h;obtain⟨a,ha,rfl⟩:=List.mem_iff_getElem.1 hx;exact h1 a ha (by rw[qu,qy ha];exact he)
 have h3:aU f (l.take (k+1))=F++[s]:=by rw[e,dN,hF,qv hm]
 refine⟨h3,?_⟩;have h4:=nF (f:=f) (l:=l.take (k+1)) (m:=l.drop (k+1)) (s:=s) (by rw[e];simp);rw[j8]at h4;rw[h4];unfold lT;rw[h3,qH,qJ,ju,cV hm,qB]
end
theorem D3{α:Type} [DecidableEq α](l m:List α):eH (l++m)=m.foldl aQ (eH l):=by unfold eH;rw[qZ]
theorem bP{α:Type} [DecidableEq α](m l:List α):∃k,m.foldl aQ l=l++k:=by
 induction m generalizing l with
 |nil=>exact⟨[],by simp⟩
 |cons a m ih=>
  exact ZmA6
theorem D4{α:Type} [DecidableEq α](l m:List α):∃k,eH (l++m)=eH l++k:=by
 rw[D3];exact bP m (eH l)
section
variable {α β : Type} [DecidableEq β] {f : α → β}
theorem lH(f:α->β):∀(m l:List α),bB (aU f l).length (nl (m.map (lT f (l++m))))=some (aU f (l++m)).length
 |[],l=>by simp[nl,bB]
 |a::m,l=>by
  have e:lT f (l++a::m) a=lT f (l++[a]) a:=by
   rw[show l++a::m=l++[a]++m by simp];exact nF (by simp)
  have ih:=lH f m (l++[a]);rw[show l++[a]++m=l++a::m by simp]at ih;simp only[nl,qJ,bB,e]at ih⊢;by_cases h:f a∈(aU f l).map f
  ·have h1:aU f (l++[a])=aU f l:=by rw[dN,qw h]
   have h2:=U1 (f:=f) (l:=l++[a]) (s:=a) (by simp);rw[h1]at h2 ih;rw[qv (by omega),qv (by omega)];exact ih
  have h1:aU f (l++[a])=aU f l++[a]:=by rw[dN,qv h]
  have h2:lT f (l++[a]) a=(aU f l).length:=by
   unfold lT;rw[h1,qH,qJ,ju,cV h,qB]
  rw[h1,qj,qE]at ih;rw[qv (by omega),qw (by omega)];exact ih
end
end Go.Cm
namespace Go.Cm
open Go.RowKit Go.Proofs
theorem Own.whole{w:World}{B T g n:Nat}{xs:List Value}(h:Own w B T (.slice (some ⟨g,0,none⟩) n n) xs):∃A,w.heap[g]? =some (.cells A T (0,0))/\A.size=n/\A.toList=xs:=by
 have hl:=h.len;rcases h.1.2 with⟨h1,_⟩|⟨g',cap,cur,h1,_,hg,hnc,hcm,hcs,qcz⟩
 ·cases h1
 simp only[Value.slice.injEq,jC,Addr.mk.injEq,and_true]at h1;obtain⟨rfl,h2,rfl⟩:=h1;have hs:cur.size=n:=by omega
 refine⟨cur,hg,hs,?_⟩;rw[<-qcz,qG];rw[qR];omega
theorem q09{P:Program}{fn:Func}{tmps:Array Value}{w:World}{a t:Nat}{ad:Addr}{v:Value}(hf:fn.results=#[.cell a t])(ha:tmps.getD a undef=.pointer (some ad))(hl:(loadVar t ad).run P w=.ok v w):
  (results fn tmps).run P w=.ok v w:=by
 have ha':tmps[a]?.getD undef=.pointer (some ad):=by simpa using ha
 simp[results,hf,asAddr,ha',hl]
theorem dV{P:Program}{fn:Func}{tmps:Array Value}{w:World}{ds:List Deferred}{s t:Nat}{ad:Addr}{x:Value}{R:Ending->World->Prop}(hf:fn.results=#[.cell s t])(ha:tmps.getD s undef=.pointer (some ad))(hd:ds=[])
  (hl:(loadVar t ad).run P w=.ok x w) (h:R (.returned x) w):bodyPost P fn R .ret ⟨tmps,ds⟩ w:=
 bodyPost_ret (v:=x) (q09 hf ha hl) hd h
theorem U5{P:Program}{w:World}{B T g n:Nat}{xs:List Value}(h:Own w B T (.slice (some ⟨g,0,none⟩) n n) xs)(d:TypeDesc)(hu:P.underlying T=some d)(hd:(match d with|.struct _|.array _ _=>true|_=>false)=true)(hi:(P.info? T).map (·.size)=some n):
  (loadVar T ⟨g,0,none⟩).run P w=.ok (.agg xs.toArray) w:=by
 obtain⟨A,hg,hs,hA⟩:=h.whole;have hl:=dA (P:=P) w g 0 n T T A (0,0) d hg hu hd hi (by omega);have e:A.extract 0 (0+n)=xs.toArray:=by rw[qI,<-hs,Array.extract_size,<-hA]
 rw[e]at hl;exact hl
def dG(l:List UInt8):List Value:=l.map fun b=>.int .u8 (b.toNat:Int)
theorem vD(a b:List UInt8):dG (a++b)=dG a++dG b:=by simp[dG]
theorem i9(a:List UInt8):(dG a).length=a.length:=by simp[dG]
theorem M5(l:List UInt8):∀u∈dG l,u.oneCell'=true:=by
 intro u hu;simp only[dG,jB]at hu;obtain⟨b,-,rfl⟩:=hu;rfl
theorem fW{P:Program}(w:World)(src dst e:TypeId)(hs:P.underlying src=some (.slice e))(he:P.underlying e=some (.int .u8))(hd:P.underlying dst=some .string)
  (v:Value) (l:List UInt8) (h:Sl w v (dG l)):(convert src dst v).run P w=.ok (.string ⟨l.toArray⟩) w:=by
 obtain⟨oa,cap,b,off,rfl,hdr,hc⟩:=h;rw[i9]at hdr hc⊢;rw[run_convert_bytes_string w src dst e oa l.length cap hs he hd]
 have qea:∀(l:List UInt8) (s:ByteArray),(l.map fun b=>(b.toNat:Int)).foldl (fun r n=>r.push (UInt8.ofNat n.toNat)) s=⟨s.data++l.toArray⟩:=by
  intro l
  induction l with
  |nil=>intro s;simp
  |cons b l ih=>intro s;simp only[qJ,qL,ih];simp[ByteArray.push]
 have hb:dG l=(l.map fun b=>(b.toNat:Int)).map (Value.int .u8):=by simp[dG]
 cases oa with
 |none=>
  have h0:l.length=0:=by
   rcases jG l.length with h|h
   ·exact h
   have:=hdr.hat h;cases this
  obtain rfl:l=[]:=List.length_eq_zero_iff.1 h0;unfold Conv.bytesToString;simp
  rfl
 |some ad=>
  have hl:(loadCells ad l.length).run P w=.ok ((l.map fun b=>(b.toNat:Int)).map (Value.int .u8)).toArray w:=by
   rcases jG l.length with h|h
   ·obtain rfl:l=[]:=List.length_eq_zero_iff.1 h
    simp[loadCells,loadCellsFrom]
   have:=hdr.hat h;obtain rfl:ad=⟨b,off,none⟩:=qr this;rw[<-hb]
   have h2:=run_loadCells_list (P:=P) w ⟨b,off,none⟩ (dG l) (fun j v hv=>by
    have hj:j<(dG l).length:=(List.getElem?_eq_some_iff.1 hv).1;rw[i9]at hj;rw[kJ,hc j hj];simp[List.getD,hv])
   rwa [i9]at h2
  rw[run_bytesToString w ad l.length cap _ hl,qea];simp
abbrev eZ:=List UInt8
def bys(s:ByteArray):eZ:=s.data.toList
theorem cH(s:ByteArray):(bys s).length=s.size:=by simp[bys]
theorem iU{P:Program}(T:TypeId)(hT:P.underlying T=some .string){s:ByteArray}{i:Nat}(h:i<s.size)(W:World):(Instr.index T (.string s) (.int .i64 i)).run P W=.ok (.int .u8 (((bys s).getD i 0).toNat:Nat)) W:=by
 rw[run_index_string W T s .i64 i hT,dif_pos ⟨by omega,by omega⟩]
 have:(bys s).getD i 0=s[i]:=by
  have hl:i<(bys s).length:=by rw[cH];exact h
  rw[qu,qy hl]
  rfl
 rw[this]
 rfl
theorem pG{a b:UInt8}(h:a≠b):((a.toNat:Int)==(b.toNat:Int))=false:=by
 have:a.toNat≠b.toNat:=fun e=>h (UInt8.toNat_inj.1 e);have h2:(a.toNat:Int)≠(b.toNat:Int):=by omega
 simpa using h2
end Go.Cm
namespace Go.Cm
open Go.RowKit Go.Proofs Go.Maps
def vK(P:Program)(K:TypeId)(w:World)(b:Nat)(ks:List Value)(n:Nat):Prop:=
 ∃es clock,w.heap[b]? =some (.map es clock)/\es.toList.map (·.key)=ks/\(∀x∈es.toList,∃l,keyOf P K x.key=some l)/\(∀x∈es.toList,∃c:Int,x.val=.int .i64 c/\1<=c/\c<=n)/\(es.toList.map (·.born)).Nodup/\(∀x∈es.toList,x.born<clock)/\ks.Nodup
section
variable {P : Program} {K E T : TypeId} {w w' : World} {b n : Nat} {ks : List Value} {k : Value} {lk : Lit}
theorem vK.made(P:Program)(K:TypeId)(w:World):vK P K (w.alloc (.map #[] 0)) w.heap.size [] 0:=
 ⟨#[],0,(MapKept.heap_alloc w _).1,rfl,by simp,by simp,by simp,by simp,by simp⟩
theorem vK.lt(h:vK P K w b ks n):b<w.heap.size:=by
 obtain⟨es,clock,hb,-⟩:=h;exact(Array.getElem?_eq_some_iff.1 hb).1
theorem vK.keep(h:vK P K w b ks n){row:Option Nat}(hg:w.grownBy w' row)(hne:some b≠row):vK P K w' b ks n:=by
 have hlt:=h.lt;obtain⟨es,clock,hb,r⟩:=h;exact⟨es,clock,(hg.block b hlt hne).trans hb,r⟩
theorem vK.up(h:vK P K w b ks n)(hb:Below w.heap.size w w'):vK P K w' b ks n:=h.keep (row:=none) (aK hb none) (by simp)
theorem vK.more(h:vK P K w b ks n):vK P K w b ks (n+1):=by
 obtain⟨es,clock,hb,h1,h2,h3,h4⟩:=h;exact⟨es,clock,hb,h1,h2,fun x hx=>by obtain⟨c,hc,h5,h6⟩:=h3 x hx;exact⟨c,hc,h5,by omega⟩,h4⟩
structure qb7(P:Program)(K T:TypeId)(w:World)(b:Nat)(ks:List Value)(n:Nat)(k:Value)(c:Int)(ks':List Value):Prop where
 step:∃(st:Int) (w1 w2:World),(Instr.mapEntry T (.map (some b)) k).run P w=.ok (.tuple #[.int .i64 c,.int .i64 st]) w1/\(Instr.lookup T (.map (some b)) k false).run P w=.ok (.int .i64 c) w/\(Instr.lookup T (.map (some b)) k false).run P w1=.ok (.int .i64 c) w1/\
  (Instr.entryStore T (.map (some b)) (.int .i64 st) (.int .i64 (c+1))).run P w1=.ok () w2/\(Instr.lookup T (.map (some b)) k false).run P w2=.ok (.int .i64 (c+1)) w2/\w.grownBy w1 (some b)/\w.grownBy w2 (some b)/\vK P K w2 b ks' (n+1)
theorem rJ(w:World)(b:Nat)(o:Obj):w.grownBy {w with heap:=w.heap.setIfInBounds b o} (some b):=
 ⟨rfl,rfl,rfl,by simp,fun i _ hi=>by
  have:i≠b:=fun e=>hi (by rw[e]);simp[this.symm]⟩
theorem E7{es:Array MapEntry}{clock:Nat}(hb:w.heap[b]? =some (.map es clock))(o:Obj):({w with heap:=w.heap.setIfInBounds b o}:World).heap[b]? =some o:=by
 have:=(Array.getElem?_eq_some_iff.1 hb).1;simp[this]
theorem xG(Kd:Keyed P K)(hT:P.underlying T=some (.map K E))(hz:(zeroValue E).run P w=.ok (.int .i64 0) w)(hk:keyOf P K k=some lk){es:Array MapEntry}{clock:Nat}(hb:w.heap[b]? =some (.map es clock)):
  (((Instr.findKey K k es.toList).run P w=.ok none w->(Instr.lookup T (.map (some b)) k false).run P w=.ok (.int .i64 0) w)/\∀j v,(Instr.findKey K k es.toList).run P w=.ok (some (j,v)) w->(Instr.lookup T (.map (some b)) k false).run P w=.ok v w):=by
 refine⟨fun h=>?_,fun j v h=>?_⟩
 ·simp[Instr.lookup,run_underlying hT,MapKept.run_getObj_map hb,Kd.check w _ hk,h,hz,Result.andThen]
 simp[Instr.lookup,run_underlying hT,MapKept.run_getObj_map hb,Kd.check w _ hk,h,Result.andThen]
theorem M8{α β:Type}(l:List α)(j:Nat)(f:α->α)(g:α->β)(h:∀a,g (f a)=g a):(l.modify j f).map g=l.map g:=by
 refine List.ext_getElem? fun i=>?_;rw[qU,qU,List.getElem?_modify];cases l[i]? with
 |none=>rfl
 |some a=>
  simp only[jP,Option.map_eq_map];split
  ·rw[h]
  rfl
theorem xH{α:Type}{l:List α}{j:Nat}{f:α->α}{x:α}(h:x∈l.modify j f):x∈l\/∃a∈l,x=f a:=by
 obtain⟨i,hi⟩:=List.mem_iff_getElem?.1 h;rw[List.getElem?_modify]at hi;cases hl:l[i]? with
 |none=>rw[hl]at hi;cases hi
 |some a=>
  have ha:=List.mem_iff_getElem?.2 ⟨i,hl⟩;rw[hl]at hi;simp only[jP,Option.map_eq_map,jC]at hi;split at hi
  ·exact .inr ⟨a,ha,hi.symm⟩
  exact .inl (hi▸ha)
theorem q1v{α:Type}(l:List α)(a:α)(f:α->α):(l++[a]).modify l.length f=l++[f a]:=by
 refine List.ext_getElem? fun i=>?_;rw[List.getElem?_modify];rcases Nat.lt_trichotomy i l.length with h|h|h
 ·rw[qW h,qW h]
  cases l[i]? with
  |none=>rfl
  |some x=>simp;omega
 ·subst h;simp
 rw[qQ (by simp;omega),qQ (by simp;omega)];rfl
theorem V3{α:Type}{l:List α}(h:l.Nodup){i j:Nat}(hi:i<l.length)(hj:j<l.length)(hij:i<j):l[i]≠l[j]:=List.pairwise_iff_getElem.1 h i j hi hj hij
theorem q1w(Kd:Keyed P K)(hk:keyOf P K k=some lk){l:List MapEntry}(hkl:∀x∈l,∃l,keyOf P K x.key=some l)(hnd:(l.map (·.key)).Nodup){j:Nat}{e0:MapEntry}(hj:l[j]? =some e0)(he:e0.key=k)(W:World):(Instr.findKey K k l).run P W=.ok (some (j,e0.val)) W:=by
 rcases Kd.find W hk l hkl with⟨-,hno⟩|⟨j',e1,f,hj',he'⟩
 ·exact absurd he (hno e0 (jA hj))
 obtain⟨h1,h2⟩:=List.getElem?_eq_some_iff.1 hj;obtain⟨h3,h4⟩:=List.getElem?_eq_some_iff.1 hj'
 have:j'=j:=by
  rcases Nat.lt_trichotomy j' j with h|h|h
  ·exact(V3 hnd (i:=j') (j:=j) (by rw[qB];exact h3) (by rw[qB];exact h1) h (by rw[jx,jx,h2,h4,he,he'])).elim
  ·exact h
  exact(V3 hnd (i:=j) (j:=j') (by rw[qB];exact h1) (by rw[qB];exact h3) h (by rw[jx,jx,h2,h4,he,he'])).elim
 subst this;rw[hj]at hj';injection hj' with e;rw[e];exact f
theorem q8F(Kd:Keyed P K)(hT:P.underlying T=some (.map K E))(hz:∀w,(zeroValue E).run P w=.ok (.int .i64 0) w)(hk:keyOf P K k=some lk)(h:vK P K w b ks n)(hn:k∉ks):qb7 P K T w b ks n k 0 (ks++[k]):=by
 obtain⟨es,clock,hb,hks,hkl,hvl,hpb,hbl,hnd⟩:=h;have hne:∀x∈es.toList,x.key≠k:=fun x hx e=>hn (by rw[<-hks,<-e];exact je hx);rcases Kd.find w hk es.toList hkl with⟨f1,-⟩|⟨j,e0,f2,hj,he⟩
 ·have hl0:=(xG (w:=w) Kd hT (hz w) hk hb).1 f1
  have hb1:=E7 hb (.map (es.push ⟨k,.int .i64 0,clock⟩) (clock+1));obtain⟨w1,hw1⟩:∃w1:World,w1={w with heap:=w.heap.setIfInBounds b (.map (es.push ⟨k,.int .i64 0,clock⟩) (clock+1))}:=⟨_,rfl⟩
  have hr1:(Instr.mapEntry T (.map (some b)) k).run P w=.ok (.tuple #[.int .i64 0,.int .i64 clock]) w1:=by
   simp[Instr.mapEntry,run_underlying hT,MapKept.run_getObj_map hb,Kd.check w _ hk,f1,hz,Result.andThen,MapKept.run_setObj_map _ hb,hw1,goInt]
  have hg1:w.grownBy w1 (some b):=by rw[hw1];exact rJ w b _
  rw[<-hw1]at hb1
  have hfi:(es.push ⟨k,.int .i64 0,clock⟩).findIdx? (fun e=>(e.born:Int)==(clock:Int))=some es.size:=by
   rw[Array.findIdx?_push]
   have h1:es.findIdx? (fun e=>(e.born:Int)==(clock:Int))=none:=by
    rw[Array.findIdx?_eq_none_iff];intro x hx;have:=hbl x (by simpa using hx);simp;omega
   rw[h1];simp
  have hb2:=E7 hb1 (.map ((es.push ⟨k,.int .i64 0,clock⟩).modify es.size fun e=>{e with val:=.int .i64 (0+1)}) (clock+1));obtain⟨w2,hw2⟩:∃w2:World,w2={w1 with heap:=w1.heap.setIfInBounds b (.map ((es.push ⟨k,.int .i64 0,clock⟩).modify es.size fun e=>{e with val:=.int .i64 (0+1)}) (clock+1))}:=⟨_,rfl⟩
  have hr2:(Instr.entryStore T (.map (some b)) (.int .i64 (clock:Int)) (.int .i64 (0+1))).run P w1=.ok () w2:=by
   exact ZmA4
  have hg2:w1.grownBy w2 (some b):=by rw[hw2];exact rJ w1 b _
  rw[<-hw2]at hb2;have e1:(es.push (⟨k,.int .i64 0,clock⟩:MapEntry)).toList=es.toList++[⟨k,.int .i64 0,clock⟩]:=by simp
  have e2:((es.push (⟨k,.int .i64 0,clock⟩:MapEntry)).modify es.size fun e=>{e with val:=.int .i64 (0+1)}).toList=es.toList++[⟨k,.int .i64 (0+1),clock⟩]:=by
   rw[Array.toList_modify,e1,<-qR,q1v]
  have hk1:∀v,∀x∈es.toList++[(⟨k,v,clock⟩:MapEntry)],∃l,keyOf P K x.key=some l:=fun v x hx=>by
   rcases List.mem_append.1 hx with hx|hx
   ·exact hkl x hx
   rw[List.mem_singleton.1 hx];exact⟨lk,hk⟩
  have hfd:∀(W:World) (v:Value),∃j,(Instr.findKey K k (es.toList++[(⟨k,v,clock⟩:MapEntry)])).run P W=.ok (some (j,v)) W:=fun W v=>by
   rcases Kd.find W hk _ (hk1 v)with⟨-,hno⟩|⟨j,e0,f2,hj,he⟩
   ·exact absurd rfl (hno ⟨k,v,clock⟩ (by simp))
   rcases List.mem_append.1 (jA hj)with hx|hx
   ·exact absurd he (hne e0 hx)
   rw[List.mem_singleton.1 hx]at f2;exact⟨j,f2⟩
  obtain⟨j1,f1'⟩:=hfd w1 (.int .i64 0);obtain⟨j2,f2'⟩:=hfd w2 (.int .i64 (0+1));rw[<-e1]at f1';rw[<-e2]at f2';refine⟨(clock:Int),w1,w2,hr1,hl0,(xG (w:=w1) Kd hT (hz w1) hk hb1).2 _ _ f1',hr2,(xG (w:=w2) Kd hT (hz w2) hk hb2).2 _ _ f2',hg1,aL hg1 hg2,?_⟩;refine⟨_,_,hb2,by rw[e2];simp[hks],by rw[e2];exact hk1 _,?_,?_,?_,?_⟩
  ·rw[e2]
   intro x hx;rcases List.mem_append.1 hx with hx|hx
   ·obtain⟨c,hc,h1,h2⟩:=hvl x hx;exact⟨c,hc,h1,by omega⟩
   rw[List.mem_singleton.1 hx];exact⟨1,rfl,by omega,by omega⟩
  ·rw[e2,qH,List.nodup_append]
   refine⟨hpb,by simp,fun x hx y hy e=>?_⟩;obtain⟨z,hz1,rfl⟩:=List.mem_map.1 hx;simp at hy;have:=hbl z hz1;omega
  ·rw[e2]
   intro x hx;rcases List.mem_append.1 hx with hx|hx
   ·have:=hbl x hx;omega
   rw[List.mem_singleton.1 hx];show clock<clock+1;omega
  rw[List.nodup_append];exact⟨hnd,by simp,fun x hx y hy e=>hn (by simp at hy;rw[<-hy,<-e];exact hx)⟩
 exact absurd he (hne e0 (jA hj))
theorem q8G(Kd:Keyed P K)(hT:P.underlying T=some (.map K E))(hz:∀w,(zeroValue E).run P w=.ok (.int .i64 0) w)(hk:keyOf P K k=some lk)(h:vK P K w b ks n)(hn:k∈ks):∃c:Int,1<=c/\c<=n/\qb7 P K T w b ks n k c ks:=by
 obtain⟨es,clock,hb,hks,hkl,hvl,hpb,hbl,hnd⟩:=h;rcases Kd.find w hk es.toList hkl with⟨-,hne⟩|⟨j,e0,f2,hj,he⟩
 ·rw[<-hks]at hn
  obtain⟨x,hx,e⟩:=List.mem_map.1 hn;exact absurd e (hne x hx)
 have qcx:=jA hj;obtain⟨c,hc,hc1,hc2⟩:=hvl e0 qcx;rw[hc]at f2;have hl0:=(xG (w:=w) Kd hT (hz w) hk hb).2 _ _ f2;have hja:es[j]? =some e0:=by simpa using hj
 have qgs:(es.modify j fun e=>{e with key:=k})=es:=by
  refine Array.ext_getElem? fun i=>?_;rw[Array.getElem?_modify];by_cases hji:j=i
  ·subst hji
   rw[qw rfl,hja,jP,<-he]
  rw[qv hji]
 have hb1:=E7 hb (.map es clock);obtain⟨w1,hw1⟩:∃w1:World,w1={w with heap:=w.heap.setIfInBounds b (.map es clock)}:=⟨_,rfl⟩
 have hr1:(Instr.mapEntry T (.map (some b)) k).run P w=.ok (.tuple #[.int .i64 c,.int .i64 e0.born]) w1:=by
  simp[Instr.mapEntry,run_underlying hT,MapKept.run_getObj_map hb,Kd.check w _ hk,f2,hja,he,Kd.stays w hk,Result.andThen,MapKept.run_setObj_map _ hb,hw1,goInt,qgs]
 have hg1:w.grownBy w1 (some b):=by rw[hw1];exact rJ w b _
 rw[<-hw1]at hb1
 have hlt:j<es.size:=by
  have:=(List.getElem?_eq_some_iff.1 hj).1;simpa using this
 have hfi:es.findIdx? (fun e=>(e.born:Int)==(e0.born:Int))=some j:=by
  rw[Array.findIdx?_eq_some_iff_getElem];have e1:es[j]=e0:=by rw[Array.getElem?_eq_getElem hlt]at hja;injection hja
  refine⟨hlt,by rw[e1];simp,fun i hi=>?_⟩;have hil:i<es.toList.length:=by rw[qR];omega
  have h1:=V3 hpb (i:=i) (j:=j) (by rw[qB];exact hil) (by rw[qB,qR];exact hlt) hi;simp only[jx,Array.getElem_toList,e1]at h1;simp;omega
 have hb2:=E7 hb1 (.map (es.modify j fun e=>{e with val:=.int .i64 (c+1)}) clock);obtain⟨w2,hw2⟩:∃w2:World,w2={w1 with heap:=w1.heap.setIfInBounds b (.map (es.modify j fun e=>{e with val:=.int .i64 (c+1)}) clock)}:=⟨_,rfl⟩
 have hr2:(Instr.entryStore T (.map (some b)) (.int .i64 (e0.born:Int)) (.int .i64 (c+1))).run P w1=.ok () w2:=by
  exact ZmA4
 have hg2:w1.grownBy w2 (some b):=by rw[hw2];exact rJ w1 b _
 rw[<-hw2]at hb2;have e2:(es.modify j fun e=>{e with val:=.int .i64 (c+1)}).toList=es.toList.modify j fun e=>{e with val:=.int .i64 (c+1)}:=Array.toList_modify;have hm1:(es.modify j fun e=>{e with val:=.int .i64 (c+1)}).toList.map (·.key)=ks:=by rw[e2];exact(M8 es.toList j (fun e:MapEntry=>{e with val:=.int .i64 (c+1)}) (fun e:MapEntry=>e.key) (fun _=>rfl)).trans hks
 have qia:∀x∈(es.modify j fun e=>{e with val:=.int .i64 (c+1)}).toList,∃l,keyOf P K x.key=some l:=fun x hx=>by
  rw[e2]at hx;rcases xH hx with hx|⟨a,ha,rfl⟩
  ·exact hkl x hx
  exact hkl a ha
 have qjU:(es.toList.map (·.key)).Nodup:=by rw[hks];exact hnd
 have f1:=q1w Kd hk hkl qjU hj he w1;rw[hc]at f1
 have hj2:((es.modify j fun e=>{e with val:=.int .i64 (c+1)}).toList)[j]? =some {e0 with val:=.int .i64 (c+1)}:=by
  rw[e2,List.getElem?_modify,hj];simp
 have f3:=q1w Kd hk qia (by rw[hm1];exact hnd) hj2 he w2;refine⟨c,hc1,hc2,⟨_,w1,w2,hr1,hl0,(xG (w:=w1) Kd hT (hz w1) hk hb1).2 _ _ f1,hr2,(xG (w:=w2) Kd hT (hz w2) hk hb2).2 _ _ f3,hg1,aL hg1 hg2,?_⟩⟩;refine⟨_,_,hb2,hm1,qia,fun x hx=>?_,?_,fun x hx=>?_,hnd⟩
 ·rw[e2]at hx
  rcases xH hx with hx|⟨a,ha,rfl⟩
  ·obtain⟨c',h1,h2,h3⟩:=hvl x hx;exact⟨c',h1,h2,by omega⟩
  exact⟨c+1,rfl,by omega,by omega⟩
 ·rw[e2]
  rw[show(es.toList.modify j fun e:MapEntry=>{e with val:=.int .i64 (c+1)}).map (·.born)=es.toList.map (·.born)from M8 es.toList j (fun e:MapEntry=>{e with val:=.int .i64 (c+1)}) (fun e:MapEntry=>e.born) (fun _=>rfl)];exact hpb
 rw[e2]at hx;rcases xH hx with hx|⟨a,ha,rfl⟩
 ·exact hbl x hx
 exact hbl a ha
end
end Go.Cm
namespace Go.Cm
open Go.RowKit Go.Proofs Go.Maps
def xI{α:Type} [DecidableEq α](lit:α->Lit)(D:DataW Unit)(ks:List α):Prop:=
 Tidy D/\Maps.size D=ks.length/\(∀k,Maps.has D (lit k)=decide (k∈ks))/\∀k∈ks,D.atKey (lit k) (.lit (.int .i64 0))=.lit (.int .i64 (idx ks k:Nat))
structure q7H{α:Type}(lit:α->Lit):Prop where
 inj:∀a b,lit a=lit b->a=b
 key:∀a,WideAt.IsKeyLit (lit a)
theorem q0q:q7H (fun s:List UInt8=>Lit.string s):=⟨fun a b h=>by injection h,fun _=>trivial⟩
theorem qaH:q7H (fun n:Int=>Lit.int .i64 n):=⟨fun a b h=>by injection h,fun _=>trivial⟩
theorem qa3(n:Nat)(h:n<=4294967296):(Lit.int .i64 (n:Int)).wf=true:=by
 have h1:IntKind.i64.min= -9223372036854775808:=rfl;have h2:IntKind.i64.max=9223372036854775807:=rfl;simp[Lit.wf,h1,h2];omega
section
variable {α : Type} [DecidableEq α] {lit : α → Lit} {D : DataW Unit} {ks : List α}
theorem xI.nil(lit:α->Lit):xI lit (.map []) ([]:List α):=⟨tidy_empty,rfl,fun k=>by simp[has_eq],fun k hk=>by cases hk⟩
theorem xI.snoc(h:xI lit D ks)(hl:q7H lit){k:α}(hk:k∉ks):xI lit (D.put (lit k) (.lit (.int .i64 (ks.length:Nat)))) (ks++[k]):=by
 obtain⟨h1,h2,h3,h4⟩:=h;refine⟨h1.put (hl.key k) _,?_,fun j=>?_,fun j hj=>?_⟩
 ·rw[size_put h1,h3 k];simp[hk,h2]
 ·by_cases hjk:j=k
  ·subst hjk;rw[has_put_same h1.isMap (hl.key j)];simp
  rw[has_put_other (fun e=>hjk (hl.inj _ _ e)),h3 j];simp[hjk]
 by_cases hjk:j=k
 ·subst hjk;rw[atKey_put_same h1.isMap (hl.key j),cV hk]
 have hj':j∈ks:=by
  rcases List.mem_append.1 hj with h|h
  ·exact h
  simp at h;exact absurd h hjk
 rw[atKey_put_other (fun e=>hjk (hl.inj _ _ e)),h4 j hj',cD hj']
theorem xI.at_eq(h:xI lit D ks){k:α}(hk:k∈ks){c:Int}(hc:D.atKey (lit k) (.lit (.int .i64 0))=.lit (.int .i64 c)):c=(idx ks k:Nat):=by
 have h1:=h.2.2.2 k hk;rw[hc]at h1;injection h1 with h2;injection h2
end
def eS{α:Type} [DecidableEq α](P:Program)(K E:TypeId)(lit:α->Lit)(w:World)(b:Nat)(ks:List α):Prop:=
 ∃D:DataW Unit,w.ownsMap P K (plainElem P E) b ks.length D/\xI lit D ks
section
variable {α : Type} [DecidableEq α] {P : Program} {K E : TypeId} {lit : α → Lit} {w w' : World} {b : Nat} {ks : List α}
theorem eS.made(w:World)(lit:α->Lit):eS P K E lit (w.alloc (.map #[] 0)) w.heap.size ([]:List α):=⟨_,World.ownsMap_made _ _ _ _,xI.nil lit⟩
theorem eS.keep(h:eS P K E lit w b ks){row:Option Nat}(hg:w.grownBy w' row)(hne:some b≠row):eS P K E lit w' b ks:=by
 obtain⟨D,h1,h2⟩:=h;exact⟨D,h1.kept hg hne,h2⟩
theorem eS.up(h:eS P K E lit w b ks)(hb:Below w.heap.size w w'):eS P K E lit w' b ks:=h.keep (row:=none) (aK hb none) (by simp)
theorem eS.lt(h:eS P K E lit w b ks):b<w.heap.size:=by obtain⟨D,h1,-⟩:=h;exact h1.lt
end
end Go.Cm
namespace Go.Cm
open Go.RowKit Go.Proofs Go.WideShapes Go.ChangeShapes Go.Deep
section
variable {H : Type} {enc : TypeId × Value → H} {P : Program}
theorem V4{f:Func}{s:ChangeSpec}{apart fresh qee again:Bool}{W W':World}{args:Array Value}{v:Value}{ds gs:List (DataW H)}{before pa pv:List MemPlace}
  (hW:DataW.Whole enc P f.params.toList s.vars apart W args.toList ds gs before)
  (hres:∀(b:Nat) (sp:Nat->Bool) (hd:Bool),DataW.TrodAll enc P W' b sp hd f.resultTypes.toList (v.resultList f.resultTypes.size) (s.fn H (ds++gs)).results [])
  (qfq:∀sp:Nat->Bool,(∀p∈before,sp p.block=true)->DataW.TrodAll enc P W' 0 sp true f.params.toList args.toList (s.fn H (ds++gs)).args pa)
  (qeN:∀sp:Nat->Bool,(∀p∈before,sp p.block=true)->DataW.TrodVars enc P W' sp s.vars (s.fn H (ds++gs)).vars pv)
  (hps:before=pa++pv) (hb:Below W.heap.size W W')
  (hok:∀(j:Nat) (t:TypeId) (r:Value),f.resultTypes[j]? =some t->(v.resultList f.resultTypes.size)[j]? =some r->Value.okWide P W' .any 0 t r):
  s.post enc P f apart fresh qee again W args v W':=by
 have hlt:∀p∈before,p.block<W.heap.size:=fun p hp=>hW.lt p hp;have hold:∀p∈before,(fun b=>decide (b<W.heap.size)) p.block=true:=fun p hp=>by simpa using hlt p hp
 refine⟨ds,gs,before,[],pa,pv,hW,hres _ _ _,qfq _ hold,qeN _ hold,World.keptBut_mono (fun p hp=>⟨hp,?_⟩) (hb.frame (· ∈before)),fun _=>?_⟩
 ·rw[hps,List.mem_append]at hp
  exact Or.inr hp
 obtain⟨_,_,_,_,_,hz,hn⟩:=hW;refine⟨hok,_,_,([]++pa)++pv,⟨[]++pa,pv,trodAll_append (qfq _ (fun _ _=>rfl)) (hres _ _ _),qeN _ (fun _ _=>rfl),rfl,?_,?_⟩,?_⟩
 ·intro b off hp
  have hin:MemPlace.cell b off∈before:=by rw[hps];simpa using hp
  rw[hb.frozen (hlt _ hin)];exact hz b off hin
 ·intro ha
  have:=hn ha;rw[hps]at this;simpa using this
 intro p hp _;rw[hps];simpa using hp
end
section
variable {H : Type} {enc : TypeId × Value → H} {P : Program} {w : World} {base : Nat} {held : Bool}
theorem vM{t e:TypeId}{elems spare:List (DataW H)}(hu:P.underlying t=some (.slice e)):(DataW.slice elems spare).weights P t=(elems.length+spare.length)*P.bytesOf e::(DataW.weightsAll P e elems++DataW.weightsAll P e spare):=by
 simp[DataW.weights,hu]
theorem nT{e:TypeId}{d:DataW H}:∀{l:List (DataW H)},d∈l->∀n∈d.weights P e,n∈DataW.weightsAll P e l
 |a::l,h,n,hn=>by
  simp only[DataW.weightsAll,List.mem_append];rcases List.mem_cons.1 h with rfl|h
  ·exact .inl hn
  exact .inr (nT h n hn)
theorem V5(b off j:Nat):(⟨b,off,none⟩:Addr).add j=⟨b,off+j,none⟩:=by unfold Addr.add;split<;>simp_all
theorem q2E:reachBytes=140737488351232:=rfl
theorem q9v{t e:TypeId}{fuel:Nat}{cs:List Value}{x:DataW H×List MemPlace}(ht:P.underlying t=some (.slice e))(hc:P.cellsOf e=1)(hb:1<=P.bytesOf e)(h:DataW.trod enc P w base (fun _=>true) held fuel t cs=some x)(hw:∀n∈x.1.weights P t,n<=reachBytes):
  ∃(oa:Option Addr) (len cap b off:Nat) (V:Nat->Value) (D:Nat->DataW H),cs=[.slice oa len cap]/\Hd w oa len cap b off/\∀i,i<len->w.cell? ⟨b,off+i,none⟩=some (V i)/\(∃n p,DataW.trod enc P w base (fun _=>true) held n e [V i]=some (D i,p))/\∀n∈(D i).weights P e,n<=reachBytes:=by
 rcases open_slice1 ht hc h with⟨rfl,-⟩|⟨a,len,cap,m,n,V,D,Pl,rfl,-,hl,hm,hmm,rfl,hx⟩
 ·exact⟨none,0,0,0,0,fun _=>undef,fun _=>.nil,rfl,⟨fun h=>absurd h (jK 0),qb _,by simp[maxLen],by simp,fun h=>absurd h (jK 0)⟩,fun i hi=>absurd hi (qC i)⟩
 simp only[jJ]at hmm;subst hmm;have hwt:=vM (P:=P) (elems:=(List.range len).map D) (spare:=(List.range (m-len)).map fun j=>D (len+j)) ht;simp only at hw;rw[hwt]at hw;have h1:=hw _ (jh ..);simp only[qB,List.length_range]at h1;have h2:m*1<=(len+(m-len))*P.bytesOf e:=Nat.mul_le_mul (by omega) hb;rw[q2E]at h1;obtain⟨ab,ao,asp⟩:=a
 have hsp:0<len->asp=none:=fun h0=>by
  have h3:=(hx 0 (by omega)).1;simpa[Addr.add]using World.cell?_spot h3
 refine⟨some ⟨ab,ao,asp⟩,len,m,ab,ao,V,D,rfl,⟨fun h0=>by rw[hsp h0],hl,hm,by omega,fun h0=>?_⟩,fun i hi=>⟨?_,⟨n,Pl i,(hx i (by omega)).2⟩,fun k hk=>hw k (qY _ (j5 _ (nT (List.mem_map.2 ⟨i,List.mem_range.2 hi,rfl⟩) k hk)))⟩⟩
 ·have h3:=(hx 0 (by omega)).1
  have:=World.block_lt_of_cell? _ _ h3;simpa[Addr.add]using this
 have h3:=(hx i (by omega)).1;have h4:=hsp (by omega);subst h4;rwa [V5]at h3
end
end Go.Cm
namespace Go.Cm
open Go.RowKit Go.Proofs
structure q1z(w:World)(A:Array Value)(d:Dfa):Prop where
 hsize:A.size=258
 hlen:d.cls.length=256
 hcls:∀i,i<256->A[i]? =some (.int .i64 (d.cls.getD i 0))
 hnext:∃v,A[256]? =some v/\o8 w v d.next
 hrules:∃v,A[257]? =some v/\eB w v d.rules
def mX(w:World)(v:Value)(d:Dfa):Prop:=∃A,v=.agg A/\q1z w A d
theorem q1z.up{w w':World}{A:Array Value}{d:Dfa}(h:q1z w A d)(hb:Below w.heap.size w w'):q1z w' A d:=
 ⟨h.hsize,h.hlen,h.hcls,h.hnext.imp fun _ h=>⟨h.1,h.2.up hb⟩,h.hrules.imp fun _ h=>⟨h.1,h.2.up hb⟩⟩
theorem mX.up{w w':World}{v:Value}{d:Dfa}(h:mX w v d)(hb:Below w.heap.size w w'):mX w' v d:=by
 obtain⟨A,rfl,h⟩:=h;exact⟨A,rfl,h.up hb⟩
theorem dI{ops:Array Oper}{rest:List Oper}{o:Oper}{a:Act}{w:World}{Q:Exit->Act->World->Prop}(hgd:o.guard=none)(x:Operand)(ho:o.op=.load 29 x)
  (g:Nat) (hx:a.eval x=.pointer (some ⟨g,0,none⟩)) (A:Array Value) (hs:A.size=258) (hg:w.heap[g]? =some (.cells A 29 (0,0)))
  (h:wpList prog ops Q rest (a.put o.dst (.agg A)) w):wpList prog ops Q (o::rest) a w:=
 kI hgd 29 x ho g 0 258 hx 29 A A (0,0) _ hg underlying29 rfl (by kernel_rfl) (by rw[hs];decide) (by rw[<-hs];simp) h
theorem lN{ops:Array Oper}{rest:List Oper}{o:Oper}{a:Act}{w:World}{Q:Exit->Act->World->Prop}(hgd:o.guard=none)(x:Operand)(ho:o.op=.load 25 x)
  (g:Nat) (hx:a.eval x=.pointer (some ⟨g,0,none⟩)) (A B:Array Value) (hs:A.size=258) (hB:A.extract 0 256=B) (hg:w.heap[g]? =some (.cells A 29 (0,0)))
  (h:wpList prog ops Q rest (a.put o.dst (.agg B)) w):wpList prog ops Q (o::rest) a w:=
 kI hgd 25 x ho g 0 256 hx 29 A B (0,0) _ hg underlying25 rfl (by kernel_rfl) (by rw[hs];decide) (by simpa using hB) h
theorem vQ{B:Array Value}{i:Nat}{y:Int}(hi:i<256)(h:B[i]? =some (.int .i64 y))(W:World):(Instr.index 25 (.agg B) (.int .i64 (i:Int))).run prog W=.ok (.int .i64 y) W:=by
 have h1:(sizeOf 3).run prog W=.ok 1 W:=by kernel_rfl
 have h2:(isAgg 3).run prog W=.ok false W:=by kernel_rfl
 have h3:(0:Int)<=i/\(i:Int)<256:=by omega
 simp[Instr.index,asIntOf,run_underlying underlying25,h3,part,h1,h2,Result.andThen,h,show¬256<=i from by omega]
theorem cT{a b:Bool}(h:a=b):Ending.returned (.bool a)=.returned (.bool b):=by rw[h]
theorem tQ{a b:Int}(h:a=b):Ending.returned (.int .i64 a)=.returned (.int .i64 b):=by rw[h]
theorem q9z(v:Value)(d:Dfa)(w:World)(h:mX w v d):Calls prog 66 #[v] w fun e w'=>e=.returned (.int .i64 (iS d.cls))/\∃x,w'=ext w x:=by
 obtain⟨A,rfl,hs,hl,hc,-,-⟩:=h;obtain⟨B,hB⟩:∃B,A.extract 0 256=B:=⟨_,rfl⟩
 have hBc:∀i,i<256->B[i]? =some (.int .i64 (d.cls.getD i 0)):=fun i hi=>by
  rw[<-hB,Array.getElem?_extract,qw (by omega)];simpa using hc i hi
 have HS:=qa hs;clear hs hc;have HB:=qa hB;clear hB;have HG:=qa (heap_alloc_new w (.cells A 29));have HC:=qa hBc;clear hBc;have HL:=qa hl;clear hl;go_enter func66,ntmps66
 go_wp2_with(refine lN rfl _ rfl w.heap.size rfl A B HS.o HB.o HG.o ?_)
 go_loop [3,8] (fun n i=>∃k m:Nat,k<=256/\m<=k/\i=.int .i64 k/\n=.int .i64 m/\bB 0 d.cls=bB m (d.cls.drop k)) (fun _ i=>256-(intOf i).toNat)
 case atStart=>exact⟨0,0,qd _,qb _,rfl,rfl,rfl⟩
 case round=>
  obtain⟨k,m,hk,hmk,rfl,rfl,heq⟩:=hrel;have HE:=qa heq;clear heq;by_cases hlt:k<256
  ·have HD:=qa (pS m d.cls k (by rw[HL.o];exact hlt))
   have hix:=fun W=>vQ hlt (HC.o k hlt) W;generalize d.cls.getD k 0=y at*;by_cases h1:y<0
   ·go_wp2
    go_ret;have h2:=HD.o;rw[qw (Or.inl h1)]at h2;exact⟨tQ (by simp[iS,HE.o,h2]),(aJ aO)⟩
   by_cases h2:(m:Int)<y
   ·go_wp2
    go_ret;have h3:=HD.o;rw[qw (Or.inr h2)]at h3;exact⟨tQ (by simp[iS,HE.o,h3]),(aJ aO)⟩
   by_cases h3:y=m
   ·have h4:(y==(m:Int))=true:=by simpa using h3
    have H3:=qa h3;clear h3;go_wp2
    go_round
    case rel=>
     refine⟨k+1,m+1,by omega,by omega,by go_num,by go_num,?_⟩;have h5:=HD.o;rw[qv (by omega),qw H3.o]at h5;rw[HE.o,h5]
    case measure=>simp[intOf];omega
   have h4:(y==(m:Int))=false:=by simpa using h3
   go_wp2
   go_round
   case rel=>
    refine⟨k+1,m,by omega,by omega,by go_num,rfl,?_⟩;have h5:=HD.o;rw[qv (by omega),qv h3]at h5;rw[HE.o,h5]
   case measure=>simp[intOf];omega
  go_wp2;go_ret;have h5:=HE.o;rw[jp (by have:=HL.o;omega)]at h5;exact⟨tQ (by simp[iS,h5,bB]),(aJ aO)⟩
end Go.Cm
namespace Go.Cm
def q9K(v:Nat):Nat->Nat
 |0=>0
 |n+1=>2*q9K v n+(v.testBit n).toNat
end Go.Cm
namespace Go.Cm
open Go.RowKit Go.Proofs
def Fr(g:Nat)(vb vb':Value)(w w':World):Prop:=(∀k,k<w.heap.size->k≠g->vb.ownBlock≠some k->w'.heap[k]? =w.heap[k]?)/\(∀k,vb'.ownBlock=some k->vb.ownBlock=some k\/w.heap.size<=k)/\w.heap.size<=w'.heap.size
theorem Fr.refl(g:Nat)(vb:Value)(w:World):Fr g vb vb w w:=⟨fun _ _ _ _=>rfl,fun _ h=>.inl h,qb _⟩
theorem Fr.step{g:Nat}{vb vb':Value}{w w1 w2:World}{row:Option Nat}(h:Fr g vb vb' w w1)(hg:w1.grownBy w2 row)(hr:∀k,row=some k->k=g\/vb'.ownBlock=some k):Fr g vb vb' w w2:=by
 refine⟨fun k hk h1 h2=>?_,h.2.1,qc h.2.2 hg.size⟩;rw[hg.block k (qe hk h.2.2) ?_,h.1 k hk h1 h2];intro e;rcases hr k e.symm with q|q
 ·exact h1 q
 rcases h.2.1 k q with z|z
 ·exact h2 z
 omega
theorem Fr.below{g:Nat}{vb vb':Value}{w w1 w2:World}(h:Fr g vb vb' w w1)(hb:Below w1.heap.size w1 w2):Fr g vb vb' w w2:=h.step (row:=none) (aK hb none) (fun k e=>by cases e)
theorem Fr.val{g:Nat}{vb vb' vc:Value}{w w1:World}{n:Nat}(h:Fr g vb vb' w w1)(hk:∀k,vc.ownBlock=some k->vb'.ownBlock=some k\/n<=k)(hn:w.heap.size<=n):Fr g vb vc w w1:=by
 refine⟨h.1,fun k hk'=>?_,h.2.2⟩;rcases hk k hk' with q|q
 ·exact h.2.1 k q
 exact .inr (by omega)
theorem Fr.trans{g:Nat}{vb vb' vc:Value}{w w1 w2:World}(h:Fr g vb vb' w w1)(k:Fr g vb' vc w1 w2):Fr g vb vc w w2:=by
 refine⟨fun q hq h1 h2=>?_,fun q hq=>?_,qc h.2.2 k.2.2⟩
 ·rw[k.1 q (qe hq h.2.2) h1 ?_,h.1 q hq h1 h2]
  intro e;rcases h.2.1 q e with z|z
  ·exact h2 z
  omega
 rcases k.2.1 q hq with z|z
 ·exact h.2.1 q z
 exact .inr (qc h.2.2 z)
end Go.Cm
namespace Go.Cm
def q8L(L:List Nat):Nat->Nat
 |0=>0
 |n+1=>if n=0 then 0 else 2*(q8L L n+L.count n)
def qbC(L:List Nat)(i:Nat):Nat:=(L.take i).count (L.getD i 0)
def qaS(L:List Nat)(i:Nat):Nat:=if L.getD i 0=0 then 0 else q8L L (L.getD i 0)+qbC L i
end Go.Cm
namespace Go.Cm
open Go.RowKit Go.Extern.Stop Go.Stop Go.Extern Go.Proofs
theorem rls(v x:Value):ReflectliteValue.set #[v,x]=(do
  let (some (dst,a,fl),some (src,b,_)):=(<-ReflectliteValue.parts v,<-ReflectliteValue.parts x)
   |unsupported (.noEntry "extern/(internal/reflectlite.Value).Set.zeroValue")
  if fl/ReflectliteValue.flagAddr%2==0 then unsupported (.noEntry "extern/(internal/reflectlite.Value).Set.unaddressable")
  let val<-loadVar src b
  if<-Rtype.directlyAssignable dst src then storeVar dst a val
  else if<-Rtype.implements dst src then
   if(<-Rtype.kind src)==20 then
    match val with
    |.nilIface=>unsupported (.noEntry "extern/reflectlite: a nil value of one interface type handed on as a value of another")
    |_=>storeVar dst a val
   else storeVar dst a (.iface src val)
  else panicString ("reflectlite.Set: value of type " ++(<-Rtype.spelt src)++ " is not assignable to type " ++(<-Rtype.spelt dst))
  pure (.tuple #[])):=rfl
end Go.Cm
namespace Go.Cm
def aM(d:Dfa)(i c:Nat):Nat:=(rowN_MiniM d i).getD c 0
def q42(d:Dfa)(i:Nat)(cs:List Nat):Nat:=cs.foldl (aM d) i
def kN_MiniE(d:Dfa):Nat:=(d.next.getD 0 []).length
def gZ(d:Dfa)(i:Nat):Int:=d.rules.getD i 0
def Eqv(d:Dfa)(i j:Nat):Prop:=∀cs:List Nat,(∀c∈cs,c<kN_MiniE d)->gZ d (q42 d i cs)=gZ d (q42 d j cs)
theorem Eqv.refl(d:Dfa)(i:Nat):Eqv d i i:=fun _ _=>rfl
theorem Eqv.symm{d:Dfa}{i j:Nat}(h:Eqv d i j):Eqv d j i:=fun cs hc=>(h cs hc).symm
theorem Eqv.trans{d:Dfa}{i j k:Nat}(h:Eqv d i j)(g:Eqv d j k):Eqv d i k:=fun cs hc=>(h cs hc).trans (g cs hc)
theorem Eqv.rules{d:Dfa}{i j:Nat}(h:Eqv d i j):gZ d i=gZ d j:=h [] (fun _ h=>by cases h)
theorem Eqv.step{d:Dfa}{i j:Nat}(h:Eqv d i j){c:Nat}(hc:c<kN_MiniE d):Eqv d (aM d i c) (aM d j c):=fun cs hcs=>
 h (c::cs) (fun x hx=>by
  rcases List.mem_cons.1 hx with rfl|h1
  ·exact hc
  exact hcs x h1)
theorem kV{d:Dfa}(h:bD d){i:Nat}(hi:i<d.next.length){c:Nat}(hc:c<kN_MiniE d):aM d i c<d.next.length:=by
 obtain⟨h1,h2,h3,k,hk,hr⟩:=h;have h0:=(hr 0 (by omega)).2.2.1;obtain⟨-,-,hl,hj⟩:=hr i hi;have hc':c<(d.next.getD i []).length:=by unfold kN_MiniE at hc;omega
 have:=hj c hc'
 have e:aM d i c=((d.next.getD i []).getD c 0).toNat:=by
  unfold aM rowN_MiniM;simp only[qu,qU]at hc'⊢;rw[qy hc'];rfl
 rw[e];omega
theorem fT{d:Dfa}(h:bD d){i:Nat}(hi:i<d.next.length):(d.next.getD i []).length=kN_MiniE d:=by
 obtain⟨h1,h2,h3,k,hk,hr⟩:=h;have h0:=(hr 0 (by omega)).2.2.1;have h4:=(hr i hi).2.2.1;unfold kN_MiniE;omega
theorem Eqv.of_bisim{d:Dfa}(hv:bD d)(R:Nat->Nat->Prop)(h:∀i j,i<d.next.length->j<d.next.length->R i j->gZ d i=gZ d j/\∀c,c<kN_MiniE d->R (aM d i c) (aM d j c)){i j:Nat}(hi:i<d.next.length)(hj:j<d.next.length)(hr:R i j):Eqv d i j:=by
 intro cs
 induction cs generalizing i j with
 |nil=>intro _;exact(h i j hi hj hr).1
 |cons c cs ih=>
  intro hcs;have hc:=hcs c (by simp);exact ih (kV hv hi hc) (kV hv hj hc) ((h i j hi hj hr).2 c hc) (fun x hx=>hcs x (by simp[hx]))
def mrk(M:List (List Bool))(i j:Nat):Bool:=(M.getD i []).getD j false
def q86(M:List (List Bool))(i j:Nat):List (List Bool):=M.set i ((M.getD i []).set j true)
structure Tab(n:Nat)(M:List (List Bool)):Prop where
 len:M.length=n
 row:∀i,i<n->(M.getD i []).length=n
theorem rO{α:Type}(l:List α)(i j:Nat)(x d:α):(l.set i x).getD j d=if i=j/\i<l.length then x else l.getD j d:=by
 simp only[qu,jQ];by_cases h:i=j
 ·subst h
  by_cases h2:i<l.length
  ·simp[h2]
  simp[h2]
 simp[h]
theorem Tab.set{n:Nat}{M:List (List Bool)}(h:Tab n M){i j:Nat}(hi:i<n):Tab n (q86 M i j):=by
 refine⟨by simp[q86,h.len],fun a ha=>?_⟩;unfold q86;rw[rO];split
 ·rw[jb];exact h.row i hi
 exact h.row a ha
theorem q2W{n:Nat}{M:List (List Bool)}(h:Tab n M){i j a b:Nat}(hi:i<n)(hj:j<n):mrk (q86 M i j) a b=if i=a/\j=b then true else mrk M a b:=by
 unfold mrk q86;rw[rO];by_cases ha:i=a
 ·subst ha
  rw[qw ⟨rfl,by rw[h.len];exact hi⟩,rO];by_cases hb:j=b
  ·subst hb;rw[qw ⟨rfl,by rw[h.row i hi];exact hj⟩,qw ⟨rfl,rfl⟩]
  rw[qv (fun q=>hb q.1),qv (fun q=>hb q.2)]
 rw[qv (fun q=>ha q.1),qv (fun q=>ha q.1)]
def qb2(M:List (List Bool)):Nat:=(M.map fun r=>r.count false).sum
structure q3L(d:Dfa)(M:List (List Bool)):Prop where
 tab:Tab d.next.length M
 sound:∀i j,i<d.next.length->j<d.next.length->mrk M i j=true->¬Eqv d i j
 base:∀i j,i<d.next.length->j<d.next.length->gZ d i≠gZ d j->mrk M i j=true
def W3(d:Dfa)(M:List (List Bool))(i j c:Nat):Prop:=mrk M (aM d i c) (aM d j c)=true->mrk M i j=true
theorem q3L.set{d:Dfa}{M:List (List Bool)}(h:q3L d M){i j c:Nat}(hi:i<d.next.length)(hj:j<d.next.length)(hc:c<kN_MiniE d)(hv:bD d)(hm:mrk M (aM d i c) (aM d j c)=true):q3L d (q86 M i j):=by
 have hne:¬Eqv d i j:=fun e=>h.sound _ _ (kV hv hi hc) (kV hv hj hc) hm (e.step hc);refine⟨h.tab.set hi,fun a b ha hb hab=>?_,fun a b ha hb hab=>?_⟩
 ·rw[q2W h.tab hi hj]at hab
  split at hab
  ·rename_i q;obtain⟨rfl,rfl⟩:=q;exact hne
  exact h.sound a b ha hb hab
 rw[q2W h.tab hi hj];split
 ·rfl
 exact h.base a b ha hb hab
def q9V(d:Dfa)(M:List (List Bool)):Prop:=Tab d.next.length M/\∀i j,i<d.next.length->j<d.next.length->(mrk M i j=false↔Eqv d i j)
theorem q3L.done{d:Dfa}{M:List (List Bool)}(hv:bD d)(h:q3L d M)(hc:∀i j c,i<d.next.length->j<d.next.length->c<kN_MiniE d->W3 d M i j c):q9V d M:=by
 refine⟨h.tab,fun i j hi hj=>⟨fun hm=>?_,fun he=>?_⟩⟩
 ·refine Eqv.of_bisim hv (fun a b=>a<d.next.length/\b<d.next.length/\mrk M a b=false) (fun a b ha hb hab=>⟨?_,fun c hcc=>⟨kV hv ha hcc,kV hv hb hcc,?_⟩⟩) hi hj ⟨hi,hj,hm⟩
  ·rcases Classical.em (gZ d a=gZ d b)with e|e
   ·exact e
   have:=h.base a b ha hb e;rw[hab.2.2]at this;cases this
  cases hq:mrk M (aM d a c) (aM d b c)with
  |false=>rfl
  |true=>have:=hc a b c ha hb hcc hq;rw[hab.2.2]at this;cases this
 cases hq:mrk M i j with
 |false=>rfl
 |true=>exact absurd he (h.sound i j hi hj hq)
section
open Classical
noncomputable def fX(d:Dfa)(k:Nat):List Nat:=(List.range k).filter fun i=>decide (∀j,j<i->¬Eqv d i j)
theorem rP{d:Dfa}{k:Nat}(h:∀j,j<k->¬Eqv d k j):fX d (k+1)=fX d k++[k]:=by
 unfold fX;rw[jz,List.filter_append,jU,qw (by simpa using h)];simp
theorem t6{d:Dfa}{k:Nat}(h:¬∀j,j<k->¬Eqv d k j):fX d (k+1)=fX d k:=by
 unfold fX;rw[jz,List.filter_append,jU,qv (by simpa using h)];simp
theorem q3M(d:Dfa)(k:Nat):(fX d k).length<=k:=by
 unfold fX;have:=a6 (fun i=>decide (∀j,j<i->¬Eqv d i j)) (List.range k);simpa using this
end
end Go.Cm
namespace Go.Cm
def O3(n:Int):UInt8:=UInt8.ofNat (n%256).toNat
def o6(n:Int):List UInt8:=[O3 n,O3 (n/256)]
def m9(d:Dfa)(part:List Int)(state:Nat):List UInt8:=
 o6 (part.getD state 0)++(d.next.getD state []).flatMap fun tgt=>o6 (part.getD tgt.toNat 0)
def qa6(l:List UInt8):Int:=(l.getD 0 0).toNat+256*(l.getD 1 0).toNat
theorem y8(n:Int):((O3 n).toNat:Int)=n%256:=by
 have h2:(n%256).toNat<256:=by omega
 simp[O3];omega
theorem rQ(n:Int)(h0:0<=n)(h1:n<65536)(r:List UInt8):qa6 (o6 n++r)=n:=by
 simp only[qa6,o6,jm,List.nil_append,ja,List.getD_cons_succ];have a:=y8 n;have b:=y8 (n/256);rw[a,b];omega
theorem q87{a b:Int}(ha:0<=a/\a<65536)(hb:0<=b/\b<65536)(h:o6 a=o6 b):a=b:=by
 have h1:=rQ a ha.1 ha.2 [];have h2:=rQ b hb.1 hb.2 [];rw[h]at h1;omega
theorem rR{a b:Int}{r s:List UInt8}(ha:0<=a/\a<65536)(hb:0<=b/\b<65536)(h:o6 a++r=o6 b++s):a=b/\r=s:=by
 have h1:o6 a=o6 b/\r=s:=List.append_inj h (by simp[o6]);exact⟨q87 ha hb h1.1,h1.2⟩
theorem J4{l m:List Nat}{f:Nat->Int}(hl:l.length=m.length)(hf:∀x,(x∈l\/x∈m)->0<=f x/\f x<65536)(h:l.flatMap (fun x=>o6 (f x))=m.flatMap (fun x=>o6 (f x))):l.map f=m.map f:=by
 induction l generalizing m with
 |nil=>cases m with
  |nil=>rfl
  |cons b m=>simp at hl
 |cons a l ih=>
  cases m with
  |nil=>simp at hl
  |cons b m=>
   simp only[List.flatMap_cons]at h;obtain⟨h1,h2⟩:=rR (hf a (by simp)) (hf b (by simp)) h;simp only[qJ,h1,ih (by simpa using hl) (fun x hx=>hf x (by simp only[jM];rcases hx with hx|hx<;>simp[hx])) h2]
structure X8(d:Dfa)(part:List Int):Prop where
 len:part.length=d.next.length
 range:∀i,i<d.next.length->0<=part.getD i 0/\part.getD i 0<65536
 alike:∀i j,i<d.next.length->j<d.next.length->Eqv d i j->part.getD i 0=part.getD j 0
 rule:∀i j,i<d.next.length->j<d.next.length->part.getD i 0=part.getD j 0->gZ d i=gZ d j
def pM(d:Dfa)(part:List Int):List (List UInt8):=(List.range d.next.length).map (m9 d part)
def iD(d:Dfa)(part:List Int):List Int:=(pM d part).map fun s=>(idx (eH (pM d part)) s:Nat)
theorem lK(d:Dfa)(part:List Int)(i:Nat):m9 d part i=o6 (part.getD i 0)++(rowN_MiniM d i).flatMap fun tgt=>o6 (part.getD tgt 0):=by
 simp[m9,rowN_MiniM,List.flatMap_map]
theorem vX{d:Dfa}(hv:bD d){i:Nat}(hi:i<d.next.length){x:Nat}(hx:x∈rowN_MiniM d i):x<d.next.length:=by
 obtain⟨_,_,_,k,hk,hr⟩:=hv;obtain⟨-,-,-,hj⟩:=hr i hi;simp only[rowN_MiniM,jB]at hx;obtain⟨y,hy,rfl⟩:=hx;obtain⟨j,hjl,rfl⟩:=List.mem_iff_getElem.1 hy;have:=hj j hjl;rw[qu (l:=d.next.getD i []),qy hjl,qN]at this;omega
theorem bW{d:Dfa}(hv:bD d){i:Nat}(hi:i<d.next.length):(rowN_MiniM d i).length=kN_MiniE d:=by
 rw[<-fT hv hi];simp[rowN_MiniM]
theorem W4{d:Dfa}(hv:bD d){part:List Int}(h:X8 d part){i j:Nat}(hi:i<d.next.length)(hj:j<d.next.length)(he:m9 d part i=m9 d part j):
  part.getD i 0=part.getD j 0/\∀c,c<kN_MiniE d->part.getD (aM d i c) 0=part.getD (aM d j c) 0:=by
 rw[lK,lK]at he;obtain⟨h1,h2⟩:=rR (h.range i hi) (h.range j hj) he;refine⟨h1,fun c hc=>?_⟩;have h3:=J4 (f:=fun x=>part.getD x 0) (by rw[bW hv hi,bW hv hj]) (fun x hx=>h.range x (hx.elim (vX hv hi) (vX hv hj))) h2;have h4:=j0 (fun l=>l.getD c 0) h3;have hci:c<(rowN_MiniM d i).length:=by rw[bW hv hi];exact hc
 have hcj:c<(rowN_MiniM d j).length:=by rw[bW hv hj];exact hc
 simp only[qu,qU,qy hci,qy hcj,jP,qN]at h4;simp only[aM,qu,qy hci,qy hcj,qN];exact h4
theorem q6x{d:Dfa}(hv:bD d){part:List Int}{i j:Nat}(hi:i<d.next.length)(hj:j<d.next.length)(h1:part.getD i 0=part.getD j 0)(h2:∀c,c<kN_MiniE d->part.getD (aM d i c) 0=part.getD (aM d j c) 0):m9 d part i=m9 d part j:=by
 rw[lK,lK,h1]
 congr 1
 have h3:(rowN_MiniM d i).map (fun x=>part.getD x 0)=(rowN_MiniM d j).map (fun x=>part.getD x 0):=by
  apply jV
  ·simp[bW hv hi,bW hv hj]
  intro c hc1 hc2;have hci:c<(rowN_MiniM d i).length:=by simpa using hc1
  have hcj:c<(rowN_MiniM d j).length:=by simpa using hc2
  have:=h2 c (by rw[<-bW hv hi];exact hci);simp only[aM]at this;rw[qu (l:=rowN_MiniM d i),qu (l:=rowN_MiniM d j),qy hci,qy hcj,qN,qN]at this;simpa using this
 have h4:∀l:List Nat,l.flatMap (fun tgt=>o6 (part.getD tgt 0))=(l.map (fun x=>part.getD x 0)).flatMap o6:=fun l=>by simp[List.flatMap_map]
 rw[h4,h4,h3]
theorem zI(d:Dfa)(part:List Int):(pM d part).length=d.next.length:=by simp[pM]
theorem rS(d:Dfa)(part:List Int){i:Nat}(hi:i<d.next.length):(pM d part)[i]? =some (m9 d part i):=by simp[pM,hi]
theorem sN(d:Dfa)(part:List Int){i:Nat}(hi:i<d.next.length):m9 d part i∈pM d part:=jA (rS d part hi)
theorem kW(d:Dfa)(part:List Int){i:Nat}(hi:i<d.next.length):(iD d part).getD i 0=(idx (eH (pM d part)) (m9 d part i):Nat):=by
 simp[iD,qu,qU,rS d part hi]
theorem F9{d:Dfa}{part:List Int}{i j:Nat}(hi:i<d.next.length)(hj:j<d.next.length):(iD d part).getD i 0=(iD d part).getD j 0↔m9 d part i=m9 d part j:=by
 rw[kW d part hi,kW d part hj]
 constructor
 ·intro h
  exact C3 ((dF _ _).2 (sN d part hi)) ((dF _ _).2 (sN d part hj)) (by omega)
 intro h;rw[h]
theorem X8.next{d:Dfa}(hv:bD d){part:List Int}(h:X8 d part):X8 d (iD d part):=by
 refine⟨by simp[iD,zI],fun i hi=>?_,fun i j hi hj he=>?_,fun i j hi hj he=>?_⟩
 ·rw[kW d part hi]
  have h1:=eJ ((dF _ _).2 (sN d part hi));have h2:=uU (pM d part);rw[zI]at h2;have:=hv.2.1;omega
 ·rw[F9 hi hj]
  exact q6x hv hi hj (h.alike i j hi hj he) fun c hc=>h.alike _ _ (kV hv hi hc) (kV hv hj hc) (he.step hc)
 rw[F9 hi hj]at he;exact h.rule i j hi hj (W4 hv h hi hj he).1
theorem X8.start{d:Dfa}(hv:bD d)(part:List Int)(hl:part.length=d.next.length)(hp:∀i,i<d.next.length->part.getD i 0=gZ d i+1):X8 d part:=by
 obtain⟨_,_,_,k,hk,hr⟩:=hv;refine⟨hl,fun i hi=>?_,fun i j hi hj he=>?_,fun i j hi hj he=>?_⟩
 ·obtain⟨h1,h2,-⟩:=hr i hi
  rw[hp i hi];unfold gZ;omega
 ·rw[hp i hi,hp j hj,he.rules]
 rw[hp i hi,hp j hj]at he;omega
theorem y9{α β:Type} [DecidableEq α] [DecidableEq β](l:List α)(f:α->β)(h:∀x∈l,∀y∈l,f x=f y->x=y):eH (l.map f)=(eH l).map f:=by
 have:∀(l ks:List α),(∀x,(x∈ks\/x∈l)->∀y,(y∈ks\/y∈l)->f x=f y->x=y)->(l.map f).foldl aQ (ks.map f)=(l.foldl aQ ks).map f:=by
  intro l
  induction l with
  |nil=>intro ks _;rfl
  |cons a l ih=>
   intro ks h;simp only[qJ,qL]
   have e:aQ (ks.map f) (f a)=(aQ ks a).map f:=by
    unfold aQ;by_cases ha:a∈ks
    ·rw[qw ha,qw (List.mem_map.2 ⟨a,ha,rfl⟩)]
    rw[qv ha,qv]
    ·simp
    intro hm;obtain⟨b,hb,he⟩:=List.mem_map.1 hm;have:=h b (.inl hb) a (.inr (by simp)) he;exact ha (this▸hb)
   rw[e];refine ih _ (fun x hx y hy=>h x ?_ y ?_)
   ·rcases hx with hx|hx
    ·rcases cR.1 hx with h1|rfl
     ·exact .inl h1
     exact .inr (by simp)
    exact .inr (by simp[hx])
   rcases hy with hx|hx
   ·rcases cR.1 hx with h1|rfl
    ·exact .inl h1
    exact .inr (by simp)
   exact .inr (by simp[hx])
 exact this l [] (fun x hx y hy=>h x (hx.resolve_left (by simp)) y (hy.resolve_left (by simp)))
theorem t9(l:List Int)(n:Nat)(h:l.length=n):(List.range n).map (fun i=>l.getD i 0)=l:=by
 apply jV
 ·simp[h]
 intro i h1 h2;simp[h2]
theorem q2X{d:Dfa}{part:List Int}(h:X8 d part):(pM d part).map qa6=part:=by
 rw[pM,List.map_map];rw[<-t9 part d.next.length h.len];apply List.map_congr_left;intro i hi;have hi':i<d.next.length:=by simpa using hi
 rw[t9 part d.next.length h.len];show qa6 (m9 d part i)=_;rw[lK,rQ _ (h.range i hi').1 (h.range i hi').2]
theorem X8.done{d:Dfa}(hv:bD d){part:List Int}(h:X8 d part)(hc:(eH (pM d part)).length=(eH part).length){i j:Nat}(hi:i<d.next.length)(hj:j<d.next.length):m9 d part i=m9 d part j↔Eqv d i j:=by
 constructor
 ·intro he
  refine Eqv.of_bisim hv (fun a b=>a<d.next.length/\b<d.next.length/\part.getD a 0=part.getD b 0) (fun a b ha hb hab=>⟨h.rule a b ha hb hab.2.2,fun c hcc=>⟨kV hv ha hcc,kV hv hb hcc,?_⟩⟩) hi hj ⟨hi,hj,(W4 hv h hi hj he).1⟩
  have h1:=U0 (pM d part) qa6 (by rw[q2X h];exact hc) _ (sN d part ha) _ (sN d part hb) (by
   rw[lK,lK,rQ _ (h.range a ha).1 (h.range a ha).2,rQ _ (h.range b hb).1 (h.range b hb).2];exact hab.2.2)
  exact(W4 hv h ha hb h1).2 c hcc
 intro he;exact q6x hv hi hj (h.alike i j hi hj he) fun c hc=>h.alike _ _ (kV hv hi hc) (kV hv hj hc) (he.step hc)
theorem W5{d:Dfa}(part:List Int):(eH (iD d part)).length=(eH (pM d part)).length:=by
 unfold iD;rw[y9]
 ·simp
 intro x hx y hy he;exact C3 ((dF _ _).2 hx) ((dF _ _).2 hy) (by omega)
theorem q0F{d:Dfa}{part:List Int}(h:X8 d part):(eH part).length<=(eH (pM d part)).length:=by
 have:=q1g (pM d part) qa6;rwa [q2X h]at this
def O4(d:Dfa)(part:List Int):Prop:=part.length=d.next.length/\∀i,i<d.next.length->∃f,f∈fX d (i+1)/\Eqv d i f/\part.getD i 0=(idx (fX d (i+1)) f:Nat)
theorem eN{d:Dfa}{k f:Nat}:f∈fX d k↔f<k/\∀j,j<f->¬Eqv d f j:=by
 unfold fX;simp
theorem zJ(d:Dfa):∀i,∃f,f∈fX d (i+1)/\Eqv d i f:=by
 intro i
 induction i using Nat.strongRecOn with
 |_ i ih=>
  by_cases h:∀j,j<i->¬Eqv d i j
  ·exact⟨i,eN.2 ⟨by omega,h⟩,Eqv.refl d i⟩
  have:∃j,j<i/\Eqv d i j:=qi fun hc=>h fun j hj he=>hc ⟨j,hj,he⟩;obtain⟨j,hj,he⟩:=this;obtain⟨f,hf,hef⟩:=ih j hj;have h2:=eN.1 hf;exact⟨f,eN.2 ⟨by omega,h2.2⟩,he.trans hef⟩
theorem rT{d:Dfa}{a b k l:Nat}(ha:a∈fX d k)(hb:b∈fX d l)(h:Eqv d a b):a=b:=by
 have h1:=(eN.1 ha).2;have h2:=(eN.1 hb).2;rcases Nat.lt_trichotomy a b with h3|h3|h3
 ·exact absurd h.symm (h2 a h3)
 ·exact h3
 exact absurd h (h1 b h3)
theorem q1F{d:Dfa}{part:List Int}(h:∀i j,i<d.next.length->j<d.next.length->(m9 d part i=m9 d part j↔Eqv d i j)):∀k,k<=d.next.length->eH ((List.range k).map (m9 d part))=(fX d k).map (m9 d part):=by
 intro k
 induction k with
 |zero=>intro _;simp[eH,fX]
 |succ k ih=>
  intro hk;rw[jz,qH,qJ,ju,fI,ih (by omega)];by_cases hf:∀j,j<k->¬Eqv d k j
  ·rw[rP hf,qH]
   unfold aQ;rw[qv]
   ·rfl
   intro hm;obtain⟨f,hff,he⟩:=List.mem_map.1 hm;have h1:=eN.1 hff;exact hf f h1.1 ((h f k (by omega) (by omega)).1 he).symm
  rw[t6 hf];unfold aQ;rw[qw];have:∃j,j<k/\Eqv d k j:=qi fun hc=>hf fun j hj he=>hc ⟨j,hj,he⟩;obtain⟨j,hj,he⟩:=this;obtain⟨f,hff,hef⟩:=zJ d j;have h1:=eN.1 hff;exact List.mem_map.2 ⟨f,eN.2 ⟨by omega,h1.2⟩,(h f k (by omega) (by omega)).2 ((he.trans hef).symm)⟩
theorem G0(d:Dfa)(k m:Nat):∃l,fX d (k+m)=fX d k++l:=by
 induction m with
 |zero=>exact⟨[],by simp⟩
 |succ m ih=>
  obtain⟨l,hl⟩:=ih;by_cases hf:∀j,j<k+m->¬Eqv d (k+m) j
  ·exact⟨l++[k+m],by rw[<-jL,rP hf,hl,qk]⟩
  exact⟨l,by rw[<-jL,t6 hf,hl]⟩
theorem vY{α β:Type} [DecidableEq α] [DecidableEq β](l:List α)(f:α->β)(x:α)(h:∀y∈l,f y=f x->y=x):idx (l.map f) (f x)=idx l x:=by
 unfold idx
 induction l with
 |nil=>simp
 |cons a l ih=>
  simp only[qJ,List.idxOf_cons];by_cases ha:a=x
  ·subst ha;simp
  have:f a≠f x:=fun e=>ha (h a (by simp) e);have h1:(f a==f x)=false:=by simpa using this
  have h2:(a==x)=false:=by simpa using ha
  rw[h1,h2,ih (fun y hy=>h y (by simp[hy]))]
theorem X8.ok{d:Dfa}(hv:bD d){part:List Int}(h:X8 d part)(hc:(eH (pM d part)).length=(eH part).length):O4 d (iD d part):=by
 have he:=fun i j hi hj=>h.done hv hc (i:=i) (j:=j) hi hj;refine⟨by simp[iD,zI],fun i hi=>?_⟩;obtain⟨f,hf,hef⟩:=zJ d i;refine⟨f,hf,hef,?_⟩;have hfl:=eN.1 hf;rw[kW d part hi];have hu:=q1F he d.next.length (qb _);rw[pM,hu,(he i f hi (by omega)).2 hef];rw[vY]
 ·obtain⟨l,hl⟩:=G0 d (i+1) (d.next.length-(i+1))
  rw[show i+1+(d.next.length-(i+1))=d.next.length by omega]at hl;rw[hl,cD hf]
 intro y hy hyf;have hyl:=eN.1 hy;exact rT hy hf ((he y f hyl.1 (by omega)).1 hyf)
end Go.Cm
namespace Go.Cm
section
variable {α β : Type} [DecidableEq β]
def aG(f:α->β)(l:List α):List α:=l.foldl (fun ks s=>if f s∈ks.map f then ks else ks++[s]) []
theorem b6(f:α->β)(l:List α)(s:α):aG f (l++[s])=if f s∈(aG f l).map f then aG f l else aG f l++[s]:=by
 unfold aG;rw[qZ];rfl
theorem bR{α:Type}{P:List α->Prop}(h0:P [])(h:∀l a,P l->P (l++[a]))(l:List α):P l:=by
 exact ZmA2
theorem bL(f:α->β)(l:List α):(aG f l).map f=eH (l.map f):=by
 induction l using bR with
 |h0=>rfl
 |h l s ih=>
  rw[qH,qJ,ju,fI,b6,<-ih];unfold aQ;split
  ·rfl
  simp
theorem cX{f:α->β}{l:List α}{x:α}(h:x∈aG f l):x∈l:=by
 induction l using bR with
 |h0=>cases h
 |h l s ih=>
  rw[b6]at h;split at h
  ·exact j5 _ (ih h)
  exact ZmA7
theorem iW(f:α->β)(l:List α):(aG f l).length<=l.length:=by
 have h:=j0 List.length (bL f l);rw[qB]at h;rw[h];have:=uU (l.map f);rwa [qB]at this
theorem mV(f:α->β)(l m:List α):∃k,aG f (l++m)=aG f l++k:=by
 induction m using bR with
 |h0=>exact⟨[],by simp⟩
 |h m s ih=>
  obtain⟨k,hk⟩:=ih;rw[<-qk,b6];split
  ·exact⟨k,hk⟩
  exact⟨k++[s],by rw[hk,qk]⟩
def aW(f:α->β)(l:List α)(s:α):Nat:=idx ((aG f l).map f) (f s)
theorem iN{f:α->β}{l:List α}{s:α}(h:s∈l):aW f l s<(aG f l).length:=by
 have:f s∈(aG f l).map f:=by rw[bL,dF];exact je h
 have:=eJ this;simpa[aW]using this
theorem kX{f:α->β}{l m:List α}{s:α}(h:s∈l):aW f (l++m) s=aW f l s:=by
 obtain⟨k,hk⟩:=mV f l m;unfold aW;rw[hk,qH,cD];rw[bL,dF];exact je h
theorem f7{γ:Type} [DecidableEq γ]{f:α->β}{g:α->γ}{l:List α}(h:∀a∈l,∀b∈l,f a=f b↔g a=g b):aG f l=aG g l/\∀s∈l,aW f l s=aW g l s:=by
 have h1:aG f l=aG g l:=by
  have:∀m,(∀a∈m,a∈l)->aG f m=aG g m:=by
   intro m
   induction m using bR with
   |h0=>intro _;rfl
   |h m s ih=>
    intro hm;have ih:=ih fun a ha=>hm a (j5 _ ha);have hs:=hm s (by simp);rw[b6,b6,<-ih]
    have e:f s∈(aG f m).map f↔g s∈(aG f m).map g:=by
     simp only[jB]
     constructor
     ·rintro⟨a,ha,he⟩;exact⟨a,ha,(h a (hm a (j5 _ (cX ha))) s hs).1 he⟩
     rintro⟨a,ha,he⟩;exact⟨a,ha,(h a (hm a (j5 _ (cX ha))) s hs).2 he⟩
    simp only[e]
  exact this l fun _ h=>h
 refine⟨h1,fun s hs=>?_⟩;unfold aW;rw[<-h1]
 have:∀m:List α,(∀a∈m,a∈l)->idx (m.map f) (f s)=idx (m.map g) (g s):=by
  intro m;unfold idx
  induction m with
  |nil=>intro _;simp
  |cons a m ih=>
   exact ZmA1
 exact this _ fun a ha=>cX ha
end
section
variable {α β : Type} [DecidableEq β] {f : α → β} {l F : List α} {k q : Nat} {s z : α}
theorem dE(hk:k<l.length)(hs:l.getD k z=s):l.take (k+1)=l.take k++[s]:=by
 rw[qM hk,<-hs];simp[List.getD,hk]
end
noncomputable def cM(d:Dfa)(s:Nat):Nat:=Classical.choose (zJ d s)
theorem G4(d:Dfa)(s:Nat):cM d s∈fX d (s+1)/\Eqv d s (cM d s):=Classical.choose_spec (zJ d s)
theorem xM{d:Dfa}{a b:Nat}:cM d a=cM d b↔Eqv d a b:=by
 obtain⟨h1,h2⟩:=G4 d a;obtain⟨h3,h4⟩:=G4 d b
 constructor
 ·intro h;exact h2.trans (h▸h4.symm)
 intro h;exact rT h1 h3 (h2.symm.trans (h.trans h4))
noncomputable def heads(d:Dfa):List Nat:=aG (cM d) (reach d)
noncomputable def num(d:Dfa)(s:Nat):Nat:=aW (cM d) (reach d) s
noncomputable def cK(d:Dfa):List (List Int):=(heads d).map fun f=>nl ((rowN_MiniM d f).map (num d))
def pN(rows:List (List Int))(k:Int):List Int:=rows.map fun r=>r.getD k.toNat 0
def G5(rows:List (List Int))(cls:List Int):List Int:=aG (pN rows) cls
def q0Z(rows:List (List Int))(cls:List Int):List Int:=nl (cls.map (aW (pN rows) cls))
def tU(rows:List (List Int))(left:List Int):List (List Int):=rows.map fun r=>left.map fun k=>r.getD k.toNat 0
noncomputable def bX(d:Dfa):Dfa:=⟨q0Z (cK d) d.cls,tU (cK d) (G5 (cK d) d.cls),(heads d).map (gZ d)⟩
def G6:Dfa:=⟨List.replicate 256 0,[],[]⟩
open Classical in
noncomputable def q3N(d:Dfa):Dfa:=if bD d then bX d else G6
open Classical in
noncomputable def q3O(d:Dfa):Int:=if bD d then 0 else 4
theorem G7{d:Dfa}(h:bD d):q3N d=bX d:=by unfold q3N;rw[qw h]
theorem q88{d:Dfa}(h:¬bD d):q3N d=G6:=by unfold q3N;rw[qv h]
theorem G8{d:Dfa}(h:bD d):q3O d=0:=by unfold q3O;rw[qw h]
theorem q89{d:Dfa}(h:¬bD d):q3O d=4:=by unfold q3O;rw[qv h]
def upTo(g:Nat->List Nat)(l:List Nat):List Nat:=eH (0::l.flatMap g)
structure Met(g:Nat->List Nat)(l:List Nat):Prop where
 more:∀j,j<l.length->j<(upTo g (l.take j)).length
 all:upTo g l=l
theorem cZ{α:Type} [DecidableEq α](l m:List α):eH (l++m)=m.foldl aQ (eH l):=by unfold eH;rw[qZ]
theorem iO{α:Type} [DecidableEq α](m l:List α):∃k,m.foldl aQ l=l++k:=by
 induction m generalizing l with
 |nil=>exact⟨[],by simp⟩
 |cons a m ih=>
  exact ZmA6
theorem oP{α:Type} [DecidableEq α](l m:List α):∃k,eH (l++m)=eH l++k:=by
 rw[cZ];exact iO m (eH l)
theorem q1G(g:Nat->List Nat)(l m:List Nat):∃k,upTo g (l++m)=upTo g l++k:=by
 unfold upTo;rw[aB,<-jm];exact oP _ _
theorem Met.take{g:Nat->List Nat}{l:List Nat}(h:Met g l){j:Nat}(hj:j<l.length):l.take (j+1)=(upTo g (l.take j)).take (j+1):=by
 obtain⟨k,hk⟩:=q1G g (l.take j) (l.drop j);rw[j8,h.all]at hk;have hm:=h.more j hj;generalize upTo g (l.take j)=u at hk hm⊢;rw[hk,List.take_append_of_le_length hm]
theorem Met.unique{g:Nat->List Nat}{l l':List Nat}(h:Met g l)(h':Met g l'):l=l':=by
 have key:∀j,j<=l.length->j<=l'.length->l.take j=l'.take j:=by
  intro j
  induction j with
  |zero=>intro _ _;simp
  |succ j ih=>
   intro h1 h2;rw[h.take (by omega),h'.take (by omega),ih (by omega) (by omega)]
 rcases Nat.lt_trichotomy l.length l'.length with hl|hl|hl
 ·have h1:=key l.length (qb _) (by omega)
  have h2:=h'.more l.length hl;rw[<-h1,j3,h.all]at h2;exact absurd h2 (jK _)
 ·have h1:=key l.length (qb _) (by omega)
  rw[j3,hl,j3]at h1;exact h1
 have h1:=key l'.length (by omega) (qb _);have h2:=h.more l'.length hl;rw[h1,j3,h'.all]at h2;exact absurd h2 (jK _)
theorem tA(out row:List Nat):iH out row=row.foldl aQ out:=rfl
theorem q9X{d:Dfa}(hv:bD d){i x:Nat}(hi:i<d.next.length)(hx:x∈rowN_MiniM d i):x<d.next.length:=vX hv hi hx
theorem W6{d:Dfa}(hv:bD d):∀f i out,f+i=d.next.length+1->i<=out.length->(∀x∈out,x<d.next.length)->out.Nodup->upTo (rowN_MiniM d) (out.take i)=out->(∀j,j<i->j<(upTo (rowN_MiniM d) (out.take j)).length)->
  Met (rowN_MiniM d) (gW d f i out)/\(∀x∈gW d f i out,x<d.next.length)/\(gW d f i out).Nodup:=by
 intro f
 induction f with
 |zero=>
  intro i out hf hi hb hn;have:=tM hn hb;omega
 |succ f ih=>
  intro i out hf hi hb hn hall qdt;unfold gW;by_cases hlt:i<out.length
  ·rw[qw hlt]
   have hg:out.getD i 0=out[i]:=by simp[List.getD,hlt]
   have qcx:out.getD i 0∈out:=by rw[hg];exact jl hlt
   obtain⟨s1,s2,s3,s4⟩:=xW (rowN_MiniM d (out.getD i 0)) out;obtain⟨k,hk⟩:=iO (rowN_MiniM d (out.getD i 0)) out;rw[<-tA]at hk
   have htk:∀j,j<=out.length->(iH out (rowN_MiniM d (out.getD i 0))).take j=out.take j:=fun j hj=>by
    rw[hk,List.take_append_of_le_length hj]
   refine ih (i+1) _ (by omega) (by omega) (fun x hx=>?_) (s1 hn) ?_ (fun j hj=>?_)
   ·rcases(s2 x).1 hx with h|h
    ·exact hb x h
    exact q9X hv (hb _ qcx) h
   ·rw[htk _ hlt,qM hlt]
    unfold upTo at hall⊢;rw[aB,<-jm,cZ,hall,tA,hg];simp
   rw[htk j (by omega)];rcases Nat.lt_succ_iff_lt_or_eq.1 hj with h|rfl
   ·exact qdt j h
   rw[hall];exact hlt
  rw[qv hlt];have hi':i=out.length:=by omega
  subst hi';rw[j3]at hall;exact⟨⟨qdt,hall⟩,hb,hn⟩
theorem eT{d:Dfa}(hv:bD d):Met (rowN_MiniM d) (reach d)/\(∀x∈reach d,x<d.next.length)/\(reach d).Nodup:=by
 have h1:=hv.1;exact W6 hv _ 0 [0] (by omega) (by simp) (by simp;omega) (by simp) rfl (fun j hj=>absurd hj (qC j))
theorem oQ{d:Dfa}(hv:bD d):0∈reach d:=by
 have h:=(eT hv).1.all;rw[<-h,upTo,dF];simp
theorem sO{d:Dfa}(hv:bD d){s t:Nat}(hs:s∈reach d)(ht:t∈rowN_MiniM d s):t∈reach d:=by
 have h:=(eT hv).1.all;rw[<-h,upTo,dF];exact qY _ (List.mem_flatMap.2 ⟨s,hs,ht⟩)
theorem q0H{d:Dfa}(hv:bD d):(reach d).length<=d.next.length:=tM (eT hv).2.2 (eT hv).2.1
theorem vZ{d:Dfa}{f:Nat}(h:f∈heads d):f∈reach d:=cX h
theorem G9{d:Dfa}(hv:bD d):(heads d).length<=d.next.length:=qc (iW _ _) (q0H hv)
theorem yA{d:Dfa}{s:Nat}(hs:s∈reach d):num d s<(heads d).length:=iN hs
end Go.Cm
namespace Go.Cm
section
variable {α β : Type} [DecidableEq β] {f : α → β} {l : List α} {s z : α}
theorem yB(f:α->β)(l:List α):((aG f l).map f).Nodup:=by rw[bL];exact sD _
theorem q1K{a b:α}(h:f a=f b):aW f l a=aW f l b:=by unfold aW;rw[h]
theorem yC(h:s∈l):f s∈(aG f l).map f:=by rw[bL,dF];exact je h
theorem O8(h:s∈l):f ((aG f l).getD (aW f l s) z)=f s:=by
 have h1:=iN (f:=f) h;have h2:=f8 (yC (f:=f) h);rw[jx]at h2;unfold aW at h1⊢;rw[qu,qy h1];exact h2
theorem q3Q{i:Nat}(hi:i<(aG f l).length):aW f l ((aG f l).getD i z)=i:=by
 unfold aW idx;rw[qu,qy hi,qN];have h1:i<((aG f l).map f).length:=by simpa using hi
 have h2:=(yB f l).idxOf_getElem i h1;rwa [jx]at h2
theorem yP(a:α)(l:List α):∃m,aG f (a::l)=a::m:=by
 obtain⟨k,hk⟩:=mV f [a] l;exact⟨k,by simpa[aG]using hk⟩
theorem I0(a:α)(l:List α):aW f (a::l) a=0:=by
 obtain⟨m,hm⟩:=yP (f:=f) a l;unfold aW idx;rw[hm];simp
theorem O9(f:α->β)(l:List α):eH (l.map (aW f l))=List.range (aG f l).length:=by
 induction l using bR with
 |h0=>rfl
 |h l a ih=>
  have e:(l++[a]).map (aW f (l++[a]))=l.map (aW f l)++[aW f (l++[a]) a]:=by
   rw[qH]
   congr 1
   exact List.map_congr_left fun s hs=>kX hs
  rw[e,fI,ih];unfold aQ;by_cases h:f a∈(aG f l).map f
  ·have h1:aG f (l++[a])=aG f l:=by rw[b6,qw h]
   have h2:=iN (f:=f) (l:=l++[a]) (s:=a) (by simp);rw[h1]at h2;rw[qw (List.mem_range.2 h2),h1]
  have h1:aG f (l++[a])=aG f l++[a]:=by rw[b6,qv h]
  have h2:aW f (l++[a]) a=(aG f l).length:=by
   unfold aW;rw[h1,qH,qJ,ju,cV h,qB]
  rw[qv (by rw[a9,h2];exact jK _),h2,h1,qj,qE,jz]
theorem kY(f:α->β):∀(m l:List α),bB (aG f l).length (nl (m.map (aW f (l++m))))=some (aG f (l++m)).length
 |[],l=>by simp[nl,bB]
 |a::m,l=>by
  have e:aW f (l++a::m) a=aW f (l++[a]) a:=by
   rw[show l++a::m=l++[a]++m by simp];exact kX (by simp)
  have ih:=kY f m (l++[a]);rw[show l++[a]++m=l++a::m by simp]at ih;simp only[nl,qJ,bB,e]at ih⊢;by_cases h:f a∈(aG f l).map f
  ·have h1:aG f (l++[a])=aG f l:=by rw[b6,qw h]
   have h2:=iN (f:=f) (l:=l++[a]) (s:=a) (by simp);rw[h1]at h2 ih;rw[qv (by omega),qv (by omega)];exact ih
  have h1:aG f (l++[a])=aG f l++[a]:=by rw[b6,qv h]
  have h2:aW f (l++[a]) a=(aG f l).length:=by
   unfold aW;rw[h1,qH,qJ,ju,cV h,qB]
  rw[h1,qj,qE]at ih;rw[qv (by omega),qw (by omega)];exact ih
end
theorem q0K(l:List Int):∀n k,bB n l=some k->l.foldl aQ (nl (List.range n))=nl (List.range k):=by
 induction l with
 |nil=>intro n k h;simp[bB]at h;subst h;rfl
 |cons a l ih=>
  intro n k h;simp only[bB]at h;split at h
  ·cases h
  rename_i hn;have ha:a=((a.toNat:Nat):Int):=by omega
  split at h
  ·rename_i he
   subst he;have:=ih _ _ h;rw[qL]
   have e:aQ (nl (List.range n)) (n:Int)=nl (List.range (n+1)):=by
    unfold aQ;rw[qv (fun hm=>by rw[q4P,a9]at hm;omega),jz,uV];rfl
   rw[e];exact this
  rename_i he;have:=ih _ _ h;rw[qL]
  have e:aQ (nl (List.range n)) a=nl (List.range n):=by
   unfold aQ;rw[qw (by rw[ha,q4P,a9];omega)]
  rw[e];exact this
theorem xO{d:Dfa}(hv:bD d):bB 0 d.cls=some (kN_MiniE d):=by
 obtain⟨h1,h2,h3,k,hk,hr⟩:=hv;have:=(hr 0 (by omega)).2.2.1;unfold kN_MiniE;rw[this];exact hk
theorem kZ{d:Dfa}(hv:bD d){x:Int}(hx:x∈d.cls):0<=x/\x<kN_MiniE d:=sW _ _ _ (xO hv) x hx
theorem wB{d:Dfa}(hv:bD d):eH d.cls=nl (List.range (kN_MiniE d)):=q0K _ _ _ (xO hv)
theorem l6{d:Dfa}(hv:bD d){c:Nat}(hc:c<kN_MiniE d):(c:Int)∈d.cls:=by
 rw[<-dF,wB hv,q4P,a9];exact hc
theorem q0L{d:Dfa}(hv:bD d):0<(heads d).length:=Nat.lt_of_le_of_lt (qd _) (yA (oQ hv))
theorem pO{d:Dfa}{i:Nat}(hi:i<(heads d).length):(heads d).getD i 0∈reach d:=vZ (cE _ _ _ hi)
theorem fU{d:Dfa}(hv:bD d){s:Nat}(h:s∈reach d):s<d.next.length:=(eT hv).2.1 s h
theorem q6z{d:Dfa}(hv:bD d){i c:Nat}(hi:i<d.next.length)(hc:c<kN_MiniE d):aM d i c∈rowN_MiniM d i:=by
 unfold aM;exact cE _ _ _ (by rw[bW hv hi];exact hc)
theorem pP{d:Dfa}(hv:bD d){s c:Nat}(hs:s∈reach d)(hc:c<kN_MiniE d):aM d s c∈reach d:=sO hv hs (q6z hv (fU hv hs) hc)
theorem oR{d:Dfa}{a b:Nat}(h:Eqv d a b):num d a=num d b:=q1K (xM.2 h)
theorem pQ{d:Dfa}{s:Nat}(h:s∈reach d):Eqv d ((heads d).getD (num d s) 0) s:=xM.1 (O8 h)
theorem zK{d:Dfa}{i:Nat}(hi:i<(heads d).length):num d ((heads d).getD i 0)=i:=q3Q hi
theorem kE(d:Dfa):(cK d).length=(heads d).length:=by simp[cK]
theorem xP(d:Dfa){i:Nat}(hi:i<(heads d).length):(cK d).getD i []=nl ((rowN_MiniM d ((heads d).getD i 0)).map (num d)):=by
 simp[cK,List.getD,hi]
theorem kF{d:Dfa}(hv:bD d){i c:Nat}(hi:i<(heads d).length)(hc:c<kN_MiniE d):((cK d).getD i []).getD c 0=(num d (aM d ((heads d).getD i 0) c):Nat):=by
 rw[xP d hi,tK];have h:=bW hv (fU hv (pO hi));unfold aM;have h2:c<(rowN_MiniM d ((heads d).getD i 0)).length:=by rw[h];exact hc
 simp only[qu,qU]at h2⊢;rw[qy h2];rfl
noncomputable def fC(d:Dfa):List Int:=G5 (cK d) d.cls
theorem q8c{d:Dfa}{c:Nat}(hc:c<(fC d).length):(fC d).getD c 0∈d.cls:=cX (f:=pN (cK d)) (cE _ _ _ hc)
theorem oS{d:Dfa}(hv:bD d){c:Nat}(hc:c<(fC d).length):0<=(fC d).getD c 0/\(fC d).getD c 0<kN_MiniE d:=kZ hv (q8c hc)
theorem wC{d:Dfa}{i:Nat}(hi:i<(heads d).length):gZ (bX d) i=gZ d ((heads d).getD i 0):=by
 simp[gZ,bX,List.getD,hi]
theorem nM(d:Dfa):(bX d).next.length=(heads d).length:=by simp[bX,tU,kE]
theorem nN{d:Dfa}{i:Nat}(hi:i<(heads d).length):(bX d).next.getD i []=(fC d).map fun k=>((cK d).getD i []).getD k.toNat 0:=by
 have:i<(cK d).length:=by rw[kE];exact hi
 simp[bX,tU,fC,List.getD,this]
theorem q1L{d:Dfa}(hv:bD d):kN_MiniE (bX d)=(fC d).length:=by
 unfold kN_MiniE;rw[nN (q0L hv),qB]
theorem I1{d:Dfa}(hv:bD d){i c:Nat}(hi:i<(heads d).length)(hc:c<(fC d).length):((bX d).next.getD i []).getD c 0=(num d (aM d ((heads d).getD i 0) ((fC d).getD c 0).toNat):Nat):=by
 have h:=oS hv hc;rw[<-kF hv hi (by omega),nN hi,qu,qU,qy hc,qu (l:=fC d),qy hc];rfl
theorem I2{d:Dfa}(hv:bD d){i c:Nat}(hi:i<(heads d).length)(hc:c<kN_MiniE d):num d (aM d ((heads d).getD i 0) c)<(heads d).length:=yA (pP hv (pO hi) hc)
theorem sP{d:Dfa}(hv:bD d):bD (bX d):=by
 have hp:=q0L hv;have hle:=G9 hv;have h2:=hv.2.1;refine⟨by rw[nM];omega,by rw[nM];omega,by rw[nM];simp[bX],(fC d).length,?_,fun i hi=>?_⟩
 ·have:=kY (pN (cK d)) d.cls []
  simpa[bX,q0Z,fC,G5,aG]using this
 rw[nM]at hi⊢;have hr:=wC hi;unfold gZ at hr;obtain⟨-,-,h3,k,hk,hrr⟩:=id hv;obtain⟨h4,h5,-,-⟩:=hrr _ (fU hv (pO hi));refine⟨by rw[hr];exact h4,by rw[hr];exact h5,by rw[nN hi,qB],fun j hj=>?_⟩;rw[nN hi,qB]at hj;rw[I1 hv hi hj];have:=oS hv hj;have:=I2 hv hi (c:=((fC d).getD j 0).toNat) (by omega);omega
theorem P0{d:Dfa}(hv:bD d){s c:Nat}(hs:s∈reach d)(hc:c<(fC d).length):aM (bX d) (num d s) c=num d (aM d s ((fC d).getD c 0).toNat):=by
 have h:=yA hs;have hl:=oS hv hc;have hm:=nN h
 have e:aM (bX d) (num d s) c=(((bX d).next.getD (num d s) []).getD c 0).toNat:=by
  have hc':c<((bX d).next.getD (num d s) []).length:=by rw[hm,qB];exact hc
  unfold aM rowN_MiniM;simp only[qu,qU]at hc'⊢;rw[qy hc'];rfl
 rw[e,I1 hv h hc];have h2:=(pQ hs).step (c:=((fC d).getD c 0).toNat) (by omega);rw[oR h2];rfl
noncomputable def q6A(d:Dfa)(x:Int):Nat:=aW (pN (cK d)) d.cls x
theorem X0{d:Dfa}{x:Int}(hx:x∈d.cls):q6A d x<(fC d).length:=iN hx
theorem q0M{rows:List (List Int)}{a b:Int}(h:pN rows a=pN rows b){j:Nat}(hj:j<rows.length):(rows.getD j []).getD a.toNat 0=(rows.getD j []).getD b.toNat 0:=by
 have:=j0 (fun l=>l[j]?) h;simp only[pN,qU,qy hj,jP,jC]at this;simpa[List.getD,hj]using this
theorem P1{d:Dfa}(hv:bD d){s c:Nat}(hs:s∈reach d)(hc:c<kN_MiniE d):aM (bX d) (num d s) (q6A d c)=num d (aM d s c):=by
 have hx:=l6 hv hc;rw[P0 hv hs (X0 hx)];have h:=yA hs;have qii:=q0M (O8 (f:=pN (cK d)) (z:=0) hx) (j:=num d s) (by rw[kE];exact h);change((cK d).getD (num d s) []).getD ((fC d).getD (q6A d c) 0).toNat 0=_ at qii;have hl:=oS hv (X0 hx);rw[kF hv h (by omega),qD,kF hv h hc]at qii;have h1:=oR ((pQ hs).step (c:=((fC d).getD (q6A d c) 0).toNat) (by omega));have h2:=oR ((pQ hs).step hc);omega
theorem q0N{d:Dfa}(hv:bD d)(hl:d.cls.length=256)(t:List UInt8):∀s,s∈reach d->∃u,u∈reach d/\e9 d (s:Nat) t=(u:Nat)/\e9 (bX d) (num d s:Nat) t=(num d u:Nat):=by
 induction t with
 |nil=>intro s hs;exact⟨s,hs,rfl,rfl⟩
 |cons b t ih=>
  intro s hs;have hb:b.toNat<256:=b.toNat_lt;have hm:d.cls.getD b.toNat 0∈d.cls:=cE _ _ _ (by omega);have hr:=kZ hv hm;obtain⟨c,hc⟩:∃c:Nat,d.cls.getD b.toNat 0=c:=⟨(d.cls.getD b.toNat 0).toNat,by omega⟩;have hck:c<kN_MiniE d:=by omega
  obtain⟨u,h1,h2,h3⟩:=ih _ (pP hv hs hck);refine⟨u,h1,?_,?_⟩
  ·rw[<-h2]
   unfold e9;rw[hc,qD,qD];have hcl:c<(d.next.getD s []).length:=by rw[fT hv (fU hv hs)];exact hck
   have hnn:=kV hv (fU hv hs) hck
   have e:(d.next.getD s []).getD c 0=(aM d s c:Nat):=by
    obtain⟨_,_,_,k,hk,hrr⟩:=id hv;have:=(hrr s (fU hv hs)).2.2.2 c hcl
    have e2:aM d s c=((d.next.getD s []).getD c 0).toNat:=by
     unfold aM rowN_MiniM;simp only[qu,qU]at hcl⊢;rw[qy hcl];rfl
    omega
   rw[e];cases t<;>rfl
  rw[<-h3]
  have hcm:(bX d).cls.getD b.toNat 0=(q6A d c:Nat):=by
   have:b.toNat<d.cls.length:=by omega
   rw[show(bX d).cls=q0Z (cK d) d.cls from rfl,q0Z,tK];simp only[qu,qU,qy this]at hc⊢;simp only[qN]at hc;rw[hc];rfl
  have hcx:=l6 hv hck;have hlt:=X0 hcx
  have e:((bX d).next.getD (num d s) []).getD (q6A d c) 0=(num d (aM d s c):Nat):=by
   rw[<-P1 hv hs hck,P0 hv hs hlt,I1 hv (yA hs) hlt];have hlr:=oS hv hlt;rw[oR ((pQ hs).step (c:=((fC d).getD (q6A d c) 0).toNat) (by omega))]
  rw[show e9 (bX d) (num d s:Nat) (b::t)=e9 (bX d) (((bX d).next.getD (num d s:Int).toNat []).getD ((bX d).cls.getD b.toNat 0).toNat 0) t from rfl,hcm,qD,qD,e]
theorem q30{d:Dfa}(hv:bD d):num d 0=0:=by
 have h:=(eT hv).1;have hr:0<(reach d).length:=List.length_pos_of_mem (oQ hv);have h1:=h.take hr;have h2:upTo (rowN_MiniM d) []=[0]:=by simp[upTo,eH,aQ]
 rw[List.take_zero,h2]at h1
 have h3:∃l,reach d=0::l:=by
  cases hq:reach d with
  |nil=>rw[hq]at hr;cases hr
  |cons a l=>rw[hq]at h1;simp at h1;subst h1;exact⟨l,rfl⟩
 obtain⟨l,hl⟩:=h3;unfold num;rw[hl];exact I0 _ _
theorem P2{d:Dfa}(hv:bD d)(hl:d.cls.length=256)(t:List UInt8):eR (bX d) t=eR d t:=by
 obtain⟨u,h1,h2,h3⟩:=q0N hv hl t 0 (oQ hv);have h4:=wC (yA h1);have h5:=(pQ h1).rules;rw[q30 hv]at h3;unfold eR;rw[qw hv,qw (sP hv)];change e9 d 0 t=_ at h2;change e9 (bX d) 0 t=_ at h3;rw[h2,h3,qD,qD];exact h4.trans h5
end Go.Cm
namespace Go.Cm
section
variable {α β γ : Type} [DecidableEq α] [DecidableEq β] [DecidableEq γ]
theorem pU{l ks:List α}(h:∀x∈l,x∈ks):l.foldl aQ ks=ks:=by
 induction l generalizing ks with
 |nil=>rfl
 |cons a l ih=>
  have e:aQ ks a=ks:=by unfold aQ;rw[qw (h a (by simp))]
  rw[qL,e];exact ih fun x hx=>h x (by simp[hx])
theorem X1(f:α->β)(l:List α):eH ((eH l).map f)=eH (l.map f):=by
 induction l using bR with
 |h0=>rfl
 |h l a ih=>
  rw[qH,cZ (l.map f),<-ih,fI];unfold aQ;by_cases h:a∈eH l
  ·rw[qw h]
   symm
   refine pU ?_;intro x hx;simp only[qJ,ju,jg]at hx;subst hx;rw[dF];exact je h
  rw[qv h,qH,cZ];rfl
omit [DecidableEq α] in
theorem q0O(f:α->β)(g:α->List γ)(A:List γ)(l:List α)(h:∀a∈l,∀b∈l,f a=f b->g a=g b):eH (A++(aG f l).flatMap g)=eH (A++l.flatMap g):=by
 induction l using bR with
 |h0=>rfl
 |h l s ih=>
  have ih:=ih fun a ha b hb=>h a (by simp[ha]) b (by simp[hb]);rw[b6];by_cases hm:f s∈(aG f l).map f
  ·rw[qw hm,ih,aB,<-qk,cZ (A++l.flatMap g)]
   obtain⟨x,hx,he⟩:=List.mem_map.1 hm;have hg:=h x (by simp[cX hx]) s (by simp) he;rw[pU];intro y hy;rw[dF];refine List.mem_append_right _ (List.mem_flatMap.2 ⟨x,cX hx,?_⟩);rw[hg];simpa using hy
  rw[qv hm,aB,aB,<-qk,<-qk,cZ (A++_),cZ (A++_),ih]
theorem X2{l:List α}(h:l.Nodup):eH l=l:=by
 induction l using bR with
 |h0=>rfl
 |h l a ih=>
  rw[List.nodup_append]at h;rw[fI,ih h.1];unfold aQ;rw[qv];intro ha;exact h.2.2 a ha a (by simp) rfl
theorem P3{f:α->β}{l:List α}(h:∀a∈l,∀b∈l,f a=f b->a=b):aG f l=eH l/\∀s∈l,aW f l s=idx (eH l) s:=by
 have hc:=f7 (f:=f) (g:=fun x:α=>x) (l:=l) fun a ha b hb=>⟨h a ha b hb,fun e=>by rw[e]⟩
 have e:aG (fun x:α=>x) l=eH l:=by
  have:=bL (fun x:α=>x) l;simpa using this
 refine⟨hc.1.trans e,fun s hs=>?_⟩;rw[hc.2 s hs];unfold aW;rw[e];simp
omit [DecidableEq α] in
theorem q3R(f:α->β)(_z:α)(l:List α):∀j,j<(aG f l).length->∃i,i<l.length/\(aG f l).take j=aG f (l.take i)/\(aG f l).take (j+1)=aG f (l.take (i+1)):=by
 induction l using bR with
 |h0=>intro j hj;simp[aG]at hj
 |h l s ih=>
  intro j hj;rw[b6]at hj⊢;by_cases hm:f s∈(aG f l).map f
  ·rw[qw hm]at hj⊢
   obtain⟨i,h1,h2,h3⟩:=ih j hj;refine⟨i,by simp;omega,?_,?_⟩
   ·rw[List.take_append_of_le_length (by omega)];exact h2
   rw[List.take_append_of_le_length (by omega)];exact h3
  rw[qv hm]at hj⊢;rw[qj,qE]at hj;rcases Nat.lt_succ_iff_lt_or_eq.1 hj with h|rfl
  ·obtain⟨i,h1,h2,h3⟩:=ih j h
   refine⟨i,by simp;omega,?_,?_⟩
   ·rw[List.take_append_of_le_length (by omega),List.take_append_of_le_length (by omega)];exact h2
   rw[List.take_append_of_le_length (by omega),List.take_append_of_le_length (by omega)];exact h3
  refine⟨l.length,by simp,by simp,?_⟩;rw[qG (by simp),qG (by simp),b6,qv hm]
end
theorem I3{α β:Type}(f:α->β)(l:List α):l.flatMap (fun a=>[f a])=l.map f:=by induction l<;>simp_all
theorem q6B{d:Dfa}(hv:bD d){i:Nat}(hi:i<(heads d).length)(A:List Nat):eH (A++rowN_MiniM (bX d) i)=eH (A++(rowN_MiniM d ((heads d).getD i 0)).map (num d)):=by
 have h0:=fU hv (pO hi)
 have e1:rowN_MiniM (bX d) i=(fC d).flatMap fun k=>[num d (aM d ((heads d).getD i 0) k.toNat)]:=by
  rw[I3];unfold rowN_MiniM;rw[nN hi,List.map_map];apply List.map_congr_left;intro k hk;have:=kZ hv (cX (f:=pN (cK d)) hk);have h2:=kF hv hi (c:=k.toNat) (by omega);simp only[Function.comp_apply,h2,qD]
 have e2:(rowN_MiniM d ((heads d).getD i 0)).map (num d)=(List.range (kN_MiniE d)).map fun c=>num d (aM d ((heads d).getD i 0) c):=by
  apply jV
  ·rw[qB,qB,List.length_range,bW hv h0]
  intro c h1 h2;have hc:c<(rowN_MiniM d ((heads d).getD i 0)).length:=by rw[qB]at h1;exact h1
  rw[jx,jx,List.getElem_range];unfold aM;rw[qu (l:=rowN_MiniM d _),qy hc,qN]
 have e3:fC d=aG (pN (cK d)) (nl (List.range (kN_MiniE d))):=by
  rw[<-wB hv];unfold fC G5
  have:∀l:List Int,aG (pN (cK d)) (eH l)=aG (pN (cK d)) l:=by
   intro l
   induction l using bR with
   |h0=>rfl
   |h l a ih=>
    rw[fI,b6,<-ih];unfold aQ;by_cases ha:a∈eH l
    ·rw[qw ha,qw (yC ha)]
    rw[qv ha,b6]
  exact(this _).symm
 rw[e1,e2,e3,q0O]
 ·congr 2
  rw[I3];simp[nl]
 intro a ha b hb hab
 have ra:0<=a/\a<kN_MiniE d:=by
  obtain⟨x,hx,rfl⟩:=List.mem_map.1 ha;have:=List.mem_range.1 hx;omega
 have rb:0<=b/\b<kN_MiniE d:=by
  obtain⟨x,hx,rfl⟩:=List.mem_map.1 hb;have:=List.mem_range.1 hx;omega
 have h:=q0M hab (j:=i) (by rw[kE];exact hi);rw[kF hv hi (by omega),kF hv hi (by omega)]at h;have h1:num d (aM d ((heads d).getD i 0) a.toNat)=num d (aM d ((heads d).getD i 0) b.toNat):=by omega
 simp only[h1]
theorem q6C{d:Dfa}(hv:bD d):∀j,j<=(heads d).length->upTo (rowN_MiniM (bX d)) (List.range j)=eH (0::((heads d).take j).flatMap fun s=>(rowN_MiniM d s).map (num d)):=by
 intro j
 induction j with
 |zero=>intro _;rfl
 |succ j ih=>
  intro hj;have ih:=ih (by omega);unfold upTo at ih⊢;have e:(heads d).take (j+1)=(heads d).take j++[(heads d).getD j 0]:=aV _ _ _ (by omega);rw[e,jz,aB,aB,<-jm,<-jm,cZ,ih,<-cZ];have:=q6B hv (i:=j) (by omega) (0::((heads d).take j).flatMap fun s=>(rowN_MiniM d s).map (num d));simpa using this
theorem X3{d:Dfa}(hv:bD d){a b:Nat}(ha:a<d.next.length)(hb:b<d.next.length)(h:Eqv d a b):(rowN_MiniM d a).map (num d)=(rowN_MiniM d b).map (num d):=by
 apply jV
 ·simp[bW hv ha,bW hv hb]
 intro c h1 h2;have hca:c<(rowN_MiniM d a).length:=by simpa using h1
 have hcb:c<(rowN_MiniM d b).length:=by simpa using h2
 have:=oR (h.step (c:=c) (by rw[<-bW hv ha];exact hca));simpa[aM,List.getD,hca,hcb]using this
theorem P4{d:Dfa}(hv:bD d){i j:Nat}(hj:j<=(heads d).length)(he:(heads d).take j=aG (cM d) ((reach d).take i)):upTo (rowN_MiniM (bX d)) (List.range j)=eH ((upTo (rowN_MiniM d) ((reach d).take i)).map (num d)):=by
 rw[q6C hv j hj,he];have h1:=q0O (cM d) (fun s=>(rowN_MiniM d s).map (num d)) [0] ((reach d).take i) (fun a ha b hb hab=>X3 hv (fU hv (List.mem_of_mem_take ha)) (fU hv (List.mem_of_mem_take hb)) (xM.1 hab));simp only[List.singleton_append]at h1;rw[h1];unfold upTo;rw[X1,qJ,q30 hv,List.map_flatMap]
theorem q8d{d:Dfa}(hv:bD d):Met (rowN_MiniM (bX d)) (List.range (heads d).length):=by
 have hm:=(eT hv).1
 constructor
 ·intro j hj
  rw[List.length_range]at hj;rw[List.take_range,Nat.min_eq_left (by omega)];obtain⟨i,h1,h2,h3⟩:=q3R (cM d) 0 (reach d) j hj;rw[P4 hv (by omega) h2];have h4:=hm.take h1
  have h5:eH (((reach d).take (i+1)).map (num d))=List.range (j+1):=by
   have e:((reach d).take (i+1)).map (num d)=((reach d).take (i+1)).map (aW (cM d) ((reach d).take (i+1))):=by
    apply List.map_congr_left;intro s hs;have:=kX (f:=cM d) (m:=(reach d).drop (i+1)) hs;rw[j8]at this;exact this
   rw[e,O9,<-h3,qX,Nat.min_eq_left (show j+1<=(aG (cM d) (reach d)).length from hj)]
  have h6:upTo (rowN_MiniM d) ((reach d).take i)=(reach d).take (i+1)++(upTo (rowN_MiniM d) ((reach d).take i)).drop (i+1):=by
   rw[h4,j8]
  rw[h6,qH];obtain⟨k,hk⟩:=oP (((reach d).take (i+1)).map (num d)) (((upTo (rowN_MiniM d) ((reach d).take i)).drop (i+1)).map (num d));rw[hk,h5,qj,List.length_range];omega
 rw[P4 hv (i:=(reach d).length) (qb _) (by rw[j3,j3];rfl),j3,hm.all];exact O9 (cM d) (reach d)
theorem P5{d:Dfa}(hv:bD d):reach (bX d)=List.range (heads d).length:=(eT (sP hv)).1.unique (q8d hv)
theorem q0P{d:Dfa}(hv:bD d)(cs:List Nat):∀s,s∈reach d->(∀c∈cs,c<kN_MiniE d)->q42 d s cs∈reach d/\q42 (bX d) (num d s) (cs.map fun c:Nat=>q6A d (c:Int))=num d (q42 d s cs):=by
 induction cs with
 |nil=>intro s hs _;exact⟨hs,rfl⟩
 |cons c cs ih=>
  intro s hs hc;have h1:=hc c (by simp);obtain⟨h2,h3⟩:=ih _ (pP hv hs h1) (fun x hx=>hc x (by simp[hx]));refine⟨h2,?_⟩;show q42 (bX d) (aM (bX d) (num d s) (q6A d c)) (cs.map fun c:Nat=>q6A d (c:Int))=_;rw[P1 hv hs h1];exact h3
theorem P6{d:Dfa}(hv:bD d){i j:Nat}(hi:i<(heads d).length)(hj:j<(heads d).length)(h:Eqv (bX d) i j):i=j:=by
 have key:Eqv d ((heads d).getD i 0) ((heads d).getD j 0):=by
  intro cs hcs;obtain⟨h1,h2⟩:=q0P hv cs _ (pO hi) hcs;obtain⟨h3,h4⟩:=q0P hv cs _ (pO hj) hcs
  have h5:=h (cs.map fun c:Nat=>q6A d (c:Int)) (fun x hx=>by
   obtain⟨c,hc,rfl⟩:=List.mem_map.1 hx;rw[q1L hv];exact X0 (l6 hv (hcs c hc)))
  rw[zK hi]at h2;rw[zK hj]at h4;rw[h2,h4,wC (yA h1),wC (yA h3),(pQ h1).rules,(pQ h3).rules]at h5;exact h5
 have:=oR key;rwa [zK hi,zK hj]at this
theorem q31{d:Dfa}(hv:bD d){i:Nat}(hi:i<(heads d).length):cM (bX d) i=i:=by
 obtain⟨h1,h2⟩:=G4 (bX d) i;have:=(eN.1 h1).1;exact(P6 hv hi (by omega) h2).symm
theorem q0Q{n i:Nat}(hi:i<n):idx (List.range n) i=i:=by
 have h:=List.nodup_range (n:=n) |>.idxOf_getElem i (by simpa using hi);simpa[idx]using h
theorem P7{d:Dfa}(hv:bD d):heads (bX d)=List.range (heads d).length/\∀i,i<(heads d).length->num (bX d) i=i:=by
 have h:=P3 (f:=cM (bX d)) (l:=List.range (heads d).length) (fun a ha b hb hab=>by
  rw[q31 hv (List.mem_range.1 ha),q31 hv (List.mem_range.1 hb)]at hab;exact hab)
 rw[X2 List.nodup_range]at h;unfold heads num;rw[P5 hv];exact⟨h.1,fun i hi=>(h.2 i (List.mem_range.2 hi)).trans (q0Q hi)⟩
theorem nY{α:Type}(l:List α)(z:α)(n:Nat)(h:l.length=n):(List.range n).map (fun i=>l.getD i z)=l:=by
 apply jV
 ·simp[h]
 intro i h1 h2;simp[h2]
theorem q6D{d:Dfa}(hv:bD d):cK (bX d)=(bX d).next:=by
 obtain⟨h1,h2⟩:=P7 hv;unfold cK;rw[h1];refine Eq.trans ?_ (nY (bX d).next [] (heads d).length (nM d));apply List.map_congr_left;intro i hi;have hi:=List.mem_range.1 hi;have hrow:=nN hi
 have h3:∀x∈(bX d).next.getD i [],0<=x/\x<(heads d).length:=by
  intro x hx;rw[hrow]at hx;obtain⟨k,hk,rfl⟩:=List.mem_map.1 hx;have hr:=kZ hv (cX (f:=pN (cK d)) hk);rw[kF hv hi (by omega)];have:=I2 hv hi (c:=k.toNat) (by omega);omega
 unfold rowN_MiniM nl;rw[List.map_map,List.map_map]
 conv=>rhs;rw[<-List.map_id ((bX d).next.getD i [])]
 apply List.map_congr_left;intro x hx;have:=h3 x hx;have h4:=h2 x.toNat (by omega);simp only[Function.comp_apply,h4,id];omega
theorem q0R{d:Dfa}(_hv:bD d){a b:Nat}(ha:a<(fC d).length)(hb:b<(fC d).length)(h:pN (bX d).next (a:Nat)=pN (bX d).next (b:Nat)):a=b:=by
 have e:∀c:Nat,c<(fC d).length->pN (bX d).next (c:Nat)=pN (cK d) ((fC d).getD c 0):=by
  intro c hc;show pN (tU (cK d) (fC d)) (c:Nat)=_;unfold pN tU;rw[List.map_map];apply List.map_congr_left;intro r hr;simp[List.getD,hc]
 rw[e a ha,e b hb]at h;have hn:=yB (pN (cK d)) d.cls;have h1:a<((fC d).map (pN (cK d))).length:=by simpa using ha
 have h2:b<((fC d).map (pN (cK d))).length:=by simpa using hb
 have h3:((fC d).map (pN (cK d)))[a]=((fC d).map (pN (cK d)))[b]:=by
  simpa[List.getD,ha,hb]using h
 have h4:=hn.idxOf_getElem a h1;have h5:=hn.idxOf_getElem b h2;change List.idxOf ((fC d).map (pN (cK d)))[a] _=a at h4;change List.idxOf ((fC d).map (pN (cK d)))[b] _=b at h5;rw[h3,h5]at h4;exact h4.symm
theorem q6E{d:Dfa}(hv:bD d):bX (bX d)=bX d:=by
 obtain⟨h1,h2⟩:=P7 hv;have hm:=sP hv;have hk:=q1L hv;have hu:eH (bX d).cls=nl (List.range (fC d).length):=by rw[wB hm,hk]
 have hp:=P3 (f:=pN (bX d).next) (l:=(bX d).cls) (fun a ha b hb hab=>by
  have ra:=kZ hm ha;have rb:=kZ hm hb;rw[hk]at ra rb;have:=q0R hv (a:=a.toNat) (b:=b.toNat) (by omega) (by omega) (by rwa [Int.toNat_of_nonneg ra.1,Int.toNat_of_nonneg rb.1]);omega)
 rw[hu]at hp;have hl:G5 (bX d).next (bX d).cls=nl (List.range (fC d).length):=hp.1
 have hc:q0Z (bX d).next (bX d).cls=(bX d).cls:=by
  unfold q0Z nl;rw[List.map_map]
  conv=>rhs;rw[<-List.map_id (bX d).cls]
  apply List.map_congr_left;intro x hx;have rx:=kZ hm hx;rw[hk]at rx;show((aW (pN (bX d).next) (bX d).cls x:Nat):Int)=x;rw[hp.2 x hx]
  have e:idx (nl (List.range (fC d).length)) x=x.toNat:=by
   have h:=vY (List.range (fC d).length) (fun n:Nat=>(n:Int)) x.toNat (fun y _ hy=>by omega);rw[q0Q (by omega)]at h;rw[Int.toNat_of_nonneg rx.1]at h;exact h
  rw[e];omega
 have hn:tU (bX d).next (nl (List.range (fC d).length))=(bX d).next:=by
  unfold tU
  conv=>rhs;rw[<-List.map_id (bX d).next]
  apply List.map_congr_left;intro r hr;obtain⟨i,hi,rfl⟩:=List.mem_iff_getElem.1 hr;have hi':i<(heads d).length:=by rw[<-nM];exact hi
  have hrow:=nN hi';rw[qu,qy hi,qN]at hrow;have hlen:((bX d).next[i]).length=(fC d).length:=by rw[hrow,qB]
  have:=nY ((bX d).next[i]) 0 (fC d).length hlen;simp only[id]
  conv=>rhs;rw[<-this]
  simp[nl]
 have hr:(List.range (heads d).length).map (gZ (bX d))=(bX d).rules:=nY (bX d).rules 0 _ (by simp[bX]);show Dfa.mk _ _ _=_;rw[q6D hv,hl,hc,hn,h1,hr]
end Go.Cm
namespace Go.Cm
structure fM(d e:Dfa)(p q:Nat->Nat):Prop where
 cls:e.cls=d.cls
 len:e.next.length=d.next.length
 rlen:e.rules.length=d.next.length
 lt:∀i,i<d.next.length->p i<d.next.length
 qlt:∀i,i<d.next.length->q i<d.next.length
 qp:∀i,i<d.next.length->q (p i)=i
 pq:∀i,i<d.next.length->p (q i)=i
 zero:p 0=0
 row:∀i,i<d.next.length->e.next.getD (p i) []=nl ((rowN_MiniM d i).map p)
 rule:∀i,i<d.next.length->e.rules.getD (p i) 0=d.rules.getD i 0
section
variable {d e : Dfa} {p q : Nat → Nat}
theorem fM.valid(h:fM d e p q)(hv:bD d):bD e:=by
 obtain⟨h1,h2,h3,k,hk,hr⟩:=id hv;refine⟨by rw[h.len];exact h1,by rw[h.len];exact h2,by rw[h.len,h.rlen],k,by rw[h.cls];exact hk,fun i hi=>?_⟩;rw[h.len]at hi⊢;have hq:=h.qlt i hi;have hp:=h.pq i hi;obtain⟨a,b,c,dd⟩:=hr _ hq;have e1:=h.row _ hq;have e2:=h.rule _ hq;rw[hp]at e1 e2;refine⟨by rw[e2];exact a,by rw[e2];exact b,by rw[e1];simpa[rowN_MiniM]using c,fun j hj=>?_⟩;rw[e1]at hj⊢;have hj':j<(rowN_MiniM d (q i)).length:=by simpa using hj
 rw[tK];have e3:((rowN_MiniM d (q i)).map p).getD j 0=p ((rowN_MiniM d (q i)).getD j 0):=by simp[List.getD,hj']
 rw[e3];have:=h.lt _ (vX hv hq (cE _ j 0 hj'));omega
theorem fM.rowN(h:fM d e p q){i:Nat}(hi:i<d.next.length):rowN_MiniM e (p i)=(Cm.rowN_MiniM d i).map p:=by
 unfold Cm.rowN_MiniM;rw[h.row i hi];simp[nl,Cm.rowN_MiniM,Function.comp_def]
theorem fM.rule'(h:fM d e p q){i:Nat}(hi:i<d.next.length):gZ e (p i)=gZ d i:=h.rule i hi
theorem fM.kN(h:fM d e p q)(hv:bD d):kN_MiniE e=kN_MiniE d:=by
 have h1:=xO (h.valid hv);rw[h.cls,xO hv]at h1;injection h1 with h1;exact h1.symm
theorem fM.inj(h:fM d e p q){a b:Nat}(ha:a<d.next.length)(hb:b<d.next.length)(hab:p a=p b):a=b:=by
 rw[<-h.qp a ha,<-h.qp b hb,hab]
theorem fM.step(h:fM d e p q)(hv:bD d){i c:Nat}(hi:i<d.next.length)(hc:c<Cm.kN_MiniE d):aM e (p i) c=p (aM d i c):=by
 unfold aM;rw[h.rowN hi];have:c<(Cm.rowN_MiniM d i).length:=by rw[bW hv hi];exact hc
 simp[List.getD,this]
theorem fM.run(h:fM d e p q)(hv:bD d)(cs:List Nat):∀i,i<d.next.length->(∀c∈cs,c<Cm.kN_MiniE d)->q42 d i cs<d.next.length/\q42 e (p i) cs=p (q42 d i cs):=by
 induction cs with
 |nil=>intro i hi _;exact⟨hi,rfl⟩
 |cons c cs ih=>
  intro i hi hc;have h1:=hc c (by simp);obtain⟨h2,h3⟩:=ih _ (kV hv hi h1) (fun x hx=>hc x (by simp[hx]));refine⟨h2,?_⟩;show q42 e (aM e (p i) c) cs=_;rw[h.step hv hi h1];exact h3
theorem fM.eqv(h:fM d e p q)(hv:bD d){i j:Nat}(hi:i<d.next.length)(hj:j<d.next.length):Eqv e (p i) (p j)↔Eqv d i j:=by
 constructor
 ·intro he cs hcs
  have h1:=he cs (fun c hc=>by rw[h.kN hv];exact hcs c hc);obtain⟨a1,a2⟩:=h.run hv cs i hi hcs;obtain⟨b1,b2⟩:=h.run hv cs j hj hcs;rwa [a2,b2,h.rule' a1,h.rule' b1]at h1
 intro he cs hcs;have qfi:∀c∈cs,c<Cm.kN_MiniE d:=fun c hc=>by rw[<-h.kN hv];exact hcs c hc
 obtain⟨a1,a2⟩:=h.run hv cs i hi qfi;obtain⟨b1,b2⟩:=h.run hv cs j hj qfi;rw[a2,b2,h.rule' a1,h.rule' b1];exact he cs qfi
theorem fM.upTo(h:fM d e p q)(hv:bD d){l:List Nat}(hl:∀x∈l,x<d.next.length):upTo (Cm.rowN_MiniM e) (l.map p)=(upTo (Cm.rowN_MiniM d) l).map p:=by
 unfold Cm.upTo
 have e1:(l.map p).flatMap (Cm.rowN_MiniM e)=(l.flatMap (Cm.rowN_MiniM d)).map p:=by
  rw[List.flatMap_map,List.map_flatMap]
  have:∀m:List Nat,(∀x∈m,x<d.next.length)->(m.flatMap fun a=>Cm.rowN_MiniM e (p a))=m.flatMap fun a=>(Cm.rowN_MiniM d a).map p:=by
   intro m
   induction m with
   |nil=>intro _;rfl
   |cons a m ih=>intro hm;rw[List.flatMap_cons,List.flatMap_cons,ih fun x hx=>hm x (by simp[hx]),h.rowN (hm a (by simp))]
  exact this l hl
 have h0:=hv.1;have e2:(0::(l.map p).flatMap (Cm.rowN_MiniM e))=(0::l.flatMap (Cm.rowN_MiniM d)).map p:=by rw[e1,qJ,h.zero]
 rw[e2]
 have hb:∀x∈(0::l.flatMap (Cm.rowN_MiniM d)),x<d.next.length:=by
  intro x hx;rcases List.mem_cons.1 hx with rfl|hx
  ·omega
  obtain⟨s,hs,hx⟩:=List.mem_flatMap.1 hx;exact vX hv (hl s hs) hx
 exact y9 _ p fun x hx y hy hxy=>h.inj (hb x hx) (hb y hy) hxy
theorem fM.reach(h:fM d e p q)(hv:bD d):reach e=(Cm.reach d).map p:=by
 obtain⟨hm,hb,-⟩:=eT hv;refine(eT (h.valid hv)).1.unique ⟨fun j hj=>?_,?_⟩
 ·rw[qB]at hj
  rw[<-List.map_take,h.upTo hv fun x hx=>hb x (List.mem_of_mem_take hx),qB];exact hm.more j hj
 rw[h.upTo hv hb,hm.all]
theorem I4{α γ β:Type} [DecidableEq β](f:γ->β)(g:α->γ)(l:List α):aG f (l.map g)=(aG (fun x=>f (g x)) l).map g:=by
 induction l using bR with
 |h0=>rfl
 |h l a ih=>
  rw[qH,qJ,ju,b6,b6,ih,List.map_map];by_cases hm:f (g a)∈(aG (fun x=>f (g x)) l).map (fun x=>f (g x))
  ·rw[qw hm,qw (by simpa using hm)]
  rw[qv hm,qv (by simpa using hm),qH];rfl
theorem fM.heads(h:fM d e p q)(hv:bD d):heads e=(Cm.heads d).map p/\∀s∈Cm.reach d,num e (p s)=num d s:=by
 have hb:=(eT hv).2.1
 have hc:=f7 (f:=fun x=>cM e (p x)) (g:=cM d) (l:=Cm.reach d) fun a ha b hb'=>by
  show cM e (p a)=cM e (p b)↔_;rw[xM,xM];exact h.eqv hv (hb a ha) (hb b hb')
 unfold Cm.heads num;rw[h.reach hv,I4,hc.1];refine⟨rfl,fun s hs=>?_⟩;rw[<-hc.2 s hs];unfold aW;rw[I4,List.map_map];rfl
theorem fM.rows(h:fM d e p q)(hv:bD d):cK e=cK d:=by
 obtain⟨h1,h2⟩:=h.heads hv;unfold cK;rw[h1,List.map_map];apply List.map_congr_left;intro f hf;have hr:=vZ hf;simp only[Function.comp_apply];rw[h.rowN (fU hv hr),List.map_map]
 congr 1
 apply List.map_congr_left;intro t ht;exact h2 t (sO hv hr ht)
theorem fM.make(h:fM d e p q)(hv:bD d):bX e=bX d:=by
 have h1:=(h.heads hv).1;unfold bX;rw[h.rows hv,h.cls,h1,List.map_map]
 congr 1
 apply List.map_congr_left;intro f hf;exact h.rule' (fU hv (vZ hf))
end
end Go.Cm
