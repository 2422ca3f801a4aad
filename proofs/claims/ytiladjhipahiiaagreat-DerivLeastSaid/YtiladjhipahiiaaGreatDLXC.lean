/- Walks of functions and plain facts, joined and squeezed by a program. Conditions: as each says. -/
import Derived.Deep.LoopGhost
import Derived.Test.YtiladjhipahiiaaGreatDLXA
set_option maxHeartbeats 8000000
set_option maxRecDepth 100000
set_option linter.unusedSimpArgs false
open Go.Proofs.Tryz
namespace Go.Cm
open Go.RowKit Go.Proofs
theorem ZmC0{P:Prop}(h:P:=by
 obtain⟨j,wn,rfl,rfl,hw1,hw2,hrr⟩:=hrel;by_cases hlt:j<l.length
 ·have hcell:=HC.o j hlt
  have hb:=HB.o (by omega);have he:=HE.o wn l j hlt;rw[<-hrr]at he;have hw3:=hw2 hlt;generalize l.getD j zN=x at*;obtain⟨xk,n,xa,xb,xc,xd,xl,xh⟩:=x;simp only at hcell he;clear hrr hw2;by_cases h1:n<0
  ·rw[qw (.inl h1)]at he
   have HE2:=qa he;clear he;go_wp2;go_ret;exact⟨by rw[HE2.o];rfl,dP _⟩
  by_cases h2:(l.length:Int)<n
  ·rw[qw (.inr h2)]at he
   have HE2:=qa he;clear he;go_wp2;go_ret;exact⟨by rw[HE2.o];rfl,dP _⟩
  rw[qv (by omega)]at he;have hwr:(wn-1)+n=wn+(n-1):=by omega
  by_cases h3:wn+(n-1)=0
  ·rw[qw h3]at he
   have HE2:=qa he;clear he;go_wp2;go_ret;exact⟨by rw[HE2.o];rfl,dP _⟩
  rw[qv h3]at he;have HE2:=qa he;clear he;go_wp2
  go_round
  case rel=>
   refine⟨j+1,wn+(n-1),by go_num,by go_num,by omega,fun h=>by omega,HE2.o⟩
  case measure=>simp[intOf];omega
 have hdr:l.drop j=[]:=List.drop_eq_nil_of_le (by omega);rw[hdr]at hrr;simp only[yE]at hrr;have HE2:=qa hrr;clear hrr;go_wp2;go_ret;exact⟨by rw[HE2.o];rfl,dP _⟩):P:=h
theorem ZmC1{P:Prop}(h:P:=by
 rw[run_sliceAt_slice (P:=P) (t:=t) (h:=h1),run_slice_l (t:=t) (ht:=h1) (h0:=by omega) (h1:=by omega),h2]
 simp[Result.andThen]):P:=h
theorem Own.storeList{B:Nat}{E:TypeId}{g n cap:Nat}(ys:List Value):∀{w:World} {xs:List Value} (o:Nat),Own w B E (.slice (some ⟨g,0,none⟩) n cap) xs->o+ys.length<=xs.length->
  Own (w.setCells g o ys) B E (.slice (some ⟨g,0,none⟩) n cap) (xs.take o++ys++xs.drop (o+ys.length))/\w.grownBy (w.setCells g o ys) (some g):=by
 induction ys with
 |nil=>intro w xs o h hl;simp only[World.setCells];exact⟨by simpa using h,dL w _⟩
 |cons y ys ih=>
  intro w xs o h hl;rw[qA]at hl;obtain⟨h1,h2⟩:=h.store o y;obtain⟨h3,h4⟩:=ih (o+1) h1 (by rw[jb];omega);refine⟨?_,aL h2 h4⟩
  have e:(xs.set o y).take (o+1)++ys++(xs.set o y).drop (o+1+ys.length)=xs.take o++y::ys++xs.drop (o+(y::ys).length):=by
   rw[List.take_set,qM (by omega),List.set_append_right _ _ (by simp[Nat.min_le_left]),List.drop_set_of_lt (by omega)];simp[Nat.min_eq_left (show o<=xs.length by omega),show o+1+ys.length=o+(ys.length+1) by omega]
  rw[<-e];exact h3
theorem bK{P:Program}{ops:Array Oper}{rest:List Oper}{o:Oper}{a:Act}{w:World}{Q:Exit->Act->World->Prop}(hgd:o.guard=none)(ty:TypeId)(x y:Operand)(ho:o.op=.store ty x y)
  (B E g n cap:Nat) (hx:a.eval x=.pointer (some ⟨g,0,none⟩)) (C:Array Value) (hy:a.eval y=.agg C) (hi:(P.info? ty).map (·.size)=some C.size) (xs:List Value) (hown:Own w B E (.slice (some ⟨g,0,none⟩) n cap) xs) (hle:C.size<=xs.length) (h1:∀u∈C.toList,u.oneCell'=true)
  (h:∀w',Own w' B E (.slice (some ⟨g,0,none⟩) n cap) (C.toList++xs.drop C.size)->w.grownBy w' (some g)->wpList P ops Q rest (a.put o.dst undef) w'):wpList P ops Q (o::rest) a w:=by
 have hst:=run_storeCells_cells (P:=P) g 0 C.toList 0 w (fun j hj=>by
   rw[qR]at hj;rw[qI,hown.cell (by omega)];rfl) (fun j _=>by rw[qI];exact hown.free j) h1
 have hl:=hown.storeList C.toList 0 (by simpa using hle);rw[List.take_zero,List.nil_append,qI,qR]at hl;refine wpList_plain hgd fun K hK=>?_
 have hsz:(sizeOf ty).run P w=.ok C.size w:=by
  cases hq:P.info? ty with
  |none=>simp[hq]at hi
  |some i=>simp[hq]at hi;simp[sizeOf,typeInfo,hq,hi]
 unfold Oper.wp execOp;simp only[ho,hx,hy,Instr.storeAt,Instr.sureAddr,storeVar,Value.cells,Sem.run_bind,Sem.run_pure,Result.andThen_ok,hsz,ne_eq,not_true_eq_false,jt,hst];exact hK _ _ (h _ hl.1 hl.2)
structure sU(w:World)(T n g:Nat)(cl:List Int):Prop where
 own:Own w g T (.slice (some ⟨g,0,none⟩) n n) (ints cl)
 len:cl.length=n
section
variable {w w' : World} {T n g : Nat} {cl : List Int}
theorem sU.keep{row:Option Nat}(h:sU w T n g cl)(hg:w.grownBy w' row)(hne:row≠some g):sU w' T n g cl:=⟨h.own.keep hg (.inr (fun e=>hne e.symm)),h.len⟩
theorem sU.up(h:sU w T n g cl)(hb:Below w.heap.size w w'):sU w' T n g cl:=⟨h.own.up hb,h.len⟩
theorem sU.lt(h:sU w T n g cl):g<w.heap.size:=(h.own.lt g rfl).2
theorem sU.cell(h:sU w T n g cl){c:Nat}(hc:c<n):w.cell? ⟨g,c,none⟩=some (.int .i64 (cl.getD c 0)):=by
 rw[h.own.cell (by rw[aS,h.len];exact hc),fF _ _ (by rw[h.len];exact hc)]
theorem sU.free(h:sU w T n g cl)(c:Nat):w.frozen? ⟨g,c,none⟩=false:=h.own.free c
theorem sU.set(h:sU w T n g cl)(c:Nat)(k:Int):sU (w.setCell ⟨g,c,none⟩ (.int .i64 k)) T n g (cl.set c k)/\w.grownBy (w.setCell ⟨g,c,none⟩ (.int .i64 k)) (some g):=by
 obtain⟨h1,h2⟩:=h.own.store c (.int .i64 k);have e:(ints cl).set c (.int .i64 k)=ints (cl.set c k):=by simp[ints,aC]
 rw[e]at h1;exact⟨⟨h1,by simp[h.len]⟩,h2⟩
theorem sU.open(h:sU w T n g cl):∃A,w.heap[g]? =some (.cells A T (0,0))/\A.size=n/\A.toList=ints cl:=by
 rcases h.own.1.2 with⟨h1,_⟩|⟨g',cap,cur,h1,_,hg,hnc,hcm,hcs,qcz⟩
 ·cases h1
 simp only[Value.slice.injEq,jC,Addr.mk.injEq,and_true]at h1;obtain⟨rfl,h2,rfl⟩:=h1;have hl:(ints cl).length=n:=by rw[aS,h.len]
 have hs:cur.size=n:=by omega
 refine⟨cur,hg,hs,?_⟩;rw[<-qcz,qG];rw[qR];omega
theorem q6Q(w:World)(T:Nat)(A:Array Value)(cl:List Int)(hA:A.toList=ints cl)(hn:cl.length<=4294967296):sU (w.alloc (.cells A T)) T cl.length w.heap.size cl:=by
 have hs:A.size=cl.length:=by rw[<-qR,hA,aS]
 have h:=cN w w.heap.size A T (by rw[hs];exact hn) (qb _);rw[hA,hs]at h;exact⟨h,rfl⟩
end
theorem mZ{P:Program}{ops:Array Oper}{rest:List Oper}{o:Oper}{a:Act}{w:World}{Q:Exit->Act->World->Prop}(hgd:o.guard=none)(T n:Nat)(x:Operand)(ho:o.op=.load T x)
  (g:Nat) (hx:a.eval x=.pointer (some ⟨g,0,none⟩)) (A:Array Value) (hs:A.size=n) (hg:w.heap[g]? =some (.cells A T (0,0))) (d:TypeDesc) (hu:P.underlying T=some d) (hd:(match d with|.struct _|.array _ _=>true|_=>false)=true) (hi:(P.info? T).map (·.size)=some n)
  (h:wpList P ops Q rest (a.put o.dst (.agg A)) w):wpList P ops Q (o::rest) a w:=
 kI hgd T x ho g 0 n hx T A A (0,0) d hg hu hd hi (by rw[hs];omega) (by rw[<-hs];simp) h
theorem I7{P:Program}{C:World->Prop}{o:Oper}{a:Act}{K:Act->Prop}(T n:Nat)(x:Operand)(ho:o.op=.load T x)(g:Nat)(hx:a.eval x=.pointer (some ⟨g,0,none⟩))(A:Array Value)(hs:A.size=n)
  (hg:∀w',C w'->w'.heap[g]? =some (.cells A T (0,0))) (d:TypeDesc) (hu:P.underlying T=some d) (hd:(match d with|.struct _|.array _ _=>true|_=>false)=true) (hi:(P.info? T).map (·.size)=some n) (h:K (a.put o.dst (.agg A))):o.quiet P a C K:=by
 refine⟨.agg A,fun w' hw'=>?_,h⟩;have hl:=dA (P:=P) w' g 0 n T T A (0,0) d (hg w' hw') hu hd hi (by rw[hs];omega);unfold Oper.quietAt execOp;simp only[ho,hx,Instr.loadAt,Instr.sureAddr,Sem.run_bind,Sem.run_pure,Result.andThen_ok,hl,Oper.quietUpon];exact⟨trivial,by rw[<-hs];simp⟩
theorem lZ{P:Program}{fn:Func}{tmps:Array Value}{w:World}{a t b:Nat}{ad:Addr}{v:Value}(hf:fn.results=#[.cell a t,.tmp b])(ha:tmps.getD a undef=.pointer (some ad))(hl:(loadVar t ad).run P w=.ok v w):
  (results fn tmps).run P w=.ok (.tuple #[v,tmps.getD b undef]) w:=by
 have ha':tmps[a]?.getD undef=.pointer (some ad):=by simpa using ha
 simp[results,hf,asAddr,ha',hl]
theorem bS{P:Program}{fn:Func}{tmps:Array Value}{w:World}{ds:List Deferred}{s b t:Nat}{ad:Addr}{x y:Value}{R:Ending->World->Prop}(hf:fn.results=#[.cell s t,.tmp b])(ha:tmps.getD s undef=.pointer (some ad))(hb:tmps.getD b undef=y)(hd:ds=[])
  (hl:(loadVar t ad).run P w=.ok x w) (h:R (.returned (.tuple #[x,y])) w):bodyPost P fn R .ret ⟨tmps,ds⟩ w:=
 bodyPost_ret (v:=.tuple #[x,y]) (by rw[lZ hf ha hl,hb]) hd h
theorem sU.load{P:Program}{w:World}{T n g:Nat}{cl:List Int}(h:sU w T n g cl)(d:TypeDesc)(hu:P.underlying T=some d)(hd:(match d with|.struct _|.array _ _=>true|_=>false)=true)(hi:(P.info? T).map (·.size)=some n):
  (loadVar T ⟨g,0,none⟩).run P w=.ok (.agg (ints cl).toArray) w:=by
 obtain⟨A,hg,hs,hA⟩:=h.open;have hl:=dA (P:=P) w g 0 n T T A (0,0) d hg hu hd hi (by omega);have e:A.extract 0 (0+n)=(ints cl).toArray:=by rw[qI,<-hs,Array.extract_size,<-hA]
 rw[e]at hl;exact hl
def SlK(k:Nat)(w:World)(v:Value)(l:List (List Value)):Prop:=
 ∃oa cap b off,v=.slice oa l.length cap/\Hd w oa l.length cap b off/\∀i,i<l.length->∀c,c<k->w.cell? ⟨b,off+i*k+c,none⟩=some ((l.getD i []).getD c undef)
theorem SlK.up{k:Nat}{w w':World}{v:Value}{l:List (List Value)}(h:SlK k w v l)(hb:Below w.heap.size w w'):SlK k w' v l:=by
 obtain⟨oa,cap,b,off,rfl,hd,hc⟩:=h;refine⟨oa,cap,b,off,rfl,⟨hd.hat,hd.hcap,hd.hmax,hd.hsml,fun h=>qe (hd.hblk h) hb.size⟩,fun i hi c hcl=>?_⟩;rw[hb.cell (p:=⟨b,off+i*k+c,none⟩) (hd.hblk (by omega))];exact hc i hi c hcl
theorem SlK.nil(k:Nat)(w:World):SlK k w (.slice none 0 0) []:=⟨none,0,0,0,rfl,⟨fun h=>absurd h (jK 0),qb _,by simp[maxLen],by simp,fun h=>absurd h (jK 0)⟩,fun i hi=>absurd hi (qC i)⟩
theorem yS{P:Program}{E:TypeId}{k:Nat}(hE:(P.info? E).map (·.size)=some k)(W:World):(sizeOf E).run P W=.ok k W:=by
 cases hq:P.info? E with
 |none=>simp[hq]at hE
 |some inf=>
  have hs:inf.size=k:=by simpa[hq]using hE
  simp[sizeOf,typeInfo,hq,hs]
theorem mJ{P:Program}{w:World}{oa:Option Addr}{b off len cap:Nat}(k:Nat)(T E:TypeId)(hT:P.underlying T=some (.slice E))(hE:(P.info? E).map (·.size)=some k)(h:Hd w oa len cap b off):
  ∀(W:World) (kd:IntKind) (i:Int),0<=i->i<len->(Instr.indexAt T (.slice oa len cap) (.int kd i)).run P W=.ok (.pointer (some ⟨b,off+i.toNat*k,none⟩)) W:=by
 intro W kd i h0 h1;rw[h.hat (by omega)];have he:P.elem T=E:=by simp[Program.elem,hT]
 rw[run_indexAt_slice W T ⟨b,off,none⟩ len cap kd i (by rw[he];exact hT),qw ⟨h0,h1⟩,he,yS hE];simp[Result.andThen,Addr.add]
theorem rX{P:Program}{k:Nat}(t E:TypeId)(ht:P.underlying t=some (.slice E))(hE:(P.info? E).map (·.size)=some k):P.underlying t=some (.slice (P.elem t))/\∀W:World,(sizeOf (P.elem t)).run P W=.ok k W:=by
 have he:P.elem t=E:=by simp[Program.elem,ht]
 refine⟨by rw[he];exact ht,fun W=>?_⟩;rw[he];exact yS hE W
theorem SlK.high{P:Program}{k:Nat}{w:World}{v:Value}{l:List (List Value)}(h:SlK k w v l)(t E:TypeId)(ht:P.underlying t=some (.slice E))(hE:(P.info? E).map (·.size)=some k)(n:Nat)(hn:n<=l.length):
  ∃u,(∀W:World,(Instr.sliceAt t v (some (.int .i64 (n:Int))) none none).run P W=.ok u W)/\SlK k w u (l.drop n):=by
 obtain⟨oa,cap,b,off,rfl,hd,hc⟩:=h;obtain⟨h1,h2⟩:=rX t E ht hE;have hcap:=hd.hcap;have hl:(l.drop n).length=l.length-n:=by rw[j4]
 refine⟨sliced oa n l.length cap k,fun W=>?_,?_⟩
 ·exact ZmC1
 refine⟨if cap=n then oa else oa.map (·.add (n*k)),cap-n,b,off+n*k,by rw[hl];simp[sliced],⟨fun h0=>?_,by omega,by have:=hd.hmax;omega,by have:=hd.hsml;omega,fun h0=>hd.hblk (by omega)⟩,fun i hi c hcl=>?_⟩
 ·rw[hl]at h0
  rw[qv (by omega),hd.hat (by omega)];simp[kJ]
 rw[hl]at hi;have:=hc (n+i) (by omega) c hcl;rw[jN,<-jL]at this;rw[this];simp[List.getD]
theorem SlK.mid{P:Program}{k:Nat}{w:World}{v:Value}{l:List (List Value)}(h:SlK k w v l)(t E:TypeId)(ht:P.underlying t=some (.slice E))(hE:(P.info? E).map (·.size)=some k)(n m:Nat)(hn:n<=m)(hm:m<=l.length):
  ∃u,(∀W:World,(Instr.sliceAt t v (some (.int .i64 (n:Int))) (some (.int .i64 (m:Int))) none).run P W=.ok u W)/\SlK k w u ((l.drop n).take (m-n)):=by
 obtain⟨oa,cap,b,off,rfl,hd,hc⟩:=h;obtain⟨h1,h2⟩:=rX t E ht hE;have hcap:=hd.hcap;have hl:((l.drop n).take (m-n)).length=m-n:=by rw[qX,j4];omega
 refine⟨sliced oa n m cap k,fun W=>?_,?_⟩
 ·rw[run_sliceAt_slice (P:=P) (t:=t) (h:=h1),run_slice_lh (t:=t) (ht:=h1) (h0:=by omega) (h1:=by omega) (h2:=by omega),h2]
  simp[Result.andThen]
 refine⟨if cap=n then oa else oa.map (·.add (n*k)),cap-n,b,off+n*k,by rw[hl];simp[sliced],⟨fun h0=>?_,by omega,by have:=hd.hmax;omega,by have:=hd.hsml;omega,fun h0=>hd.hblk (by omega)⟩,fun i hi c hcl=>?_⟩
 ·rw[hl]at h0
  rw[qv (by omega),hd.hat (by omega)];simp[kJ]
 rw[hl]at hi;have:=hc (n+i) (by omega) c hcl;rw[jN,<-jL]at this;rw[this];simp[List.getD,hi]
theorem hJ{P:Program}(w:World)(g off n:Nat)(ty:TypeId)(C:Array Value)(d:TypeDesc)(hc:∀c,c<n->w.cell? ⟨g,off+c,none⟩=some (C.getD c undef))(hs:C.size=n)
  (hu:P.underlying ty=some d) (hd:(match d with|.struct _|.array _ _=>true|_=>false)=true) (hi:(P.info? ty).map (·.size)=some n):
  (loadVar ty ⟨g,off,none⟩).run P w=.ok (.agg C) w:=by
 have hl:(loadCells ⟨g,off,none⟩ C.toList.length).run P w=.ok C.toList.toArray w:=
  run_loadCells_list (P:=P) w ⟨g,off,none⟩ C.toList (fun j v hv=>by
   rw[kJ]
   have hj:j<n:=by
    have:=(List.getElem?_eq_some_iff.1 hv).1;rw[qR]at this;omega
   rw[hc j hj];simp only[j9]at hv;simp[qS,hv])
 rw[qR,hs]at hl;simp only[Array.toArray_toList]at hl
 have hagg:(isAgg ty).run P w=.ok true w:=by
  unfold isAgg;rw[Sem.run_bind,run_underlying hu w];cases d<;>simp_all
 simp[loadVar,Sem.run_bind,hagg,yS hi,hl]
theorem aH{P:Program}{ops:Array Oper}{rest:List Oper}{o:Oper}{a:Act}{w:World}{Q:Exit->Act->World->Prop}(hgd:o.guard=none)(ty:TypeId)(x:Operand)(ho:o.op=.load ty x)
  (g off n:Nat) (hx:a.eval x=.pointer (some ⟨g,off,none⟩)) (C:Array Value) (d:TypeDesc) (hc:∀c,c<n->w.cell? ⟨g,off+c,none⟩=some (C.getD c undef)) (hs:C.size=n)
  (hu:P.underlying ty=some d) (hd:(match d with|.struct _|.array _ _=>true|_=>false)=true) (hi:(P.info? ty).map (·.size)=some n)
  (h:wpList P ops Q rest (a.put o.dst (.agg C)) w):wpList P ops Q (o::rest) a w:=by
 refine wpList_plain hgd fun K hK=>?_;unfold Oper.wp execOp;simp only[ho,hx,Instr.loadAt,Instr.sureAddr,Sem.run_bind,Sem.run_pure,Result.andThen_ok,hJ w g off n ty C d hc hs hu hd hi];exact hK _ _ h
theorem cB{P:Program}{C:World->Prop}{o:Oper}{a:Act}{K:Act->Prop}(T n:Nat)(x:Operand)(ho:o.op=.load T x)(g off:Nat)(hx:a.eval x=.pointer (some ⟨g,off,none⟩))(A:Array Value)(hs:A.size=n)
  (hg:∀w',C w'->∀c,c<n->w'.cell? ⟨g,off+c,none⟩=some (A.getD c undef)) (d:TypeDesc) (hu:P.underlying T=some d) (hd:(match d with|.struct _|.array _ _=>true|_=>false)=true) (hi:(P.info? T).map (·.size)=some n) (h:K (a.put o.dst (.agg A))):o.quiet P a C K:=by
 refine⟨.agg A,fun w' hw'=>?_,h⟩;have hl:=hJ (P:=P) w' g off n T A d (hg w' hw') hs hu hd hi;unfold Oper.quietAt execOp;simp only[ho,hx,Instr.loadAt,Instr.sureAddr,Sem.run_bind,Sem.run_pure,Result.andThen_ok,hl,Oper.quietUpon];exact⟨trivial,trivial⟩
def eL(k:Nat)(w:World)(B:Nat)(E:TypeId)(v:Value)(l:List (List Value)):Prop:=
 w.ownsRow B E k v l.length l.flatten/\l.length<=140737488351232/\∀x∈l,x.length=k
theorem eL.nil(k:Nat)(w:World)(B:Nat)(E:TypeId):eL k w B E (.slice none 0 0) []:=⟨World.ownsRow_nil w B E k,by simp,by simp⟩
theorem tC{k:Nat}{l:List (List Value)}(h:∀x∈l,x.length=k):l.flatten.length=l.length*k:=by
 induction l with
 |nil=>simp
 |cons x l ih=>
  rw[List.flatten_cons,qj,ih (fun y hy=>h y (qY _ hy)),h x jh,qA,Nat.succ_mul,Nat.add_comm]
theorem wM{k:Nat}{l:List (List Value)}(h:∀x∈l,x.length=k):∀(i c:Nat),i<l.length->c<k->l.flatten[i*k+c]? =(l.getD i [])[c]? :=by
 induction l with
 |nil=>intro i c hi;simp at hi
 |cons x l ih=>
  intro i c hi hc;have hx:=h x jh;rw[List.flatten_cons];cases i with
  |zero=>rw[Nat.zero_mul,qI,qW (by omega)];simp
  |succ i=>
   rw[ji (by rw[hx,Nat.succ_mul];omega),hx,show(i+1)*k+c-k=i*k+c by rw[Nat.succ_mul];omega,ih (fun y hy=>h y (qY _ hy)) i c (by simpa using hi) hc];simp
theorem eL.sl{k:Nat}{w:World}{B:Nat}{E:TypeId}{v:Value}{l:List (List Value)}(h:eL k w B E v l):SlK k w v l:=by
 obtain⟨⟨_,h⟩,hl,hk⟩:=h;rcases h with⟨rfl,h0⟩|⟨g,cap,cur,rfl,hb,hg,hnc,hcm,hcs,qcz⟩
 ·obtain rfl:l=[]:=List.length_eq_zero_iff.1 h0
  exact SlK.nil k w
 refine⟨some ⟨g,0,none⟩,cap,g,0,rfl,⟨fun _=>rfl,hnc,hcm,hl,fun _=>(Array.getElem?_eq_some_iff.1 hg).1⟩,fun i hi c hc=>?_⟩;rw[cell_of_row w g (0+i*k+c) cur E (0,0) hg,qI]
 have hlt:i*k+c<l.length*k:=by
  have h1:(i+1)*k<=l.length*k:=Nat.mul_le_mul_right k hi;rw[Nat.succ_mul]at h1;omega
 have h1:l.flatten[i*k+c]? =cur[i*k+c]? :=by
  rw[<-qcz,List.getElem?_take,qw hlt];simp
 rw[<-h1,wM hk i c hi hc];have hxl:c<(l.getD i []).length:=by rw[hk _ (by simp[List.getD,hi])];exact hc
 generalize l.getD i []=y at*;simp[List.getD,hxl]
theorem eL.keep{k:Nat}{w w':World}{B:Nat}{E:TypeId}{v:Value}{l:List (List Value)}{row:Option Nat}(h:eL k w B E v l)(hg:w.grownBy w' row)(hne:v.ownBlock=none\/v.ownBlock≠row):eL k w' B E v l:=⟨h.1.kept hg hne,h.2⟩
theorem eL.up{k:Nat}{w w':World}{B:Nat}{E:TypeId}{v:Value}{l:List (List Value)}(h:eL k w B E v l)(hb:Below w.heap.size w w'):eL k w' B E v l:=
 h.keep (row:=none) ⟨hb.os,hb.tape,hb.output,hb.size,fun k hk _=>hb.block k hk⟩ (by cases v.ownBlock<;>simp)
theorem eL.lt{k:Nat}{w:World}{B:Nat}{E:TypeId}{v:Value}{l:List (List Value)}(h:eL k w B E v l):∀q,v.ownBlock=some q->B<=q/\q<w.heap.size:=h.1.lt
theorem eL.mono{k:Nat}{w:World}{B B' E:Nat}{v:Value}{l:List (List Value)}(h:eL k w B E v l)(hB:B'<=B):eL k w B' E v l:=
 ⟨⟨h.1.1,h.1.2.imp id fun⟨g,cap,cur,h1,h2,h3⟩=>⟨g,cap,cur,h1,by omega,h3⟩⟩,h.2⟩
theorem q6R{P:Program}{k:Nat}(w:World)(B:Nat)(t ty E:TypeId)(z:Value)(bytes:Nat)(ht:P.underlying t=some (.slice E))(qcE:(P.info? E).map (fun i=>(i.zero,i.size,i.bytes))=some (some z,k,bytes))(hz:z.cells.size=k)(hk:0<k)(hby:bytes<=128)
  (v:Value) (xs:List (List Value)) (hown:eL k w B E v xs) (xv:Value) (news:List (List Value)) (hx:SlK k w xv news) (hnk:∀x∈news,x.length=k) (h1:∀u∈news.flatten,u.oneCell'=true) (hlen:xs.length+news.length<=1000000000) (hB:B<=w.heap.size):
  ∃v' w',(Builtin.append_ #[t,t] ty #[v,xv]).run P w=.ok v' w'/\eL k w' B E v' (xs++news)/\w.grownBy w' v.ownBlock/\(∀q,v'.ownBlock=some q->v.ownBlock=some q\/w.heap.size<=q):=by
 obtain⟨i0,hi,hz0,hz1,hz2⟩:∃i0,P.info? E=some i0/\i0.zero=some z/\i0.size=k/\i0.bytes=bytes:=by
  cases hq:P.info? E with
  |none=>simp[hq]at qcE
  |some i0=>simp[hq]at qcE;exact⟨i0,rfl,qcE.1,qcE.2.1,qcE.2.2⟩
 have hl1:xs.length+news.length<=maxLen:=by simp only[maxLen];omega
 have hl2:(xs.length+news.length)*bytes<=140737488355328:=by
  have:=Nat.mul_le_mul hlen hby;omega
 obtain⟨oa,cx,b,off,rfl,hd,hc⟩:=hx;obtain⟨hrow,hsm,hxk⟩:=hown;have qcI:news.flatten.length=news.length*k:=tC hnk
 have hall:∀x∈xs++news,x.length=k:=fun x hx=>by
  rcases List.mem_append.1 hx with h|h
  ·exact hxk x h
  exact hnk x h
 have qcN:(xs++news).length<=140737488351232:=by rw[qj];omega
 by_cases hn:news=[]
 ·subst hn
  refine⟨v,w,?_,⟨by simpa using hrow,by simpa using hsm,by simpa using hxk⟩,⟨rfl,rfl,rfl,qb _,fun _ _ _=>rfl⟩,fun k hk=>.inl hk⟩;rcases hrow.2 with⟨rfl,hx0⟩|⟨g,cap,cur,rfl,_,_,hnc,_⟩
  ·cases oa<;>simp[Builtin.append_,run_underlying ht,sizeOf,typeInfo,hi,Builtin.lenOf,Builtin.firstCells,loadCells,loadCellsFrom]
  cases oa<;>simp[Builtin.append_,run_underlying ht,sizeOf,typeInfo,hi,Builtin.lenOf,Builtin.firstCells,loadCells,loadCellsFrom,hnc,storeCells]
 have qcL:0<news.length:=List.length_pos_iff.2 hn;obtain rfl:=hd.hat qcL
 have hnews:∀j u,news.flatten[j]? =some u->w.cell? ((⟨b,off,none⟩:Addr).add j)=some u:=fun j u hu=>by
  have hj:=(List.getElem?_eq_some_iff.1 hu).1;rw[qcI]at hj;have hdm:j=j/k*k+j%k:=by rw[Nat.mul_comm];exact(Nat.div_add_mod j k).symm
  have hq:j/k<news.length:=(Nat.div_lt_iff_lt_mul hk).2 hj;have hm:=jW j hk;rw[kJ,hdm,<-jL,hc (j/k) hq (j%k) hm];rw[hdm,wM hnk _ _ hq hm]at hu;rw[qu,hu];rfl
 rcases hrow.2 with⟨rfl,hx0⟩|⟨g,cap,cur,rfl,hbg,hg,hnc,hcm,hcs,qcz⟩
 ·obtain rfl:xs=[]:=List.length_eq_zero_iff.1 hx0
  obtain⟨v',w',hr,ho,hgr,-⟩:=run_append_own (P:=P) w w.heap.size t ty E i0 z k bytes ht hi hz0 hz1 hz2 hz hk (.slice none 0 0) 0 [] (World.ownsRow_nil _ _ _ _) ⟨b,off,none⟩ news.length cx news.flatten qcI hnews h1 (by simpa using hl1) (by simpa using hl2) (qb _);have hkk:=ho.lt;refine⟨v',w',hr,⟨⟨by simpa using qcI,?_⟩,qcN,hall⟩,hgr,fun q hq=>.inr (hkk q hq).1⟩;simp only[qI,List.nil_append]at ho;rcases ho.2 with⟨h1,h2⟩|⟨g,cap,cur,h1,h2,h3⟩
  ·exact .inl ⟨h1,by simpa using h2⟩
  exact .inr ⟨g,cap,cur,h1,by omega,by simpa using h3⟩
 by_cases hroom:xs.length+news.length<=cap
 ·obtain⟨w',hr,ho,hgr⟩:=run_append_fits (P:=P) w B t ty E i0 k ht hi hz1 g xs.length cap xs.flatten ⟨hrow.1,.inr ⟨g,cap,cur,rfl,hbg,hg,hnc,hcm,hcs,qcz⟩⟩ ⟨b,off,none⟩ news.length cx news.flatten qcI hnews h1 hroom
  exact⟨_,w',hr,⟨by rw[qj,jy];exact ho,qcN,hall⟩,hgr,fun k hk=>.inl hk⟩
 have holds:∀j u,xs.flatten[j]? =some u->w.cell? ((⟨g,0,none⟩:Addr).add j)=some u:=World.ownsRow.cells (g:=g) hrow rfl;have hxl:xs.flatten.length=xs.length*k:=tC hxk;have hr:=run_append_grow (P:=P) w t ty E i0 z ht hi hz0 ⟨g,0,none⟩ xs.length cap xs.flatten (by rw[hz1];exact hxl) holds ⟨b,off,none⟩ news.length cx news.flatten (by rw[hz1];exact qcI) hnews (by omega) (by omega) (growslice_fits (by omega) (by rw[hz2];exact hl2));have hge:=grownCap_ge w (xs.length+news.length) cap E;have qgK:grownCap w (xs.length+news.length) cap E<=maxLen:=grownCap_le_maxLen w _ cap E hl1;refine⟨_,_,hr,⟨⟨by rw[qj,jy,qj,hxl,qcI,jN],.inr ⟨w.heap.size,_,_,by rw[qj],hB,heap_alloc_new w.drew _,by rw[qj];exact hge,qgK,?_,?_⟩⟩,qcN,hall⟩,⟨rfl,rfl,rfl,by simp,fun k hk _=>Below.heap_alloc w.drew _ k hk⟩,fun k hk=>.inr (by simp[Value.ownBlock]at hk;omega)⟩
 ·simp only[Array.size_append,jD,size_zeroCells,hz,hxl,qcI,<-jN]
  congr 1;omega
 simp only[Array.toList_append,qk,qj,jy];rw[<-qk,jN,<-hxl,<-qcI,<-qj];exact List.take_left
theorem eP{P:Program}{ops:Array Oper}{rest:List Oper}{o:Oper}{a:Act}{w:World}{Q:Exit->Act->World->Prop}(k:Nat)(hgd:o.guard=none)(s x:Operand)(t:TypeId)
  (ho:o.op=.call {callee:=.builtin .append,args:=#[s,x],argTypes:=#[t,t]})
  (B E:TypeId) (z:Value) (bytes:Nat) (ht:P.underlying t=some (.slice E)) (qcE:(P.info? E).map (fun i=>(i.zero,i.size,i.bytes))=some (some z,k,bytes)) (hz:z.cells.size=k) (hk:0<k) (hby:bytes<=128)
  (v:Value) (xs:List (List Value)) (hs:a.eval s=v) (hown:eL k w B E v xs) (xv:Value) (news:List (List Value)) (hxe:a.eval x=xv) (hx:SlK k w xv news) (hnk:∀x∈news,x.length=k) (h1:∀u∈news.flatten,u.oneCell'=true) (hlen:xs.length+news.length<=1000000000) (hB:B<=w.heap.size)
  (h:∀v' w',eL k w' B E v' (xs++news)->w.grownBy w' v.ownBlock->(∀q,v'.ownBlock=some q->v.ownBlock=some q\/w.heap.size<=q)->wpList P ops Q rest (a.put o.dst v') w'):wpList P ops Q (o::rest) a w:=by
 obtain⟨v',w',hr,h2,h3,h4⟩:=q6R (P:=P) w B t o.type E z bytes ht qcE hz hk hby v xs hown xv news hx hnk h1 hlen hB;refine wpList_plain hgd fun K hK=>?_;unfold Oper.wp execOp;simp only[ho,resolve,invoke,builtin,Sem.run_bind,Sem.run_pure,Result.andThen_ok,List.map_toArray,qJ,ju,hs,hxe,hr];exact hK _ _ (h v' w' h2 h3 h4)
theorem tD(k:Nat)(w:World)(c:Array Value)(E:TypeId)(l:List (List Value))(hl:c.toList=l.flatten)(hk:∀x∈l,x.length=k)(hc:l.length<=4294967296):SlK k (w.alloc (.cells c E)) (.slice (some ⟨w.heap.size,0,none⟩) l.length l.length) l:=by
 refine⟨some ⟨w.heap.size,0,none⟩,l.length,w.heap.size,0,rfl,⟨fun _=>rfl,qb _,by simp only[maxLen];omega,by omega,fun _=>by simp⟩,fun i hi x hx=>?_⟩;rw[qI,World.cell?_alloc_new,<-j9,hl,wM hk i x hi hx];have hxl:x<(l.getD i []).length:=by rw[hk _ (by simp[List.getD,hi])];exact hx
 generalize l.getD i []=y at*;simp[List.getD,hxl]
theorem oU(k:Nat)(w:World)(B:Nat)(c:Array Value)(E:TypeId)(l:List (List Value))(hl:c.toList=l.flatten)(hk:∀x∈l,x.length=k)(hc:l.length<=4294967296)(hB:B<=w.heap.size):eL k (w.alloc (.cells c E)) B E (.slice (some ⟨w.heap.size,0,none⟩) l.length l.length) l:=by
 have hs:c.size=l.length*k:=by rw[<-qR,hl,tC hk]
 have h:=World.ownsRow_lit (base:=B) (e:=E) (size:=k) w c l.length hB (by simp only[maxLen];omega) hs;rw[hl]at h;exact⟨h,by omega,hk⟩
end Go.Cm
namespace Go.Cm
open Go.RowKit Go.Proofs
structure xS(S:Nat->Prop)(w w':World):Prop where
 os:w'.os=w.os
 tape:w'.tape=w.tape
 output:w'.output=w.output
 size:w.heap.size<=w'.heap.size
 block:∀k,k<w.heap.size->¬S k->w'.heap[k]? =w.heap[k]?
structure Gw(S:Nat->Prop)(w:World)(S':Nat->Prop)(w':World):Prop where
 fx:xS S w w'
 sub:∀k,S' k->S k\/w.heap.size<=k
section
variable {S S' S1 S2 : Nat → Prop} {w w' w1 w2 : World}
theorem xS.refl(S:Nat->Prop)(w:World):xS S w w:=⟨rfl,rfl,rfl,qb _,fun _ _ _=>rfl⟩
theorem Gw.refl(S:Nat->Prop)(w:World):Gw S w S w:=⟨xS.refl S w,fun _ h=>.inl h⟩
theorem Gw.trans(h:Gw S w S1 w1)(k:Gw S1 w1 S2 w2):Gw S w S2 w2:=
 ⟨⟨k.fx.os.trans h.fx.os,k.fx.tape.trans h.fx.tape,k.fx.output.trans h.fx.output,qc h.fx.size k.fx.size,fun i hi h1=>by
   rw[k.fx.block i (qe hi h.fx.size) (fun e=>(h.sub i e).elim h1 (fun z=>by omega)),h.fx.block i hi h1]⟩,
  fun i hi=>(k.sub i hi).elim (h.sub i) (fun z=>.inr (qc h.fx.size z))⟩
theorem d7(S:Nat->Prop)(h:Below w.heap.size w w1):Gw S w S w1:=⟨⟨h.os,h.tape,h.output,h.size,fun k hk _=>h.block k hk⟩,fun _ h=>.inl h⟩
theorem Gw.up(h:Gw S w S1 w1)(k:Below w1.heap.size w1 w2):Gw S w S1 w2:=h.trans (d7 S1 k)
theorem dQ{row:Option Nat}(h:w.grownBy w1 row)(hr:∀k,row=some k->S k)(hs:∀k,S' k->S k\/w.heap.size<=k):Gw S w S' w1:=
 ⟨⟨h.os,h.tape,h.output,h.size,fun k hk h1=>h.block k hk (fun e=>h1 (hr k e.symm))⟩,hs⟩
theorem Gw.out(h:Gw S w S' w1){p:Nat}(hp:p<w.heap.size)(hn:¬S p):¬S' p:=fun e=>(h.sub p e).elim hn (fun z=>by omega)
theorem Gw.blk(h:Gw S w S' w1){p:Nat}(hp:p<w.heap.size)(hn:¬S p):w1.heap[p]? =w.heap[p]? :=h.fx.block p hp hn
theorem Gw.cell(h:Gw S w S' w1){b o:Nat}(hb:b<w.heap.size)(hn:¬S b):w1.cell? ⟨b,o,none⟩=w.cell? ⟨b,o,none⟩:=World.cell?_of_block (w:=w) (h.fx.block b hb hn)
theorem Gw.size(h:Gw S w S' w1):w.heap.size<=w1.heap.size:=h.fx.size
theorem Gw.below(h:Gw S w S' w1){n:Nat}(hn:n<=w.heap.size)(hS:∀k,S k->n<=k):Below n w w1:=
 ⟨h.fx.os,h.fx.tape,h.fx.output,h.fx.size,fun k hk=>h.fx.block k (by omega) (fun e=>by have:=hS k e;omega)⟩
end
def Sep(L:List (Option Nat)):Prop:=∀i j k:Nat,L[i]? =some (some k)->L[j]? =some (some k)->i=j
theorem Sep.set{L:List (Option Nat)}(h:Sep L){n i:Nat}{b:Option Nat}(hlt:∀j k:Nat,L[j]? =some (some k)->k<n)(hb:∀k:Nat,b=some k->L[i]? =some (some k)\/n<=k):Sep (L.set i b):=by
 intro x y k hx hy;rw[jQ]at hx hy;by_cases hix:i=x<;>by_cases hiy:i=y
 ·omega
 ·rw[qw hix]at hx
  rw[qv hiy]at hy;split at hx
  ·have hbk:b=some k:=by injection hx
   rcases hb k hbk with h1|h1
   ·exact absurd (h i y k h1 hy) hiy
   have:=hlt y k hy;omega
  cases hx
 ·rw[qv hix]at hx
  rw[qw hiy]at hy;split at hy
  ·have hbk:b=some k:=by injection hy
   rcases hb k hbk with h1|h1
   ·exact absurd (h i x k h1 hx) hix
   have:=hlt x k hx;omega
  cases hy
 rw[qv hix]at hx;rw[qv hiy]at hy;exact h x y k hx hy
theorem Sep.snoc{L:List (Option Nat)}(h:Sep L):Sep (L++[none]):=by
 have key:∀x k:Nat,(L++[none])[x]? =some (some k)->L[x]? =some (some k):=fun x k hx=>by
  by_cases hl:x<L.length
  ·rwa [qW hl]at hx
  rw[ji (by omega)]at hx;by_cases h0:x-L.length=0
  ·rw[h0]at hx;simp at hx
  rw[qQ (by simp;omega)]at hx;cases hx
 exact fun x y k hx hy=>h x y k (key x k hx) (key y k hy)
structure Ed where
 tgt:Int
 free:Bool
 a:Int
 b:Int
 c:Int
 d:Int
def edC(e:Ed):List Value:=[.int .i64 e.tgt,.bool e.free,.int .u64 e.a,.int .u64 e.b,.int .u64 e.c,.int .u64 e.d]
theorem Q4(l:List Ed):∀x∈l.map edC,x.length=6:=by
 intro x hx;obtain⟨e,-,rfl⟩:=List.mem_map.1 hx
 rfl
def stV(q:Nat):Value:=.func (.func 52) #[] #[.pointer (some ⟨q,0,none⟩)]
def ffV(q:Nat):Value:=.func (.func 53) #[] #[.pointer (some ⟨q,0,none⟩)]
def mkL(q g:Nat)(ve vr:Value)(vs:List Value):List (Option Nat):=some q::some g::ve.ownBlock::vr.ownBlock::vs.map Value.ownBlock
def MkS(g:Nat)(ve vr:Value)(vs:List Value)(k:Nat):Prop:=k=g\/ve.ownBlock=some k\/vr.ownBlock=some k\/∃i,i<vs.length/\(vs.getD i undef).ownBlock=some k
structure Mk(w:World)(g q:Nat)(ve:Value)(vs:List Value)(vr:Value)(ll:List (List Ed))(rl:List Int)(F:Int):Prop where
 box:Own w 0 78 (.slice (some ⟨g,0,none⟩) 5 5) [ve,.int .i64 F,vr,stV q,ffV q]
 hq:w.cell? ⟨q,0,none⟩=some (.pointer (some ⟨g,0,none⟩))
 hql:q<w.heap.size
 outer:Own w 0 112 ve vs
 len:vs.length=ll.length
 rows:∀i,i<ll.length->eL 6 w 0 114 (vs.getD i undef) ((ll.getD i []).map edC)
 rules:Own w 0 3 vr (ints rl)
 sep:Sep (mkL q g ve vr vs)
section
variable {w w' w0 w1 : World} {g q : Nat} {ve vr : Value} {vs : List Value} {ll : List (List Ed)} {rl : List Int} {F : Int}
theorem pZ(q g:Nat)(ve vr:Value)(vs:List Value)(i:Nat)(hi:i<vs.length):(mkL q g ve vr vs)[i+4]? =some (vs.getD i undef).ownBlock:=by
 simp[mkL,List.getD,hi]
theorem Mk.c0(h:Mk w g q ve vs vr ll rl F):w.cell? ⟨g,0,none⟩=some ve:=h.box.cell (by simp)
theorem Mk.c1(h:Mk w g q ve vs vr ll rl F):w.cell? ⟨g,1,none⟩=some (.int .i64 F):=h.box.cell (by simp)
theorem Mk.c2(h:Mk w g q ve vs vr ll rl F):w.cell? ⟨g,2,none⟩=some vr:=h.box.cell (by simp)
theorem Mk.c3(h:Mk w g q ve vs vr ll rl F):w.cell? ⟨g,3,none⟩=some (stV q):=h.box.cell (by simp)
theorem Mk.c4(h:Mk w g q ve vs vr ll rl F):w.cell? ⟨g,4,none⟩=some (ffV q):=h.box.cell (by simp)
theorem Mk.f(h:Mk w g q ve vs vr ll rl F)(c:Nat):w.frozen? ⟨g,c,none⟩=false:=h.box.free c
theorem Mk.lt(h:Mk w g q ve vs vr ll rl F):g<w.heap.size:=h.box.blk.2
theorem Mk.all(h:Mk w g q ve vs vr ll rl F):∀j k:Nat,(mkL q g ve vr vs)[j]? =some (some k)->k<w.heap.size:=by
 intro j k hj;rcases j with _|_|_|_|j
 ·simp[mkL]at hj;subst hj;exact h.hql
 ·simp[mkL]at hj;subst hj;exact h.lt
 ·simp[mkL]at hj;exact(h.outer.lt k hj).2
 ·simp[mkL]at hj;exact(h.rules.lt k hj).2
 by_cases hjl:j<vs.length
 ·rw[pZ _ _ _ _ _ j hjl]at hj
  injection hj with hj;exact((h.rows j (by rw[<-h.len];exact hjl)).lt k hj).2
 simp[mkL,qQ (show vs.length<=j by omega)]at hj
theorem Mk.mem(h:Mk w g q ve vs vr ll rl F){k:Nat}(hk:MkS g ve vr vs k):∃j,1<=j/\(mkL q g ve vr vs)[j]? =some (some k):=by
 rcases hk with rfl|hk|hk|⟨i,hi,hk⟩
 ·exact⟨1,by omega,rfl⟩
 ·exact⟨2,by omega,by simp[mkL,hk]⟩
 ·exact⟨3,by omega,by simp[mkL,hk]⟩
 exact⟨i+4,by omega,by rw[pZ _ _ _ _ _ i hi,hk]⟩
theorem Mk.mlt(h:Mk w g q ve vs vr ll rl F){k:Nat}(hk:MkS g ve vr vs k):k<w.heap.size:=by
 obtain⟨j,-,hj⟩:=h.mem hk;exact h.all j k hj
theorem Mk.mq(h:Mk w g q ve vs vr ll rl F):¬MkS g ve vr vs q:=by
 intro hk;obtain⟨j,h1,hj⟩:=h.mem hk;have:=h.sep 0 j q rfl hj;omega
theorem Mk.keep(h:Mk w g q ve vs vr ll rl F){row:Option Nat}(hg:w.grownBy w' row)(hr:∀j k:Nat,(mkL q g ve vr vs)[j]? =some (some k)->row≠some k):Mk w' g q ve vs vr ll rl F:=
 ⟨h.box.keep hg (bN fun k hk=>hr 1 k (by rw[show k=g from(qr hk).symm];rfl)),by rw[<-h.hq];exact World.cell?_of_block (w:=w) (hg.block q h.hql (fun e=>hr 0 q rfl e.symm)),qe h.hql hg.size,h.outer.keep hg (bN fun k hk=>hr 2 k (by simp[mkL,hk])),h.len,
  fun i hi=>(h.rows i hi).keep hg (bN fun k hk=>hr (i+4) k (by rw[pZ _ _ _ _ _ i (by rw[h.len];exact hi),hk])),h.rules.keep hg (bN fun k hk=>hr 3 k (by simp[mkL,hk])),h.sep⟩
theorem Mk.up(h:Mk w g q ve vs vr ll rl F)(hb:Below w.heap.size w w'):Mk w' g q ve vs vr ll rl F:=h.keep (row:=none) (aK hb none) (fun _ _ _ e=>by cases e)
end
end Go.Cm
namespace Go.Cm
structure St where
 e:List (List Ed)
 r:List Int
structure Pc where
 f:Nat
 l:Nat
def yT(tgt:Int):Ed:=⟨tgt,true,0,0,0,0⟩
def q35(ll:List (List Ed))(i:Nat)(e:Ed):List (List Ed):=ll.set i (ll.getD i []++[e])
def dR(s:St):St:=⟨s.e++[[]],s.r++[-1]⟩
def bM(i tgt:Nat)(s:St):St:=⟨q35 s.e i (yT tgt),s.r⟩
def two(s:St):St:=dR (dR s)
def aN(s:St):Pc:=⟨s.e.length,s.e.length+1⟩
def dM(x:Nd)(tgt:Nat):Ed:=⟨tgt,decide (x.kd=2),x.a,x.b,x.c,x.d⟩
def oW(x:Nd)(s:St):St:=⟨(two s).e.set s.e.length [dM x (s.e.length+1)],(two s).r⟩
def iff(b:Bool)(f:St->St)(s:St):St:=if b then f s else s
def m4(out again:Bool)(q:Pc)(s:St):St:=
 let p:=aN s
 iff again (bM q.l q.f) (iff out (bM p.f p.l) (bM q.l p.l (bM p.f q.f (two s))))
def zP:Pc:=⟨0,0⟩
def fB(ps:List Pc):Nat->St->St
 |0,s=>s
 |i+1,s=>iff (decide (0<i)) (bM (ps.getD (i-1) zP).l (ps.getD i zP).f) (fB ps i s)
def sV(ps:List Pc):Pc:=⟨(ps.getD 0 zP).f,(ps.getD (ps.length-1) zP).l⟩
def cS(p:Pc)(ps:List Pc):Nat->St->St
 |0,s=>s
 |i+1,s=>bM (ps.getD i zP).l p.l (bM p.f (ps.getD i zP).f (cS p ps i s))
def Q6(x:Nd)(t:Nat)(p:Pc)(part:St->Pc×St)(i:Nat)(y:Nat×St):Nat×St:=
 let qs:=part y.2
 (qs.1.l,iff (decide (x.hi<0/\i+1=t)) (bM qs.1.l qs.1.f) (iff (decide (x.lo<=i+1)) (bM qs.1.l p.l) (bM y.1 qs.1.f qs.2)))
def dS(x:Nd)(t:Nat)(p:Pc)(part:St->Pc×St)(s:St):Nat->Nat×St
 |0=>(p.f,s)
 |i+1=>Q6 x t p part i (dS x t p part s i)
def rY(x:Nd)(part:St->Pc×St)(s:St):Pc×St:=
 let p:=aN s
 (p,(dS x (fA x).toNat p part (iff (decide (x.lo=0)) (bM p.f p.l) (two s)) (fA x).toNat).2)
def eC(y:List Pc×St):Pc×St:=(y.1.getD 0 zP,y.2)
def eD(x:Nd)(K:St->List Pc×St)(s:St):Pc×St:=
 if x.kd=1\/x.kd=2 then(aN s,oW x s)
 else if x.kd=8 then rY x (fun s=>eC (K s)) s
 else if x.kd=5\/x.kd=6\/x.kd=7 then(aN (K s).2,m4 (decide (x.kd≠6)) (decide (x.kd≠7)) (eC (K s)).1 (K s).2)
 else if x.kd=3 then(sV (K s).1,fB (K s).1 (K s).1.length (K s).2)
 else(aN (K s).2,cS (aN (K s).2) (K s).1 (K s).1.length (two (K s).2))
def gP:Fo->St->List Pc×St
 |.nil,s=>([],s)
 |.cons x k r,s=>
  let y:=eD x (fun s=>gP k s) s
  let z:=gP r y.2
  (y.1::z.1,z.2)
def d5(x:Nd)(u:Nat):Nat:=if x.kd=1\/x.kd=2 then 2 else if x.kd=4\/x.kd=5\/x.kd=6\/x.kd=7 then u+2 else if x.kd=8 then 2+(fA x).toNat*u else u
def usz:Fo->Nat
 |.nil=>0
 |.cons x k r=>d5 x (usz k)+usz r
theorem Q7:∀f,mM okN f->(iF f=usz f\/(1000000<=iF f/\1000000<=(usz f:Int)))
 |.nil,_=>.inl rfl
 |.cons x k r,h=>by
  have hk:=Q7 k h.2.1;have hr:=Q7 r h.2.2;have h0:=(lL r h.2.2).1
  have key:sR x (iF k)=d5 x (usz k)\/(1000000<=sR x (iF k)/\1000000<=(d5 x (usz k):Int)):=by
   have hok:=okN_kd' h.1;unfold sR d5;by_cases h12:x.kd=1\/x.kd=2
   ·rw[qw h12,qw h12];left;rfl
   rw[qv h12,qv h12];by_cases h47:x.kd=4\/x.kd=5\/x.kd=6\/x.kd=7
   ·rw[qw h47,qw h47];push_cast;omega
   rw[qv h47,qv h47];by_cases h8:x.kd=8
   ·rw[qw h8,qw h8]
    have ht:=uB h.1 h8;obtain⟨t,ht'⟩:∃t:Nat,fA x=t:=⟨(fA x).toNat,by omega⟩;rw[ht']at ht⊢;simp only[qD]
    push_cast
    rcases hk with hk|⟨hk1,hk2⟩
    ·rw[hk]
     have:(0:Int)<=(t:Int)*(usz k:Int):=Int.mul_nonneg (by omega) (by omega);omega
    rcases jG t with h|h
    ·subst h;left;simp;omega
    have e1:(1:Int)*iF k<=t*iF k:=Int.mul_le_mul_of_nonneg_right (by omega) (by omega);have e2:(1:Int)*(usz k:Int)<=t*(usz k:Int):=Int.mul_le_mul_of_nonneg_right (by omega) (by omega);omega
   rw[qv h8,qv h8];omega
  simp only[iF,usz]
  push_cast
  omega
where
  okN_kd' {x : Nd} (h : okN x) : x.kd = 1 ∨ x.kd = 2 ∨ x.kd = 3 ∨ x.kd = 4 ∨ x.kd = 5 ∨ x.kd = 6 ∨ x.kd = 7 ∨ x.kd = 8 := by unfold okN at h; omega
theorem q8j{f:Fo}(h:mM okN f)(hs:iF f<=10000):iF f=usz f:=by
 rcases Q7 f h with h1|⟨h1,h2⟩
 ·exact h1
 omega
def tot(ll:List (List Ed)):Nat:=(ll.map List.length).sum
theorem q12(ll:List (List Ed)):∀(i:Nat) (r:List Ed),tot (ll.set i r)+(ll.getD i []).length<=tot ll+r.length:=by
 induction ll with
 |nil=>intro i r;simp[tot,List.getD]
 |cons x l ih=>
  intro i r;cases i with
  |zero=>simp[tot,List.getD];omega
  |succ i=>
   have h:=ih i r;simp only[tot,List.set_cons_succ,qJ,List.sum_cons,List.getD_cons_succ]at h⊢;omega
theorem q8R(ll:List (List Ed))(i:Nat)(e:Ed):tot (q35 ll i e)<=tot ll+1:=by
 have h:=q12 ll i (ll.getD i []++[e]);rw[qj,qE]at h;unfold q35;omega
theorem q36(ll:List (List Ed))(i:Nat):(ll.getD i []).length<=tot ll:=by
 have h:=q12 ll i [];simp only[qO]at h;omega
theorem q47(ll:List (List Ed))(i:Nat)(e:Ed):(q35 ll i e).length=ll.length:=by simp[q35]
@[simp] theorem eQ(i tgt:Nat)(s:St):(bM i tgt s).e.length=s.e.length:=q47 _ _ _
@[simp] theorem q48(i tgt:Nat)(s:St):(bM i tgt s).r=s.r:=rfl
theorem eE(i tgt:Nat)(s:St):tot (bM i tgt s).e<=tot s.e+1:=q8R _ _ _
@[simp] theorem m5(s:St):(two s).e.length=s.e.length+2:=by simp[two,dR]
@[simp] theorem qba(s:St):(two s).r.length=s.r.length+2:=by simp[two,dR]
@[simp] theorem r5(s:St):tot (two s).e=tot s.e:=by simp[two,dR,tot]
@[simp] theorem q6S(x:Nd)(s:St):(oW x s).e.length=s.e.length+2:=by simp[oW]
@[simp] theorem qbO(x:Nd)(s:St):(oW x s).r.length=s.r.length+2:=by simp[oW]
theorem q6T(x:Nd)(s:St):tot (oW x s).e<=tot s.e+1:=by
 have h:=q12 (two s).e s.e.length [dM x (s.e.length+1)];rw[r5]at h;simp only[oW];simp only[qE]at h;omega
theorem q8S(b:Bool)(f:St->St)(s:St)(h:(f s).e.length=s.e.length):(iff b f s).e.length=s.e.length:=by unfold iff;split<;>simp[h]
theorem qbb(b:Bool)(f:St->St)(s:St)(h:(f s).r=s.r):(iff b f s).r=s.r:=by unfold iff;split<;>simp[h]
theorem q8T(b:Bool)(f:St->St)(s:St)(h:tot (f s).e<=tot s.e+1):tot (iff b f s).e<=tot s.e+1:=by unfold iff;split<;>omega
@[simp] theorem K0(b:Bool)(i tgt:Nat)(s:St):(iff b (bM i tgt) s).e.length=s.e.length:=q8S _ _ _ (eQ _ _ _)
@[simp] theorem q6U(b:Bool)(i tgt:Nat)(s:St):(iff b (bM i tgt) s).r=s.r:=qbb _ _ _ rfl
theorem mK(b:Bool)(i tgt:Nat)(s:St):tot (iff b (bM i tgt) s).e<=tot s.e+1:=q8T _ _ _ (eE _ _ _)
@[simp] theorem gR(ps:List Pc)(s:St):∀i,(fB ps i s).e.length=s.e.length
 |0=>rfl
 |i+1=>by simp[fB,gR ps s i]
@[simp] theorem q13(ps:List Pc)(s:St):∀i,(fB ps i s).r=s.r
 |0=>rfl
 |i+1=>by simp[fB,q13 ps s i]
theorem zQ(ps:List Pc)(s:St):∀i,tot (fB ps i s).e<=tot s.e+(i-1)
 |0=>by simp[fB]
 |1=>by simp[fB,iff]
 |i+2=>by
  have h1:=zQ ps s (i+1);have h2:=mK (decide (0<i+1)) (ps.getD (i+1-1) zP).l (ps.getD (i+1) zP).f (fB ps (i+1) s);rw[fB];omega
@[simp] theorem iX(p:Pc)(ps:List Pc)(s:St):∀i,(cS p ps i s).e.length=s.e.length
 |0=>rfl
 |i+1=>by simp[cS,iX p ps s i]
@[simp] theorem q8U(p:Pc)(ps:List Pc)(s:St):∀i,(cS p ps i s).r=s.r
 |0=>rfl
 |i+1=>by simp[cS,q8U p ps s i]
theorem q14(p:Pc)(ps:List Pc)(s:St):∀i,tot (cS p ps i s).e<=tot s.e+2*i
 |0=>by simp[cS]
 |i+1=>by
  have h1:=q14 p ps s i;have h2:=eE p.f (ps.getD i zP).f (cS p ps i s);have h3:=eE (ps.getD i zP).l p.l (bM p.f (ps.getD i zP).f (cS p ps i s));rw[cS];omega
@[simp] theorem yU(o a:Bool)(q:Pc)(s:St):(m4 o a q s).e.length=s.e.length+2:=by simp[m4]
@[simp] theorem qaa(o a:Bool)(q:Pc)(s:St):(m4 o a q s).r.length=s.r.length+2:=by simp[m4]
theorem q6V(o a:Bool)(q:Pc)(s:St):tot (m4 o a q s).e<=tot s.e+4:=by
 unfold m4
 dsimp only
 have h1:=eE (aN s).f q.f (two s);have h2:=eE q.l (aN s).l (bM (aN s).f q.f (two s));have h3:=mK o (aN s).f (aN s).l (bM q.l (aN s).l (bM (aN s).f q.f (two s)));have h4:=mK a q.l q.f (iff o (bM (aN s).f (aN s).l) (bM q.l (aN s).l (bM (aN s).f q.f (two s))));rw[r5]at h1;omega
structure Y2(s:St)(y:List Pc×St)(u c:Nat):Prop where
 len:y.2.e.length=s.e.length+u
 rlen:y.2.r.length=s.r.length+u
 plen:y.1.length=c
 rng:∀i,i<c->(y.1.getD i zP).f<y.2.e.length/\(y.1.getD i zP).l<y.2.e.length
 tot:tot y.2.e+3*c<=tot s.e+2*u
 two:2*c<=u
structure q8V(s:St)(u:Nat)(i:Nat)(y:Nat×St):Prop where
 len:y.2.e.length=s.e.length+2+i*u
 rlen:y.2.r.length=s.r.length+2+i*u
 at_:y.1<y.2.e.length
 tot:tot y.2.e<=tot s.e+1+i*(2*u)
theorem q1Q(x:Nd)(t:Nat)(part:St->Pc×St)(u:Nat)(hp:∀s,Y2 s ([(part s).1],(part s).2) u 1)(s:St):∀i,q8V s u i (dS x t (aN s) part (iff (decide (x.lo=0)) (bM (aN s).f (aN s).l) (two s)) i)
 |0=>by
  refine⟨by simp[dS],by simp[dS],by simp[dS,aN],?_⟩;have:=mK (decide (x.lo=0)) (aN s).f (aN s).l (two s);rw[r5]at this;simp only[dS];omega
 |i+1=>by
  have h:=q1Q x t part u hp s i;simp only[dS,Q6];generalize dS x t (aN s) part (iff (decide (x.lo=0)) (bM (aN s).f (aN s).l) (two s)) i=y at*;have hq:=hp y.2;have h1:=hq.len;have h2:=hq.rlen;have h3:=hq.rng 0 (by omega);have h4:=hq.tot;simp only[ja]at h1 h2 h3 h4;have e:(i+1)*u=i*u+u:=by rw[jN,Nat.one_mul]
  have e2:(i+1)*(2*u)=i*(2*u)+2*u:=by rw[jN,Nat.one_mul]
  refine⟨?_,?_,?_,?_⟩
  ·simp only[K0,eQ];rw[h1,h.len,e];omega
  ·simp only[q6U,q48];rw[h2,h.rlen,e];omega
  ·simp only[K0,eQ];exact h3.2
  have a1:=eE y.1 (part y.2).1.f (part y.2).2;have a2:=mK (decide (x.lo<=(i:Int)+1)) (part y.2).1.l (aN s).l (bM y.1 (part y.2).1.f (part y.2).2);have a3:=mK (decide (x.hi<0/\i+1=t)) (part y.2).1.l (part y.2).1.f (iff (decide (x.lo<=(i:Int)+1)) (bM (part y.2).1.l (aN s).l) (bM y.1 (part y.2).1.f (part y.2).2));have a4:=h.tot;rw[e2];simp only;omega
theorem oX(x:Nd)(K:St->List Pc×St)(u c:Nat)(hx:okN x)(hc:x.n=c)(hK:∀s,Y2 s (K s) u c)(s:St):Y2 s ([(eD x K s).1],(eD x K s).2) (d5 x u) 1:=by
 have qdi:∀(p:Pc) (m:Nat),p.f<m->p.l<m->∀i,i<1->(([p]:List Pc).getD i zP).f<m/\(([p]:List Pc).getD i zP).l<m:=fun p m h1 h2 i hi=>by
  obtain rfl:i=0:=by omega
  exact⟨h1,h2⟩
 have hk:=hK s;have k1:=hk.len;have k2:=hk.rlen;have k3:=hk.plen;have k4:=hk.rng;have k5:=hk.tot;have k6:=hk.two;unfold okN at hx;unfold eD d5;by_cases h12:x.kd=1\/x.kd=2
 ·rw[qw h12,qw h12]
  have:=q6T x s;exact⟨by simp,by simp,rfl,qdi _ _ (by simp[aN]) (by simp[aN]),by simp only;omega,by omega⟩
 rw[qv h12,qv h12];by_cases h8:x.kd=8
 ·rw[qw h8,qv (by omega),qw h8]
  have hc1:c=1:=by omega
  subst hc1
  have hp:∀s,Y2 s ([(eC (K s)).1],(eC (K s)).2) u 1:=fun s=>by
   have h:=hK s;exact⟨h.len,h.rlen,rfl,qdi _ _ (h.rng 0 (by omega)).1 (h.rng 0 (by omega)).2,h.tot,h.two⟩
  have hr:=q1Q x (fA x).toNat (fun s=>eC (K s)) u hp s (fA x).toNat;unfold rY
  dsimp only
  have r1:=hr.len;have r2:=hr.rlen;have r4:=hr.tot;have e:(fA x).toNat*(2*u)=2*((fA x).toNat*u):=by rw[Nat.mul_left_comm]
  rw[e]at r4;generalize dS x (fA x).toNat (aN s) (fun s=>eC (K s)) _ (fA x).toNat=y at*;exact⟨by dsimp only;omega,by dsimp only;omega,rfl,qdi _ _ (by dsimp only[aN];omega) (by dsimp only[aN];omega),by dsimp only;omega,by omega⟩
 rw[qv h8];by_cases qeA:x.kd=5\/x.kd=6\/x.kd=7
 ·rw[qw qeA,qw (by omega)]
  have hc1:c=1:=by omega
  subst hc1;have:=q6V (decide (x.kd≠6)) (decide (x.kd≠7)) (eC (K s)).1 (K s).2;exact⟨by simp only[yU];omega,by simp only[qaa];omega,rfl,qdi _ _ (by simp only[yU,aN];omega) (by simp only[yU,aN];omega),by simp only;omega,by omega⟩
 rw[qv qeA];by_cases h3:x.kd=3
 ·rw[qw h3,qv (by omega),qv h8]
  have:=zQ (K s).1 (K s).2 (K s).1.length;rw[k3]at this;have hc2:2<=c:=by omega
  exact⟨by simp only[gR];exact k1,by simp only[q13];exact k2,rfl,qdi _ _ (by simp only[gR,sV];exact(k4 0 (by omega)).1) (by simp only[gR,sV,k3];exact(k4 (c-1) (by omega)).2),by simp only[k3];omega,by omega⟩
 rw[qv h3,qw (by omega)];have:=q14 (aN (K s).2) (K s).1 (two (K s).2) (K s).1.length;rw[k3,r5]at this;exact⟨by simp only[iX,m5];omega,by simp only[q8U,qba];omega,rfl,qdi _ _ (by simp only[iX,m5,aN];omega) (by simp only[iX,m5,aN];omega),by simp only[k3];omega,by omega⟩
theorem nC:∀(f:Fo),wf f->mM okN f->∀s,Y2 s (gP f s) (usz f) (cnt f)
 |.nil,_,_,s=>⟨rfl,rfl,rfl,fun i hi=>absurd hi (qC i),qb _,qb _⟩
 |.cons x k r,hw,ha,s=>by
  have h1:=oX x (fun s=>gP k s) (usz k) (cnt k) ha.1 hw.1 (nC k hw.2.1 ha.2.1) s;have h2:=nC r hw.2.2 ha.2.2 (eD x (fun s=>gP k s) s).2;simp only[gP,usz,cnt];generalize eD x (fun s=>gP k s) s=y at*;have a1:=h1.len;have a2:=h1.rlen;have a3:=h1.rng 0 (by omega);have a4:=h1.tot;have a5:=h1.two;have b1:=h2.len;have b2:=h2.rlen;have b3:=h2.plen;have b4:=h2.tot;have b5:=h2.two;simp only[ja]at a1 a2 a3 a4;refine⟨by dsimp only;omega,by dsimp only;omega,by simp[b3],fun i hi=>?_,by dsimp only;omega,by omega⟩;cases i with
  |zero=>simp only[ja];omega
  |succ i=>simp only[List.getD_cons_succ];exact h2.rng i (by omega)
end Go.Cm
namespace Go.Cm
open Go.RowKit Go.Proofs
def ndC(x:Nd):List Value:=[.int .i64 x.kd,.int .i64 x.n,.int .u64 x.a,.int .u64 x.b,.int .u64 x.c,.int .u64 x.d,.int .i64 x.lo,.int .i64 x.hi]
def zN:Nd:=⟨0,0,0,0,0,0,0,0⟩
def bE(w:World)(v:Value)(l:List Nd):Prop:=SlK 8 w v (l.map ndC)
theorem bE.up{w w':World}{v:Value}{l:List Nd}(h:bE w v l)(hb:Below w.heap.size w w'):bE w' v l:=SlK.up h hb
theorem bE.open{w:World}{v:Value}{l:List Nd}(h:bE w v l):
  ∃oa cap b off,v=.slice oa l.length cap/\Hd w oa l.length cap b off/\∀i,i<l.length->∀c,c<8->w.cell? ⟨b,off+i*8+c,none⟩=some ((ndC (l.getD i zN)).getD c undef):=by
 obtain⟨oa,cap,b,off,rfl,hd,hc⟩:=h;rw[qB]at hd hc⊢;refine⟨oa,cap,b,off,rfl,hd,fun i hi c hcl=>?_⟩;rw[hc i hi c hcl];simp[List.getD,hi]
theorem fG{w:World}{oa:Option Addr}{b off len cap:Nat}(h:Hd w oa len cap b off):
  ∀(W:World) (kd:IntKind) (i:Int),0<=i->i<len->(Instr.indexAt 42 (.slice oa len cap) (.int kd i)).run prog W=.ok (.pointer (some ⟨b,off+i.toNat*8,none⟩)) W:=
 mJ (P:=prog) 8 42 98 underlying42 (by kernel_rfl) h
theorem Y4(L:Nat)(want:Int)(l:List Nd)(k:Nat)(h:k<l.length):
  yE L want (l.drop k) k=if(l.getD k zN).n<0\/(L:Int)<(l.getD k zN).n then -1 else if want+((l.getD k zN).n-1)=0 then(k:Int)+1 else yE L (want+((l.getD k zN).n-1)) (l.drop (k+1)) (k+1):=by
 rw[jE h];simp[yE,List.getD,h]
theorem qbP{w:World}{v:Value}{l:List Nd}(h:bE w v l)(hl:l.length<=400)(i:Nat):
  Calls prog 79 #[v,.int .i64 i] w fun e w'=>e=.returned (.int .i64 (yE l.length 1 (l.drop i) i))/\∃x,w'=ext w x:=by
 obtain⟨oa,cap,b,off,rfl,hd,hc⟩:=h.open;have hix:=fG hd;have HC:Hid (∀i,i<l.length->w.cell? ⟨b,off+i*8+1,none⟩=some (.int .i64 (l.getD i zN).n)):=qa (fun i hi=>hc i hi 1 (by decide));have HB:=qa hd.hblk;have HE:=qa (Y4 l.length);obtain⟨R,hR⟩:∃R,R=yE l.length 1 (l.drop i) i:=⟨_,rfl⟩;have HR:=qa hR;rw[<-hR];clear h hd hc hR;go_enter func79,ntmps79;go_wp2
 go_loop [1,5] (fun iv wv=>∃(j:Nat) (wn:Int),iv=.int .i64 j/\wv=.int .i64 wn/\1<=wn/\(j<l.length->wn<=1+400*j)/\R=yE l.length wn (l.drop j) j) (fun iv _=>l.length-(intOf iv).toNat)
 case atStart=>exact⟨i,1,rfl,rfl,by omega,by omega,HR.o⟩
 case round=>
  exact ZmC0
theorem qbQ{w:World}{v:Value}{l:List Nd}(h:bE w v l)(hl:l.length<=400)(i:Nat):
  Calls prog 35 #[v,.int .i64 i] w fun e w'=>e=.returned (.int .i64 (yE l.length 1 (l.drop i) i))/\∃x,w'=ext w x:=by
 obtain⟨oa,cap,b,off,rfl,hd,hc⟩:=h.open;have hix:=fG hd;have HC:Hid (∀i,i<l.length->w.cell? ⟨b,off+i*8+1,none⟩=some (.int .i64 (l.getD i zN).n)):=qa (fun i hi=>hc i hi 1 (by decide));have HB:=qa hd.hblk;have HE:=qa (Y4 l.length);obtain⟨R,hR⟩:∃R,R=yE l.length 1 (l.drop i) i:=⟨_,rfl⟩;have HR:=qa hR;rw[<-hR];clear h hd hc hR;go_enter func35,ntmps35;go_wp2
 go_loop [5,6] (fun wv iv=>∃(j:Nat) (wn:Int),iv=.int .i64 j/\wv=.int .i64 wn/\1<=wn/\(j<l.length->wn<=1+400*j)/\R=yE l.length wn (l.drop j) j) (fun _ iv=>l.length-(intOf iv).toNat)
 case atStart=>exact⟨i,1,rfl,rfl,by omega,by omega,HR.o⟩
 case round=>
  exact ZmC0
end Go.Cm
namespace Go.Cm
open Go.RowKit Go.Proofs
section
variable {w w' w0 w1 : World} {g q : Nat} {ve vr : Value} {vs : List Value} {ll : List (List Ed)} {rl : List Int} {F : Int}
theorem Mk.ne_g(h:Mk w g q ve vs vr ll rl F):ve.ownBlock≠some g/\vr.ownBlock≠some g/\q≠g:=by
 refine⟨fun e=>?_,fun e=>?_,fun e=>?_⟩
 ·have:=h.sep 1 2 g rfl (by simp[mkL,e]);omega
 ·have:=h.sep 1 3 g rfl (by simp[mkL,e]);omega
 have:=h.sep 0 1 g (by simp[mkL,e]) rfl;omega
theorem Mk.ne_q(h:Mk w g q ve vs vr ll rl F):ve.ownBlock≠some q/\vr.ownBlock≠some q/\g≠q:=by
 refine⟨fun e=>?_,fun e=>?_,fun e=>h.ne_g.2.2 e.symm⟩
 ·have:=h.sep 0 2 q rfl (by simp[mkL,e]);omega
 have:=h.sep 0 3 q rfl (by simp[mkL,e]);omega
theorem Mk.ne_er(h:Mk w g q ve vs vr ll rl F):∀k,ve.ownBlock=some k->vr.ownBlock≠some k:=fun k h1 h2=>by
 have:=h.sep 2 3 k (by simp[mkL,h1]) (by simp[mkL,h2]);omega
theorem Mk.ne_row(h:Mk w g q ve vs vr ll rl F){i k:Nat}(hi:i<ll.length)(hk:(vs.getD i undef).ownBlock=some k):k≠q/\k≠g/\ve.ownBlock≠some k/\vr.ownBlock≠some k/\(∀j,j<ll.length->j≠i->(vs.getD j undef).ownBlock≠some k):=by
 have hr:=pZ q g ve vr vs i (by rw[h.len];exact hi);rw[hk]at hr;refine⟨fun e=>?_,fun e=>?_,fun e=>?_,fun e=>?_,fun j hj hji e=>?_⟩
 ·have:=h.sep 0 (i+4) k (by rw[e];rfl) hr;omega
 ·have:=h.sep 1 (i+4) k (by rw[e];rfl) hr;omega
 ·have:=h.sep 2 (i+4) k (by simp[mkL,e]) hr;omega
 ·have:=h.sep 3 (i+4) k (by simp[mkL,e]) hr;omega
 have h2:=pZ q g ve vr vs j (by rw[h.len];exact hj);rw[e]at h2;have:=h.sep (j+4) (i+4) k h2 hr;omega
theorem Mk.pushE(h:Mk w g q ve vs vr ll rl F){v':Value}(ho:Own w1 0 112 v' (vs++[.slice none 0 0]))(hg:w.grownBy w1 ve.ownBlock)(hk:∀k,v'.ownBlock=some k->ve.ownBlock=some k\/w.heap.size<=k):
  Mk (w1.setCell ⟨g,0,none⟩ v') g q v' (vs++[.slice none 0 0]) vr (ll++[[]]) rl F/\Gw (MkS g ve vr vs) w (MkS g v' vr (vs++[.slice none 0 0])) (w1.setCell ⟨g,0,none⟩ v'):=by
 have hlt:=h.lt;have hng:=h.ne_g;have hb1:=h.box.keep hg (.inr (fun e=>hng.1 e.symm));obtain⟨hb2,hg2⟩:=hb1.store 0 v';have qgp:v'.ownBlock≠some g:=fun e=>(hk g e).elim hng.1 (fun z=>by omega);have hgg:w.grownBy w1 ve.ownBlock:=hg;have qe6:∀i,i<ll.length->∀k,(vs.getD i undef).ownBlock=some k->some g≠some k:=fun i hi k hk' e=>(h.ne_row hi hk').2.1 (qr e).symm
 have qcx:∀k,MkS g v' vr (vs++[.slice none 0 0]) k->MkS g ve vr vs k\/w.heap.size<=k:=by
  rintro k (rfl|h1|h1|⟨i,hi,h1⟩)
  ·exact .inl (.inl rfl)
  ·exact(hk k h1).imp (fun z=>.inr (.inl z)) id
  ·exact .inl (.inr (.inr (.inl h1)))
  by_cases hil:i<vs.length
  ·rw[bC hil]at h1
   exact .inl (.inr (.inr (.inr ⟨i,hil,h1⟩)))
  have hie:i=vs.length:=by rw[qj,qE]at hi;omega
  subst hie;rw[cJ]at h1;cases h1
 refine⟨⟨hb2,?_,qe h.hql (qc hg.size hg2.size),ho.keep hg2 (.inr qgp),by simp[h.len],fun i hi=>?_,(h.rules.keep hg (bN fun k hk' e=>h.ne_er k e hk')).keep hg2 (.inr (fun e=>hng.2.1 e)),?_⟩,?_⟩
 ·rw[<-h.hq]
  exact World.cell?_of_block (w:=w) (by rw[hg2.block q (qe h.hql hg.size) (fun e=>hng.2.2 (qr e)),hg.block q h.hql (fun e=>h.ne_q.1 e.symm)])
 ·by_cases hil:i<ll.length
  ·rw[bC (by rw[h.len];exact hil),bC hil]
   exact((h.rows i hil).keep hg (bN fun k hk' e=>(h.ne_row hil hk').2.2.1 e)).keep hg2 (bN (qe6 i hil))
  have hie:i=ll.length:=by rw[qj,qE]at hi;omega
  subst hie;rw[cJ,<-h.len,cJ];exact eL.nil _ _ _ _
 ·have e:mkL q g v' vr (vs++[.slice none 0 0])=(mkL q g ve vr vs).set 2 v'.ownBlock++[none]:=by simp[mkL,Value.ownBlock]
  rw[e];refine(h.sep.set h.all fun k hk'=>?_).snoc;exact(hk k hk').imp (fun z=>by simp[mkL,z]) id
 exact(dQ hg (fun k e=>.inr (.inl e)) qcx).trans (dQ hg2 (fun k e=>.inl (qr e).symm) (fun k hk'=>.inl hk'))
theorem Mk.pushR(h:Mk w g q ve vs vr ll rl F){v':Value}{rl':List Int}(ho:Own w1 0 3 v' (ints rl'))(hg:w.grownBy w1 vr.ownBlock)(hk:∀k,v'.ownBlock=some k->vr.ownBlock=some k\/w.heap.size<=k):
  Mk (w1.setCell ⟨g,2,none⟩ v') g q ve vs v' ll rl' F/\Gw (MkS g ve vr vs) w (MkS g ve v' vs) (w1.setCell ⟨g,2,none⟩ v'):=by
 have hlt:=h.lt;have hng:=h.ne_g;have hb1:=h.box.keep hg (.inr (fun e=>hng.2.1 e.symm));obtain⟨hb2,hg2⟩:=hb1.store 2 v';have qgp:v'.ownBlock≠some g:=fun e=>(hk g e).elim hng.2.1 (fun z=>by omega);have qe6:∀i,i<ll.length->∀k,(vs.getD i undef).ownBlock=some k->some g≠some k:=fun i hi k hk' e=>(h.ne_row hi hk').2.1 (qr e).symm
 have qcx:∀k,MkS g ve v' vs k->MkS g ve vr vs k\/w.heap.size<=k:=by
  rintro k (rfl|h1|h1|⟨i,hi,h1⟩)
  ·exact .inl (.inl rfl)
  ·exact .inl (.inr (.inl h1))
  ·exact(hk k h1).imp (fun z=>.inr (.inr (.inl z))) id
  exact .inl (.inr (.inr (.inr ⟨i,hi,h1⟩)))
 refine⟨⟨hb2,?_,qe h.hql (qc hg.size hg2.size),(h.outer.keep hg (bN fun k hk' e=>h.ne_er k hk' e)).keep hg2 (.inr (fun e=>hng.1 e)),h.len,fun i hi=>?_,ho.keep hg2 (.inr qgp),?_⟩,?_⟩
 ·rw[<-h.hq]
  exact World.cell?_of_block (w:=w) (by rw[hg2.block q (qe h.hql hg.size) (fun e=>hng.2.2 (qr e)),hg.block q h.hql (fun e=>h.ne_q.2.1 e.symm)])
 ·exact((h.rows i hi).keep hg (bN fun k hk' e=>(h.ne_row hi hk').2.2.2.1 e)).keep hg2 (bN (qe6 i hi))
 ·have e:mkL q g ve v' vs=(mkL q g ve vr vs).set 3 v'.ownBlock:=by simp[mkL]
  rw[e];refine h.sep.set h.all fun k hk'=>?_;exact(hk k hk').imp (fun z=>by simp[mkL,z]) id
 exact(dQ hg (fun k e=>.inr (.inr (.inl e))) qcx).trans (dQ hg2 (fun k e=>.inl (qr e).symm) (fun k hk'=>.inl hk'))
theorem Mk.setRow{ge n cap:Nat}(h:Mk w g q (.slice (some ⟨ge,0,none⟩) n cap) vs vr ll rl F){i:Nat}(hi:i<ll.length){r:Value}{xs:List Ed}(hr:eL 6 w1 0 114 r (xs.map edC))(hg:w.grownBy w1 (vs.getD i undef).ownBlock)(hk:∀k,r.ownBlock=some k->(vs.getD i undef).ownBlock=some k\/w.heap.size<=k):
  Mk (w1.setCell ⟨ge,i,none⟩ r) g q (.slice (some ⟨ge,0,none⟩) n cap) (vs.set i r) vr (ll.set i xs) rl F/\Gw (MkS g (.slice (some ⟨ge,0,none⟩) n cap) vr vs) w (MkS g (.slice (some ⟨ge,0,none⟩) n cap) vr (vs.set i r)) (w1.setCell ⟨ge,i,none⟩ r):=by
 have hvi:i<vs.length:=by rw[h.len];exact hi
 have hgb:=h.outer.blk.2;have hown:(Value.slice (some ⟨ge,0,none⟩) n cap).ownBlock=some ge:=rfl;have hnr:=fun k (hk':(vs.getD i undef).ownBlock=some k)=>h.ne_row hi hk';have hng:=h.ne_g;have hnq:=h.ne_q;have ho:=h.outer.keep hg (bN fun k hk' e=>(hnr k e).2.2.1 hk');obtain⟨ho2,hg2⟩:=ho.store i r;have hrg:∀k,r.ownBlock=some k->k≠ge:=fun k hk' e=>(hk k hk').elim (fun z=>(hnr k z).2.2.1 (by rw[e];rfl)) (fun z=>by omega);have qkd:ge≠g:=fun e=>hng.1 (by rw[<-e];rfl);have qkc:ge≠q:=fun e=>hnq.1 (by rw[<-e];rfl)
 have qcx:∀k,MkS g (.slice (some ⟨ge,0,none⟩) n cap) vr (vs.set i r) k->MkS g (.slice (some ⟨ge,0,none⟩) n cap) vr vs k\/w.heap.size<=k:=by
  rintro k (rfl|h1|h1|⟨j,hj,h1⟩)
  ·exact .inl (.inl rfl)
  ·exact .inl (.inr (.inl h1))
  ·exact .inl (.inr (.inr (.inl h1)))
  rw[jb]at hj;by_cases hij:i=j
  ·subst hij
   rw[cU hvi]at h1;exact(hk k h1).imp (fun z=>.inr (.inr (.inr ⟨i,hvi,z⟩))) id
  rw[d6 hij]at h1;exact .inl (.inr (.inr (.inr ⟨j,hj,h1⟩)))
 refine⟨⟨(h.box.keep hg (bN fun k hk' e=>(hnr k e).2.1 (qr hk').symm)).keep hg2 (.inr (fun e=>qkd (qr e).symm)),?_,qe h.hql (qc hg.size hg2.size),ho2,by simp[h.len],fun j hj=>?_,(h.rules.keep hg (bN fun k hk' e=>(hnr k e).2.2.2.1 hk')).keep hg2 (bN fun k hk' e=>h.ne_er k e hk'),?_⟩,?_⟩
 ·rw[<-h.hq]
  exact World.cell?_of_block (w:=w) (by rw[hg2.block q (qe h.hql hg.size) (fun e=>qkc (qr e).symm),hg.block q h.hql (fun e=>(hnr q e.symm).1 rfl)])
 ·rw[jb]at hj
  by_cases hij:i=j
  ·subst hij
   rw[cU hvi,cU hi];exact hr.keep hg2 (bN fun k hk' e=>hrg k hk' (qr e).symm)
  rw[d6 hij,d6 hij];exact((h.rows j hj).keep hg (bN fun k hk' e=>(h.ne_row hj hk').2.2.2.2 i hi hij e)).keep hg2 (bN fun k hk' e=>(h.ne_row hj hk').2.2.1 e)
 ·have e:mkL q g (.slice (some ⟨ge,0,none⟩) n cap) vr (vs.set i r)=(mkL q g (.slice (some ⟨ge,0,none⟩) n cap) vr vs).set (i+4) r.ownBlock:=by simp[mkL,aC]
  rw[e];refine h.sep.set h.all fun k hk'=>?_;exact(hk k hk').imp (fun z=>by rw[pZ _ _ _ _ _ i hvi,z]) id
 exact(dQ hg (fun k e=>.inr (.inr (.inr ⟨i,hvi,e⟩))) qcx).trans (dQ hg2 (fun k e=>.inr (.inl (by rw[<-e];rfl))) (fun k hk'=>.inl hk'))
theorem Mk.setRule{gr n cap:Nat}(h:Mk w g q ve vs (.slice (some ⟨gr,0,none⟩) n cap) ll rl F)(i:Nat)(x:Int):
  Mk (w.setCell ⟨gr,i,none⟩ (.int .i64 x)) g q ve vs (.slice (some ⟨gr,0,none⟩) n cap) ll (rl.set i x) F/\Gw (MkS g ve (.slice (some ⟨gr,0,none⟩) n cap) vs) w (MkS g ve (.slice (some ⟨gr,0,none⟩) n cap) vs) (w.setCell ⟨gr,i,none⟩ (.int .i64 x)):=by
 obtain⟨ho2,hg2⟩:=h.rules.store i (.int .i64 x);have hng:=h.ne_g;have hnq:=h.ne_q;have hgg:gr≠g:=fun e=>hng.2.1 (by rw[<-e];rfl);have hgq:gr≠q:=fun e=>hnq.2.1 (by rw[<-e];rfl);refine⟨⟨h.box.keep hg2 (.inr (fun e=>hgg (qr e).symm)),?_,qe h.hql hg2.size,h.outer.keep hg2 (bN fun k hk' e=>h.ne_er k hk' e),h.len,fun j hj=>(h.rows j hj).keep hg2 (bN fun k hk' e=>(h.ne_row hj hk').2.2.2.1 e),?_,h.sep⟩,dQ hg2 (fun k e=>.inr (.inr (.inl (by rw[<-e];rfl)))) (fun k hk'=>.inl hk')⟩
 ·rw[<-h.hq]
  exact World.cell?_of_block (w:=w) (hg2.block q h.hql (fun e=>hgq (qr e).symm))
 have e:(ints rl).set i (.int .i64 x)=ints (rl.set i x):=by simp[ints,aC]
 rw[e]at ho2;exact ho2
theorem Mk.setF(h:Mk w g q ve vs vr ll rl F)(x:Int):Mk (w.setCell ⟨g,1,none⟩ (.int .i64 x)) g q ve vs vr ll rl x/\Gw (MkS g ve vr vs) w (MkS g ve vr vs) (w.setCell ⟨g,1,none⟩ (.int .i64 x)):=by
 obtain⟨ho2,hg2⟩:=h.box.store 1 (.int .i64 x);have hng:=h.ne_g;refine⟨⟨ho2,?_,qe h.hql hg2.size,h.outer.keep hg2 (.inr (fun e=>hng.1 e)),h.len,fun j hj=>(h.rows j hj).keep hg2 (bN fun k hk' e=>(h.ne_row hj hk').2.1 (qr e).symm),h.rules.keep hg2 (.inr (fun e=>hng.2.1 e)),h.sep⟩,dQ hg2 (fun k e=>.inl (qr e).symm) (fun k hk'=>.inl hk')⟩;rw[<-h.hq];exact World.cell?_of_block (w:=w) (hg2.block q h.hql (fun e=>hng.2.2 (qr e)))
end
end Go.Cm
namespace Go.Cm
open Go.RowKit Go.Proofs
def MkW(w:World)(S:Nat->Prop)(g q:Nat)(ll:List (List Ed))(rl:List Int)(F:Int):Prop:=∃ve vs vr,Mk w g q ve vs vr ll rl F/\S=MkS g ve vr vs
theorem MkW.up{w w':World}{S:Nat->Prop}{g q:Nat}{ll:List (List Ed)}{rl:List Int}{F:Int}(h:MkW w S g q ll rl F)(hb:Below w.heap.size w w'):MkW w' S g q ll rl F:=by
 obtain⟨ve,vs,vr,h1,h2⟩:=h;exact⟨ve,vs,vr,h1.up hb,h2⟩
theorem MkW.lt{w:World}{S:Nat->Prop}{g q:Nat}{ll:List (List Ed)}{rl:List Int}{F:Int}(h:MkW w S g q ll rl F){k:Nat}(hk:S k):k<w.heap.size:=by
 obtain⟨ve,vs,vr,h1,rfl⟩:=h;exact h1.mlt hk
theorem q4k {w : World} {S : Nat → Prop} {g q : Nat} {ll : List (List Ed)} {rl : List Int} {F : Int} (h : MkW w S g q ll rl F) (hl : ll.length ≤ 1000000) (hr : rl.length ≤ 1000000) :
    Calls prog 52 #[.pointer (some ⟨q, 0, none⟩)] w fun e w' => e = .returned (.int .i64 (ll.length : Nat)) ∧ ∃ S', MkW w' S' g q (ll ++ [[]]) (rl ++ [-1]) F ∧ Gw S w S' w' := by
  obtain ⟨ve, vs, vr, hm, rfl⟩ := h
  have HM := qa hm
  have hcq := hm.hq
  have hql := hm.hql
  have hc0 := hm.c0
  have hg := hm.lt
  have hf0 := hm.f 0
  have qe8 : some g ≠ ve.ownBlock := fun e => hm.ne_g.1 e.symm
  have qe7 : some q ≠ ve.ownBlock := fun e => hm.ne_q.1 e.symm
  obtain ⟨n, hn⟩ : ∃ n, n = ll.length := ⟨_, rfl⟩
  rw [← hn]
  have HN := qa hn
  have HVL := qa (hm.len.trans hn.symm)
  have hlW : Below w.heap.size w (w.alloc (.cells #[.slice none 0 0] 112)).drew := aO
  have HX : Hid (Sl (w.alloc (.cells #[.slice none 0 0] 112)).drew (.slice (some ⟨w.heap.size, 0, none⟩) 1 1) [.slice none 0 0]) := qa (by
        have h1 := (eK w #[.slice none 0 0] 112 (by simp)).up (aX _ 1)
        rw [← World.drew_is_drewN] at h1
        simpa using h1)
  have HT1 := qa (hm.outer.up hlW)
  have HMW := qa (hm.up hlW)
  have HLW := qa hlW
  have HT2 : Hid (∀ u ∈ [Value.slice none 0 0], u.oneCell' = true) := qa (by intro u hu; simp at hu; subst hu; rfl)
  have HT3 : Hid (vs.length + [Value.slice none 0 0].length ≤ 4294967296) := qa (by rw [HVL.o]; simp; omega)
  have hnB : n ≤ 1000000 := by omega
  clear hm hlW hn
  go_enter func52, ntmps52
  go_wp2
  refine cL (fun w' => ∃ x, w' = chg w ve.ownBlock x) [0,1,2,3,4,5] [6,7,8,9,10] [11] (by kernel_rfl) (by kernel_rfl) (dD (eW _ _)) ?_
  simp only [pk]
  repeat (go_big_quiet_step (fail))
  refine wpQuiet_nil ?_
  (unfold aF; go_wp2; refine ⟨dD (aK aO _), ?_⟩)
  unfold aF
  go_wp2_with (at_builtin; refine bF rfl (.tmp 7) (.tmp 8) 33 rfl 0 112 (.slice none 0 0) 24 underlying33 (by kernel_rfl) rfl (by decide) ve vs rfl HT1.o (.slice (some ⟨w.heap.size, 0, none⟩) 1 1) [.slice none 0 0] rfl HX.o HT2.o HT3.o (qd _) ?_; intro v' w5 hown1 hg1 hk1; have HO1 := qa hown1; have HG1 := qa hg1; have HK1 := qa hk1; clear hown1 hg1 hk1)
  refine ⟨dD (aL (aK aO _) HG1.o), ?_⟩
  (unfold aF; go_wp2; refine ⟨dD (aL (aK aO _) HG1.o), ?_⟩)
  (unfold aF; go_wp2; refine ⟨dD (aL (aK aO _) HG1.o), ?_⟩)
  (unfold aF; go_wp2; refine ⟨dD (aL (aK aO _) HG1.o), ?_⟩)
  have HPU := qa (HMW.o.pushE HO1.o HG1.o HK1.o)
  have hb5 := HMW.o.box.keep HG1.o (.inr qe8)
  have qg2 : w5.cell? ⟨g, 0, none⟩ = some ve := hb5.cell (by simp)
  have qfZ : w5.frozen? ⟨g, 0, none⟩ = false := hb5.free 0
  have hg5 : g < w5.heap.size := hb5.blk.2
  have HGW : Hid (Gw (MkS g ve vr vs) w (MkS g ve vr vs) (w.alloc (.cells #[.slice none 0 0] 112)).drew) := qa (d7 _ HLW.o)
  obtain ⟨o5, c5, g5, hv5, -⟩ := HO1.o.cases
  subst hv5
  clear hb5 hcq hql hc0 hg hf0 qe8 qe7 HM HX HT1 HMW HLW HT2 HT3 HO1 HG1 HK1
  have hlv : (vs ++ [Value.slice none 0 0]).length = n + 1 := by rw [qj, HVL.o]; rfl
  rw [hlv] at HPU ⊢
  clear hlv
  unfold aF
  unfold aF
  go_wp2
  refine ⟨trivial, ?_⟩
  unfold aF
  have hm2 := HPU.o.1
  have HG2 := qa (HGW.o.trans HPU.o.2)
  clear HPU HGW qg2 qfZ hg5
  generalize w5.setCell ⟨g, 0, none⟩ (.slice o5 (n + 1) c5) = w6 at *
  have hcq := hm2.hq
  have hql := hm2.hql
  have hc2 := hm2.c2
  have hg := hm2.lt
  have hf2 := hm2.f 2
  have qe8 : some g ≠ vr.ownBlock := fun e => hm2.ne_g.2.1 e.symm
  have qe7 : some q ≠ vr.ownBlock := fun e => hm2.ne_q.2.1 e.symm
  have hlW : Below w6.heap.size w6 (w6.alloc (.cells #[.int .i64 (-1)] 3)).drew := aO
  have HX : Hid (Sl (w6.alloc (.cells #[.int .i64 (-1)] 3)).drew (.slice (some ⟨w6.heap.size, 0, none⟩) 1 1) (ints [-1])) := qa (by
        have h1 := (eK w6 #[.int .i64 (-1)] 3 (by simp)).up (aX _ 1)
        rw [← World.drew_is_drewN] at h1
        simpa [ints] using h1)
  have HT1 := qa (hm2.rules.up hlW)
  have HMW := qa (hm2.up hlW)
  have HLW := qa hlW
  have HT2 : Hid (∀ u ∈ ints [-1], u.oneCell' = true) := qa (by intro u hu; simp [ints] at hu; subst hu; rfl)
  have HT3 : Hid ((ints rl).length + (ints [-1]).length ≤ 4294967296) := qa (by simp; omega)
  clear hm2 hlW
  go_wp2
  refine cL (fun w' => ∃ x, w' = chg w6 vr.ownBlock x) [0,1,2,3,4,5] [6,7,8,9,10] [11] (by kernel_rfl) (by kernel_rfl) (dD (eW _ _)) ?_
  simp only [pk]
  repeat (go_big_quiet_step (fail))
  refine wpQuiet_nil ?_
  (unfold aF; go_wp2; refine ⟨dD (aK aO _), ?_⟩)
  unfold aF
  go_wp2_with (at_builtin; refine bF rfl (.tmp 18) (.tmp 19) 27 rfl 0 3 (.int .i64 0) 8 underlying27 (by kernel_rfl) rfl (by decide) vr (ints rl) rfl HT1.o (.slice (some ⟨w6.heap.size, 0, none⟩) 1 1) (ints [-1]) rfl HX.o HT2.o HT3.o (qd _) ?_; intro v' w7 hown1 hg1 hk1; have HO1 := qa hown1; have HG1 := qa hg1; have HK1 := qa hk1; clear hown1 hg1 hk1)
  refine ⟨dD (aL (aK aO _) HG1.o), ?_⟩
  (unfold aF; go_wp2; refine ⟨dD (aL (aK aO _) HG1.o), ?_⟩)
  (unfold aF; go_wp2; refine ⟨dD (aL (aK aO _) HG1.o), ?_⟩)
  (unfold aF; go_wp2; refine ⟨dD (aL (aK aO _) HG1.o), ?_⟩)
  have HO2 : Hid (Own w7 0 3 v' (ints (rl ++ [-1]))) := qa (by have := HO1.o; simpa [ints] using this)
  have HPU := qa (HMW.o.pushR HO2.o HG1.o HK1.o)
  have hb5 := HMW.o.box.keep HG1.o (.inr qe8)
  have qg2 : w7.cell? ⟨g, 2, none⟩ = some vr := hb5.cell (by simp)
  have qfZ : w7.frozen? ⟨g, 2, none⟩ = false := hb5.free 2
  have hg5 : g < w7.heap.size := hb5.blk.2
  have HGW : Hid (Gw (MkS g (.slice o5 (n + 1) c5) vr (vs ++ [.slice none 0 0])) w6 (MkS g (.slice o5 (n + 1) c5) vr (vs ++ [.slice none 0 0])) (w6.alloc (.cells #[.int .i64 (-1)] 3)).drew) := qa (d7 _ HLW.o)
  obtain ⟨o7, c7, g7, hv7, -⟩ := HO2.o.cases
  subst hv7
  clear hb5 hcq hql hc2 hg hf2 qe8 qe7 HX HT1 HMW HLW HT2 HT3 HO1 HG1 HK1 HO2
  generalize (ints (rl ++ [-1])).length = l7 at *
  unfold aF
  unfold aF
  go_wp2
  refine ⟨trivial, ?_⟩
  unfold aF
  have hm3 := HPU.o.1
  have HG3 := qa (HG2.o.trans (HGW.o.trans HPU.o.2))
  clear HPU HGW qg2 qfZ hg5 HG2
  generalize w7.setCell ⟨g, 2, none⟩ (.slice o7 l7 c7) = w8 at *
  have hcq := hm3.hq
  have hql := hm3.hql
  have hc0 := hm3.c0
  have hg := hm3.lt
  have HM3 := qa hm3
  clear hm3
  go_wp2
  go_ret
  exact ⟨rfl, _, ⟨_, _, _, HM3.o, rfl⟩, HG3.o⟩
def qc6(ll:List (List Ed))(i:Nat)(e:Ed):List (List Ed):=ll.set i (ll.getD i []++[e])
def frE(tgt:Int):Ed:=⟨tgt,true,0,0,0,0⟩
theorem qbe {w : World} {S : Nat → Prop} {g q : Nat} {ll : List (List Ed)} {rl : List Int} {F : Int} (h : MkW w S g q ll rl F) (i : Nat) (tgt : Int) (hi : i < ll.length) (hr : (ll.getD i []).length ≤ 1000000) (hl : ll.length ≤ 1000000) :
    Calls prog 53 #[.int .i64 i, .int .i64 tgt, .pointer (some ⟨q, 0, none⟩)] w fun e w' => e = .returned (.tuple #[]) ∧ ∃ S', MkW w' S' g q (qc6 ll i (frE tgt)) rl F ∧ Gw S w S' w' := by
  obtain ⟨ve, vs, vr, hm, rfl⟩ := h
  have hvl := hm.len
  obtain ⟨oa, cap, ge, rfl, hdo, -, hco, hfo, -⟩ := hm.outer.cases
  have hoa := hdo.hat (by omega)
  subst hoa
  have hix := fun (W : World) => aT (P := prog) 33 112 underlying33 (by kernel_rfl) hdo W .i64 i (by omega) (by omega)
  simp only [qD, qI] at hix
  have hcr := hco i (by omega)
  have qex := hdo.hblk (by omega)
  have HM := qa hm
  have hcq := hm.hq
  have hql := hm.hql
  have hc0 := hm.c0
  have hg := hm.lt
  obtain ⟨r, hrv⟩ : ∃ r, r = vs.getD i undef := ⟨_, rfl⟩
  have hnr := fun k (hk' : (vs.getD i undef).ownBlock = some k) => hm.ne_row hi hk'
  have hrow := hm.rows i hi
  rw [← hrv] at hnr hcr hrow
  have qe8 : some g ≠ r.ownBlock := fun e => (hnr g e.symm).2.1 rfl
  have qe7 : some q ≠ r.ownBlock := fun e => (hnr q e.symm).1 rfl
  have qi3 : some ge ≠ r.ownBlock := fun e => (hnr ge e.symm).2.2.1 rfl
  have hlW : Below w.heap.size w (w.alloc (.cells #[.int .i64 tgt, .bool true, .int .u64 0, .int .u64 0, .int .u64 0, .int .u64 0] 114)).drew := aO
  have HX : Hid (SlK 6 (w.alloc (.cells #[.int .i64 tgt, .bool true, .int .u64 0, .int .u64 0, .int .u64 0, .int .u64 0] 114)).drew (.slice (some ⟨w.heap.size, 0, none⟩) 1 1) ([frE tgt].map edC)) := qa (by
        have h1 := (tD 6 w #[.int .i64 tgt, .bool true, .int .u64 0, .int .u64 0, .int .u64 0, .int .u64 0] 114 ([frE tgt].map edC) (by simp [edC, frE]) (Q4 _) (by simp)).up (aX _ 1)
        rw [← World.drew_is_drewN] at h1
        simpa using h1)
  have HT1 := qa (hrow.up hlW)
  have HMW := qa (hm.up hlW)
  have HLW := qa hlW
  have HT2 : Hid (∀ u ∈ ([frE tgt].map edC).flatten, u.oneCell' = true) := qa (by intro u hu; simp [edC, frE] at hu; rcases hu with rfl | rfl | rfl <;> rfl)
  have HT3 : Hid (((ll.getD i []).map edC).length + ([frE tgt].map edC).length ≤ 1000000000) := qa (by simp only [qB, qE]; omega)
  have HRV := qa hrv
  have HI := qa hi
  have qlE : vs.length ≤ 1000000 := by omega
  clear hm hlW hrv hnr hrow hdo hco hfo hi hr hl hvl
  go_enter func53, ntmps53
  go_wp2
  refine cL (fun w' => ∃ x, w' = chg w r.ownBlock x) [0,1,2,3,4,5,6,7,8,9,10,11,12,13,14,15] [16,17,18] [19] (by kernel_rfl) (by kernel_rfl) (dD (eW _ _)) ?_
  simp only [pk]
  repeat (go_big_quiet_step (fail))
  refine wpQuiet_nil ?_
  (unfold aF; go_wp2; refine ⟨dD (aK aO _), ?_⟩)
  unfold aF
  go_wp2_with (at_builtin; refine eP 6 rfl (.tmp 18) (.tmp 21) 112 rfl 0 114 (.agg #[.int .i64 0, .bool false, .int .u64 0, .int .u64 0, .int .u64 0, .int .u64 0]) 48 underlying112 (by kernel_rfl) rfl (by decide) (by decide) r ((ll.getD i []).map edC) rfl HT1.o (.slice (some ⟨w.heap.size, 0, none⟩) 1 1) ([frE tgt].map edC) rfl HX.o (Q4 _) HT2.o HT3.o (qd _) ?_; intro v' w5 hown1 hg1 hk1; have HO1 := qa hown1; have HG1 := qa hg1; have HK1 := qa hk1; clear hown1 hg1 hk1)
  refine ⟨dD (aL (aK aO _) HG1.o), ?_⟩
  (unfold aF; go_wp2; refine ⟨dD (aL (aK aO _) HG1.o), ?_⟩)
  have HO2 : Hid (eL 6 w5 0 114 v' ((ll.getD i [] ++ [frE tgt]).map edC)) := qa (by have := HO1.o; rwa [← qH] at this)
  have HG2 := HG1
  have HK2 := HK1
  rw [HRV.o] at HG2 HK2
  have HPU := qa (HMW.o.setRow HI.o HO2.o HG2.o HK2.o)
  have HGW : Hid (Gw (MkS g (.slice (some ⟨ge, 0, none⟩) vs.length cap) vr vs) w (MkS g (.slice (some ⟨ge, 0, none⟩) vs.length cap) vr vs) (w.alloc (.cells #[.int .i64 tgt, .bool true, .int .u64 0, .int .u64 0, .int .u64 0, .int .u64 0] 114)).drew) := qa (d7 _ HLW.o)
  have hb5 := HMW.o.outer.keep HG1.o (.inr qi3)
  have hvi : i < vs.length := by have := HM.o.len; have := HI.o; omega
  have qg2 : w5.cell? ⟨ge, i, none⟩ = some (vs.getD i undef) := hb5.cell hvi
  have qfZ : w5.frozen? ⟨ge, i, none⟩ = false := hb5.free i
  have hg5 : ge < w5.heap.size := hb5.blk.2
  obtain ⟨o5, c5, b5, f5, hv5, -⟩ := HO1.o.sl
  subst hv5
  clear hb5 hcq hql hc0 hg qe8 qe7 qi3 hcr HX HT1 HMW HLW HT2 HT3 HO1 HG1 HK1 HO2 HG2 HK2
  generalize (List.map edC (ll.getD i []) ++ List.map edC [frE tgt]).length = l5 at *
  unfold aF
  unfold aF
  go_wp2
  refine ⟨trivial, ?_⟩
  unfold aF
  go_wp2
  go_end0
  exact ⟨rfl, _, ⟨_, _, _, HPU.o.1, rfl⟩, HGW.o.trans HPU.o.2⟩
def qcg(N p n:Nat):Nat:=N/2^p%2^n
end Go.Cm
namespace Go.Cm
def qb8(L:List Nat)(V i:Nat):Prop:=L.getD i 0≠0/\qaS L i=q9K V (L.getD i 0)
end Go.Cm
namespace Go.Cm
structure Ent where
 s:Nat
 b:Nat
 t:Nat
def Ent.zero:Ent:=⟨0,0,0⟩
structure Sub where
 g:Nat
 m:Nat
 F:Nat->Ent
def q9L(L:List Nat)(j x:Nat):Prop:=9<L.getD j 0/\qaS L j/2^(L.getD j 0-9)=q9K x 9
section
variable {L : List Nat}
structure qaT(L:List Nat)(i:Nat)(E:Nat->Ent)(fs:List Sub):Prop where
 low:∀x,x<512->(E x).t=0->(∀j,j<i->qb8 L x j->L.getD j 0<=9->E x=⟨j,L.getD j 0,0⟩)/\((E x).b≠0->∃j,j<i/\qb8 L x j/\L.getD j 0<=9)
 far:∀x k,x<512->(E x).t=k+1->∃f,fs[k]? =some f/\f.m<=6/\(∀j,j<L.length->q9L L j x->L.getD j 0<=9+f.m)/\(∃j,j<i/\q9L L j x)/\
  ∀y,y<2^f.m->(∀j,j<i->9<L.getD j 0->qb8 L (x+512*y) j->f.F y=⟨j,L.getD j 0,0⟩)/\((f.F y).b≠0->∃j,j<i/\9<L.getD j 0/\qb8 L (x+512*y) j)
 one:∀x y,x<512->y<512->(E x).t=(E y).t->(E x).t≠0->x=y
 all:∀j,j<i->∀x,x<512->q9L L j x->(E x).t≠0
theorem qaT.start(L:List Nat):qaT L 0 (fun _=>Ent.zero) []:=
 ⟨fun x _ _=>⟨fun j hj=>absurd hj (qC j),fun h=>absurd rfl h⟩,fun x k _ h=>(by cases h),fun x y _ _ _ h=>absurd rfl h,fun j hj=>absurd hj (qC j)⟩
variable {i : Nat} {E : Nat → Ent} {fs : List Sub}
end
end Go.Cm
namespace Go.Cm
open Go.RowKit Go.Proofs
theorem eB.upB{w w':World}{v:Value}{l:List Int}{n:Nat}(h:eB w v l)(hn:w.heap.size<=n)(hb:Below n w w'):eB w' v l:=h.up (hb.mono hn)
def q9M(N T p n:Nat):Nat×Nat×Nat:=if p+n<=T then(qcg N p n,0,p+n)else(0,2,p)
end Go.Cm
namespace Go.Cm
structure qaU where
 fin:Bool
 kind:Nat
 size:Nat
 lits:List Nat
 dists:List Nat
def qaU.zero:qaU:=⟨false,0,0,[],[]⟩
def xb(N T n:Nat)(st:Nat×Nat):Nat×(Nat×Nat):=if st.1=0 then((q9M N T st.2 n).1,(q9M N T st.2 n).2.1,(q9M N T st.2 n).2.2)else(0,st)
end Go.Cm
namespace Go.Cm
open Go.RowKit Go.Proofs
theorem Own.of_blk{w w':World}{B E:Nat}{v:Value}{xs:List Value}(h:Own w B E v xs)(hb:∀k,v.ownBlock=some k->w'.heap[k]? =w.heap[k]?):Own w' B E v xs:=by
 refine⟨⟨h.1.1,h.1.2.imp id ?_⟩,h.2⟩;rintro⟨g,cap,cur,rfl,h2,h3,h4⟩;exact⟨g,cap,cur,rfl,h2,by rw[hb g rfl];exact h3,h4⟩
structure Fx(S:Nat->Prop)(w w':World):Prop where
 os:w'.os=w.os
 tape:w'.tape=w.tape
 output:w'.output=w.output
 size:w.heap.size<=w'.heap.size
 block:∀k,k<w.heap.size->¬S k->w'.heap[k]? =w.heap[k]?
section
variable {S : Nat → Prop} {n : Nat} {w w1 w2 : World}
theorem Fx.refl(S:Nat->Prop)(w:World):Fx S w w:=⟨rfl,rfl,rfl,qb _,fun _ _ _=>rfl⟩
theorem Fx.trans(h:Fx S w w1)(k:Fx S w1 w2):Fx S w w2:=⟨k.os.trans h.os,k.tape.trans h.tape,k.output.trans h.output,qc h.size k.size,fun i hi h1=>by rw[k.block i (qe hi h.size) h1,h.block i hi h1]⟩
theorem Fx.mono{S':Nat->Prop}(h:Fx S w w1)(hS:∀k,S k->S' k):Fx S' w w1:=⟨h.os,h.tape,h.output,h.size,fun k hk h1=>h.block k hk (fun e=>h1 (hS k e))⟩
theorem Fx.grown{row:Option Nat}(h:Fx S w w1)(hg:w1.grownBy w2 row)(hr:∀k,row=some k->S k\/w.heap.size<=k):Fx S w w2:=
 ⟨hg.os.trans h.os,hg.tape.trans h.tape,hg.output.trans h.output,qc h.size hg.size,fun k hk h1=>by
  rw[hg.block k (qe hk h.size) (fun e=>(hr k e.symm).elim h1 (fun z=>by omega)),h.block k hk h1]⟩
theorem Fx.below(h:Fx S w1 w2)(hb:Below n w w1)(hn:n<=w1.heap.size)(hS:∀k,S k->n<=k):Below n w w2:=hb.trans ⟨h.os,h.tape,h.output,h.size,fun k hk=>h.block k (by omega) (fun e=>by have:=hS k e;omega)⟩
theorem Fx.own{B E:Nat}{v:Value}{xs:List Value}(h:Fx S w w1)(ho:Own w B E v xs)(hv:∀k,v.ownBlock=some k->¬S k):Own w1 B E v xs:=
 ho.of_blk fun k hk=>h.block k (ho.lt k hk).2 (hv k hk)
theorem Fx.cell{b o:Nat}(h:Fx S w w1)(hb:b<w.heap.size)(hv:¬S b):w1.cell? ⟨b,o,none⟩=w.cell? ⟨b,o,none⟩:=World.cell?_of_block (w:=w) (h.block b hb hv)
end
end Go.Cm
namespace Go.Cm
open Go.RowKit Go.Proofs
theorem Fx.far{S S':Nat->Prop}{w w1 w2:World}(h:Fx S w w1)(hg:Fx S' w1 w2)(hr:∀k,S' k->S k\/w.heap.size<=k):Fx S w w2:=
 ⟨hg.os.trans h.os,hg.tape.trans h.tape,hg.output.trans h.output,qc h.size hg.size,fun k hk h1=>by
  rw[hg.block k (qe hk h.size) (fun e=>(hr k e).elim h1 (fun z=>by omega)),h.block k hk h1]⟩
theorem q6n{P:Program}(t E:TypeId)(ht:P.underlying t=some (.slice E))(hE:(P.info? E).map (·.size)=some 1):P.underlying t=some (.slice (P.elem t))/\∀W:World,(sizeOf (P.elem t)).run P W=.ok 1 W:=by
 have he:P.elem t=E:=by simp[Program.elem,ht]
 refine⟨by rw[he];exact ht,fun W=>?_⟩;rw[he];cases hq:P.info? E with
 |none=>simp[hq]at hE
 |some inf=>
  have:inf.size=1:=by simpa[hq]using hE
  simp[sizeOf,typeInfo,hq,this]
theorem Sl.low{P:Program}{w:World}{v:Value}{l:List Value}(h:Sl w v l)(t E:TypeId)(ht:P.underlying t=some (.slice E))(hE:(P.info? E).map (·.size)=some 1)(n:Nat)(hn:n<=l.length):
  ∃u,(∀W:World,(Instr.sliceAt t v none (some (.int .i64 (n:Int))) none).run P W=.ok u W)/\Sl w u (l.take n):=by
 obtain⟨oa,cap,b,off,rfl,hd,hc⟩:=h;obtain⟨h1,h2⟩:=q6n t E ht hE;have hcap:=hd.hcap;have hl:(l.take n).length=n:=by rw[qX];omega
 refine⟨sliced oa 0 n cap 1,fun W=>?_,?_⟩
 ·rw[run_sliceAt_slice (P:=P) (t:=t) (h:=h1),run_slice_h (t:=t) (ht:=h1) (h0:=by omega) (h2:=by omega),h2]
  simp[Result.andThen]
 refine⟨if cap=0 then oa else oa.map (·.add (0*1)),cap,b,off,by rw[hl];simp[sliced],⟨fun h0=>?_,by omega,hd.hmax,by have:=hd.hsml;omega,fun h0=>hd.hblk (by omega)⟩,fun i hi=>?_⟩
 ·rw[hl]at h0
  rw[qv (by omega),hd.hat (by omega)];simp[kJ]
 rw[hl]at hi;rw[hc i (by omega)];simp[List.getD,hi]
theorem Sl.high{P:Program}{w:World}{v:Value}{l:List Value}(h:Sl w v l)(t E:TypeId)(ht:P.underlying t=some (.slice E))(hE:(P.info? E).map (·.size)=some 1)(n:Nat)(hn:n<=l.length):
  ∃u,(∀W:World,(Instr.sliceAt t v (some (.int .i64 (n:Int))) none none).run P W=.ok u W)/\Sl w u (l.drop n):=by
 obtain⟨oa,cap,b,off,rfl,hd,hc⟩:=h;obtain⟨h1,h2⟩:=q6n t E ht hE;have hcap:=hd.hcap;have hl:(l.drop n).length=l.length-n:=by rw[j4]
 refine⟨sliced oa n l.length cap 1,fun W=>?_,?_⟩
 ·exact ZmC1
 refine⟨if cap=n then oa else oa.map (·.add (n*1)),cap-n,b,off+n,by rw[hl];simp[sliced],⟨fun h0=>?_,by omega,by have:=hd.hmax;omega,by have:=hd.hsml;omega,fun h0=>hd.hblk (by omega)⟩,fun i hi=>?_⟩
 ·rw[hl]at h0
  rw[qv (by omega),hd.hat (by omega)];simp[kJ]
 rw[hl]at hi;rw[jL,hc (n+i) (by omega)];simp[List.getD]
end Go.Cm
