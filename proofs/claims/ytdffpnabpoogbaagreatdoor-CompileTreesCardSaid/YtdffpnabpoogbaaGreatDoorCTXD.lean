/- Walks of functions and plain facts, joined and squeezed by a program. Conditions: as each says. -/
import Derived.Test.YtdffpnabpoogbaaGreatDoorCTXA
set_option maxHeartbeats 8000000
set_option maxRecDepth 100000
set_option linter.unusedSimpArgs false
open Go.Proofs.Tryz
namespace Go.Cm
open Go.RowKit Go.Proofs
theorem ZmD0{P:Prop}(h:P:=by
 go_wp2
 all_goals(go_ret;refine⟨qW (fun b=>Ending.returned (Value.bool b)) ?_,aI ?_⟩)
 all_goals first
  |(rw[HR.o,jh];unfold okN pO V3;simp;omega)
  |(repeat' first|exact qk _ _|refine Below.setCell ?_ ?_ _|refine Below.alloc ?_ ?_ _|(simp;done)|(simp;omega))):P:=h
theorem ZmD1{P:Prop}(h:P:=by have HE2:=qa he;clear he;go_wp2;go_ret;exact⟨by rw[HE2.o];rfl,fD _⟩):P:=h
def SlK(k:Nat)(w:World)(v:Value)(l:List (List Value)):Prop:=
 ∃oa cap b off,v=.slice oa l.length cap/\Hd w oa l.length cap b off/\∀i,i<l.length->∀c,c<k->w.cell? ⟨b,off+i*k+c,none⟩=some ((l.getD i []).getD c undef)
theorem SlK.up{k:Nat}{w w':World}{v:Value}{l:List (List Value)}(h:SlK k w v l)(hb:Below w.heap.size w w'):SlK k w' v l:=by
 obtain⟨oa,cap,b,off,rfl,hd,hc⟩:=h;refine⟨oa,cap,b,off,rfl,⟨hd.hat,hd.hcap,hd.hmax,hd.hsml,fun h=>qe (hd.hblk h) hb.size⟩,fun i hi c hcl=>?_⟩;rw[hb.cell (p:=⟨b,off+i*k+c,none⟩) (hd.hblk (by omega))];exact hc i hi c hcl
theorem SlK.nil(k:Nat)(w:World):SlK k w (.slice none 0 0) []:=⟨none,0,0,0,rfl,⟨fun h=>absurd h (jH 0),qb _,by simp[maxLen],by simp,fun h=>absurd h (jH 0)⟩,fun i hi=>absurd hi (qz i)⟩
theorem wA{P:Program}{E:TypeId}{k:Nat}(hE:(P.info? E).map (·.size)=some k)(W:World):(sizeOf E).run P W=.ok k W:=by
 cases hq:P.info? E with
 |none=>simp[hq]at hE
 |some inf=>
  have hs:inf.size=k:=by simpa[hq]using hE
  simp[sizeOf,typeInfo,hq,hs]
theorem gY{P:Program}{w:World}{oa:Option Addr}{b off len cap:Nat}(k:Nat)(T E:TypeId)(hT:P.underlying T=some (.slice E))(hE:(P.info? E).map (·.size)=some k)(h:Hd w oa len cap b off):
  ∀(W:World) (kd:IntKind) (i:Int),0<=i->i<len->(Instr.indexAt T (.slice oa len cap) (.int kd i)).run P W=.ok (.pointer (some ⟨b,off+i.toNat*k,none⟩)) W:=by
 intro W kd i h0 h1;rw[h.hat (by omega)];have he:P.elem T=E:=by simp[Program.elem,hT]
 rw[run_indexAt_slice W T ⟨b,off,none⟩ len cap kd i (by rw[he];exact hT),qt ⟨h0,h1⟩,he,wA hE];simp[Result.andThen,Addr.add]
theorem oY{P:Program}{k:Nat}(t E:TypeId)(ht:P.underlying t=some (.slice E))(hE:(P.info? E).map (·.size)=some k):P.underlying t=some (.slice (P.elem t))/\∀W:World,(sizeOf (P.elem t)).run P W=.ok k W:=by
 have he:P.elem t=E:=by simp[Program.elem,ht]
 refine⟨by rw[he];exact ht,fun W=>?_⟩;rw[he];exact wA hE W
theorem SlK.high{P:Program}{k:Nat}{w:World}{v:Value}{l:List (List Value)}(h:SlK k w v l)(t E:TypeId)(ht:P.underlying t=some (.slice E))(hE:(P.info? E).map (·.size)=some k)(n:Nat)(hn:n<=l.length):
  ∃u,(∀W:World,(Instr.sliceAt t v (some (.int .i64 (n:Int))) none none).run P W=.ok u W)/\SlK k w u (l.drop n):=by
 obtain⟨oa,cap,b,off,rfl,hd,hc⟩:=h;obtain⟨h1,h2⟩:=oY t E ht hE;have hcap:=hd.hcap;have hl:(l.drop n).length=l.length-n:=by rw[qY]
 refine⟨sliced oa n l.length cap k,fun W=>?_,?_⟩
 ·rw[run_sliceAt_slice (P:=P) (t:=t) (h:=h1),run_slice_l (t:=t) (ht:=h1) (h0:=by omega) (h1:=by omega),h2]
  simp[Result.andThen]
 refine⟨if cap=n then oa else oa.map (·.add (n*k)),cap-n,b,off+n*k,by rw[hl];simp[sliced],⟨fun h0=>?_,by omega,by have:=hd.hmax;omega,by have:=hd.hsml;omega,fun h0=>hd.hblk (by omega)⟩,fun i hi c hcl=>?_⟩
 ·rw[hl]at h0
  rw[qr (by omega),hd.hat (by omega)];simp[kF]
 rw[hl]at hi;have:=hc (n+i) (by omega) c hcl;rw[jK,<-jI]at this;rw[this];simp[List.getD]
theorem SlK.mid{P:Program}{k:Nat}{w:World}{v:Value}{l:List (List Value)}(h:SlK k w v l)(t E:TypeId)(ht:P.underlying t=some (.slice E))(hE:(P.info? E).map (·.size)=some k)(n m:Nat)(hn:n<=m)(hm:m<=l.length):
  ∃u,(∀W:World,(Instr.sliceAt t v (some (.int .i64 (n:Int))) (some (.int .i64 (m:Int))) none).run P W=.ok u W)/\SlK k w u ((l.drop n).take (m-n)):=by
 obtain⟨oa,cap,b,off,rfl,hd,hc⟩:=h;obtain⟨h1,h2⟩:=oY t E ht hE;have hcap:=hd.hcap;have hl:((l.drop n).take (m-n)).length=m-n:=by rw[qT,qY];omega
 refine⟨sliced oa n m cap k,fun W=>?_,?_⟩
 ·rw[run_sliceAt_slice (P:=P) (t:=t) (h:=h1),run_slice_lh (t:=t) (ht:=h1) (h0:=by omega) (h1:=by omega) (h2:=by omega),h2]
  simp[Result.andThen]
 refine⟨if cap=n then oa else oa.map (·.add (n*k)),cap-n,b,off+n*k,by rw[hl];simp[sliced],⟨fun h0=>?_,by omega,by have:=hd.hmax;omega,by have:=hd.hsml;omega,fun h0=>hd.hblk (by omega)⟩,fun i hi c hcl=>?_⟩
 ·rw[hl]at h0
  rw[qr (by omega),hd.hat (by omega)];simp[kF]
 rw[hl]at hi;have:=hc (n+i) (by omega) c hcl;rw[jK,<-jI]at this;rw[this];simp[List.getD,hi]
theorem fZ{P:Program}(w:World)(g off n:Nat)(ty:TypeId)(C:Array Value)(d:TypeDesc)(hc:∀c,c<n->w.cell? ⟨g,off+c,none⟩=some (C.getD c undef))(hs:C.size=n)
  (hu:P.underlying ty=some d) (hd:(match d with|.struct _|.array _ _=>true|_=>false)=true) (hi:(P.info? ty).map (·.size)=some n):
  (loadVar ty ⟨g,off,none⟩).run P w=.ok (.agg C) w:=by
 have hl:(loadCells ⟨g,off,none⟩ C.toList.length).run P w=.ok C.toList.toArray w:=
  run_loadCells_list (P:=P) w ⟨g,off,none⟩ C.toList (fun j v hv=>by
   rw[kF]
   have hj:j<n:=by
    have:=(List.getElem?_eq_some_iff.1 hv).1;rw[qN]at this;omega
   rw[hc j hj];simp only[j6]at hv;simp[qO,hv])
 rw[qN,hs]at hl;simp only[Array.toArray_toList]at hl
 have hagg:(isAgg ty).run P w=.ok true w:=by
  unfold isAgg;rw[Sem.run_bind,run_underlying hu w];cases d<;>simp_all
 simp[loadVar,Sem.run_bind,hagg,wA hi,hl]
theorem aH{P:Program}{ops:Array Oper}{rest:List Oper}{o:Oper}{a:Act}{w:World}{Q:Exit->Act->World->Prop}(hgd:o.guard=none)(ty:TypeId)(x:Operand)(ho:o.op=.load ty x)
  (g off n:Nat) (hx:a.eval x=.pointer (some ⟨g,off,none⟩)) (C:Array Value) (d:TypeDesc) (hc:∀c,c<n->w.cell? ⟨g,off+c,none⟩=some (C.getD c undef)) (hs:C.size=n)
  (hu:P.underlying ty=some d) (hd:(match d with|.struct _|.array _ _=>true|_=>false)=true) (hi:(P.info? ty).map (·.size)=some n)
  (h:wpList P ops Q rest (a.put o.dst (.agg C)) w):wpList P ops Q (o::rest) a w:=by
 refine wpList_plain hgd fun K hK=>?_;unfold Oper.wp execOp;simp only[ho,hx,Instr.loadAt,Instr.sureAddr,Sem.run_bind,Sem.run_pure,Result.andThen_ok,fZ w g off n ty C d hc hs hu hd hi];exact hK _ _ h
theorem dO{P:Program}{C:World->Prop}{o:Oper}{a:Act}{K:Act->Prop}(T n:Nat)(x:Operand)(ho:o.op=.load T x)(g off:Nat)(hx:a.eval x=.pointer (some ⟨g,off,none⟩))(A:Array Value)(hs:A.size=n)
  (hg:∀w',C w'->∀c,c<n->w'.cell? ⟨g,off+c,none⟩=some (A.getD c undef)) (d:TypeDesc) (hu:P.underlying T=some d) (hd:(match d with|.struct _|.array _ _=>true|_=>false)=true) (hi:(P.info? T).map (·.size)=some n) (h:K (a.put o.dst (.agg A))):o.quiet P a C K:=by
 refine⟨.agg A,fun w' hw'=>?_,h⟩;have hl:=fZ (P:=P) w' g off n T A d (hg w' hw') hs hu hd hi;unfold Oper.quietAt execOp;simp only[ho,hx,Instr.loadAt,Instr.sureAddr,Sem.run_bind,Sem.run_pure,Result.andThen_ok,hl,Oper.quietUpon];exact⟨trivial,trivial⟩
def cA(k:Nat)(w:World)(B:Nat)(E:TypeId)(v:Value)(l:List (List Value)):Prop:=
 w.ownsRow B E k v l.length l.flatten/\l.length<=140737488351232/\∀x∈l,x.length=k
theorem cA.nil(k:Nat)(w:World)(B:Nat)(E:TypeId):cA k w B E (.slice none 0 0) []:=⟨World.ownsRow_nil w B E k,by simp,by simp⟩
theorem rF{k:Nat}{l:List (List Value)}(h:∀x∈l,x.length=k):l.flatten.length=l.length*k:=by
 induction l with
 |nil=>simp
 |cons x l ih=>
  rw[List.flatten_cons,qi,ih (fun y hy=>h y (qU _ hy)),h x je,qx,Nat.succ_mul,Nat.add_comm]
theorem tX{k:Nat}{l:List (List Value)}(h:∀x∈l,x.length=k):∀(i c:Nat),i<l.length->c<k->l.flatten[i*k+c]? =(l.getD i [])[c]? :=by
 induction l with
 |nil=>intro i c hi;simp at hi
 |cons x l ih=>
  intro i c hi hc;have hx:=h x je;rw[List.flatten_cons];cases i with
  |zero=>rw[Nat.zero_mul,qE,qS (by omega)];simp
  |succ i=>
   rw[jf (by rw[hx,Nat.succ_mul];omega),hx,show(i+1)*k+c-k=i*k+c by rw[Nat.succ_mul];omega,ih (fun y hy=>h y (qU _ hy)) i c (by simpa using hi) hc];simp
theorem cA.sl{k:Nat}{w:World}{B:Nat}{E:TypeId}{v:Value}{l:List (List Value)}(h:cA k w B E v l):SlK k w v l:=by
 obtain⟨⟨_,h⟩,hl,hk⟩:=h;rcases h with⟨rfl,h0⟩|⟨g,cap,cur,rfl,hb,hg,hnc,hcm,hcs,qbh⟩
 ·obtain rfl:l=[]:=List.length_eq_zero_iff.1 h0
  exact SlK.nil k w
 refine⟨some ⟨g,0,none⟩,cap,g,0,rfl,⟨fun _=>rfl,hnc,hcm,hl,fun _=>(Array.getElem?_eq_some_iff.1 hg).1⟩,fun i hi c hc=>?_⟩;rw[cell_of_row w g (0+i*k+c) cur E (0,0) hg,qE]
 have hlt:i*k+c<l.length*k:=by
  have h1:(i+1)*k<=l.length*k:=Nat.mul_le_mul_right k hi;rw[Nat.succ_mul]at h1;omega
 have h1:l.flatten[i*k+c]? =cur[i*k+c]? :=by
  rw[<-qbh,List.getElem?_take,qt hlt];simp
 rw[<-h1,tX hk i c hi hc];have hxl:c<(l.getD i []).length:=by rw[hk _ (by simp[List.getD,hi])];exact hc
 generalize l.getD i []=y at*;simp[List.getD,hxl]
theorem cA.keep{k:Nat}{w w':World}{B:Nat}{E:TypeId}{v:Value}{l:List (List Value)}{row:Option Nat}(h:cA k w B E v l)(hg:w.grownBy w' row)(hne:v.ownBlock=none\/v.ownBlock≠row):cA k w' B E v l:=⟨h.1.kept hg hne,h.2⟩
theorem cA.up{k:Nat}{w w':World}{B:Nat}{E:TypeId}{v:Value}{l:List (List Value)}(h:cA k w B E v l)(hb:Below w.heap.size w w'):cA k w' B E v l:=
 h.keep (row:=none) ⟨hb.os,hb.tape,hb.output,hb.size,fun k hk _=>hb.block k hk⟩ (by cases v.ownBlock<;>simp)
theorem cA.lt{k:Nat}{w:World}{B:Nat}{E:TypeId}{v:Value}{l:List (List Value)}(h:cA k w B E v l):∀q,v.ownBlock=some q->B<=q/\q<w.heap.size:=h.1.lt
theorem cA.mono{k:Nat}{w:World}{B B' E:Nat}{v:Value}{l:List (List Value)}(h:cA k w B E v l)(hB:B'<=B):cA k w B' E v l:=
 ⟨⟨h.1.1,h.1.2.imp id fun⟨g,cap,cur,h1,h2,h3⟩=>⟨g,cap,cur,h1,by omega,h3⟩⟩,h.2⟩
theorem q4F{P:Program}{k:Nat}(w:World)(B:Nat)(t ty E:TypeId)(z:Value)(bytes:Nat)(ht:P.underlying t=some (.slice E))(qbv:(P.info? E).map (fun i=>(i.zero,i.size,i.bytes))=some (some z,k,bytes))(hz:z.cells.size=k)(hk:0<k)(hby:bytes<=64)
  (v:Value) (xs:List (List Value)) (hown:cA k w B E v xs) (xv:Value) (news:List (List Value)) (hx:SlK k w xv news) (hnk:∀x∈news,x.length=k) (h1:∀u∈news.flatten,u.oneCell'=true) (hlen:xs.length+news.length<=1000000000) (hB:B<=w.heap.size):
  ∃v' w',(Builtin.append_ #[t,t] ty #[v,xv]).run P w=.ok v' w'/\cA k w' B E v' (xs++news)/\w.grownBy w' v.ownBlock/\(∀q,v'.ownBlock=some q->v.ownBlock=some q\/w.heap.size<=q):=by
 obtain⟨i0,hi,hz0,hz1,hz2⟩:∃i0,P.info? E=some i0/\i0.zero=some z/\i0.size=k/\i0.bytes=bytes:=by
  cases hq:P.info? E with
  |none=>simp[hq]at qbv
  |some i0=>simp[hq]at qbv;exact⟨i0,rfl,qbv.1,qbv.2.1,qbv.2.2⟩
 have hl1:xs.length+news.length<=maxLen:=by simp only[maxLen];omega
 have hl2:(xs.length+news.length)*bytes<=140737488355328:=by
  have:=Nat.mul_le_mul hlen hby;omega
 obtain⟨oa,cx,b,off,rfl,hd,hc⟩:=hx;obtain⟨hrow,hsm,hxk⟩:=hown;have qbn:news.flatten.length=news.length*k:=rF hnk
 have hall:∀x∈xs++news,x.length=k:=fun x hx=>by
  rcases List.mem_append.1 hx with h|h
  ·exact hxk x h
  exact hnk x h
 have qbW:(xs++news).length<=140737488351232:=by rw[qi];omega
 by_cases hn:news=[]
 ·subst hn
  refine⟨v,w,?_,⟨by simpa using hrow,by simpa using hsm,by simpa using hxk⟩,⟨rfl,rfl,rfl,qb _,fun _ _ _=>rfl⟩,fun k hk=>.inl hk⟩;rcases hrow.2 with⟨rfl,hx0⟩|⟨g,cap,cur,rfl,_,_,hnc,_⟩
  ·cases oa<;>simp[Builtin.append_,run_underlying ht,sizeOf,typeInfo,hi,Builtin.lenOf,Builtin.firstCells,loadCells,loadCellsFrom]
  cases oa<;>simp[Builtin.append_,run_underlying ht,sizeOf,typeInfo,hi,Builtin.lenOf,Builtin.firstCells,loadCells,loadCellsFrom,hnc,storeCells]
 have qbs:0<news.length:=List.length_pos_iff.2 hn;obtain rfl:=hd.hat qbs
 have hnews:∀j u,news.flatten[j]? =some u->w.cell? ((⟨b,off,none⟩:Addr).add j)=some u:=fun j u hu=>by
  have hj:=(List.getElem?_eq_some_iff.1 hu).1;rw[qbn]at hj;have hdm:j=j/k*k+j%k:=by rw[Nat.mul_comm];exact(Nat.div_add_mod j k).symm
  have hq:j/k<news.length:=(Nat.div_lt_iff_lt_mul hk).2 hj;have hm:=jT j hk;rw[kF,hdm,<-jI,hc (j/k) hq (j%k) hm];rw[hdm,tX hnk _ _ hq hm]at hu;rw[qq,hu];rfl
 rcases hrow.2 with⟨rfl,hx0⟩|⟨g,cap,cur,rfl,hbg,hg,hnc,hcm,hcs,qbh⟩
 ·obtain rfl:xs=[]:=List.length_eq_zero_iff.1 hx0
  obtain⟨v',w',hr,ho,hgr,-⟩:=run_append_own (P:=P) w w.heap.size t ty E i0 z k bytes ht hi hz0 hz1 hz2 hz hk (.slice none 0 0) 0 [] (World.ownsRow_nil _ _ _ _) ⟨b,off,none⟩ news.length cx news.flatten qbn hnews h1 (by simpa using hl1) (by simpa using hl2) (qb _);have hkk:=ho.lt;refine⟨v',w',hr,⟨⟨by simpa using qbn,?_⟩,qbW,hall⟩,hgr,fun q hq=>.inr (hkk q hq).1⟩;simp only[qE,List.nil_append]at ho;rcases ho.2 with⟨h1,h2⟩|⟨g,cap,cur,h1,h2,h3⟩
  ·exact .inl ⟨h1,by simpa using h2⟩
  exact .inr ⟨g,cap,cur,h1,by omega,by simpa using h3⟩
 by_cases hroom:xs.length+news.length<=cap
 ·obtain⟨w',hr,ho,hgr⟩:=run_append_fits (P:=P) w B t ty E i0 k ht hi hz1 g xs.length cap xs.flatten ⟨hrow.1,.inr ⟨g,cap,cur,rfl,hbg,hg,hnc,hcm,hcs,qbh⟩⟩ ⟨b,off,none⟩ news.length cx news.flatten qbn hnews h1 hroom
  exact⟨_,w',hr,⟨by rw[qi,ju];exact ho,qbW,hall⟩,hgr,fun k hk=>.inl hk⟩
 have holds:∀j u,xs.flatten[j]? =some u->w.cell? ((⟨g,0,none⟩:Addr).add j)=some u:=World.ownsRow.cells (g:=g) hrow rfl;have hxl:xs.flatten.length=xs.length*k:=rF hxk;have hr:=run_append_grow (P:=P) w t ty E i0 z ht hi hz0 ⟨g,0,none⟩ xs.length cap xs.flatten (by rw[hz1];exact hxl) holds ⟨b,off,none⟩ news.length cx news.flatten (by rw[hz1];exact qbn) hnews (by omega) (by omega) (growslice_fits (by omega) (by rw[hz2];exact hl2));have hge:=grownCap_ge w (xs.length+news.length) cap E;have qfB:grownCap w (xs.length+news.length) cap E<=maxLen:=grownCap_le_maxLen w _ cap E hl1;refine⟨_,_,hr,⟨⟨by rw[qi,ju,qi,hxl,qbn,jK],.inr ⟨w.heap.size,_,_,by rw[qi],hB,heap_alloc_new w.drew _,by rw[qi];exact hge,qfB,?_,?_⟩⟩,qbW,hall⟩,⟨rfl,rfl,rfl,by simp,fun k hk _=>Below.heap_alloc w.drew _ k hk⟩,fun k hk=>.inr (by simp[Value.ownBlock]at hk;omega)⟩
 ·simp only[Array.size_append,jA,size_zeroCells,hz,hxl,qbn,<-jK]
  congr 1;omega
 simp only[Array.toList_append,qj,qi,ju];rw[<-qj,jK,<-hxl,<-qbn,<-qi];exact List.take_left
theorem gV{P:Program}{ops:Array Oper}{rest:List Oper}{o:Oper}{a:Act}{w:World}{Q:Exit->Act->World->Prop}(k:Nat)(hgd:o.guard=none)(s x:Operand)(t:TypeId)
  (ho:o.op=.call {callee:=.builtin .append,args:=#[s,x],argTypes:=#[t,t]})
  (B E:TypeId) (z:Value) (bytes:Nat) (ht:P.underlying t=some (.slice E)) (qbv:(P.info? E).map (fun i=>(i.zero,i.size,i.bytes))=some (some z,k,bytes)) (hz:z.cells.size=k) (hk:0<k) (hby:bytes<=64)
  (v:Value) (xs:List (List Value)) (hs:a.eval s=v) (hown:cA k w B E v xs) (xv:Value) (news:List (List Value)) (hxe:a.eval x=xv) (hx:SlK k w xv news) (hnk:∀x∈news,x.length=k) (h1:∀u∈news.flatten,u.oneCell'=true) (hlen:xs.length+news.length<=1000000000) (hB:B<=w.heap.size)
  (h:∀v' w',cA k w' B E v' (xs++news)->w.grownBy w' v.ownBlock->(∀q,v'.ownBlock=some q->v.ownBlock=some q\/w.heap.size<=q)->wpList P ops Q rest (a.put o.dst v') w'):wpList P ops Q (o::rest) a w:=by
 obtain⟨v',w',hr,h2,h3,h4⟩:=q4F (P:=P) w B t o.type E z bytes ht qbv hz hk hby v xs hown xv news hx hnk h1 hlen hB;refine wpList_plain hgd fun K hK=>?_;unfold Oper.wp execOp;simp only[ho,resolve,invoke,builtin,Sem.run_bind,Sem.run_pure,Result.andThen_ok,List.map_toArray,qF,jq,hs,hxe,hr];exact hK _ _ (h v' w' h2 h3 h4)
theorem xA(k:Nat)(w:World)(c:Array Value)(E:TypeId)(l:List (List Value))(hl:c.toList=l.flatten)(hk:∀x∈l,x.length=k)(hc:l.length<=4294967296):SlK k (w.alloc (.cells c E)) (.slice (some ⟨w.heap.size,0,none⟩) l.length l.length) l:=by
 refine⟨some ⟨w.heap.size,0,none⟩,l.length,w.heap.size,0,rfl,⟨fun _=>rfl,qb _,by simp only[maxLen];omega,by omega,fun _=>by simp⟩,fun i hi x hx=>?_⟩;rw[qE,World.cell?_alloc_new,<-j6,hl,tX hk i x hi hx];have hxl:x<(l.getD i []).length:=by rw[hk _ (by simp[List.getD,hi])];exact hx
 generalize l.getD i []=y at*;simp[List.getD,hxl]
theorem oZ(k:Nat)(w:World)(B:Nat)(c:Array Value)(E:TypeId)(l:List (List Value))(hl:c.toList=l.flatten)(hk:∀x∈l,x.length=k)(hc:l.length<=4294967296)(hB:B<=w.heap.size):cA k (w.alloc (.cells c E)) B E (.slice (some ⟨w.heap.size,0,none⟩) l.length l.length) l:=by
 have hs:c.size=l.length*k:=by rw[<-qN,hl,rF hk]
 have h:=World.ownsRow_lit (base:=B) (e:=E) (size:=k) w c l.length hB (by simp only[maxLen];omega) hs;rw[hl]at h;exact⟨h,by omega,hk⟩
end Go.Cm
namespace Go.Cm
open Go.RowKit Go.Proofs
structure vC(S:Nat->Prop)(w w':World):Prop where
 os:w'.os=w.os
 tape:w'.tape=w.tape
 output:w'.output=w.output
 size:w.heap.size<=w'.heap.size
 block:∀k,k<w.heap.size->¬S k->w'.heap[k]? =w.heap[k]?
structure Gw(S:Nat->Prop)(w:World)(S':Nat->Prop)(w':World):Prop where
 fx:vC S w w'
 sub:∀k,S' k->S k\/w.heap.size<=k
section
variable {S S' S1 S2 : Nat → Prop} {w w' w1 w2 : World}
theorem vC.refl(S:Nat->Prop)(w:World):vC S w w:=⟨rfl,rfl,rfl,qb _,fun _ _ _=>rfl⟩
theorem Gw.refl(S:Nat->Prop)(w:World):Gw S w S w:=⟨vC.refl S w,fun _ h=>.inl h⟩
theorem Gw.trans(h:Gw S w S1 w1)(k:Gw S1 w1 S2 w2):Gw S w S2 w2:=
 ⟨⟨k.fx.os.trans h.fx.os,k.fx.tape.trans h.fx.tape,k.fx.output.trans h.fx.output,qc h.fx.size k.fx.size,fun i hi h1=>by
   rw[k.fx.block i (qe hi h.fx.size) (fun e=>(h.sub i e).elim h1 (fun z=>by omega)),h.fx.block i hi h1]⟩,
  fun i hi=>(k.sub i hi).elim (h.sub i) (fun z=>.inr (qc h.fx.size z))⟩
theorem dD(S:Nat->Prop)(h:Below w.heap.size w w1):Gw S w S w1:=⟨⟨h.os,h.tape,h.output,h.size,fun k hk _=>h.block k hk⟩,fun _ h=>.inl h⟩
theorem Gw.up(h:Gw S w S1 w1)(k:Below w1.heap.size w1 w2):Gw S w S1 w2:=h.trans (dD S1 k)
theorem eM{row:Option Nat}(h:w.grownBy w1 row)(hr:∀k,row=some k->S k)(hs:∀k,S' k->S k\/w.heap.size<=k):Gw S w S' w1:=
 ⟨⟨h.os,h.tape,h.output,h.size,fun k hk h1=>h.block k hk (fun e=>h1 (hr k e.symm))⟩,hs⟩
theorem Gw.out(h:Gw S w S' w1){p:Nat}(hp:p<w.heap.size)(hn:¬S p):¬S' p:=fun e=>(h.sub p e).elim hn (fun z=>by omega)
theorem Gw.blk(h:Gw S w S' w1){p:Nat}(hp:p<w.heap.size)(hn:¬S p):w1.heap[p]? =w.heap[p]? :=h.fx.block p hp hn
theorem Gw.cell(h:Gw S w S' w1){b o:Nat}(hb:b<w.heap.size)(hn:¬S b):w1.cell? ⟨b,o,none⟩=w.cell? ⟨b,o,none⟩:=World.cell?_of_block (w:=w) (h.fx.block b hb hn)
theorem Gw.size(h:Gw S w S' w1):w.heap.size<=w1.heap.size:=h.fx.size
theorem Gw.below(h:Gw S w S' w1){n:Nat}(hn:n<=w.heap.size)(hS:∀k,S k->n<=k):Below n w w1:=
 ⟨h.fx.os,h.fx.tape,h.fx.output,h.fx.size,fun k hk=>h.fx.block k (by omega) (fun e=>by have:=hS k e;omega)⟩
end
def Sep(L:List (Option Nat)):Prop:=∀i j k:Nat,L[i]? =some (some k)->L[j]? =some (some k)->i=j
theorem Sep.set{L:List (Option Nat)}(h:Sep L){n i:Nat}{b:Option Nat}(hlt:∀j k:Nat,L[j]? =some (some k)->k<n)(hb:∀k:Nat,b=some k->L[i]? =some (some k)\/n<=k):Sep (L.set i b):=by
 intro x y k hx hy;rw[jN]at hx hy;by_cases hix:i=x<;>by_cases hiy:i=y
 ·omega
 ·rw[qt hix]at hx
  rw[qr hiy]at hy;split at hx
  ·have hbk:b=some k:=by injection hx
   rcases hb k hbk with h1|h1
   ·exact absurd (h i y k h1 hy) hiy
   have:=hlt y k hy;omega
  cases hx
 ·rw[qr hix]at hx
  rw[qt hiy]at hy;split at hy
  ·have hbk:b=some k:=by injection hy
   rcases hb k hbk with h1|h1
   ·exact absurd (h i x k h1 hx) hix
   have:=hlt x k hx;omega
  cases hy
 rw[qr hix]at hx;rw[qr hiy]at hy;exact h x y k hx hy
theorem Sep.snoc{L:List (Option Nat)}(h:Sep L):Sep (L++[none]):=by
 have key:∀x k:Nat,(L++[none])[x]? =some (some k)->L[x]? =some (some k):=fun x k hx=>by
  by_cases hl:x<L.length
  ·rwa [qS hl]at hx
  rw[jf (by omega)]at hx;by_cases h0:x-L.length=0
  ·rw[h0]at hx;simp at hx
  rw[qM (by simp;omega)]at hx;cases hx
 exact fun x y k hx hy=>h x y k (key x k hx) (key y k hy)
structure Ed where
 to:Int
 free:Bool
 a:Int
 b:Int
 c:Int
 d:Int
def edC(e:Ed):List Value:=[.int .i64 e.to,.bool e.free,.int .u64 e.a,.int .u64 e.b,.int .u64 e.c,.int .u64 e.d]
theorem E6(l:List Ed):∀x∈l.map edC,x.length=6:=by
 intro x hx;obtain⟨e,-,rfl⟩:=List.mem_map.1 hx
 rfl
def stV(q:Nat):Value:=.func (.func 169) #[] #[.pointer (some ⟨q,0,none⟩)]
def ffV(q:Nat):Value:=.func (.func 170) #[] #[.pointer (some ⟨q,0,none⟩)]
def mkL(q g:Nat)(ve vr:Value)(vs:List Value):List (Option Nat):=some q::some g::ve.ownBlock::vr.ownBlock::vs.map Value.ownBlock
def MkS(g:Nat)(ve vr:Value)(vs:List Value)(k:Nat):Prop:=k=g\/ve.ownBlock=some k\/vr.ownBlock=some k\/∃i,i<vs.length/\(vs.getD i undef).ownBlock=some k
structure Mk(w:World)(g q:Nat)(ve:Value)(vs:List Value)(vr:Value)(ll:List (List Ed))(rl:List Int)(F:Int):Prop where
 box:Own w 0 219 (.slice (some ⟨g,0,none⟩) 5 5) [ve,.int .i64 F,vr,stV q,ffV q]
 hq:w.cell? ⟨q,0,none⟩=some (.pointer (some ⟨g,0,none⟩))
 hql:q<w.heap.size
 outer:Own w 0 224 ve vs
 len:vs.length=ll.length
 rows:∀i,i<ll.length->cA 6 w 0 226 (vs.getD i undef) ((ll.getD i []).map edC)
 rules:Own w 0 3 vr (ints rl)
 sep:Sep (mkL q g ve vr vs)
section
variable {w w' w0 w1 : World} {g q : Nat} {ve vr : Value} {vs : List Value} {ll : List (List Ed)} {rl : List Int} {F : Int}
theorem nX(q g:Nat)(ve vr:Value)(vs:List Value)(i:Nat)(hi:i<vs.length):(mkL q g ve vr vs)[i+4]? =some (vs.getD i undef).ownBlock:=by
 simp[mkL,List.getD,hi]
theorem Mk.c0(h:Mk w g q ve vs vr ll rl F):w.cell? ⟨g,0,none⟩=some ve:=h.box.cell (by simp)
theorem Mk.c1(h:Mk w g q ve vs vr ll rl F):w.cell? ⟨g,1,none⟩=some (.int .i64 F):=h.box.cell (by simp)
theorem Mk.c2(h:Mk w g q ve vs vr ll rl F):w.cell? ⟨g,2,none⟩=some vr:=h.box.cell (by simp)
theorem Mk.c3(h:Mk w g q ve vs vr ll rl F):w.cell? ⟨g,3,none⟩=some (stV q):=h.box.cell (by simp)
theorem Mk.c4(h:Mk w g q ve vs vr ll rl F):w.cell? ⟨g,4,none⟩=some (ffV q):=h.box.cell (by simp)
theorem Mk.f(h:Mk w g q ve vs vr ll rl F)(c:Nat):w.frozen? ⟨g,c,none⟩=false:=h.box.free c
theorem Mk.lt(h:Mk w g q ve vs vr ll rl F):g<w.heap.size:=h.box.blk.2
theorem Mk.all(h:Mk w g q ve vs vr ll rl F):∀j k:Nat,(mkL q g ve vr vs)[j]? =some (some k)->k<w.heap.size:=by
 intro j k hj;rcases j with _|_|_|_|j
 ·simp[mkL]at hj;subst hj;exact h.hql
 ·simp[mkL]at hj;subst hj;exact h.lt
 ·simp[mkL]at hj;exact(h.outer.lt k hj).2
 ·simp[mkL]at hj;exact(h.rules.lt k hj).2
 by_cases hjl:j<vs.length
 ·rw[nX _ _ _ _ _ j hjl]at hj
  injection hj with hj;exact((h.rows j (by rw[<-h.len];exact hjl)).lt k hj).2
 simp[mkL,qM (show vs.length<=j by omega)]at hj
theorem Mk.mem(h:Mk w g q ve vs vr ll rl F){k:Nat}(hk:MkS g ve vr vs k):∃j,1<=j/\(mkL q g ve vr vs)[j]? =some (some k):=by
 rcases hk with rfl|hk|hk|⟨i,hi,hk⟩
 ·exact⟨1,by omega,rfl⟩
 ·exact⟨2,by omega,by simp[mkL,hk]⟩
 ·exact⟨3,by omega,by simp[mkL,hk]⟩
 exact⟨i+4,by omega,by rw[nX _ _ _ _ _ i hi,hk]⟩
theorem Mk.mlt(h:Mk w g q ve vs vr ll rl F){k:Nat}(hk:MkS g ve vr vs k):k<w.heap.size:=by
 obtain⟨j,-,hj⟩:=h.mem hk;exact h.all j k hj
theorem Mk.mq(h:Mk w g q ve vs vr ll rl F):¬MkS g ve vr vs q:=by
 intro hk;obtain⟨j,h1,hj⟩:=h.mem hk;have:=h.sep 0 j q rfl hj;omega
theorem Mk.keep(h:Mk w g q ve vs vr ll rl F){row:Option Nat}(hg:w.grownBy w' row)(hr:∀j k:Nat,(mkL q g ve vr vs)[j]? =some (some k)->row≠some k):Mk w' g q ve vs vr ll rl F:=
 ⟨h.box.keep hg (bR fun k hk=>hr 1 k (by rw[show k=g from(qo hk).symm];rfl)),by rw[<-h.hq];exact World.cell?_of_block (w:=w) (hg.block q h.hql (fun e=>hr 0 q rfl e.symm)),qe h.hql hg.size,h.outer.keep hg (bR fun k hk=>hr 2 k (by simp[mkL,hk])),h.len,
  fun i hi=>(h.rows i hi).keep hg (bR fun k hk=>hr (i+4) k (by rw[nX _ _ _ _ _ i (by rw[h.len];exact hi),hk])),h.rules.keep hg (bR fun k hk=>hr 3 k (by simp[mkL,hk])),h.sep⟩
theorem Mk.up(h:Mk w g q ve vs vr ll rl F)(hb:Below w.heap.size w w'):Mk w' g q ve vs vr ll rl F:=h.keep (row:=none) (aE hb none) (fun _ _ _ e=>by cases e)
end
end Go.Cm
namespace Go.Cm
structure St where
 e:List (List Ed)
 r:List Int
structure Pc where
 f:Nat
 l:Nat
def q89(tz:Int):Ed:=⟨tz,true,0,0,0,0⟩
def q2g(ll:List (List Ed))(i:Nat)(e:Ed):List (List Ed):=ll.set i (ll.getD i []++[e])
def kS(s:St):St:=⟨s.e++[[]],s.r++[-1]⟩
def d6(i tz:Nat)(s:St):St:=⟨q2g s.e i (q89 tz),s.r⟩
def two(s:St):St:=kS (kS s)
def bJ(s:St):Pc:=⟨s.e.length,s.e.length+1⟩
def q2h(x:Nd)(tz:Nat):Ed:=⟨tz,decide (x.kd=2),x.a,x.b,x.c,x.d⟩
def xB(x:Nd)(s:St):St:=⟨(two s).e.set s.e.length [q2h x (s.e.length+1)],(two s).r⟩
def iff(b:Bool)(f:St->St)(s:St):St:=if b then f s else s
def nY(out again:Bool)(q:Pc)(s:St):St:=
 let p:=bJ s
 iff again (d6 q.l q.f) (iff out (d6 p.f p.l) (d6 q.l p.l (d6 p.f q.f (two s))))
def zP:Pc:=⟨0,0⟩
def iB(ps:List Pc):Nat->St->St
 |0,s=>s
 |i+1,s=>iff (decide (0<i)) (d6 (ps.getD (i-1) zP).l (ps.getD i zP).f) (iB ps i s)
def xC(ps:List Pc):Pc:=⟨(ps.getD 0 zP).f,(ps.getD (ps.length-1) zP).l⟩
def eH(p:Pc)(ps:List Pc):Nat->St->St
 |0,s=>s
 |i+1,s=>d6 (ps.getD i zP).l p.l (d6 p.f (ps.getD i zP).f (eH p ps i s))
def q2i(x:Nd)(t:Nat)(p:Pc)(part:St->Pc×St)(i:Nat)(y:Nat×St):Nat×St:=
 let qs:=part y.2
 (qs.1.l,iff (decide (x.hi<0/\i+1=t)) (d6 qs.1.l qs.1.f) (iff (decide (x.lo<=i+1)) (d6 qs.1.l p.l) (d6 y.1 qs.1.f qs.2)))
def eB(x:Nd)(t:Nat)(p:Pc)(part:St->Pc×St)(s:St):Nat->Nat×St
 |0=>(p.f,s)
 |i+1=>q2i x t p part i (eB x t p part s i)
def wC(x:Nd)(part:St->Pc×St)(s:St):Pc×St:=
 let p:=bJ s
 (p,(eB x (eY x).toNat p part (iff (decide (x.lo=0)) (d6 p.f p.l) (two s)) (eY x).toNat).2)
def eN(y:List Pc×St):Pc×St:=(y.1.getD 0 zP,y.2)
def eF(x:Nd)(K:St->List Pc×St)(s:St):Pc×St:=
 if x.kd=1\/x.kd=2 then(bJ s,xB x s)
 else if x.kd=8 then wC x (fun s=>eN (K s)) s
 else if x.kd=5\/x.kd=6\/x.kd=7 then(bJ (K s).2,nY (decide (x.kd≠6)) (decide (x.kd≠7)) (eN (K s)).1 (K s).2)
 else if x.kd=3 then(xC (K s).1,iB (K s).1 (K s).1.length (K s).2)
 else(bJ (K s).2,eH (bJ (K s).2) (K s).1 (K s).1.length (two (K s).2))
def g8:Fo->St->List Pc×St
 |.nil,s=>([],s)
 |.cons x k r,s=>
  let y:=eF x (fun s=>g8 k s) s
  let z:=g8 r y.2
  (y.1::z.1,z.2)
def cZ(x:Nd)(u:Nat):Nat:=if x.kd=1\/x.kd=2 then 2 else if x.kd=4\/x.kd=5\/x.kd=6\/x.kd=7 then u+2 else if x.kd=8 then 2+(eY x).toNat*u else u
def usz:Fo->Nat
 |.nil=>0
 |.cons x k r=>cZ x (usz k)+usz r
theorem E9:∀f,T9 okN f->(gI f=usz f\/(1000000<=gI f/\1000000<=(usz f:Int)))
 |.nil,_=>.inl rfl
 |.cons x k r,h=>by
  have hk:=E9 k h.2.1;have hr:=E9 r h.2.2;have h0:=(kR r h.2.2).1
  have key:pP x (gI k)=cZ x (usz k)\/(1000000<=pP x (gI k)/\1000000<=(cZ x (usz k):Int)):=by
   have hok:=okN_kd' h.1;unfold pP cZ;by_cases h12:x.kd=1\/x.kd=2
   ·rw[qt h12,qt h12];left;rfl
   rw[qr h12,qr h12];by_cases h47:x.kd=4\/x.kd=5\/x.kd=6\/x.kd=7
   ·rw[qt h47,qt h47];push_cast;omega
   rw[qr h47,qr h47];by_cases h8:x.kd=8
   ·rw[qt h8,qt h8]
    have ht:=sF h.1 h8;obtain⟨t,ht'⟩:∃t:Nat,eY x=t:=⟨(eY x).toNat,by omega⟩;rw[ht']at ht⊢;simp only[qA]
    push_cast
    rcases hk with hk|⟨hk1,hk2⟩
    ·rw[hk]
     have:(0:Int)<=(t:Int)*(usz k:Int):=Int.mul_nonneg (by omega) (by omega);omega
    rcases jD t with h|h
    ·subst h;left;simp;omega
    have e1:(1:Int)*gI k<=t*gI k:=Int.mul_le_mul_of_nonneg_right (by omega) (by omega);have e2:(1:Int)*(usz k:Int)<=t*(usz k:Int):=Int.mul_le_mul_of_nonneg_right (by omega) (by omega);omega
   rw[qr h8,qr h8];omega
  simp only[gI,usz]
  push_cast
  omega
where
  okN_kd' {x : Nd} (h : okN x) : x.kd = 1 ∨ x.kd = 2 ∨ x.kd = 3 ∨ x.kd = 4 ∨ x.kd = 5 ∨ x.kd = 6 ∨ x.kd = 7 ∨ x.kd = 8 := by unfold okN at h; omega
theorem q5Z{f:Fo}(h:T9 okN f)(hs:gI f<=10000):gI f=usz f:=by
 rcases E9 f h with h1|⟨h1,h2⟩
 ·exact h1
 omega
def tot(ll:List (List Ed)):Nat:=(ll.map List.length).sum
theorem V4(ll:List (List Ed)):∀(i:Nat) (r:List Ed),tot (ll.set i r)+(ll.getD i []).length<=tot ll+r.length:=by
 induction ll with
 |nil=>intro i r;simp[tot,List.getD]
 |cons x l ih=>
  intro i r;cases i with
  |zero=>simp[tot,List.getD];omega
  |succ i=>
   have h:=ih i r;simp only[tot,List.set_cons_succ,qF,List.sum_cons,List.getD_cons_succ]at h⊢;omega
theorem q6D(ll:List (List Ed))(i:Nat)(e:Ed):tot (q2g ll i e)<=tot ll+1:=by
 have h:=V4 ll i (ll.getD i []++[e]);rw[qi,qB]at h;unfold q2g;omega
theorem q1k(ll:List (List Ed))(i:Nat):(ll.getD i []).length<=tot ll:=by
 have h:=V4 ll i [];simp only[qK]at h;omega
theorem q2j(ll:List (List Ed))(i:Nat)(e:Ed):(q2g ll i e).length=ll.length:=by simp[q2g]
@[simp] theorem eT(i tz:Nat)(s:St):(d6 i tz s).e.length=s.e.length:=q2j _ _ _
@[simp] theorem q2k(i tz:Nat)(s:St):(d6 i tz s).r=s.r:=rfl
theorem e9(i tz:Nat)(s:St):tot (d6 i tz s).e<=tot s.e+1:=q6D _ _ _
@[simp] theorem lW(s:St):(two s).e.length=s.e.length+2:=by simp[two,kS]
@[simp] theorem q9O(s:St):(two s).r.length=s.r.length+2:=by simp[two,kS]
@[simp] theorem nZ(s:St):tot (two s).e=tot s.e:=by simp[two,kS,tot]
@[simp] theorem q9z(x:Nd)(s:St):(xB x s).e.length=s.e.length+2:=by simp[xB]
@[simp] theorem qat(x:Nd)(s:St):(xB x s).r.length=s.r.length+2:=by simp[xB]
theorem q4G(x:Nd)(s:St):tot (xB x s).e<=tot s.e+1:=by
 have h:=V4 (two s).e s.e.length [q2h x (s.e.length+1)];rw[nZ]at h;simp only[xB];simp only[qB]at h;omega
theorem q6E(b:Bool)(f:St->St)(s:St)(h:(f s).e.length=s.e.length):(iff b f s).e.length=s.e.length:=by unfold iff;split<;>simp[h]
theorem q9P(b:Bool)(f:St->St)(s:St)(h:(f s).r=s.r):(iff b f s).r=s.r:=by unfold iff;split<;>simp[h]
theorem q6F(b:Bool)(f:St->St)(s:St)(h:tot (f s).e<=tot s.e+1):tot (iff b f s).e<=tot s.e+1:=by unfold iff;split<;>omega
@[simp] theorem zO(b:Bool)(i tz:Nat)(s:St):(iff b (d6 i tz) s).e.length=s.e.length:=q6E _ _ _ (eT _ _ _)
@[simp] theorem q4H(b:Bool)(i tz:Nat)(s:St):(iff b (d6 i tz) s).r=s.r:=q9P _ _ _ rfl
theorem kX(b:Bool)(i tz:Nat)(s:St):tot (iff b (d6 i tz) s).e<=tot s.e+1:=q6F _ _ _ (e9 _ _ _)
@[simp] theorem o0(ps:List Pc)(s:St):∀i,(iB ps i s).e.length=s.e.length
 |0=>rfl
 |i+1=>by simp[iB,o0 ps s i]
@[simp] theorem q2l(ps:List Pc)(s:St):∀i,(iB ps i s).r=s.r
 |0=>rfl
 |i+1=>by simp[iB,q2l ps s i]
theorem xD(ps:List Pc)(s:St):∀i,tot (iB ps i s).e<=tot s.e+(i-1)
 |0=>by simp[iB]
 |1=>by simp[iB,iff]
 |i+2=>by
  have h1:=xD ps s (i+1);have h2:=kX (decide (0<i+1)) (ps.getD (i+1-1) zP).l (ps.getD (i+1) zP).f (iB ps (i+1) s);rw[iB];omega
@[simp] theorem lF(p:Pc)(ps:List Pc)(s:St):∀i,(eH p ps i s).e.length=s.e.length
 |0=>rfl
 |i+1=>by simp[eH,lF p ps s i]
@[simp] theorem q8k(p:Pc)(ps:List Pc)(s:St):∀i,(eH p ps i s).r=s.r
 |0=>rfl
 |i+1=>by simp[eH,q8k p ps s i]
theorem V5(p:Pc)(ps:List Pc)(s:St):∀i,tot (eH p ps i s).e<=tot s.e+2*i
 |0=>by simp[eH]
 |i+1=>by
  have h1:=V5 p ps s i;have h2:=e9 p.f (ps.getD i zP).f (eH p ps i s);have h3:=e9 (ps.getD i zP).l p.l (d6 p.f (ps.getD i zP).f (eH p ps i s));rw[eH];omega
@[simp] theorem F0(o a:Bool)(q:Pc)(s:St):(nY o a q s).e.length=s.e.length+2:=by simp[nY]
@[simp] theorem q8l(o a:Bool)(q:Pc)(s:St):(nY o a q s).r.length=s.r.length+2:=by simp[nY]
theorem q4I(o a:Bool)(q:Pc)(s:St):tot (nY o a q s).e<=tot s.e+4:=by
 unfold nY
 dsimp only
 have h1:=e9 (bJ s).f q.f (two s);have h2:=e9 q.l (bJ s).l (d6 (bJ s).f q.f (two s));have h3:=kX o (bJ s).f (bJ s).l (d6 q.l (bJ s).l (d6 (bJ s).f q.f (two s)));have h4:=kX a q.l q.f (iff o (d6 (bJ s).f (bJ s).l) (d6 q.l (bJ s).l (d6 (bJ s).f q.f (two s))));rw[nZ]at h1;omega
structure N3(s:St)(y:List Pc×St)(u c:Nat):Prop where
 len:y.2.e.length=s.e.length+u
 rlen:y.2.r.length=s.r.length+u
 plen:y.1.length=c
 rng:∀i,i<c->(y.1.getD i zP).f<y.2.e.length/\(y.1.getD i zP).l<y.2.e.length
 tot:tot y.2.e+3*c<=tot s.e+2*u
 two:2*c<=u
structure q6G(s:St)(u:Nat)(i:Nat)(y:Nat×St):Prop where
 len:y.2.e.length=s.e.length+2+i*u
 rlen:y.2.r.length=s.r.length+2+i*u
 at_:y.1<y.2.e.length
 tot:tot y.2.e<=tot s.e+1+i*(2*u)
theorem q02(x:Nd)(t:Nat)(part:St->Pc×St)(u:Nat)(hp:∀s,N3 s ([(part s).1],(part s).2) u 1)(s:St):∀i,q6G s u i (eB x t (bJ s) part (iff (decide (x.lo=0)) (d6 (bJ s).f (bJ s).l) (two s)) i)
 |0=>by
  refine⟨by simp[eB],by simp[eB],by simp[eB,bJ],?_⟩;have:=kX (decide (x.lo=0)) (bJ s).f (bJ s).l (two s);rw[nZ]at this;simp only[eB];omega
 |i+1=>by
  have h:=q02 x t part u hp s i;simp only[eB,q2i];generalize eB x t (bJ s) part (iff (decide (x.lo=0)) (d6 (bJ s).f (bJ s).l) (two s)) i=y at*;have hq:=hp y.2;have h1:=hq.len;have h2:=hq.rlen;have h3:=hq.rng 0 (by omega);have h4:=hq.tot;simp only[j7]at h1 h2 h3 h4;have e:(i+1)*u=i*u+u:=by rw[jK,Nat.one_mul]
  have e2:(i+1)*(2*u)=i*(2*u)+2*u:=by rw[jK,Nat.one_mul]
  refine⟨?_,?_,?_,?_⟩
  ·simp only[zO,eT];rw[h1,h.len,e];omega
  ·simp only[q4H,q2k];rw[h2,h.rlen,e];omega
  ·simp only[zO,eT];exact h3.2
  have a1:=e9 y.1 (part y.2).1.f (part y.2).2;have a2:=kX (decide (x.lo<=(i:Int)+1)) (part y.2).1.l (bJ s).l (d6 y.1 (part y.2).1.f (part y.2).2);have a3:=kX (decide (x.hi<0/\i+1=t)) (part y.2).1.l (part y.2).1.f (iff (decide (x.lo<=(i:Int)+1)) (d6 (part y.2).1.l (bJ s).l) (d6 y.1 (part y.2).1.f (part y.2).2));have a4:=h.tot;rw[e2];simp only;omega
theorem mU(x:Nd)(K:St->List Pc×St)(u c:Nat)(hx:okN x)(hc:x.n=c)(hK:∀s,N3 s (K s) u c)(s:St):N3 s ([(eF x K s).1],(eF x K s).2) (cZ x u) 1:=by
 have qcY:∀(p:Pc) (m:Nat),p.f<m->p.l<m->∀i,i<1->(([p]:List Pc).getD i zP).f<m/\(([p]:List Pc).getD i zP).l<m:=fun p m h1 h2 i hi=>by
  obtain rfl:i=0:=by omega
  exact⟨h1,h2⟩
 have hk:=hK s;have k1:=hk.len;have k2:=hk.rlen;have k3:=hk.plen;have k4:=hk.rng;have k5:=hk.tot;have k6:=hk.two;unfold okN at hx;unfold eF cZ;by_cases h12:x.kd=1\/x.kd=2
 ·rw[qt h12,qt h12]
  have:=q4G x s;exact⟨by simp,by simp,rfl,qcY _ _ (by simp[bJ]) (by simp[bJ]),by simp only;omega,by omega⟩
 rw[qr h12,qr h12];by_cases h8:x.kd=8
 ·rw[qt h8,qr (by omega),qt h8]
  have hc1:c=1:=by omega
  subst hc1
  have hp:∀s,N3 s ([(eN (K s)).1],(eN (K s)).2) u 1:=fun s=>by
   have h:=hK s;exact⟨h.len,h.rlen,rfl,qcY _ _ (h.rng 0 (by omega)).1 (h.rng 0 (by omega)).2,h.tot,h.two⟩
  have hr:=q02 x (eY x).toNat (fun s=>eN (K s)) u hp s (eY x).toNat;unfold wC
  dsimp only
  have r1:=hr.len;have r2:=hr.rlen;have r4:=hr.tot;have e:(eY x).toNat*(2*u)=2*((eY x).toNat*u):=by rw[Nat.mul_left_comm]
  rw[e]at r4;generalize eB x (eY x).toNat (bJ s) (fun s=>eN (K s)) _ (eY x).toNat=y at*;exact⟨by dsimp only;omega,by dsimp only;omega,rfl,qcY _ _ (by dsimp only[bJ];omega) (by dsimp only[bJ];omega),by dsimp only;omega,by omega⟩
 rw[qr h8];by_cases qhr:x.kd=5\/x.kd=6\/x.kd=7
 ·rw[qt qhr,qt (by omega)]
  have hc1:c=1:=by omega
  subst hc1;have:=q4I (decide (x.kd≠6)) (decide (x.kd≠7)) (eN (K s)).1 (K s).2;exact⟨by simp only[F0];omega,by simp only[q8l];omega,rfl,qcY _ _ (by simp only[F0,bJ];omega) (by simp only[F0,bJ];omega),by simp only;omega,by omega⟩
 rw[qr qhr];by_cases h3:x.kd=3
 ·rw[qt h3,qr (by omega),qr h8]
  have:=xD (K s).1 (K s).2 (K s).1.length;rw[k3]at this;have hc2:2<=c:=by omega
  exact⟨by simp only[o0];exact k1,by simp only[q2l];exact k2,rfl,qcY _ _ (by simp only[o0,xC];exact(k4 0 (by omega)).1) (by simp only[o0,xC,k3];exact(k4 (c-1) (by omega)).2),by simp only[k3];omega,by omega⟩
 rw[qr h3,qt (by omega)];have:=V5 (bJ (K s).2) (K s).1 (two (K s).2) (K s).1.length;rw[k3,nZ]at this;exact⟨by simp only[lF,lW];omega,by simp only[q8k,q9O];omega,rfl,qcY _ _ (by simp only[lF,lW,bJ];omega) (by simp only[lF,lW,bJ];omega),by simp only[k3];omega,by omega⟩
theorem lR:∀(f:Fo),wf f->T9 okN f->∀s,N3 s (g8 f s) (usz f) (cnt f)
 |.nil,_,_,s=>⟨rfl,rfl,rfl,fun i hi=>absurd hi (qz i),qb _,qb _⟩
 |.cons x k r,hw,ha,s=>by
  have h1:=mU x (fun s=>g8 k s) (usz k) (cnt k) ha.1 hw.1 (lR k hw.2.1 ha.2.1) s;have h2:=lR r hw.2.2 ha.2.2 (eF x (fun s=>g8 k s) s).2;simp only[g8,usz,cnt];generalize eF x (fun s=>g8 k s) s=y at*;have a1:=h1.len;have a2:=h1.rlen;have a3:=h1.rng 0 (by omega);have a4:=h1.tot;have a5:=h1.two;have b1:=h2.len;have b2:=h2.rlen;have b3:=h2.plen;have b4:=h2.tot;have b5:=h2.two;simp only[j7]at a1 a2 a3 a4;refine⟨by dsimp only;omega,by dsimp only;omega,by simp[b3],fun i hi=>?_,by dsimp only;omega,by omega⟩;cases i with
  |zero=>simp only[j7];omega
  |succ i=>simp only[List.getD_cons_succ];exact h2.rng i (by omega)
end Go.Cm
namespace Go.Cm
open Go.RowKit Go.Proofs
def ndC(x:Nd):List Value:=[.int .i64 x.kd,.int .i64 x.n,.int .u64 x.a,.int .u64 x.b,.int .u64 x.c,.int .u64 x.d,.int .i64 x.lo,.int .i64 x.hi]
def zN:Nd:=⟨0,0,0,0,0,0,0,0⟩
def cB(w:World)(v:Value)(l:List Nd):Prop:=SlK 8 w v (l.map ndC)
theorem cB.up{w w':World}{v:Value}{l:List Nd}(h:cB w v l)(hb:Below w.heap.size w w'):cB w' v l:=SlK.up h hb
theorem cB.open{w:World}{v:Value}{l:List Nd}(h:cB w v l):
  ∃oa cap b off,v=.slice oa l.length cap/\Hd w oa l.length cap b off/\∀i,i<l.length->∀c,c<8->w.cell? ⟨b,off+i*8+c,none⟩=some ((ndC (l.getD i zN)).getD c undef):=by
 obtain⟨oa,cap,b,off,rfl,hd,hc⟩:=h;rw[qy]at hd hc⊢;refine⟨oa,cap,b,off,rfl,hd,fun i hi c hcl=>?_⟩;rw[hc i hi c hcl];simp[List.getD,hi]
theorem gA{w:World}{oa:Option Addr}{b off len cap:Nat}(h:Hd w oa len cap b off):
  ∀(W:World) (kd:IntKind) (i:Int),0<=i->i<len->(Instr.indexAt 31 (.slice oa len cap) (.int kd i)).run prog W=.ok (.pointer (some ⟨b,off+i.toNat*8,none⟩)) W:=
 gY (P:=prog) 8 31 65 underlying31 (by kernel_rfl) h
theorem q2n(L:Nat)(want:Int)(l:List Nd)(k:Nat)(h:k<l.length):
  L3 L want (l.drop k) k=if(l.getD k zN).n<0\/(L:Int)<(l.getD k zN).n then -1 else if want+((l.getD k zN).n-1)=0 then(k:Int)+1 else L3 L (want+((l.getD k zN).n-1)) (l.drop (k+1)) (k+1):=by
 rw[jB h];simp[L3,List.getD,h]
theorem qau{w:World}{v:Value}{l:List Nd}(h:cB w v l)(hl:l.length<=400)(i:Nat):
  Calls prog 123 #[v,.int .i64 i] w fun e w'=>e=.returned (.int .i64 (L3 l.length 1 (l.drop i) i))/\∃x,w'=ext w x:=by
 obtain⟨oa,cap,b,off,rfl,hd,hc⟩:=h.open;have hix:=gA hd;have HC:Hid (∀i,i<l.length->w.cell? ⟨b,off+i*8+1,none⟩=some (.int .i64 (l.getD i zN).n)):=qa (fun i hi=>hc i hi 1 (by decide));have HB:=qa hd.hblk;have HE:=qa (q2n l.length);obtain⟨R,hR⟩:∃R,R=L3 l.length 1 (l.drop i) i:=⟨_,rfl⟩;have HR:=qa hR;rw[<-hR];clear h hd hc hR;go_enter func123,ntmps123;go_wp2
 go_loop [1,5] (fun iv wv=>∃(j:Nat) (wn:Int),iv=.int .i64 j/\wv=.int .i64 wn/\1<=wn/\(j<l.length->wn<=1+400*j)/\R=L3 l.length wn (l.drop j) j) (fun iv _=>l.length-(intOf iv).toNat)
 case atStart=>exact⟨i,1,rfl,rfl,by omega,by omega,HR.o⟩
 case round=>
  obtain⟨j,wn,rfl,rfl,hw1,hw2,hrr⟩:=hrel;by_cases hlt:j<l.length
  ·have hcell:=HC.o j hlt
   have hb:=HB.o (by omega);have he:=HE.o wn l j hlt;rw[<-hrr]at he;have hw3:=hw2 hlt;generalize l.getD j zN=x at*;obtain⟨xk,n,xa,xb,xc,xd,xl,xh⟩:=x;simp only at hcell he;clear hrr hw2;by_cases h1:n<0
   ·rw[qt (.inl h1)]at he
    exact ZmD1
   by_cases h2:(l.length:Int)<n
   ·rw[qt (.inr h2)]at he
    exact ZmD1
   rw[qr (by omega)]at he;have hwr:(wn-1)+n=wn+(n-1):=by omega
   by_cases h3:wn+(n-1)=0
   ·rw[qt h3]at he
    exact ZmD1
   rw[qr h3]at he;have HE2:=qa he;clear he;go_wp2
   go_round
   case rel=>
    refine⟨j+1,wn+(n-1),by go_num,by go_num,by omega,fun h=>by omega,HE2.o⟩
   case measure=>simp[intOf];omega
  have hdr:l.drop j=[]:=List.drop_eq_nil_of_le (by omega);rw[hdr]at hrr;simp only[L3]at hrr;have HE2:=qa hrr;clear hrr;go_wp2;go_ret;exact⟨by rw[HE2.o];rfl,fD _⟩
theorem vN {P : Program} (w : World) (κ : IntKind) (T E n : Nat) (hT : P.underlying T = some (.array n E)) (hE : P.underlying E = some (.int κ)) (hs : (P.info? E).map (·.size) = some 1)
    (xs ys : Array Value) (l m : List Int) (hl : l.length = n) (hm : m.length = n) (hx : ∀ i, i < n → xs[i]? = some (.int κ (l.getD i 0))) (hy : ∀ i, i < n → ys[i]? = some (.int κ (m.getD i 0))) (d : Nat) :
    (Op.equalIn (d + 2) T (.agg xs) (.agg ys)).run P w = .ok (decide (l = m)) w := by
  have hsz : ∀ W, (sizeOf E).run P W = .ok 1 W := fun W => by
    cases hq : P.info? E with
    | none => simp [hq] at hs
    | some inf => have : inf.size = 1 := by simpa [hq] using hs
                  simp [sizeOf, typeInfo, hq, this]
  have hag : ∀ W, (isAgg E).run P W = .ok false W := fun W => by unfold isAgg; rw [Sem.run_bind, run_underlying hE]; rfl
  have qdL : ∀ (zs : Array Value) (q : List Int) (i : Nat) (W : World), zs[i]? = some (.int κ (q.getD i 0)) → (part E zs (i * 1)).run P W = .ok (.int κ (q.getD i 0)) W := fun zs q i W h => by
    unfold part; rw [Sem.run_bind, hag]; simp only [Result.andThen, Nat.mul_one, h]; rfl
  have hel : ∀ (x y : Int) (W : World), (Op.equalIn (d + 1) E (.int κ x) (.int κ y)).run P W = .ok (x == y) W := fun x y W => by
    rw [Op.equalIn, Sem.run_bind, run_underlying hE]; simp [Result.andThen]
  rw [Op.equalIn, Sem.run_bind, run_underlying hT]
  simp only [Result.andThen_ok, Sem.run_bind, hsz]
  have key : ∀ (k s : Nat), s + k = n → l.take s = m.take s → ∀ W, (forIn (List.range' s k) ((none, ()) : Option Bool × Unit) fun i r => do
      let __do_lift ← part E xs (i * 1)
      let __do_lift_1 ← part E ys (i * 1)
      let __do_lift ← Op.equalIn (d + 1) E __do_lift __do_lift_1
      if (!__do_lift) = true then pure (ForInStep.done (some false, ())) else pure (ForInStep.yield (none, ())) : Sem (Option Bool × Unit)).run P W = .ok (if l = m then (none, ()) else (some false, ())) W := by
    intro k
    induction k with
    | zero =>
      intro s hs' ht W
      have : l = m := by rwa [qC (by omega), qC (by omega)] at ht
      simp [this]
    | succ k ih =>
      intro s hs' ht W
      simp only [List.range'_succ, List.forIn_cons, Sem.run_bind, qdL xs l s W (hx s (by omega)), Result.andThen_ok, qdL ys m s W (hy s (by omega)), hel]
      by_cases he : l.getD s 0 = m.getD s 0
      · have h2 : l.take (s + 1) = m.take (s + 1) := by
          have he' : l[s]'(by omega) = m[s]'(by omega) := by simpa [List.getD, show s < l.length by omega, show s < m.length by omega] using he
          rw [qI (by omega), qI (by omega), ht, he']
        have h3 := ih (s + 1) (by omega) h2 W
        simp only [he, beq_self_eq_true, Bool.not_true, qP, jp]
        exact h3
      · have hne : l ≠ m := fun h => he (by rw [h])
        have hb : (l.getD s 0 == m.getD s 0) = false := by simpa using he
        simp only [hb, Bool.not_false, jG, Sem.run_pure, Result.andThen_ok, hne, jp]
  have h0 := key n 0 (by omega) (by simp) w
  rw [Std.Legacy.Range.forIn_eq_forIn_range']
  simp only [Std.Legacy.Range.size, Nat.sub_zero, Nat.add_sub_cancel, Nat.div_one]
  rw [h0]
  by_cases he : l = m <;> simp [he]
def q1Y(a b c d:Int):Array Value:=#[.int .u64 a,.int .u64 b,.int .u64 c,.int .u64 d]
def ndA(x:Nd):Array Value:=#[.int .i64 x.kd,.int .i64 x.n,.int .u64 x.a,.int .u64 x.b,.int .u64 x.c,.int .u64 x.d,.int .i64 x.lo,.int .i64 x.hi]
theorem q2o(a b c d:Int):∀i,i<4->(q1Y a b c d)[i]? =some (.int .u64 ([a,b,c,d].getD i 0)):=by
 intro i hi;rcases(show i=0\/i=1\/i=2\/i=3 by omega)with rfl|rfl|rfl|rfl<;>rfl
theorem mV(W:World)(q:Nat)(a b c d a' b' c' d':Int):(Op.equalIn (q+2) 63 (.agg (q1Y a b c d)) (.agg (q1Y a' b' c' d'))).run prog W=.ok (decide ([a,b,c,d]=[a',b',c',d'])) W:=
 vN W .u64 63 61 4 underlying63 underlying61 (by kernel_rfl) _ _ [a,b,c,d] [a',b',c',d'] rfl rfl (q2o a b c d) (q2o a' b' c' d') q
theorem q1l(W:World)(a b c d a' b' c' d':Int):(binOp .eql 63 (.agg (q1Y a b c d)) (.agg (q1Y a' b' c' d'))).run prog W=.ok (.bool (decide ([a,b,c,d]=[a',b',c',d']))) W:=by
 rw[run_eql_struct,mV W 9998];rfl
theorem q1m(W:World)(a b c d a' b' c' d':Int):(binOp .neq 63 (.agg (q1Y a b c d)) (.agg (q1Y a' b' c' d'))).run prog W=.ok (.bool (!decide ([a,b,c,d]=[a',b',c',d']))) W:=by
 rw[run_neq_struct,mV W 9998];rfl
theorem q4K(W:World)(x:Nd):(part 63 (ndA x) 2).run prog W=.ok (.agg (q1Y x.a x.b x.c x.d)) W:=by
 unfold part;have h1:(isAgg 63).run prog W=.ok true W:=by unfold isAgg;rw[Sem.run_bind,run_underlying underlying63];rfl
 rw[Sem.run_bind,h1];simp only[Result.andThen_ok,jG,Sem.run_bind,wA (P:=prog) (E:=63) (k:=4) (by kernel_rfl)]
 rfl
theorem wD(W:World)(A:Array Value)(o:Nat)(v:Int)(h:A[o]? =some (.int .i64 v)):(part 3 A o).run prog W=.ok (.int .i64 v) W:=by
 unfold part;have h1:(isAgg 3).run prog W=.ok false W:=by unfold isAgg;rw[Sem.run_bind,run_underlying underlying3];rfl
 rw[Sem.run_bind,h1];simp only[Result.andThen_ok,h];rfl
def N5(x y:Nd):Prop:=x.kd=y.kd/\x.n=y.n/\[x.a,x.b,x.c,x.d]=[y.a,y.b,y.c,y.d]/\x.lo=y.lo/\x.hi=y.hi
instance(x y:Nd):Decidable (N5 x y):=by unfold N5;infer_instance
theorem pZ(W:World)(x y:Nd):(Op.equalIn 10000 65 (.agg (ndA x)) (.agg (ndA y))).run prog W=.ok (decide (N5 x y)) W:=by
 have hu:prog.underlying 65=some (.struct (prog.fieldsOf 65)):=by simp only[Program.fieldsOf,underlying65]
 rw[run_equalIn_struct W 9999 65 _ _ hu (by kernel_rfl)];simp only[Program.fieldsOf,underlying65];have p0:=fun(W:World) (z:Nd)=>wD W (ndA z) 0 z.kd rfl;have p1:=fun(W:World) (z:Nd)=>wD W (ndA z) 1 z.n rfl;have p6:=fun(W:World) (z:Nd)=>wD W (ndA z) 6 z.lo rfl;have p7:=fun(W:World) (z:Nd)=>wD W (ndA z) 7 z.hi rfl;have ei:∀(a b:Int) (W:World),(Op.equalIn 9999 3 (.int .i64 a) (.int .i64 b)).run prog W=.ok (a==b) W:=fun a b W=>run_equalIn_int W 9998 3 .i64 .i64 a b underlying3;have es:∀(W:World),(Op.equalIn 9999 63 (.agg (q1Y x.a x.b x.c x.d)) (.agg (q1Y y.a y.b y.c y.d))).run prog W=.ok (decide ([x.a,x.b,x.c,x.d]=[y.a,y.b,y.c,y.d])) W:=fun W=>mV W 9997 _ _ _ _ _ _ _ _;simp only[Op.eqFields,ne_eq,String.reduceEq,not_false_eq_true,jG,Sem.run_bind,Sem.run_ite,Sem.run_pure,p0,p1,p6,p7,q4K,Result.andThen_ok,ei,es]
 have hd:decide (N5 x y)=(x.kd==y.kd&&(x.n==y.n&&(decide ([x.a,x.b,x.c,x.d]=[y.a,y.b,y.c,y.d])&&(x.lo==y.lo&&x.hi==y.hi)))):=by
  rw[jh,jU];unfold N5;simp only[qG,jY,jU]
 rw[hd];generalize (x.kd==y.kd)=b1;generalize (x.n==y.n)=b2;generalize (x.lo==y.lo)=b4;generalize (x.hi==y.hi)=b5;generalize decide ([x.a,x.b,x.c,x.d]=[y.a,y.b,y.c,y.d])=b3;cases b1<;>cases b2<;>cases b3<;>cases b4<;>cases b5<;>rfl
theorem V7(W:World)(x y:Nd):(binOp .eql 65 (.agg (ndA x)) (.agg (ndA y))).run prog W=.ok (.bool (decide (N5 x y))) W:=by
 rw[run_eql_struct,pZ];rfl
theorem xG{w:World}(lo hi:Int):Calls prog 115 #[.int .i64 lo,.int .i64 hi] w fun e w'=>e=.returned (.bool (decide (0<=lo/\lo<=30/\(hi= -1\/(lo<=hi/\hi<=30)))))/\∃x,w'=ext w x:=by
 obtain⟨r,hr⟩:∃r,r=decide (0<=lo/\lo<=30/\(hi= -1\/(lo<=hi/\hi<=30))):=⟨_,rfl⟩;have HR:=qa hr;rw[<-hr];clear hr;go_enter func115,ntmps115;go_wp2
 all_goals(go_ret;refine⟨qW (fun b=>Ending.returned (Value.bool b)) ?_,fD _⟩;rw[HR.o,jh];simp;omega)
theorem q2p(W:World)(a b c d a' b' c' d':Int):(binOp .neq 63 (.agg #[.int .u64 a,.int .u64 b,.int .u64 c,.int .u64 d]) (.agg #[.int .u64 a',.int .u64 b',.int .u64 c',.int .u64 d'])).run prog W=.ok (.bool (!decide (a=a'/\b=b'/\c=c'/\d=d'))) W:=by
 have h:=q1m W a b c d a' b' c' d';simp only[q1Y,List.cons.injEq,and_true]at h;exact h
theorem q2q(W:World)(a b c d a' b' c' d':Int):(binOp .eql 63 (.agg #[.int .u64 a,.int .u64 b,.int .u64 c,.int .u64 d]) (.agg #[.int .u64 a',.int .u64 b',.int .u64 c',.int .u64 d'])).run prog W=.ok (.bool (decide (a=a'/\b=b'/\c=c'/\d=d'))) W:=by
 have h:=q1l W a b c d a' b' c' d';simp only[q1Y,List.cons.injEq,and_true]at h;exact h
theorem q4L(W:World)(k n a b c d lo hi k' n' a' b' c' d' lo' hi':Int):(binOp .eql 65 (.agg #[.int .i64 k,.int .i64 n,.int .u64 a,.int .u64 b,.int .u64 c,.int .u64 d,.int .i64 lo,.int .i64 hi]) (.agg #[.int .i64 k',.int .i64 n',.int .u64 a',.int .u64 b',.int .u64 c',.int .u64 d',.int .i64 lo',.int .i64 hi'])).run prog W=
  .ok (.bool (decide (k=k'/\n=n'/\(a=a'/\b=b'/\c=c'/\d=d')/\lo=lo'/\hi=hi'))) W:=by
 have h:=V7 W ⟨k,n,a,b,c,d,lo,hi⟩ ⟨k',n',a',b',c',d',lo',hi'⟩;simp only[ndA,N5,List.cons.injEq,and_true]at h;exact h
theorem mW(W:World)(o:BinOp)(x y:Operand)(X Y:Array Value):(eqGuard o 63 x y (.agg X) (.agg Y)).run prog W=.ok () W:=run_eqGuard_agg W o 63 x y X Y (by kernel_rfl)
theorem vG(W:World)(o:BinOp)(x y:Operand)(X Y:Array Value):(eqGuard o 65 x y (.agg X) (.agg Y)).run prog W=.ok () W:=run_eqGuard_agg W o 65 x y X Y (by kernel_rfl)
theorem q2r{w:World}(x:Nd):Calls prog 124 #[.agg (ndA x)] w fun e w'=>e=.returned (.bool (decide (okN x)))/\∃x,w'=ext w x:=by
 have HCN:=qa (fun w=>xG (w:=w) x.lo x.hi);obtain⟨r,hr⟩:∃r,r=decide (okN x):=⟨_,rfl⟩;have HR:=qa hr;rw[<-hr];have c1:=q2p;have c2:=q2q;have c3:=q4L;have g1:=mW;have g2:=vG;clear hr;obtain⟨k,n,a,b,c,d,lo,hi⟩:=x;unfold ndA;simp only at HCN;go_enter func124,ntmps124;by_cases h1:k=1
 ·exact ZmD0
 skip
 by_cases h2:k=2
 ·exact ZmD0
 skip
 by_cases h3:k=3
 ·exact ZmD0
 skip
 by_cases h4:k=4
 ·exact ZmD0
 skip
 by_cases h5:k=5
 ·exact ZmD0
 skip
 by_cases h6:k=6
 ·exact ZmD0
 skip
 by_cases h7:k=7
 ·exact ZmD0
 skip
 by_cases h8:k=8
 ·go_wp2_with(with_reducible go_at_call 115;refine(HCN.o _).mono ?_;rintro en w' ⟨rfl,x5,rfl⟩)
  all_goals(go_ret;refine⟨qW (fun b=>Ending.returned (Value.bool b)) ?_,aI ?_⟩)
  all_goals first
   |(rw[HR.o,jh];unfold okN pO V3;simp;omega)
   |(repeat' first|exact qk _ _|refine Below.setCell ?_ ?_ _|refine Below.alloc ?_ ?_ _|refine kK ?_ _|(simp;done)|(simp;omega))
 skip
 exact ZmD0
theorem q0W{d:Dfa}(h:bZ d)(hl:d.cls.length=256){i:Nat}(hi:i<d.next.length){c:Nat}(hc:c<256):∃k:Nat,d.cls.getD c 0=k/\k<(d.next.getD i []).length:=by
 obtain⟨_,_,_,k,hk,hr⟩:=h;have h1:=pV d.cls 0 k hk _ (dH d.cls c 0 (by omega));obtain⟨-,-,h2,-⟩:=hr i hi;exact⟨(d.cls.getD c 0).toNat,by omega,by omega⟩
theorem R5(d:Dfa)(s:List UInt8):∀(k:Nat) (a:Int),k<s.length->eD d a (s.take (k+1))=(d.next.getD (eD d a (s.take k)).toNat []).getD (d.cls.getD (s.getD k 0).toNat 0).toNat 0:=by
 induction s with
 |nil=>intro k a h;simp at h
 |cons c s ih=>
  intro k a h;cases k with
  |zero=>simp[eD]
  |succ k=>simp only[List.take_succ_cons,eD];rw[ih k _ (by simpa using h)];simp
theorem run(v:Value)(d:Dfa)(s:ByteArray)(w:World)(h:pS w v d)(qgC:s.size<=140737488351232):
  Calls prog 33 #[v,.string s] w fun e w'=>e=.returned (.int .i64 (q5Y d s.data.toList))/\∃x,w'=ext w x:=by
 have hL:=fun w' (hb:Below w.heap.size w w')=>q34 v d w' (h.up hb);obtain⟨A,rfl,hs,hl,hc,⟨vn,hn,hrow⟩,⟨vr,hr,hru⟩⟩:=h;obtain⟨oa,cap,b,off,rfl,hd,hro⟩:=hrow.open;have hix:=aU (P:=prog) 38 39 underlying38 (by kernel_rfl) hd;have hm:=hd.len;have HL:=qa hL;clear hL;have HS:=qa hs;clear hs;have HC:=qa hc;clear hc;have HG:=qa (heap_alloc_new w (.cells A 41));have HR:=qa hro;clear hro;have HLC:=qa hl;clear hl;by_cases hv:bZ d
 ·have hrb:=iK hv
  have HRI:Hid (q5Y d s.data.toList=eD d 0 s.data.toList):=qa (by unfold q5Y;rw[qt hv]);have hn1:=hv.1;have hn2:=hv.2.1;have HV:=qa hv;clear hv;have hb:=hd.hblk (by omega);go_enter func33,ntmps33
  go_wp2_with(first|(refine dQ rfl _ rfl w.heap.size rfl A HS.o HG.o ?_)|(go_at_call 15;refine(HL.o _ (aA _ _)).mono ?_;rintro e w' ⟨rfl,x,rfl⟩;rw[hrb]))
  generalize hw1:ext (w.alloc (.cells A 41)) x=w1;have HB:=qa (show Below (w.heap.size+1) (w.alloc (.cells A 41)) w1 from hw1▸(aD _ _).mono (by simp));clear hw1
  go_loopw [5,6] (fun a i wr=>∃(k t:Nat),k<=s.size/\t<d.next.length/\i=.int .i64 k/\a=.int .i64 t/\Hid (eD d 0 (s.data.toList.take k)=t)/\∃n,wr=w1.drewN n) (fun _ i _=>s.size-(intOf i).toNat)
  case atStart=>exact⟨0,0,qd _,by omega,rfl,rfl,qa rfl,0,rfl⟩
  case round=>
   obtain⟨k,t,hk,ht,rfl,rfl,HRF,n,rfl⟩:=hrel;by_cases hlt:k<s.size
   ·obtain⟨oi,ci,bi,fi,hck,hdk,hcj,-⟩:=HR.o t ht
    have qdT:k<s.data.toList.length:=by simpa using hlt
    have HT:=qa (R5 d s.data.toList k 0 qdT);have hch:(s.data.toList.getD k 0)=s[k]:=by simp[List.getD,hlt];rfl
    rw[hch]at HT;obtain⟨c,hcc,hcl⟩:=q0W HV.o HLC.o ht (c:=s[k].toNat) (UInt8.toNat_lt s[k]);rw[HRF.o,hcc]at HT;have hAc:=HC.o s[k].toNat (UInt8.toNat_lt s[k]);rw[hcc]at hAc;obtain⟨hy1,hy2⟩:=((xZ HV.o ht).resolve_right (fun h=>h HLC.o)).1 c hcl;have hbi:=hdk.hblk (by omega);have qbJ:=aU (P:=prog) 39 3 underlying39 (by kernel_rfl) hdk;have qh8:=hcj c hcl;simp only[qA]at HT;generalize (d.next.getD t []).getD c 0=y at*;generalize (d.next.getD t []).length=rl at*;obtain⟨q,rfl⟩:=jE hy1;have hc8:s[k].toNat<256:=UInt8.toNat_lt s[k]
    have hw1:w1.cell? ⟨b,off+t,none⟩=some (.slice oi rl ci):=by
     rw[HB.o.cell (p:=⟨b,off+t,none⟩) (jc hb),World.cell?_alloc_past _ _ _ hb];exact hck
    have hw2:w1.cell? ⟨bi,fi+c,none⟩=some (.int .i64 (q:Int)):=by
     rw[HB.o.cell (p:=⟨bi,fi+c,none⟩) (jc hbi),World.cell?_alloc_past _ _ _ hbi];exact qh8
    have hw3:w1.cell? ⟨w.heap.size,256,none⟩=some (.slice oa d.next.length cap):=by
     rw[HB.o.cell (p:=⟨w.heap.size,256,none⟩) (qR _),World.cell?_alloc_new];exact hn
    have hw4:w1.cell? ⟨w.heap.size,s[k].toNat,none⟩=some (.int .i64 (c:Int)):=by
     rw[HB.o.cell (p:=⟨w.heap.size,s[k].toNat,none⟩) (qR _),World.cell?_alloc_new];exact hAc
    clear hcc hch hAc hck hcj qh8 hdk hy1;go_wp2
    go_quiet (fail)
    go_wp2
    go_roundw
    case rel=>exact⟨k+1,q,by omega,by omega,by go_num,rfl,qa HT.o,_,rfl⟩
    case measure=>simp[intOf];omega
   go_wp2;go_ret;have h1:=HRF.o;rw[qC (by simp;omega)]at h1;exact⟨rM (by rw[HRI.o,h1]),aI (tS ((aA w _).trans (HB.o.mono (by omega))) _)⟩
 have hrb:=bN hv;have HRI:Hid (q5Y d s.data.toList= -1):=qa (by unfold q5Y;rw[qr hv]);clear hv;go_enter func33,ntmps33
 go_wp2_with(first|(refine dQ rfl _ rfl w.heap.size rfl A HS.o HG.o ?_)|(go_at_call 15;refine(HL.o _ (aA _ _)).mono ?_;rintro e w' ⟨rfl,x,rfl⟩;rw[hrb]))
 go_ret;exact⟨rM (by rw[HRI.o]),(aI aJ)⟩
theorem zA{o:Oper}{a:Act}{w:World}{K:Act->Prop}(x:Operand)(ho:o.op=.load 41 x)(g:Nat)(hx:a.eval x=.pointer (some ⟨g,0,none⟩))(A:Array Value)(hs:A.size=258)
  (hg:w.heap[g]? =some (.cells A 41 (0,0))) (h:K (a.put o.dst (.agg A))):o.quiet prog a (fun w'=>∃x,w'=ext w x) K:=by
 refine⟨.agg A,fun w' hw'=>?_,h⟩;obtain⟨y,rfl⟩:=hw';have hlt:g<w.heap.size:=lt_of_block hg;have hg':(ext w y).heap[g]? =some (.cells A 41 (0,0)):=by rw[vY w y g hlt];exact hg
 have hl:=cQ (P:=prog) (ext w y) g 0 258 41 41 A (0,0) _ hg' underlying41 rfl (by kernel_rfl) (by rw[hs];decide);unfold Oper.quietAt execOp;simp only[ho,hx,Instr.loadAt,Instr.sureAddr,Sem.run_bind,Sem.run_pure,Result.andThen_ok,hl,Oper.quietUpon];exact⟨trivial,by rw[<-hs];simp⟩
theorem after(v:Value)(d:Dfa)(s:ByteArray)(w:World)(h:pS w v d)(qgC:s.size<=140737488351232):
  Calls prog 16 #[v,.string s] w fun e w'=>e=.returned (.int .i64 (iI d s.data.toList))/\∃x,w'=ext w x:=by
 have hL:=fun w' (hb:Below w.heap.size w w')=>q34 v d w' (h.up hb);have hR:=fun w' (hb:Below w.heap.size w w')=>run v d s w' (h.up hb) qgC;obtain⟨A,rfl,hs,hl,hc,⟨vn,hn,hrow⟩,⟨vr,hr,hru⟩⟩:=h;obtain⟨oa,cap,b,off,rfl,hd,hro⟩:=hru.open;have hix:=aU (P:=prog) 39 3 underlying39 (by kernel_rfl) hd;have hm:=hd.len;have HL:=qa hL;clear hL;have HRn:=qa hR;clear hR;have HS:=qa hs;clear hs hc;have HG:=qa (heap_alloc_new w (.cells A 41));have HR:=qa hro;clear hro;have HLC:=qa hl;clear hl;by_cases hv:bZ d
 ·have hrb:=iK hv
  obtain⟨t,hrun,ht⟩:∃t:Nat,q5Y d s.data.toList=t/\t<d.next.length:=by
   have:∀(s:List UInt8) (a:Nat),a<d.next.length->∃t:Nat,eD d a s=t/\t<d.next.length:=by
    intro s
    induction s with
    |nil=>intro a ha;exact⟨a,rfl,ha⟩
    |cons c s ih=>
     intro a ha;obtain⟨k,hk,hkl⟩:=q0W hv HLC.o ha (c:=c.toNat) (UInt8.toNat_lt c);obtain⟨h1,h2⟩:=((xZ hv ha).resolve_right (fun h=>h HLC.o)).1 k hkl;obtain⟨q,hq⟩:=jE h1;simp only[eD,hk,qA,hq];exact ih q (by omega)
   unfold q5Y;rw[qt hv];exact this _ 0 (by have:=hv.1;omega)
  rw[hrun]at HRn
  have HAI:Hid (iI d s.data.toList=d.rules.getD t 0):=qa (by
   unfold q5Y at hrun;rw[qt hv]at hrun;unfold iI;rw[qt hv,hrun];rfl)
  have ht2:t<d.rules.length:=by rw[hv.2.2.1];exact ht
  have hb:=hd.hblk (by omega);have hcell:=HR.o t ht2;generalize d.rules.getD t 0=y at*;generalize d.rules.length=rl at*;clear hrun hv;go_enter func16,ntmps16
  go_wp2_with(first|(refine dQ rfl _ rfl w.heap.size rfl A HS.o HG.o ?_)|(go_at_call 15;refine(HL.o _ (aA _ _)).mono ?_;rintro e w' ⟨rfl,x,rfl⟩;rw[hrb]))
  have hb2:Below w.heap.size w (ext (w.alloc (.cells A 41)) x):=aJ;have hg2:(ext (w.alloc (.cells A 41)) x).heap[w.heap.size]? =some (.cells A 41 (0,0)):=by rw[vY _ _ _ (by simp)];exact HG.o
  have hrl:(ext (w.alloc (.cells A 41)) x).cell? ⟨w.heap.size,257,none⟩=some (.slice oa rl cap):=by rw[cell?_ext_alloc_new];exact hr
  have hsz:w.heap.size+1<=(ext (w.alloc (.cells A 41)) x).heap.size:=by have:=iT (w.alloc (.cells A 41)) x;simpa using this
  have hc2:(ext (w.alloc (.cells A 41)) x).cell? ⟨b,off+t,none⟩=some (.int .i64 y):=by rw[cell?_ext_alloc_old _ _ _ _ _ hb];exact hcell
  generalize ext (w.alloc (.cells A 41)) x=w1 at*;have HG2:=qa hg2;clear hg2;have HB2:=qa hb2;clear hb2;have hb3:w.heap.size<w1.heap.size:=hsz;have hb4:b<w1.heap.size:=by omega
  refine bO (by kernel_rfl) (by kernel_rfl) ?_
  repeat(first|(go_big_quiet_want;refine zA _ rfl w.heap.size rfl A HS.o HG2.o ?_;go_simp;go_big_quiet_on)|go_big_quiet_step ((go_at_call 33;exact bY (HRn.o _ (cP HB2.o (aD _ _))))))
  refine wpQuiet_nil ?_;rintro w' ⟨x2,rfl⟩;go_wp2;go_ret;exact⟨rM (by rw[HAI.o]),aI (HB2.o.trans ((aD _ _).mono (by omega)))⟩
 have hrb:=bN hv;have HRI:Hid (iI d s.data.toList= -1):=qa (by unfold iI;rw[qr hv]);clear hv;go_enter func16,ntmps16
 go_wp2_with(first|(refine dQ rfl _ rfl w.heap.size rfl A HS.o HG.o ?_)|(go_at_call 15;refine(HL.o _ (aA _ _)).mono ?_;rintro e w' ⟨rfl,x,rfl⟩;rw[hrb]))
 go_ret;exact⟨rM (by rw[HRI.o]),(aI aJ)⟩
end Go.Cm
