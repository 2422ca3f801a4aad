/- Walks of functions and plain facts, joined and squeezed by a program. Conditions: as each says. -/
import Derived.Test.YtnelgjehpbjloaaGreatDoorGXA
set_option maxHeartbeats 8000000
set_option maxRecDepth 100000
set_option linter.unusedSimpArgs false
namespace Go.Cm
open Go.RowKit Go.Proofs
theorem q2v{P:Program}{k:Nat}(w:World)(B:Nat)(t ty E:TypeId)(z:Value)(bytes:Nat)(ht:P.underlying t=some (.slice E))(q92:(P.info? E).map (fun i=>(i.zero,i.size,i.bytes))=some (some z,k,bytes))(hz:z.cells.size=k)(hk:0<k)(hby:bytes<=128)
  (v:Value) (xs:List (List Value)) (hown:eK k w B E v xs) (xv:Value) (news:List (List Value)) (hx:SlK k w xv news) (hnk:∀x∈news,x.length=k) (h1:∀u∈news.flatten,u.oneCell'=true) (hlen:xs.length+news.length<=1000000000) (hB:B<=w.heap.size):
  ∃v' w',(Builtin.append_ #[t,t] ty #[v,xv]).run P w=.ok v' w'/\eK k w' B E v' (xs++news)/\w.grownBy w' v.ownBlock/\(∀q,v'.ownBlock=some q->v.ownBlock=some q\/w.heap.size<=q):=by
 obtain⟨i0,hi,hz0,hz1,hz2⟩:∃i0,P.info? E=some i0/\i0.zero=some z/\i0.size=k/\i0.bytes=bytes:=by
  cases hq:P.info? E with
  |none=>simp[hq]at q92
  |some i0=>simp[hq]at q92;exact⟨i0,rfl,q92.1,q92.2.1,q92.2.2⟩
 have hl1:xs.length+news.length<=maxLen:=by simp only[maxLen];omega
 have hl2:(xs.length+news.length)*bytes<=140737488355328:=by
  have:=Nat.mul_le_mul hlen hby;omega
 obtain⟨oa,cx,b,off,rfl,hd,hc⟩:=hx;obtain⟨hrow,hsm,hxk⟩:=hown;have q94:news.flatten.length=news.length*k:=i6 hnk
 have hall:∀x∈xs++news,x.length=k:=fun x hx=>by
  rcases List.mem_append.1 hx with h|h
  ·exact hxk x h
  ·exact hnk x h
 have q96:(xs++news).length<=140737488351232:=by rw[qg];omega
 by_cases hn:news=[]
 ·subst hn
  refine⟨v,w,?_,⟨by simpa using hrow,by simpa using hsm,by simpa using hxk⟩,⟨rfl,rfl,rfl,q9 _,fun _ _ _=>rfl⟩,fun k hk=>.inl hk⟩
  rcases hrow.2 with⟨rfl,hx0⟩|⟨g,cap,cur,rfl,_,_,hnc,_⟩
  ·cases oa<;>simp[Builtin.append_,run_underlying ht,sizeOf,typeInfo,hi,Builtin.lenOf,Builtin.firstCells,loadCells,loadCellsFrom]
  ·cases oa<;>simp[Builtin.append_,run_underlying ht,sizeOf,typeInfo,hi,Builtin.lenOf,Builtin.firstCells,loadCells,loadCellsFrom,hnc,storeCells]
 ·have q9P:0<news.length:=List.length_pos_iff.2 hn
  obtain rfl:=hd.hat q9P
  have hnews:∀j u,news.flatten[j]? =some u->w.cell? ((⟨b,off,none⟩:Addr).add j)=some u:=fun j u hu=>by
   have hj:=(List.getElem?_eq_some_iff.1 hu).1;rw[q94]at hj;have hdm:j=j/k*k+j%k:=by rw[Nat.mul_comm];exact(Nat.div_add_mod j k).symm
   have hq:j/k<news.length:=(Nat.div_lt_iff_lt_mul hk).2 hj;have hm:=Nat.mod_lt j hk;rw[aZ,hdm,<-Nat.add_assoc,hc (j/k) hq (j%k) hm];rw[hdm,kT hnk _ _ hq hm]at hu;rw[List.getD_eq_getElem?_getD,hu];rfl
  rcases hrow.2 with⟨rfl,hx0⟩|⟨g,cap,cur,rfl,hbg,hg,hnc,hcm,hcs,q91⟩
  ·obtain rfl:xs=[]:=List.length_eq_zero_iff.1 hx0
   obtain⟨v',w',hr,ho,hgr,-⟩:=run_append_own (P:=P) w w.heap.size t ty E i0 z k bytes ht hi hz0 hz1 hz2 hz hk (.slice none 0 0) 0 [] (World.ownsRow_nil _ _ _ _) ⟨b,off,none⟩ news.length cx news.flatten q94 hnews h1 (by simpa using hl1) (by simpa using hl2) (q9 _)
   have hkk:=ho.lt;refine⟨v',w',hr,⟨⟨by simpa using q94,?_⟩,q96,hall⟩,hgr,fun q hq=>.inr (hkk q hq).1⟩
   simp only[Nat.zero_add,List.nil_append]at ho
   rcases ho.2 with⟨h1,h2⟩|⟨g,cap,cur,h1,h2,h3⟩
   ·exact .inl ⟨h1,by simpa using h2⟩
   ·exact .inr ⟨g,cap,cur,h1,by omega,by simpa using h3⟩
  ·by_cases hroom:xs.length+news.length<=cap
   ·obtain⟨w',hr,ho,hgr⟩:=run_append_fits (P:=P) w B t ty E i0 k ht hi hz1 g xs.length cap xs.flatten ⟨hrow.1,.inr ⟨g,cap,cur,rfl,hbg,hg,hnc,hcm,hcs,q91⟩⟩ ⟨b,off,none⟩ news.length cx news.flatten q94 hnews h1 hroom
    exact⟨_,w',hr,⟨by rw[qg,List.flatten_append];exact ho,q96,hall⟩,hgr,fun k hk=>.inl hk⟩
   ·have holds:∀j u,xs.flatten[j]? =some u->w.cell? ((⟨g,0,none⟩:Addr).add j)=some u:=World.ownsRow.cells (g:=g) hrow rfl
    have hxl:xs.flatten.length=xs.length*k:=i6 hxk;have hr:=run_append_grow (P:=P) w t ty E i0 z ht hi hz0 ⟨g,0,none⟩ xs.length cap xs.flatten (by rw[hz1];exact hxl) holds ⟨b,off,none⟩ news.length cx news.flatten (by rw[hz1];exact q94) hnews (by omega) (by omega) (growslice_fits (by omega) (by rw[hz2];exact hl2))
    have hge:=grownCap_ge w (xs.length+news.length) cap E;have qbF:grownCap w (xs.length+news.length) cap E<=maxLen:=grownCap_le_maxLen w _ cap E hl1;refine⟨_,_,hr,⟨⟨by rw[qg,List.flatten_append,qg,hxl,q94,Nat.add_mul],.inr ⟨w.heap.size,_,_,by rw[qg],hB,heap_alloc_new w.drew _,by rw[qg];exact hge,qbF,?_,?_⟩⟩,q96,hall⟩,⟨rfl,rfl,rfl,by simp,fun k hk _=>Below.heap_alloc w.drew _ k hk⟩,fun k hk=>.inr (by simp[Value.ownBlock]at hk;omega)⟩
    ·simp only[Array.size_append,List.size_toArray,size_zeroCells,hz,hxl,q94,<-Nat.add_mul]
     congr 1;omega
    ·simp only[Array.toList_append,qh,qg,List.flatten_append]
     rw[<-qh,Nat.add_mul,<-hxl,<-q94,<-qg]
     exact List.take_left
theorem lY{P:Program}{ops:Array Oper}{rest:List Oper}{o:Oper}{a:Act}{w:World}{Q:Exit->Act->World->Prop}(k:Nat)(hgd:o.guard=none)(s x:Operand)(t:TypeId)
  (ho:o.op=.call {callee:=.builtin .append,args:=#[s,x],argTypes:=#[t,t]})
  (B E:TypeId) (z:Value) (bytes:Nat) (ht:P.underlying t=some (.slice E)) (q92:(P.info? E).map (fun i=>(i.zero,i.size,i.bytes))=some (some z,k,bytes)) (hz:z.cells.size=k) (hk:0<k) (hby:bytes<=128)
  (v:Value) (xs:List (List Value)) (hs:a.eval s=v) (hown:eK k w B E v xs) (xv:Value) (news:List (List Value)) (hxe:a.eval x=xv) (hx:SlK k w xv news) (hnk:∀x∈news,x.length=k) (h1:∀u∈news.flatten,u.oneCell'=true) (hlen:xs.length+news.length<=1000000000) (hB:B<=w.heap.size)
  (h:∀v' w',eK k w' B E v' (xs++news)->w.grownBy w' v.ownBlock->(∀q,v'.ownBlock=some q->v.ownBlock=some q\/w.heap.size<=q)->wpList P ops Q rest (a.put o.dst v') w'):wpList P ops Q (o::rest) a w:=by
 obtain⟨v',w',hr,h2,h3,h4⟩:=q2v (P:=P) w B t o.type E z bytes ht q92 hz hk hby v xs hown xv news hx hnk h1 hlen hB;refine wpList_plain hgd fun K hK=>?_
 unfold Oper.wp execOp;simp only[ho,resolve,invoke,builtin,Sem.run_bind,Sem.run_pure,Result.andThen_ok,List.map_toArray,List.map_cons,List.map_nil,hs,hxe,hr]
 exact hK _ _ (h v' w' h2 h3 h4)
end Go.Cm
namespace Go.Cm
open Go.RowKit
section
variable {P : Program} {ops : Array Oper} {md : Region.Mode} {C : World → Prop}
theorem eP{id:Nat}{Q:Exit->Act->World->Prop}{a:Act}{w:World}{l:List Oper}(ps:List (List Nat×List Nat))(hm:P.follows .mixedOrders=true)(hB:q0v .any l.toArray ps=true)
  (h:j6 P l.toArray (fun w'=>∃x,w'=ext w x) (fun a'' w''=>(∃x,w''=ext w x)->Q .normal a'' w'') ps a w.drew):(Code.region id l.toArray true).wp P Q a w:=
 jZ (C:=fun w'=>∃x,w'=ext w x) ps hm hB (qt (qC w 1)) h
end
end Go.Cm
