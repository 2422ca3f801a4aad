/- Walks of functions and plain facts, joined and squeezed by a program. Conditions: as each says. -/
import Derived.Deep.DeepCutAuto
import Derived.Deep.LoopGhost
import Derived.Test.YtiladjhipahiiaaGreatDLXA
set_option maxHeartbeats 8000000
set_option maxRecDepth 100000
set_option linter.unusedSimpArgs false
namespace Go.Cm
open Go.RowKit Go.Proofs
theorem vE{P:Program}(w:World)(k:Nat)(s:ByteArray):(Builtin.firstCells k s.size (.string s)).run P w=.ok (dG s.data.toList).toArray w:=by
 unfold Builtin.firstCells;rw[Sem.run_pure];have h:(s.extract 0 s.size)=s:=by simp
 rw[h]
 congr 1
 apply Array.ext';simp[dG]
theorem q1l{P:Program}(w:World)(B:Nat)(t u ty E:TypeId)(z:Value)(bytes:Nat)(ht:P.underlying t=some (.slice E))(hu:P.underlying u=some .string)(qcE:(P.info? E).map (fun i=>(i.zero,i.size,i.bytes))=some (some z,1,bytes))(hz:z.cells.size=1)(hby:bytes<=24)
  (v:Value) (xs:List Value) (hown:Own w B E v xs) (s:ByteArray) (hlen:xs.length+s.size<=4294967296) (hB:B<=w.heap.size):
  ∃v' w',(Builtin.append_ #[t,u] ty #[v,.string s]).run P w=.ok v' w'/\Own w' B E v' (xs++dG s.data.toList)/\w.grownBy w' v.ownBlock/\(∀k,v'.ownBlock=some k->v.ownBlock=some k\/w.heap.size<=k):=by
 obtain⟨i,hi,hz0,hz1,hz2⟩:∃i0,P.info? E=some i0/\i0.zero=some z/\i0.size=1/\i0.bytes=bytes:=by
  cases hq:P.info? E with
  |none=>simp[hq]at qcE
  |some i0=>simp[hq]at qcE;exact⟨i0,rfl,qcE.1,qcE.2.1,qcE.2.2⟩
 have hnl:(dG s.data.toList).length=s.size:=by rw[i9];simp
 have h1:=M5 s.data.toList;have hl1:xs.length+s.size<=maxLen:=by simp only[maxLen];omega
 have hl2:(xs.length+s.size)*bytes<=140737488355328:=by
  have:=Nat.mul_le_mul hlen hby;omega
 have hf:=fun w'=>vE (P:=P) w' 1 s;generalize dG s.data.toList=news at*;rcases hown with⟨hrow,hsm⟩;have hxl:=hrow.1;rw[Nat.mul_one]at hxl
 have grown:∀(old:Nat),old<xs.length+s.size->∀(row:Option Nat),
   (w.drew.alloc (.cells (xs.toArray++news.toArray++Builtin.zeroCells z.cells (grownCap w (xs.length+s.size) old E-(xs.length+s.size))) E)).ownsRow B E 1
    (.slice (some ⟨w.heap.size,0,none⟩) (xs.length+s.size) (grownCap w (xs.length+s.size) old E)) (xs.length+s.size) (xs++news)/\
   w.grownBy (w.drew.alloc (.cells (xs.toArray++news.toArray++Builtin.zeroCells z.cells (grownCap w (xs.length+s.size) old E-(xs.length+s.size))) E)) row:=by
  intro old ho row;have hge:=grownCap_ge w (xs.length+s.size) old E;have hcm:grownCap w (xs.length+s.size) old E<=maxLen:=grownCap_le_maxLen w (xs.length+s.size) old E hl1;refine⟨⟨by simp[hnl],.inr ⟨w.heap.size,_,_,rfl,hB,heap_alloc_new w.drew _,hge,hcm,?_,?_⟩⟩,⟨rfl,rfl,rfl,by simp,fun k hk _=>Below.heap_alloc w.drew _ k hk⟩⟩
  ·simp only[Array.size_append,jD,size_zeroCells,hz,hnl]
   omega
  simp only[Array.toList_append,qk];rw[<-qk,Nat.mul_one,<-hnl,<-qj];exact List.take_left
 have qcN:(xs++news).length<=140737488351232:=by rw[qj,hnl];omega
 rcases hrow.2 with⟨rfl,hx0⟩|⟨g,cap,cur,rfl,hbg,hg,hnc,hcm,hcs,qcz⟩
 ·obtain rfl:xs=[]:=List.length_eq_zero_iff.1 hx0
  by_cases hs:s.size=0
  ·have hn:news=[]:=List.length_eq_zero_iff.1 (by rw[hnl,hs])
   subst hn;refine⟨.slice none 0 0,w,?_,Own.nil _ _ _,⟨rfl,rfl,rfl,qb _,fun _ _ _=>rfl⟩,fun k hk=>by simp[Value.ownBlock]at hk⟩;have hf0:=hf w;rw[hs]at hf0;simp[Builtin.append_,run_underlying ht,run_underlying hu,sizeOf,typeInfo,hi,hz1,Builtin.lenOf,hs,hf0]
  obtain⟨g1,g2⟩:=grown 0 (by simp;omega) (Value.ownBlock (.slice none 0 0));simp only[qO,qI,List.nil_append]at g1 g2 qcN;refine⟨_,_,?_,⟨by simpa[hnl]using g1,by simpa using qcN⟩,g2,fun k hk=>.inr (by simp[Value.ownBlock]at hk;omega)⟩;have qgO:¬(9223372036854775807<(s.size:Int)):=by simp at hlen;omega
  have qgP:¬(281474976710656<Builtin.nextslicecap s.size 0*i.bytes):=by rw[nextslicecap_zero (by omega),hz2];simp at hl2;omega
  have hf0:=hf w.drew;simp[Builtin.append_,run_underlying ht,run_underlying hu,sizeOf,typeInfo,zeroValue,hi,hz0,hz1,Builtin.lenOf,hs,qgO,qgP,Question.forced,run_firstCells_none,hf0,newRow,grownCap]
 by_cases hroom:xs.length+s.size<=cap
 ·have qkf:xs.length*1+news.length<=cur.size:=by rw[hnl,hcs];omega
  have hst:=run_storeCells_at P g (xs.length*1) E news 0 cur w hg (by simpa using qkf) h1;simp only[jF,Nat.mul_one]at hst;generalize hR:(cur.toList.take xs.length++news++cur.toList.drop (xs.length+news.length)).toArray=R at hst;refine⟨.slice (some ⟨g,0,none⟩) (xs.length+s.size) cap,w.setRow g R,?_,⟨⟨by simp[hnl],.inr ⟨g,cap,R,?_,hbg,setRow_heap w g cur R E _ hg,?_,hcm,?_,?_⟩⟩,qcN⟩,⟨rfl,rfl,rfl,by simp,fun k _ hk=>setRow_other w g k _ (fun e=>hk (by simp[Value.ownBlock,e]))⟩,fun k hk=>.inl hk⟩
  ·have hf0:=hf w
   simp[Builtin.append_,run_underlying ht,run_underlying hu,sizeOf,typeInfo,hi,hz1,Builtin.lenOf,hroom,hf0,Addr.add_lit,hst]
  ·rw[qj,hnl]
  ·rw[qj,hnl];exact hroom
  ·rw[<-hR]
   simp only[jD,qj,qX,j4,qR];omega
  rw[Nat.mul_one]at qcz;rw[Nat.mul_one,<-hR,qcz];exact List.take_left
 have holds:∀j u,xs[j]? =some u->w.cell? ((⟨g,0,none⟩:Addr).add j)=some u:=World.ownsRow.cells (g:=g) hrow rfl;obtain⟨g1,g2⟩:=grown cap (by omega) (Value.ownBlock (.slice (some ⟨g,0,none⟩) xs.length cap));refine⟨_,_,?_,⟨by rw[qj,hnl];exact g1,qcN⟩,g2,fun k hk=>.inr (by simp[Value.ownBlock]at hk;omega)⟩;have hn:¬(xs.length+s.size<=cap):=hroom;have qgO:¬(9223372036854775807<((xs.length:Int)+(s.size:Int))):=by omega
 have qgP:¬(281474976710656<Builtin.nextslicecap (xs.length+s.size) cap*i.bytes):=by
  have:=growslice_fits (need:=xs.length+s.size) (old:=cap) (bytes:=bytes) (by omega) hl2;rw[hz2];omega
 have hf0:=hf w.drew;have hfo:=run_firstCells_some (P:=P) w.drew 1 xs.length ⟨g,0,none⟩ xs.length cap xs (by omega) (by simpa using holds);simp[Builtin.append_,run_underlying ht,run_underlying hu,sizeOf,typeInfo,zeroValue,hi,hz0,hz1,Builtin.lenOf,hn,qgO,qgP,Question.forced,hf0,hfo,newRow,grownCap]
 congr 2
 apply Array.ext';simp[qk]
theorem J1{P:Program}{ops:Array Oper}{rest:List Oper}{o:Oper}{a:Act}{w:World}{Q:Exit->Act->World->Prop}(hgd:o.guard=none)(s x:Operand)(t u:TypeId)
  (ho:o.op=.call {callee:=.builtin .append,args:=#[s,x],argTypes:=#[t,u]})
  (B E:TypeId) (z:Value) (bytes:Nat) (ht:P.underlying t=some (.slice E)) (hu:P.underlying u=some .string) (qcE:(P.info? E).map (fun i=>(i.zero,i.size,i.bytes))=some (some z,1,bytes)) (hz:z.cells.size=1) (hby:bytes<=24)
  (v:Value) (xs:List Value) (hs:a.eval s=v) (hown:Own w B E v xs) (tx:ByteArray) (hxe:a.eval x=.string tx) (hlen:xs.length+tx.size<=4294967296) (hB:B<=w.heap.size)
  (h:∀v' w',Own w' B E v' (xs++dG tx.data.toList)->w.grownBy w' v.ownBlock->(∀k,v'.ownBlock=some k->v.ownBlock=some k\/w.heap.size<=k)->wpList P ops Q rest (a.put o.dst v') w'):wpList P ops Q (o::rest) a w:=by
 obtain⟨v',w',hr,h2,h3,h4⟩:=q1l (P:=P) w B t u o.type E z bytes ht hu qcE hz hby v xs hown tx hlen hB;refine wpList_plain hgd fun K hK=>?_;unfold Oper.wp execOp;simp only[ho,resolve,invoke,builtin,Sem.run_bind,Sem.run_pure,Result.andThen_ok,List.map_toArray,qJ,ju,hs,hxe,hr];exact hK _ _ (h v' w' h2 h3 h4)
end Go.Cm
namespace Go.Cm
structure PS where
 p:Nat
 e:Nat
 b:Nat
def bZ(z:PS):PS:=⟨z.p+1,z.e,z.b⟩
def nxR(s:eZ)(z:PS):Option UInt8:=if z.e=0/\z.p<s.length then some (s.getD z.p 0)else none
def bV(e a:Nat)(z:PS):PS:=if z.e=0 then⟨z.p,e,a⟩else z
def bU(s:eZ)(c:UInt8)(z:PS):Bool×PS:=if nxR s z=some c then(true,bZ z)else(false,z)
def kN(k:Int):Nd:=⟨k,0,0,0,0,0,0,0⟩
def wdR(x i:Nat):Nat:=x/2^(64*i)%2^64
def setN(x:Nat):Nd:=⟨1,0,wdR x 0,wdR x 1,wdR x 2,wdR x 3,0,0⟩
def iZ(x:Nd)(kids:List (List Nd)):List Nd:={x with n:=kids.length}::kids.flatten
def sH(kd:Int):List (List Nd)->List Nd
 |[]=>iZ (kN 2) []
 |[l]=>l
 |l=>iZ (kN kd) l
def nS(a b:Nat):Nat:=(List.range 256).foldl (fun x c=>if a<=c/\c<=b then x|||2^c else x) 0
def lX(c:UInt8):Nat:=nS c.toNat c.toNat
def X5(x:Nat):Nat:=2^256-1-x
def q1o:Nat:=nS 48 57
def qcb:Nat:=lX 95|||(q1o|||(nS 97 122|||nS 65 90))
def dgR(c:UInt8):Int:=if 48<=c.toNat/\c.toNat<=57 then c.toNat-48 else if 97<=c.toNat/\c.toNat<=102 then c.toNat-97+10 else -1
def okD(c:UInt8)(base:Int):Bool:=decide (0<=dgR c)&&decide (dgR c<base)
def sT(s:eZ)(z:PS):Nat×PS:=
 let c:=(nxR s z).getD 0
 if okD c 10 then
  let d:=(nxR s (bZ z)).getD 0
  if okD d 10 then(10*(dgR c).toNat+(dgR d).toNat,bZ (bZ z))else((dgR c).toNat,bZ z)
 else(0,bV 15 z.p z)
def q9j(lo hi:Int):Bool:=decide (0<=lo)&&(decide (lo<=30)&&(decide (hi= -1)||(decide (lo<=hi)&&decide (hi<=30))))
def yL(s:eZ)(low:Nat)(z:PS):Int×PS:=
 let t:=bU s 44 z
 if t.1 then(if(nxR s t.2).getD 0=125 then(-1,t.2)else((sT s t.2).1,(sT s t.2).2))else(low,t.2)
def yM(s:eZ)(z:PS):Nd×PS:=
 let l:=sT s (bZ z)
 let h:=yL s l.1 l.2
 let t:=bU s 125 h.2
 let z5:=if t.1 then t.2 else bV 15 t.2.p t.2
 (⟨8,0,0,0,0,0,l.1,h.1⟩,if q9j l.1 h.1 then z5 else bV 18 z.p z5)
def q0h:eZ:=[92,91,93,40,41,123,125,42,43,63,124,46,45,94,47,34]
def q0Y:eZ:=[92,91,93,40,41,123,125,42,43,63,124,46]
def qax(c:UInt8):Option Nat:=if c=100 then some q1o else if c=119 then some qcb else none
def qay(c:UInt8):Option UInt8:=if c=110 then some 10 else if c=116 then some 9 else if c=115 then some 32 else if c∈q0h then some c else none
def q8B(s:eZ)(i:Nat):Option UInt8:=
 if i+2<s.length/\okD (s.getD (i+1) 0) 16=true/\okD (s.getD (i+2) 0) 16=true then some (UInt8.ofNat (16*(dgR (s.getD (i+1) 0)).toNat+(dgR (s.getD (i+2) 0)).toNat))else none
def M6(s:eZ)(z:PS):(Nat×Bool)×PS:=
 match nxR s (bZ z)with
 |none=>((0,false),bV 15 (z.p+1) (bZ z))
 |some c=>
  match qax c with
  |some a=>((a,true),bZ (bZ z))
  |none=>
   match qay c with
   |some b=>((lX b,false),bZ (bZ z))
   |none=>
    if c=120 then
     match q8B s (z.p+1)with
     |some b=>((lX b,false),⟨z.p+4,z.e,z.b⟩)
     |none=>((0,false),bV 15 (z.p+1) (bZ (bZ z)))
    else((0,false),bV 15 (z.p+1) (bZ (bZ z)))
def lA(s:eZ)(z:PS):(Nat×Bool)×PS:=
 match nxR s z with
 |none=>((0,false),bV 15 z.p z)
 |some c=>if c=92 then M6 s z else if c=45 then((0,false),bV 15 z.p z)else((lX c,false),bZ z)
def q2q(s:eZ)(frm:Nat)(z:PS):Nat×PS:=
 let a:=lA s z
 let t:=bU s 45 a.2
 if t.1 then
  match nxR s t.2 with
  |none=>(a.1.1,bV 16 frm t.2)
  |some c=>
   if c=93 then(a.1.1,bV 15 t.2.p t.2)
   else
    let b:=lA s t.2
    if b.2.e≠0 then(a.1.1,b.2)
    else if a.1.2||b.1.2||decide (Nat.log2 b.1.1<Nat.log2 a.1.1)then(a.1.1,bV 18 a.2.p b.2)
    else(nS (Nat.log2 a.1.1) (Nat.log2 b.1.1),b.2)
 else(a.1.1,t.2)
def E2(s:eZ)(frm:Nat):Nat->Nat->PS->Nat×PS
 |0,a,z=>(a,z)
 |f+1,a,z=>
  if z.e≠0 then(a,z)
  else
   let t:=bU s 93 z
   if t.1 then(a,t.2)
   else if s.length<=t.2.p then(a,bV 16 frm t.2)
   else E2 s frm f (a|||(q2q s frm t.2).1) (q2q s frm t.2).2
def q3t(s:eZ)(frm:Nat)(z:PS):Nat×PS:=
 let t:=bU s 94 z
 let r:=E2 s frm (s.length+1) 0 t.2
 let a:=if t.1 then X5 r.1 else r.1
 (a,if a=0 then bV 17 frm r.2 else r.2)
def q1p(s:eZ)(alt:PS->List Nd×PS)(z:PS):List Nd×PS:=
 let c:=(nxR s z).getD 0
 if c=92 then([setN (M6 s z).1.1],(M6 s z).2)
 else if c=40 then
  let l:=alt (bZ z)
  let t:=bU s 41 l.2
  (l.1,if t.1 then t.2 else bV 16 z.p t.2)
 else if c=91 then([setN (q3t s z.p (bZ z)).1],(q3t s z.p (bZ z)).2)
 else if c=46 then([setN (X5 (lX 10))],bZ z)
 else if c∈q0Y then([],bV 15 z.p z)
 else([setN (lX c)],bZ z)
def zE(s:eZ):Nat->List Nd->PS->List Nd×PS
 |0,l,z=>(l,z)
 |f+1,l,z=>
  let c:=(nxR s z).getD 0
  if c=42 then zE s f (iZ (kN 5) [l]) (bZ z)
  else if c=43 then zE s f (iZ (kN 6) [l]) (bZ z)
  else if c=63 then zE s f (iZ (kN 7) [l]) (bZ z)
  else if c=123 then zE s f (iZ (yM s z).1 [l]) (yM s z).2
  else(l,z)
def q2r(s:eZ)(alt:PS->List Nd×PS)(z:PS):List Nd×PS:=zE s (s.length+1) (q1p s alt z).1 (q1p s alt z).2
def inR(s:eZ)(z:PS):Bool:=match nxR s z with|none=>false|some c=>decide (c≠124)&&decide (c≠41)
def V0(s:eZ)(alt:PS->List Nd×PS):Nat->List (List Nd)->PS->List (List Nd)×PS
 |0,l,z=>(l,z)
 |f+1,l,z=>if inR s z then V0 s alt f (l++[(q2r s alt z).1]) (q2r s alt z).2 else(l,z)
def rH(s:eZ)(alt:PS->List Nd×PS)(z:PS):List Nd×PS:=(sH 3 (V0 s alt (s.length+1) [] z).1,(V0 s alt (s.length+1) [] z).2)
def yN(s:eZ)(alt:PS->List Nd×PS):Nat->List (List Nd)->PS->List (List Nd)×PS
 |0,l,z=>(l,z)
 |f+1,l,z=>if(bU s 124 z).1 then yN s alt f (l++[(rH s alt (bU s 124 z).2).1]) (rH s alt (bU s 124 z).2).2 else(l,z)
def tW(s:eZ):Nat->PS->List Nd×PS
 |0,z=>([],z)
 |f+1,z=>
  let c:=rH s (tW s f) z
  let r:=yN s (tW s f) (s.length+1) [c.1] c.2
  (sH 4 r.1,r.2)
def q7w(s:eZ):List Nd×Nat×Nat:=
 if 512<s.length then([],3,512)
 else
  let r:=tW s (s.length+1) ⟨0,0,0⟩
  let z:=if(nxR s r.2).isSome then bV 15 r.2.p r.2 else r.2
  if z.e≠0 then([],z.e,z.b)else if 400<r.1.length then([],3,0)else(r.1,0,0)
structure Stp(s:eZ)(z z':PS):Prop where
 le:z.p<=z'.p
 len:z.p<=s.length->z'.p<=s.length
 er:z.e≠0->z'=z
 cod:z.e<=18->z'.e<=18
 bd:z.b<=s.length->z.p<=s.length->z'.b<=s.length
theorem Stp.refl(s:eZ)(z:PS):Stp s z z:=⟨qb _,id,fun _=>rfl,id,fun h _=>h⟩
theorem Stp.trans{s:eZ}{a b c:PS}(h:Stp s a b)(k:Stp s b c):Stp s a c:=
 ⟨qc h.le k.le,fun x=>k.len (h.len x),fun x=>by have e:=h.er x;subst e;exact k.er x,fun x=>k.cod (h.cod x),fun x y=>k.bd (h.bd x y) (h.len y)⟩
theorem k9{s:eZ}{z:PS}{c:UInt8}(h:nxR s z=some c):z.e=0/\z.p<s.length/\s.getD z.p 0=c:=by
 unfold nxR at h;split at h
 ·rename_i g;exact⟨g.1,g.2,by simpa using h⟩
 cases h
theorem q0l{s:eZ}{z:PS}(h:z.e≠0):nxR s z=none:=by
 unfold nxR;rw[qv (fun g=>h g.1)]
theorem vI{s:eZ}{z:PS}{c:UInt8}(h:(nxR s z).getD 0=c)(hc:c≠0):nxR s z=some c:=by
 cases hn:nxR s z with
 |none=>rw[hn]at h;exact absurd h.symm hc
 |some d=>rw[hn]at h;exact j0 some h
theorem kQ{s:eZ}{z:PS}{c:UInt8}(h:nxR s z=some c):Stp s z (bZ z):=by
 obtain⟨h0,h1,-⟩:=k9 h;exact⟨jd _,fun _=>h1,fun g=>absurd h0 g,id,fun h _=>h⟩
theorem fS(s:eZ){e a:Nat}(he:e<=18)(ha:a<=s.length)(z:PS):Stp s z (bV e a z):=by
 unfold bV;split
 ·rename_i h0;exact⟨qb _,id,fun g=>absurd h0 g,fun _=>he,fun _ _=>ha⟩
 exact Stp.refl s z
theorem cP{e a:Nat}(z:PS)(he:e≠0):(bV e a z).e≠0:=by
 unfold bV;split
 ·exact he
 assumption
theorem xF{e a:Nat}{z:PS}(h:z.e≠0):bV e a z=z:=by unfold bV;rw[qv h]
theorem f6{e a:Nat}(z:PS):(bV e a z).p=z.p:=by unfold bV;split<;>rfl
theorem kR(s:eZ)(c:UInt8)(z:PS):Stp s z (bU s c z).2:=by
 unfold bU;split
 ·rename_i h;exact kQ h
 exact Stp.refl s z
theorem sJ{s:eZ}{c:UInt8}{z:PS}(h:z.e≠0):bU s c z=(false,z):=by
 unfold bU;rw[q0l h];rfl
theorem q5r{s:eZ}{c:UInt8}{z:PS}(h:(bU s c z).1=true):nxR s z=some c/\(bU s c z).2=bZ z:=by
 unfold bU at h⊢;split
 ·rename_i g;exact⟨g,rfl⟩
 rename_i g;rw[qv g]at h;cases h
theorem q2s(b:Int):okD 0 b=false:=by
 unfold okD dgR;simp
theorem qaC{s:eZ}{z:PS}{b:Int}(h:okD ((nxR s z).getD 0) b=true):∃c,nxR s z=some c/\okD c b=true:=by
 cases hn:nxR s z with
 |none=>rw[hn]at h;exact absurd h (by rw[show(none:Option UInt8).getD 0=0 from rfl,q2s];decide)
 |some c=>rw[hn]at h;exact⟨c,rfl,h⟩
theorem q5s{s:eZ}{a z:PS}(h:Stp s a z){e:Nat}(he:e<=18)(ha:a.p<=s.length):Stp s a (bV e z.p z):=h.trans (fS s he (h.len ha) z)
theorem q1r{s:eZ}{z:PS}(hz:z.p<=s.length):Stp s z (sT s z).2:=by
 unfold sT;simp only;split
 ·rename_i h
  obtain⟨c,hc,-⟩:=qaC h;split
  ·rename_i h2
   obtain⟨d,hd,-⟩:=qaC h2;exact(kQ hc).trans (kQ hd)
  exact kQ hc
 exact fS s (by decide) hz z
theorem q2t{s:eZ}(low:Nat){z:PS}(hz:z.p<=s.length):Stp s z (yL s low z).2:=by
 unfold yL;have ht:=kR s 44 z;simp only;split
 ·split
  ·exact ht
  exact ht.trans (q1r (ht.len hz))
 exact ht
theorem q5t{s:eZ}{z:PS}{c:UInt8}(h:nxR s z=some c):Stp s z (yM s z).2:=by
 have hz:=(k9 h).2.1;have h1:=kQ h;have h2:=h1.trans (q1r (h1.len (jq hz)));have h3:=h2.trans (q2t (sT s (bZ z)).1 (h2.len (jq hz)));have h4:=h3.trans (kR s 125 _)
 have h5:Stp s z (if(bU s 125 (yL s (sT s (bZ z)).1 (sT s (bZ z)).2).2).1 then(bU s 125 (yL s (sT s (bZ z)).1 (sT s (bZ z)).2).2).2 else bV 15 (bU s 125 (yL s (sT s (bZ z)).1 (sT s (bZ z)).2).2).2.p (bU s 125 (yL s (sT s (bZ z)).1 (sT s (bZ z)).2).2).2):=by
  split
  ·exact h4
  exact q5s h4 (by decide) (jq hz)
 unfold yM;simp only;split
 ·exact h5
 exact h5.trans (fS s (by decide) (jq hz) _)
theorem q8D{s:eZ}{z:PS}{c:UInt8}(h:nxR s z=some c):z.p<(yM s z).2.p:=by
 have hz:=(k9 h).2.1;have h1:=kQ h;have hz1:=h1.len (jq hz);have h2:=q1r (s:=s) hz1;have h3:=h2.trans (q2t (sT s (bZ z)).1 (h2.len hz1));have h4:=(h3.trans (kR s 125 _)).le;have:(bZ z).p=z.p+1:=rfl;unfold yM;simp only
 have h5:z.p+1<=(if(bU s 125 (yL s (sT s (bZ z)).1 (sT s (bZ z)).2).2).1 then(bU s 125 (yL s (sT s (bZ z)).1 (sT s (bZ z)).2).2).2 else bV 15 (bU s 125 (yL s (sT s (bZ z)).1 (sT s (bZ z)).2).2).2.p (bU s 125 (yL s (sT s (bZ z)).1 (sT s (bZ z)).2).2).2).p:=by
  split
  ·omega
  rw[f6];omega
 split
 ·exact h5
 rw[f6];exact h5
theorem E4{s:eZ}{z:PS}{c:UInt8}(h:nxR s z=some c):Stp s z (M6 s z).2/\z.p<(M6 s z).2.p:=by
 have hz:=(k9 h).2.1;have h0:=(k9 h).1;have h1:=kQ h;unfold M6;cases hn:nxR s (bZ z)with
 |none=>exact⟨h1.trans (fS s (by decide) hz _),by simp only[f6];exact qV _⟩
 |some d=>
  have h2:=h1.trans (kQ hn);have hl:z.p<(bZ (bZ z)).p:=by show z.p<z.p+1+1;omega
  simp only;cases qax d with
  |some a=>exact⟨h2,hl⟩
  |none=>
   simp only;cases qay d with
   |some a=>exact⟨h2,hl⟩
   |none=>
    simp only;split
    ·cases hx:q8B s (z.p+1)with
     |some b=>
      have hlt:z.p+1+2<s.length:=by
       unfold q8B at hx;split at hx
       ·rename_i g;exact g.1
       cases hx
      exact⟨⟨by show z.p<=z.p+4;omega,fun _=>by show z.p+4<=s.length;omega,fun g=>absurd h0 g,id,fun h _=>h⟩,by show z.p<z.p+4;omega⟩
     |none=>exact⟨h2.trans (fS s (by decide) hz _),by simp only[f6];exact hl⟩
    exact⟨h2.trans (fS s (by decide) hz _),by simp only[f6];exact hl⟩
theorem q5u{s:eZ}{z:PS}(hz:z.p<=s.length):Stp s z (lA s z).2:=by
 unfold lA;cases hn:nxR s z with
 |none=>exact fS s (by decide) hz z
 |some c=>
  simp only;split
  ·exact(E4 hn).1
  split
  ·exact fS s (by decide) hz z
  exact kQ hn
theorem q9m{s:eZ}{frm:Nat}(hf:frm<=s.length){z:PS}(hz:z.p<=s.length):Stp s z (q2q s frm z).2:=by
 have h1:=q5u (s:=s) hz;have h2:=h1.trans (kR s 45 _);unfold q2q;simp only;split
 ·cases hn:nxR s (bU s 45 (lA s z).2).2 with
  |none=>exact h2.trans (fS s (by decide) hf _)
  |some c=>
   simp only;split
   ·exact q5s h2 (by decide) hz
   have h3:=h2.trans (q5u (s:=s) (h2.len hz));split
   ·exact h3
   split
   ·exact h3.trans (fS s (by decide) (h1.len hz) _)
   exact h3
 exact h2
theorem q2u{s:eZ}{frm:Nat}(hf:frm<=s.length):∀(f a:Nat) (z:PS),z.p<=s.length->Stp s z (E2 s frm f a z).2
 |0,_,z,_=>Stp.refl s z
 |f+1,a,z,hz=>by
  unfold E2;split
  ·exact Stp.refl s z
  have h1:=kR s 93 z;simp only;split
  ·exact h1
  split
  ·exact h1.trans (fS s (by decide) hf _)
  have h2:=h1.trans (q9m (s:=s) hf (h1.len hz));exact h2.trans (q2u hf f _ _ (h2.len hz))
theorem q5v{s:eZ}{frm:Nat}(hf:frm<=s.length){z:PS}(hz:z.p<=s.length):Stp s z (q3t s frm z).2:=by
 have h1:=kR s 94 z;have h2:=h1.trans (q2u hf (s.length+1) 0 _ (h1.len hz));unfold q3t;simp only;split
 ·split
  ·exact h2.trans (fS s (by decide) hf _)
  exact h2
 split
 ·exact h2.trans (fS s (by decide) hf _)
 exact h2
end Go.Cm
namespace Go.Cm
section
variable {s : eZ} {alt : PS → List Nd × PS} (hA : ∀ z, z.p ≤ s.length → Stp s z (alt z).2)
include hA
theorem q9n{z:PS}{c:UInt8}(h:nxR s z=some c):Stp s z (q1p s alt z).2/\((q1p s alt z).2.e≠0\/z.p<(q1p s alt z).2.p):=by
 have hz:=(k9 h).2.1;have h1:=kQ h;have hz1:=h1.len (jq hz);have e1:(bZ z).p=z.p+1:=rfl;unfold q1p;simp only;split
 ·exact⟨(E4 h).1,.inr (E4 h).2⟩
 split
 ·have h2:=h1.trans (hA _ hz1)
  have h3:=h2.trans (kR s 41 _);have hl:=((hA _ hz1).trans (kR s 41 _)).le;split
  ·exact⟨h3,.inr (by show z.p<(bU s 41 (alt (bZ z)).2).2.p;omega)⟩
  exact⟨h3.trans (fS s (by decide) (jq hz) _),.inr (by simp only[f6];omega)⟩
 split
 ·have h2:=q5v (s:=s) (frm:=z.p) (jq hz) hz1
  exact⟨h1.trans h2,.inr (by have:=h2.le;show z.p<(q3t s z.p (bZ z)).2.p;omega)⟩
 split
 ·exact⟨h1,.inr (qV _)⟩
 split
 ·exact⟨fS s (by decide) (jq hz) z,.inl (cP z (by decide))⟩
 exact⟨h1,.inr (qV _)⟩
omit hA in
theorem vJ:∀(f:Nat) (l:List Nd) (z:PS),Stp s z (zE s f l z).2
 |0,_,z=>Stp.refl s z
 |f+1,l,z=>by
  unfold zE;simp only;split
  ·rename_i h;exact(kQ (vI h (by decide))).trans (vJ f _ _)
  split
  ·rename_i h;exact(kQ (vI h (by decide))).trans (vJ f _ _)
  split
  ·rename_i h;exact(kQ (vI h (by decide))).trans (vJ f _ _)
  split
  ·rename_i h;exact(q5t (vI h (by decide))).trans (vJ f _ _)
  exact Stp.refl s z
theorem V2{z:PS}{c:UInt8}(h:nxR s z=some c):Stp s z (q2r s alt z).2/\((q2r s alt z).2.e≠0\/z.p<(q2r s alt z).2.p):=by
 obtain⟨h1,h2⟩:=q9n hA h;have h3:=vJ (s:=s) (s.length+1) (q1p s alt z).1 (q1p s alt z).2;refine⟨h1.trans h3,?_⟩;rcases h2 with h2|h2
 ·left;show(zE s (s.length+1) (q1p s alt z).1 (q1p s alt z).2).2.e≠0;rw[h3.er h2];exact h2
 right;exact qe h2 h3.le
omit hA in
theorem q5w{z:PS}(h:inR s z=true):∃c,nxR s z=some c/\c≠124/\c≠41:=by
 unfold inR at h;cases hn:nxR s z with
 |none=>rw[hn]at h;cases h
 |some c=>rw[hn]at h;simp only[qK,jn]at h;exact⟨c,rfl,h⟩
theorem q2v:∀(f:Nat) (l:List (List Nd)) (z:PS),Stp s z (V0 s alt f l z).2
 |0,_,z=>Stp.refl s z
 |f+1,l,z=>by
  unfold V0;split
  ·rename_i h
   obtain⟨c,hc,-⟩:=q5w h;exact(V2 hA hc).1.trans (q2v f _ _)
  exact Stp.refl s z
theorem q1s(z:PS):Stp s z (rH s alt z).2:=q2v hA _ _ z
theorem q2w:∀(f:Nat) (l:List (List Nd)) (z:PS),Stp s z (yN s alt f l z).2
 |0,_,z=>Stp.refl s z
 |f+1,l,z=>by
  unfold yN;split
  ·exact((kR s 124 z).trans (q1s hA _)).trans (q2w f _ _)
  exact Stp.refl s z
end
theorem E5(s:eZ):∀(f:Nat) (z:PS),Stp s z (tW s f z).2
 |0,z=>Stp.refl s z
 |f+1,z=>(q1s (fun z _=>E5 s f z) z).trans (q2w (fun z _=>E5 s f z) _ _ _)
def pY(l:List (List Nd)):Nat:=l.flatten.length
theorem rI(l:List (List Nd))(x:List Nd):pY (l++[x])=pY l+x.length:=by simp[pY]
theorem q2x(x:Nd)(l:List (List Nd)):(iZ x l).length=pY l+1:=by simp[iZ,pY]
theorem q5x(kd:Int):∀l:List (List Nd),(sH kd l).length<=pY l+1
 |[]=>by simp[sH,iZ,pY]
 |[l]=>by simp[sH,pY]
 |a::b::l=>by simp[sH,iZ,pY]
theorem q2y(kd:Int)(l:List Nd):(sH kd [l]).length=l.length:=rfl
structure Sml(s:eZ)(z:PS)(r:List Nd×PS):Prop where
 lt:r.1.length+2*z.p+1<=2*r.2.p\/(r.1.length=0/\r.2.e≠0)
section
variable {s : eZ} {alt : PS → List Nd × PS} (hA : ∀ z, z.p ≤ s.length → Stp s z (alt z).2) (hL : ∀ z, z.p ≤ s.length → (alt z).1.length + 2 * z.p ≤ 2 * (alt z).2.p + 1)
include hA hL
omit hA in
theorem q5y{z:PS}{c:UInt8}(h:nxR s z=some c):Sml s z (q1p s alt z):=by
 have hz:=(k9 h).2.1;have h1:=kQ h;have hz1:=h1.len (jq hz);have e1:(bZ z).p=z.p+1:=rfl;refine⟨?_⟩;unfold q1p;simp only;split
 ·left;have:=(E4 h).2;show 1+2*z.p+1<=2*(M6 s z).2.p;omega
 split
 ·left
  have hl:=hL _ hz1;have ht:=(kR s 41 (alt (bZ z)).2).le;split
  ·show(alt (bZ z)).1.length+2*z.p+1<=2*(bU s 41 (alt (bZ z)).2).2.p;omega
  simp only[f6];omega
 split
 ·left
  have h2:=q5v (s:=s) (frm:=z.p) (jq hz) hz1;have:=h2.le;show 1+2*z.p+1<=2*(q3t s z.p (bZ z)).2.p;omega
 split
 ·left;show 1+2*z.p+1<=2*(z.p+1);omega
 split
 ·right;exact⟨rfl,cP z (by decide)⟩
 left;show 1+2*z.p+1<=2*(z.p+1);omega
omit hA hL in
theorem q2z:∀(f:Nat) (l:List Nd) (z0 z:PS),(l.length+2*z0.p+1<=2*z.p\/(l.length=0/\z.e≠0))->Sml s z0 (zE s f l z)
 |0,_,_,_,h=>⟨h⟩
 |f+1,l,z0,z,h=>by
  have step:∀(x:Nd) (z1:PS) (c:UInt8),nxR s z=some c->z.p<z1.p->Sml s z0 (zE s f (iZ x [l]) z1):=fun x z1 c hc hlt=>by
   refine q2z f _ z0 z1 (.inl ?_);rw[q2x];have:pY [l]=l.length:=by simp[pY]
   rcases h with h|h
   ·omega
   exact absurd (k9 hc).1 h.2
  unfold zE;simp only;split
  ·rename_i g;exact step _ _ _ (vI g (by decide)) (qV _)
  split
  ·rename_i g;exact step _ _ _ (vI g (by decide)) (qV _)
  split
  ·rename_i g;exact step _ _ _ (vI g (by decide)) (qV _)
  split
  ·rename_i g;exact step _ _ _ (vI g (by decide)) (q8D (vI g (by decide)))
  exact⟨h⟩
omit hA in
theorem q1t{z:PS}{c:UInt8}(h:nxR s z=some c):Sml s z (q2r s alt z):=q2z _ _ _ _ (q5y hL h).lt
theorem q2A:∀(f:Nat) (l:List (List Nd)) (z0 z:PS),(pY l+l.length+2*z0.p<=2*z.p\/(pY l+l.length+2*z0.p<=2*z.p+1/\z.e≠0))->
  pY (V0 s alt f l z).1+(V0 s alt f l z).1.length+2*z0.p<=2*(V0 s alt f l z).2.p+1
 |0,_,_,_,h=>by
  rcases h with h|h
  ·exact Nat.le_succ_of_le h
  exact h.1
 |f+1,l,z0,z,h=>by
  unfold V0;split
  ·rename_i g
   obtain⟨c,hc,-⟩:=q5w g;have hr:=(q1t hL hc).lt;have hs:=(V2 hA hc).1.le;refine q2A f _ z0 _ ?_;rw[rI,qj,qE];rcases h with h|h
   ·rcases hr with hr|hr
    ·left;omega
    right;exact⟨by omega,hr.2⟩
   exact absurd (k9 hc).1 h.2
  rcases h with h|h
  ·exact Nat.le_succ_of_le h
  exact h.1
theorem q5z(z:PS):(rH s alt z).1.length+2*z.p<=2*(rH s alt z).2.p+1:=by
 have h:=q2A hA hL (s.length+1) [] z z (.inl (by simp[pY]));have hle:=(q1s hA z).le;have e:(rH s alt z).2=(V0 s alt (s.length+1) [] z).2:=rfl;have e1:(rH s alt z).1=sH 3 (V0 s alt (s.length+1) [] z).1:=rfl;rw[e]at hle;rw[e1,e];generalize V0 s alt (s.length+1) [] z=r at*;obtain⟨l,z'⟩:=r
 dsimp only at*
 match l,h with
 |[],_=>simp only[sH,iZ,qA,List.flatten_nil,qO];omega
 |[x],h=>rw[q2y];simp only[pY,List.flatten_cons,List.flatten_nil,j7,qA,qO]at h;omega
 |a::b::l,h=>
  have:=q5x 3 (a::b::l);simp only[qA]at h;omega
theorem q2B:∀(f:Nat) (l:List (List Nd)) (z0 z:PS),pY l+l.length+2*z0.p<=2*z.p+2->
  pY (yN s alt f l z).1+(yN s alt f l z).1.length+2*z0.p<=2*(yN s alt f l z).2.p+2
 |0,_,_,_,h=>h
 |f+1,l,z0,z,h=>by
  unfold yN;split
  ·rename_i g
   obtain⟨hc,ha⟩:=q5r g;refine q2B f _ z0 _ ?_;rw[rI,qj,qE,ha];have:=q5z hA hL (bZ z);have e:(bZ z).p=z.p+1:=rfl;omega
  exact h
end
theorem q1u(s:eZ):∀(f:Nat) (z:PS),(tW s f z).1.length+2*z.p<=2*(tW s f z).2.p+1
 |0,z=>by show 0+2*z.p<=2*z.p+1;omega
 |f+1,z=>by
  have hA:=fun z (_:z.p<=s.length)=>E5 s f z;have hL:=fun z (_:z.p<=s.length)=>q1u s f z;have hc:=q5z hA hL z;have h:=q2B hA hL (s.length+1) [(rH s (tW s f) z).1] z (rH s (tW s f) z).2 (by simp only[pY,List.flatten_cons,List.flatten_nil,j7,qE];omega)
  have hn:(yN s (tW s f) (s.length+1) [(rH s (tW s f) z).1] (rH s (tW s f) z).2).1≠[]:=by
   have:∀(g:Nat) (l:List (List Nd)) (z:PS),l≠[]->(yN s (tW s f) g l z).1≠[]:=by
    intro g
    induction g with
    |zero=>intro l z h;exact h
    |succ g ih=>
     intro l z h;unfold yN;split
     ·exact ih _ _ (by simp)
     exact h
   exact this _ _ _ (by simp)
  show(sH 4 (yN s (tW s f) (s.length+1) [(rH s (tW s f) z).1] (rH s (tW s f) z).2).1).length+2*z.p<=2*(yN s (tW s f) (s.length+1) [(rH s (tW s f) z).1] (rH s (tW s f) z).2).2.p+1;generalize yN s (tW s f) (s.length+1) [(rH s (tW s f) z).1] (rH s (tW s f) z).2=r at*;obtain⟨l,z'⟩:=r
  dsimp only at*
  match l,h,hn with
  |[x],h,_=>rw[q2y];simp only[pY,List.flatten_cons,List.flatten_nil,j7,qA,qO]at h;omega
  |a::b::l,h,_=>
   have:=q5x 4 (a::b::l);simp only[qA]at h;omega
end Go.Cm
namespace Go.Cm
open Go.RowKit Go.Proofs Go.WideShapes Go.ChangeShapes Go.Deep
section
variable {H : Type} {enc : TypeId × Value → H} {P : Program} {w : World} {base : Nat} {held : Bool}
theorem q7J{t e:TypeId}{fuel:Nat}{cs:List Value}{x:DataW H×List MemPlace}(k:Nat)(hk:0<k)(ht:P.underlying t=some (.slice e))(hc:P.cellsOf e=k)(hb:1<=P.bytesOf e)(h:DataW.trod enc P w base (fun _=>true) held fuel t cs=some x)(hw:∀n∈x.1.weights P t,n<=reachBytes):
  ∃(oa:Option Addr) (len cap b off:Nat) (C:Nat->List Value) (D:Nat->DataW H),cs=[.slice oa len cap]/\Hd w oa len cap b off/\∀i,i<len->(C i).length=k/\(∀c,c<k->w.cell? ⟨b,off+i*k+c,none⟩=some ((C i).getD c undef))/\(∃n p,DataW.trod enc P w base (fun _=>true) held n e (C i)=some (D i,p))/\∀n∈(D i).weights P e,n<=reachBytes:=by
 rcases open_slice ht h with⟨rfl,-⟩|⟨a,len,cap,m,n,D,Pl,rfl,-,hl,hm,hmm,rfl,hx⟩
 ·exact⟨none,0,0,0,0,fun _=>[],fun _=>.nil,rfl,⟨fun h=>absurd h (jK 0),qb _,by simp[maxLen],by simp,fun h=>absurd h (jK 0)⟩,fun i hi=>absurd hi (qC i)⟩
 simp only[jJ]at hmm;subst hmm;rw[hc]at hx;have hwt:=vM (P:=P) (elems:=(List.range len).map D) (spare:=(List.range (m-len)).map fun j=>D (len+j)) ht;simp only at hw;rw[hwt]at hw;have h1:=hw _ (jh ..);simp only[qB,List.length_range]at h1;have h2:m*1<=(len+(m-len))*P.bytesOf e:=Nat.mul_le_mul (by omega) hb;rw[q2E]at h1
 have hx2:∀i,i<m->∃cs',cs'.length=k/\(∀c,c<k->w.cell? ((a.add (i*k)).add c)=some (cs'.getD c undef))/\DataW.trod enc P w base (fun _=>true) held n e cs'=some (D i,Pl i):=fun i hi=>by
  obtain⟨cs',h3,h4⟩:=hx i hi;obtain⟨_,hlen,hcell⟩:=World.cells?_some h3;refine⟨cs',hlen,fun c hcl=>?_,h4⟩;rw[hcell c (by omega)];simp[List.getD,show c<cs'.length by omega]
 obtain⟨C,hC⟩:=choose_lt hx2;obtain⟨ab,ao,asp⟩:=a
 have hsp:0<len->asp=none:=fun h0=>by
  have h3:=(hC 0 (by omega)).2.1 0 hk;rw[Nat.zero_mul]at h3;simpa[Addr.add]using World.cell?_spot h3
 refine⟨some ⟨ab,ao,asp⟩,len,m,ab,ao,C,D,rfl,⟨fun h0=>by rw[hsp h0],hl,hm,by omega,fun h0=>?_⟩,fun i hi=>⟨(hC i (by omega)).1,fun c hcl=>?_,⟨n,Pl i,(hC i (by omega)).2.2⟩,fun k hk=>hw k (qY _ (j5 _ (nT (List.mem_map.2 ⟨i,List.mem_range.2 hi,rfl⟩) k hk)))⟩⟩
 ·have h3:=(hC 0 (by omega)).2.1 0 hk
  have:=World.block_lt_of_cell? _ _ h3;simpa[Addr.add]using this
 have h3:=(hC i (by omega)).2.1 c hcl;have h4:=hsp (by omega);subst h4;rw[V5,V5]at h3;exact h3
end
theorem qbr{α:Type}{l:List α}(h:l.length=4):∃a b c d,l=[a,b,c,d]:=by
 match l,h with
 |[a,b,c,d],_=>exact⟨a,b,c,d,rfl⟩
theorem qbs{α:Type}{l:List α}(h:l.length=8):∃a b c d e f g i,l=[a,b,c,d,e,f,g,i]:=by
 match l,h with
 |[a,b,c,d,e,f,g,i],_=>exact⟨a,b,c,d,e,f,g,i,rfl⟩
end Go.Cm
namespace Go.Cm
open Go.RowKit Go.Proofs Go.Maps
def wH(P:Program)(K:TypeId)(w:World)(b:Nat)(ks:List Value):Prop:=
 ∃es clock,w.heap[b]? =some (.map es clock)/\es.toList.map (·.key)=ks/\(∀x∈es.toList,∃l,keyOf P K x.key=some l)/\(∀(i:Nat) x,es.toList[i]? =some x->x.val=.int .i64 i)/\ks.Nodup
section
variable {P : Program} {K E T : TypeId} {w w' : World} {b : Nat} {ks : List Value} {k : Value} {lk : Lit}
theorem wH.made(P:Program)(K:TypeId)(w:World):wH P K (w.alloc (.map #[] 0)) w.heap.size []:=
 ⟨#[],0,(MapKept.heap_alloc w _).1,rfl,by simp,by simp,by simp⟩
theorem wH.lt(h:wH P K w b ks):b<w.heap.size:=by
 obtain⟨es,clock,hb,-⟩:=h;exact(Array.getElem?_eq_some_iff.1 hb).1
theorem wH.keep(h:wH P K w b ks){row:Option Nat}(hg:w.grownBy w' row)(hne:some b≠row):wH P K w' b ks:=by
 have hlt:=h.lt;obtain⟨es,clock,hb,r⟩:=h;exact⟨es,clock,(hg.block b hlt hne).trans hb,r⟩
theorem wH.up(h:wH P K w b ks)(hb:Below w.heap.size w w'):wH P K w' b ks:=h.keep (row:=none) (aK hb none) (by simp)
theorem wH.len(h:wH P K w b ks)(hT:P.underlying T=some (.map K E))(ty:TypeId):(Builtin.len_ #[T] ty #[.map (some b)]).run P w=.ok (.int .i64 ks.length) w:=by
 obtain⟨es,clock,hb,hks,-⟩:=h;simp[Builtin.len_,run_underlying hT,MapKept.run_getObj_map hb,goInt,Result.andThen,<-hks]
theorem wH.lookNew(h:wH P K w b ks)(Kd:Keyed P K)(hT:P.underlying T=some (.map K E))(hz:(zeroValue E).run P w=.ok (.int .i64 0) w)(hk:keyOf P K k=some lk)(hn:k∉ks):
  (Instr.lookup T (.map (some b)) k true).run P w=.ok (.tuple #[.int .i64 0,.bool false]) w:=by
 obtain⟨es,clock,hb,hks,hkl,-⟩:=h;rcases Kd.find w hk es.toList hkl with⟨f1,-⟩|⟨j,e0,f2,hj,he⟩
 ·simp[Instr.lookup,run_underlying hT,MapKept.run_getObj_map hb,Kd.check w _ hk,f1,hz,Result.andThen]
 exact absurd (by rw[<-hks,<-he];exact je (jA hj)) hn
theorem wH.lookOld(h:wH P K w b ks)(Kd:Keyed P K)(hT:P.underlying T=some (.map K E))(hk:keyOf P K k=some lk){i:Nat}(hi:ks[i]? =some k):
  (Instr.lookup T (.map (some b)) k true).run P w=.ok (.tuple #[.int .i64 i,.bool true]) w/\(Instr.lookup T (.map (some b)) k false).run P w=.ok (.int .i64 i) w:=by
 obtain⟨es,clock,hb,hks,hkl,hv,hnd⟩:=h;have hi2:(es.toList.map (·.key))[i]? =some k:=by rw[hks];exact hi
 rw[qU]at hi2;obtain⟨e0,h0,he⟩:=Option.map_eq_some_iff.1 hi2;have f:=q1w Kd hk hkl (by rw[hks];exact hnd) h0 he w;rw[hv i e0 h0]at f
 constructor<;>simp[Instr.lookup,run_underlying hT,MapKept.run_getObj_map hb,Kd.check w _ hk,f,Result.andThen]
theorem wH.put(h:wH P K w b ks)(Kd:Keyed P K)(hT:P.underlying T=some (.map K E))(hk:keyOf P K k=some lk)(hn:k∉ks):
  ∃w',(Instr.mapUpdate T (.map (some b)) k (.int .i64 ks.length)).run P w=.ok () w'/\wH P K w' b (ks++[k])/\w.grownBy w' (some b):=by
 obtain⟨es,clock,hb,hks,hkl,hv,hnd⟩:=h;rcases Kd.find w hk es.toList hkl with⟨f1,-⟩|⟨j,e0,f2,hj,he⟩
 ·refine⟨_,?_,?_,rJ w b (.map (es.push ⟨k,.int .i64 ks.length,clock⟩) (clock+1))⟩
  ·simp[Instr.mapUpdate,run_underlying hT,MapKept.run_getObj_map hb,Kd.check w _ hk,f1,Result.andThen,MapKept.run_setObj_map _ hb]
  have e1:(es.push (⟨k,.int .i64 ks.length,clock⟩:MapEntry)).toList=es.toList++[⟨k,.int .i64 ks.length,clock⟩]:=by simp
  refine⟨_,_,E7 hb _,by rw[e1,qH,hks];rfl,?_,?_,?_⟩
  ·rw[e1]
   intro x hx;rcases List.mem_append.1 hx with hx|hx
   ·exact hkl x hx
   rw[List.mem_singleton.1 hx];exact⟨lk,hk⟩
  ·rw[e1]
   intro i x hx;by_cases hil:i<es.toList.length
   ·rw[qW hil]at hx
    exact hv i x hx
   rw[ji (by omega)]at hx;have h1:=(List.getElem?_eq_some_iff.1 hx).1;simp only[qE]at h1;have hie:i=es.toList.length:=by omega
   subst hie;rw[Nat.sub_self]at hx;simp only[List.getElem?_cons_zero,jC]at hx;rw[<-hx,<-hks,qB]
  rw[List.nodup_append];exact⟨hnd,by simp,fun x hx y hy e=>hn (by simp at hy;rw[<-hy,<-e];exact hx)⟩
 exact absurd (by rw[<-hks,<-he];exact je (jA hj)) hn
end
end Go.Cm
namespace Go.Cm
open Go.RowKit Go.Proofs
theorem q7N(x y:eZ):(⟨x.toArray⟩:ByteArray)++⟨y.toArray⟩=⟨(x++y).toArray⟩:=by
 have h:((⟨x.toArray⟩:ByteArray)++⟨y.toArray⟩).data=(x++y).toArray:=by simp
 cases hz:((⟨x.toArray⟩:ByteArray)++⟨y.toArray⟩)with
 |mk d=>rw[hz]at h;simp only at h;rw[h]
theorem q60{P:Program}(x y:eZ)(hb:x.length+y.length<=9223372036854775807)(w:World):(Op.stringOp .add ⟨x.toArray⟩ ⟨y.toArray⟩).run P w=.ok (.string ⟨(x++y).toArray⟩) w:=by
 rw[run_string_add_sum _ _ _ (by simpa[ByteArray.size]using hb),q7N]
theorem q1C{s:ByteArray}{a b:Nat}{l:eZ}(h:(((bys s).drop a).take (b-a))=l):s.extract a b=⟨l.toArray⟩:=by
 have:(s.extract a b).data.toList=l:=by
  rw[<-h];simp[bys,List.extract]
 cases hx:s.extract a b with
 |mk d=>rw[hx]at this;simp only at this;rw[<-this]
end Go.Cm
