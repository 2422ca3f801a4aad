/- Walks of functions and plain facts, joined and squeezed by a program. Conditions: as each says. -/
import Derived.Laws.Tables
import Derived.Test.YtiladjhipahiiaaGreatDLXI
import Derived.Test.YtiladjhipahiiaaGreatDLXF
set_option maxHeartbeats 8000000
set_option maxRecDepth 100000
set_option linter.unusedSimpArgs false
open Go.Proofs.Tryz
namespace Go.Cm
open Go.RowKit Go.Proofs Go.Maps
theorem ZmK0{P:Prop}(h:P:=by
 rw[qdY j (by omega)]at hx
 rcases Nat.lt_succ_iff_lt_or_eq.1 hj with h1|rfl
 ·rw[hk'];exact j5 _ (h.mem j h1 x hx)
 exact kS hx):P:=h
theorem ZmK1{P:Prop}(h:P:=by
 rw[qL];refine ih (fun x hx=>?_) (fun x hx=>hl x (qY _ hx));rcases cR.1 hx with h|rfl
 ·exact hR x h
 exact hl x jh):P:=h
structure q3r(m:Nat)(w W:World):Prop where
 size:w.heap.size<=W.heap.size
 blk:∀b,b<w.heap.size->b≠m->W.heap[b]? =w.heap[b]?
theorem q3r.refl(m:Nat)(w:World):q3r m w w:=⟨qb _,fun _ _ _=>rfl⟩
theorem q3r.up{m:Nat}{w W W':World}(h:q3r m w W)(hb:Below W.heap.size W W'):q3r m w W':=
 ⟨qc h.size hb.size,fun b hlt hne=>(hb.block b (qe hlt h.size)).trans (h.blk b hlt hne)⟩
theorem q3r.grown{m:Nat}{w W W':World}{row:Option Nat}(h:q3r m w W)(hg:W.grownBy W' row)(hr:∀k,row=some k->k=m\/w.heap.size<=k):q3r m w W':=
 ⟨qc h.size hg.size,fun b hlt hne=>(hg.block b (qe hlt h.size) (fun e=>by rcases hr b e.symm with h1|h1;exact hne h1;omega)).trans (h.blk b hlt hne)⟩
theorem bA.stay{A:Nat->Prop}{m:Nat}{w W:World}{v:Value}{f:Fo}(h:bA A w v f)(hs:q3r m w W)(hA:¬A m):bA A W v f:=
 h.keep hs.size (fun b hb hlt=>hs.blk b hlt (fun e=>hA (e▸hb)))
theorem bA.ina{A:Nat->Prop}{w:World}{oa:Option Addr}{n cap b off:Nat}{f:Fo}(h:bA A w (.slice oa n cap) f)(hd:Hd w oa n cap b off)(hn:0<n):A b:=by
 obtain⟨_,_,hin,_⟩:=h;exact hin b off none n cap (by rw[hd.hat hn]) hn
theorem qas.nextS{A:Nat->Prop}{w W:World}{rs:List (List Value)}{b off m i m0:Nat}{k r:Fo}(h:qas A w rs b off m k)(hr:cA A w (rs.drop i) r)(hi:i<m)(hb:q3r m0 w W)(hbm:b≠m0):
  ∃y o n c j r',r=.cons y j r'/\bA A w (.slice o n c) j/\cA A w (rs.drop (i+1)) r'/\∀q,q<8->W.cell? ⟨b,off+i*8+q,none⟩=some ((tmA y (.slice o n c)).getD q undef):=by
 obtain⟨y,v,j,r',rfl,hrow,ht,hrr⟩:=hr.step (by rw[h.len];exact hi);obtain⟨o,n,c,rfl,-⟩:=ht.form;refine⟨y,o,n,c,j,r',rfl,ht,hrr,fun q hq=>?_⟩;have e:=World.cell?_of_block (w:=w) (w':=W) (a:=⟨b,off+i*8+q,none⟩) (hb.blk b (h.blk (by omega)) hbm);rw[e,h.cell i hi q hq,hrow,q7t]
theorem eX:Keyed prog 9:=string_keyed underlying9
theorem oL(W:World):(zeroValue 3).run prog W=.ok (.int .i64 0) W:=by kernel_rfl
theorem U9(l:List Nat)(h:l.length<=1000000000):keyOf prog 9 (.string (pX l))=some (.string (pX l).data.toList):=by
 have:=Go.WideMaps.keyOf_string_mk (P:=prog) (k:=9) underlying9 (s:=pX l) (by rw[q0b];simp only[maxLen];omega);simpa using this
def q1m(w:World)(b:Nat)(D:DataW Unit)(ts:List (List UInt8))(N:Nat):Prop:=
 w.ownsMap prog 9 (plainElem prog 3) b N D/\IsMap D/\∀t,(t∈ts->∃c:Int,1<=c/\c<=N/\D.atKey (.string t) (.lit (.int .i64 0))=.lit (.int .i64 c))/\(t∉ts->D.atKey (.string t) (.lit (.int .i64 0))=.lit (.int .i64 0))
theorem q1m.made(w:World):q1m (w.alloc (.map #[] 0)) w.heap.size (.map []) [] 0:=⟨World.ownsMap_made _ _ _ _,⟨[],rfl⟩,fun t=>⟨fun h=>(by cases h),fun _=>rfl⟩⟩
theorem q1m.keep{w w':World}{b:Nat}{D:DataW Unit}{ts:List (List UInt8)}{N:Nat}(h:q1m w b D ts N){row:Option Nat}(hg:w.grownBy w' row)(hne:some b≠row):q1m w' b D ts N:=⟨h.1.kept hg hne,h.2⟩
theorem q1m.up{w w':World}{b:Nat}{D:DataW Unit}{ts:List (List UInt8)}{N:Nat}(h:q1m w b D ts N)(hb:Below w.heap.size w w'):q1m w' b D ts N:=h.keep (row:=none) (aK hb none) (by simp)
theorem q1m.val{w:World}{b:Nat}{D:DataW Unit}{ts:List (List UInt8)}{N:Nat}(h:q1m w b D ts N){t:List UInt8}{c:Int}(hc:D.atKey (.string t) (.lit (.int .i64 0))=.lit (.int .i64 c)):0<=c/\c<=N/\(c=0↔t∉ts):=by
 by_cases ht:t∈ts
 ·obtain⟨c',h1,h2,h3⟩:=(h.2.2 t).1 ht
  rw[hc]at h3;injection h3 with h3;injection h3 with _ h3;subst h3;exact⟨by omega,h2,fun h=>by omega,fun h=>absurd ht h⟩
 have h3:=(h.2.2 t).2 ht;rw[hc]at h3;injection h3 with h3;injection h3 with _ h3;subst h3;exact⟨Int.le_refl _,by omega,fun _=>ht,fun _=>rfl⟩
theorem q1m.put{w w':World}{b:Nat}{D:DataW Unit}{ts:List (List UInt8)}{N:Nat}(h:q1m w b D ts N){t:List UInt8}{c:Int}(hc:0<=c/\c<=N)(ho:w'.ownsMap prog 9 (plainElem prog 3) b (N+1) (D.put (.string t) (.lit (.int .i64 (c+1))))):
  q1m w' b (D.put (.string t) (.lit (.int .i64 (c+1)))) (t::ts) (N+1):=by
 refine⟨ho,h.2.1.put _ _,fun s=>?_⟩;by_cases hs:s=t
 ·subst hs
  refine⟨fun _=>⟨c+1,by omega,by push_cast;omega,atKey_put_same h.2.1 (show WideAt.IsKeyLit (Lit.string s)from trivial) _ _⟩,fun hh=>absurd jh hh⟩
 have e:∀z,(D.put (.string t) (.lit (.int .i64 (c+1)))).atKey (.string s) z=D.atKey (.string s) z:=fun z=>atKey_put_other (fun e=>hs (by injection e)) _ z;refine⟨fun hm=>?_,fun hm=>?_⟩
 ·obtain⟨c',h1,h2,h3⟩:=(h.2.2 s).1 ((List.mem_cons.1 hm).resolve_left hs)
  exact⟨c',h1,by push_cast;omega,(e _).trans h3⟩
 exact(e _).trans ((h.2.2 s).2 (fun q=>hm (qY _ q)))
structure qb6(A1:Nat->Prop)(w w1:World)(g0 m0:Nat):Prop where
 wg:w.heap.size<=g0
 gm:g0<m0
 m1:m0<w1.heap.size
 nA:¬A1 m0
 lt:∀b,A1 b->b<w1.heap.size
structure q3s(A1:Nat->Prop)(w w1 W:World)(g0 m0:Nat)(D:DataW Unit)(ts:List (List UInt8))(N:Nat)(ov:Value)(acc:Fo):Prop where
 stay:q3r m0 w1 W
 bel:Below w.heap.size w W
 own:pF A1 W w1.heap.size 55 ov acc
 box:kH W g0 (tmC ⟨0,0,0,0,0,0,0,0⟩ (.slice none 0 0))
 map:q1m W m0 D ts N
section
variable {A1 : Nat → Prop} {w w1 W W' : World} {g0 m0 N : Nat} {D : DataW Unit} {ts : List (List UInt8)} {ov : Value} {acc : Fo}
theorem q3s.up(h:q3s A1 w w1 W g0 m0 D ts N ov acc)(hb:Below W.heap.size W W'):q3s A1 w w1 W' g0 m0 D ts N ov acc:=
 ⟨h.stay.up hb,h.bel.trans (hb.mono h.bel.size),h.own.up hb,h.box.up hb,h.map.up hb⟩
theorem q3s.put(h:q3s A1 w w1 W g0 m0 D ts N ov acc)(K:qb6 A1 w w1 g0 m0){t:List UInt8}{c:Int}(hc:0<=c/\c<=N)(ho:W'.ownsMap prog 9 (plainElem prog 3) m0 (N+1) (D.put (.string t) (.lit (.int .i64 (c+1)))))
  (hg:W.grownBy W' (some m0)):q3s A1 w w1 W' g0 m0 (D.put (.string t) (.lit (.int .i64 (c+1)))) (t::ts) (N+1) ov acc:=by
 have h1:=K.wg;have h2:=K.gm;have h3:=K.m1;refine⟨h.stay.grown hg (by rintro k ⟨⟩;exact .inl rfl),h.bel.grown hg h.bel.size (by rintro k ⟨⟩;omega),h.own.keep hg (fun q e=>?_),h.box.keep hg (.inr (fun e=>?_)),h.map.put hc ho⟩
 ·injection e with e
  subst e;refine⟨fun e=>?_,fun e=>?_⟩
  ·have:=(h.own.lt m0 e).1;omega
  rcases e with e|e
  ·exact K.nA e
  omega
 have:=qr (show some g0=some m0 from e);omega
theorem q3s.app(h:q3s A1 w w1 W g0 m0 D ts N ov acc)(K:qb6 A1 w w1 g0 m0){v':Value}{acc':Fo}(ho:pF A1 W' w1.heap.size 55 v' acc')(hg:W.grownBy W' ov.ownBlock):q3s A1 w w1 W' g0 m0 D ts N v' acc':=by
 have h1:=K.wg;have h2:=K.gm;have h3:=K.m1;refine⟨h.stay.grown hg (fun k e=>.inr (h.own.lt k e).1),h.bel.grown hg h.bel.size (fun k e=>by have:=(h.own.lt k e).1;omega),ho,h.box.keep hg (.inr (fun e=>?_)),h.map.keep hg (fun e=>?_)⟩
 ·have:=(h.own.lt g0 e.symm).1;omega
 have:=(h.own.lt m0 e.symm).1;omega
theorem q3s.tms(h:q3s A1 w w1 W g0 m0 D ts N ov acc)(K:qb6 A1 w w1 g0 m0){v:Value}{j:Fo}(ht:bA A1 w1 v j):bA A1 W v j:=ht.stay h.stay K.nA
end
theorem q0f{D:DataW Unit}{t:List UInt8}{z c:Int}{d:DataW Unit}(hD:IsMap D)(h:(D.put (.string t) (.lit (.int .i64 z))).atKey (.string t) d=.lit (.int .i64 c)):c=z:=by
 rw[atKey_put_same hD (show WideAt.IsKeyLit (Lit.string t)from trivial)]at h;injection h with h;injection h with _ h;exact h.symm
abbrev cvN(l:List Nat):List UInt8:=(pX l).data.toList
theorem qbS{A:Nat->Prop}{w:World}{v:Value}{f:Fo}(h:bA A w v f)(hok:mM OkT f)(hs:szF f<=1000000):Calls prog 74 #[v] w (nR A (q3j f) w):=by
 obtain⟨A0,hA0⟩:∃A0,A0=fun b=>A b/\b<w.heap.size:=⟨_,rfl⟩;have h0:=h.lt;rw[<-hA0]at h0;have HA1:Hid (∀b,A0 b->A b/\b<w.heap.size):=qa (fun b hb=>by rw[hA0]at hb;exact hb);have qg4:=aD w (.cells tm0 55);have qg3:=aD (w.alloc (.cells tm0 55)) (.map #[] 0);have hbw:=qg4.trans (qg3.mono qg4.size);have HFL:=qa (q8w 4 (h0.up hbw) (by omega));have HBW:=qa hbw;have HBG:=qa ((dX w ⟨0,0,0,0,0,0,0,0⟩ (.slice none 0 0)).up qg3);have HMP:=qa (q1m.made (w.alloc (.cells tm0 55)));have qd9:(w.alloc (.cells tm0 55)).heap.size=w.heap.size+1:=by simp
 have qcH:((w.alloc (.cells tm0 55)).alloc (.map #[] 0)).heap.size=w.heap.size+2:=by simp
 rw[qd9]at HMP;have HNO:Hid (∀W,Calls prog 48 #[] W (nR A0 iG W)):=qa (fun W=>q3p A0);have HDD:Hid (∀W y u,Calls prog 41 #[.agg (tmA y u)] W fun e w'=>e=.returned (.bool (kG y))/\∃x,w'=ext W x):=qa (fun W y u=>M4 y u);have hmm:=@run_makeMap prog;obtain⟨R,hR⟩:∃R,R=q3j f:=⟨_,rfl⟩;rw[<-hR];have HR:Hid (R=uL 4 iG (z3 [] (gU 4 f))):=qa hR;have hsz:=qc (uS 4 f) hs;have qi1:=uO OkT 4 f hok;generalize gU 4 f=F at*;obtain⟨C,hC⟩:∃C,C=z3 [] F:=⟨_,rfl⟩;have HC:Hid (iE .nil (z3 [] F)=C):=qa hC.symm;rw[<-hC]at HR;have HSZ:Hid (cnt .nil+szF F<=1000000):=qa (by rw[show cnt .nil=0 from rfl];omega);have qiV:=qa qi1;clear hR hC hA0 h h0 hbw qg4 qg3 hs hsz hok qi1;go_enter func74,ntmps74
 go_wp2_with((with_reducible refine HFL.o.mono ?_);rintro e w1 ⟨u7,rfl,hT,hb⟩;obtain⟨rs,oa,cap,b,off,rfl,hd,hw⟩:=hT.lt.walk;have HIX:=qa (fE hd);have HIN:=qa (fun hn=>hT.lt.ina hd hn);have HW:=qa hw;have hm:=hd.len;have HB1:=qa (HBW.o.trans (hb.mono HBW.o.size));have HG1:=qa (HBG.o.up hb);have HM1:=qa (HMP.o.up hb);have HS1:Hid (w.heap.size+2<=w1.heap.size):=qa (by have:=hb.size;rwa [qcH]at this);clear hT hd hw hb)
 obtain⟨A1,hA1⟩:∃A1,A1=fun b=>upA A0 ((w.alloc (.cells tm0 55)).alloc (.map #[] 0)).heap.size b/\b<w1.heap.size:=⟨_,rfl⟩;rw[<-hA1]at HW;have HIN:Hid (0<cnt F->A1 b):=qa (fun h=>by rw[hA1];exact HIN.o h);have HA2:Hid (∀b,A1 b->upA A0 (w.heap.size+2) b/\b<w1.heap.size):=qa (fun b hb=>by rw[hA1]at hb;rwa [qcH]at hb);have HR0:Hid (cA A1 w1 (rs.drop 0) F):=qa HW.o.rows;generalize cnt F=m at*;obtain⟨g0,hg0⟩:∃g0,g0=w.heap.size:=⟨_,rfl⟩;obtain⟨m0,hm0⟩:∃m0,m0=w.heap.size+1:=⟨_,rfl⟩
 have HK:Hid (qb6 A1 w w1 g0 m0):=qa ⟨by omega,by omega,by have:=HS1.o;omega,fun hh=>by
  rcases(HA2.o m0 hh).1 with h|h
  ·have:=(HA1.o m0 h).2;omega
  omega,fun b hb=>(HA2.o b hb).2⟩
 rw[<-hg0]at HG1;rw[<-hm0]at HM1;have HGE:Hid (∀b,upA A0 (w.heap.size+2) b->upA A0 (g0+1) b):=qa (fun b hb=>hb.imp id (fun h=>by omega));have HS0:Hid (q3s A1 w w1 w1 g0 m0 (.map []) [] 0 (.slice none 0 0) .nil):=qa ⟨q3r.refl _ _,HB1.o,pF.nil _ _ _ _,HG1.o,HM1.o⟩;have HG0:Hid (w.heap.size<=g0/\g0+1<=w1.heap.size):=qa (by have:=HS1.o;omega);rw[<-hm0,<-hg0];clear hA1 HFL HBW HBG HMP hg0 hm0 qd9 qcH hmm HB1 HG1 HM1 HS1
 go_loopg [5,12] m (fun gk ov iv wr=>∃(i N:Nat) (D:DataW Unit) (ts:List (List UInt8)) (met:List (List Nat)) (acc r:Fo),iv=.int .i64 i/\i<=m/\q3s A1 w w1 wr g0 m0 D ts N ov acc/\Hid (iE acc (z3 met r)=C)/\Hid (∀s,s∈ts↔s∈met.map cvN)/\Hid (∀l∈met,By8 l)/\cnt acc+N+2*szF r<=2000000/\szF r<=1000000/\mM OkT r/\cA A1 w1 (rs.drop i) r/\gk=m-i)
 case atStart=>exact⟨0,0,.map [],[],[],.nil,F,rfl,qd _,HS0.o,HC,qa (fun s=>Iff.rfl),qa (fun l hl=>(by cases hl)),by have h1:=HSZ.o;rw[show cnt .nil=0 from rfl]at*;omega,by have:=HSZ.o;omega,qiV.o,HR0.o,rfl⟩
 case round=>
  obtain⟨i,N,D,ts,met,acc,r,rfl,hi,hS,HV,HTM,H8M,hsz,qcH,hok,hrr,hgk⟩:=hrel;have HS:=qa hS;have HGK:=qa hgk;have HRR:=qa hrr;have qcQ:=qa hsz;have qdf:=qa qcH;have qeD:=qa hok;clear hS hgk hrr HR0 hsz qcH hok HC HSZ qiV HS0;by_cases hlt:i<m
  ·have qcB:=fun W=>HIX.o W i hlt
   obtain⟨y,oj,nj,cj,j,r',hre,ht,hrr,hcc⟩:=HW.o.nextS HRR.o hlt HS.o.stay (fun e=>HK.o.nA (e▸HIN.o (by omega)));subst hre;have HCW:=qa hcc;have qcF:=qa hrr;have HBX:=qa (dX wr y (.slice oj nj cj));have hbn:=aD wr (.cells (tmA y (.slice oj nj cj)) 55);have HSA:=qa (HS.o.up hbn);have HT:=qa ht;have HWR:Hid (wr.heap.size≠m0):=qa (by have:=HS.o.stay.size;have:=HK.o.m1;omega);have HDY:=qa (HDD.o (wr.alloc (.cells (tmA y (.slice oj nj cj)) 55)) y (.slice oj nj cj));obtain⟨o1,o2,o3⟩:=qeD.o;have qem:=qa o3;have hz1:=qcQ.o;have hz2:=qdf.o;rw[szF]at hz1 hz2;have HZ1:=qa hz1;have HZ2:=qa hz2;have HTX:Hid (∀W,bA A1 W (.slice oj nj cj) j->Calls prog 50 #[.agg (tmA y (.slice oj nj cj))] W (q5e (txT y j) W)):=qa (fun W hW=>q8y 10000000 (by omega) (qb _) o1 o2 hW);have H8J:Hid (By8 (txT y j)):=qa (E1 (.cons y j .nil) ⟨o1,o2,trivial⟩);have HKY:Hid (keyOf prog 9 (.string (pX (txT y j)))=some (.string (cvN (txT y j)))):=qa (U9 _ (by have h1:(txT y j).length<=37*(1+szF j):=q0c (.cons y j .nil);omega));have hNb:N<=2000000:=by omega
   clear hrr hcc HIX HRR HS hbn ht HDD qeD hz1 hz2 o1 o2 o3 qcQ qdf;rcases hdd:kG y with _|_
   ·rw[hdd]at HDY
    have qfM:Hid (cvN (txT y j)∈ts↔txT y j∈met):=qa (by
     rw[HTM.o]
     constructor
     ·intro hh
      obtain⟨l,hl,e⟩:=List.mem_map.1 hh
      have:pX l=pX (txT y j):=by
       have e2:(pX l).data=(pX (txT y j)).data:=Array.ext' e;cases h1:pX l;cases h2:pX (txT y j);rw[h1,h2]at e2;exact j0 ByteArray.mk e2
      rwa [<-U6 (H8M.o l hl) H8J.o this]
     exact fun hh=>je hh)
    by_cases qcx:txT y j∈met
    ·have HV2:Hid (iE acc (z3 met r')=C):=qa (by rw[<-HV.o,z3,qv (by rw[hdd];decide),qw qcx])
     have qdk:Hid (∀s,s∈cvN (txT y j)::ts↔s∈met.map cvN):=qa (fun s=>by
      rw[jM,<-HTM.o];exact⟨fun h=>h.elim (fun e=>e▸qfM.o.2 qcx) id,.inr⟩)
     have qle:=qa (qfM.o.2 qcx);clear HV HTM HR HNO hdd qfM;generalize txT y j=tx at*;obtain⟨ykd,yn,ya,yb,yc,yd,ylo,yhi⟩:=y
     go_wp2_with(first
      |(refine eA rfl (.tmp 14) rfl b (off+i*8) rfl ykd yn ya yb yc yd ylo yhi (.slice oj nj cj) HCW.o ?_)
      |(refine dC rfl (.tmp 7) rfl wr.heap.size rfl ykd yn ya yb yc yd ylo yhi (.slice oj nj cj) HBX.o ?_)
      |((with_reducible refine HDY.o.mono ?_);rintro e w5 ⟨rfl,hx⟩;have HSA:=qa (HSA.o.up (aI hx));have HBX:=qa (HBX.o.up (aI hx));clear hx)
      |((with_reducible refine(HTX.o _ (HSA.o.tms HK.o HT.o)).mono ?_);rintro e w6 ⟨rfl,hb⟩;have HSA:=qa (HSA.o.up hb);have HBX:=qa (HBX.o.up hb);clear hb)
      |(at_lookup;refine wpList_lookup_own_int _ rfl (.tmp 18) (.tmp 21) 65 rfl 9 3 .i64 eX underlying65 underlying3 (oL _) m0 _ _ rfl HSA.o.map.1 _ _ rfl HKY.o ?_;intro c hat hwc;have hcv:=HSA.o.map.val hat;have hc1:c≠0:=fun e=>hcv.2.2.1 e qle.o;have q:(c+1==1)=false:=beq_eq_false_iff_ne.2 (by omega);have HID:=qa HSA.o.map.2.1;have HCV:=qa (show 0<=c/\c<=N from⟨hcv.1,hcv.2.1⟩);have hcb:=hcv.2.1;have hcb0:=hcv.1;clear hat hwc hcv)
      |(at_lookup;refine wpList_lookup_own_int _ rfl (.tmp 24) (.tmp 27) 65 rfl 9 3 .i64 eX underlying65 underlying3 (oL _) m0 _ _ rfl HSA.o.map.1 _ _ rfl HKY.o ?_;intro c2 hat hwc;have hc2:=q0f HID.o hat;subst hc2;clear hat hwc)
      |(at_mapUpdate;refine wpList_mapUpdate_own _ rfl _ _ _ 65 rfl 9 3 eX underlying65 _ m0 _ _ rfl HSA.o.map.1 (by unfold maxLen;omega) _ _ _ rfl rfl HKY.o _ [] (plainElem_int underlying3 (by first|(simp[Lit.wf,IntKind.min,IntKind.max,IntKind.signed,IntKind.bits];done)|(simp[Lit.wf,IntKind.min,IntKind.max,IntKind.signed,IntKind.bits];omega))) ?_;intro w7 hown hgr;have HSA:=qa (HSA.o.put HK.o HCV.o hown hgr);have HBX:=qa (HBX.o.keep hgr (.inr (fun e=>HWR.o (qr (show some wr.heap.size=some m0 from e)))));clear hown hgr))
     go_roundg (m-(i+1))
     case measure=>have:=HGK.o;omega
     case rel=>exact⟨i+1,N+1,_,_,met,acc,r',by go_num,by omega,HSA.o,HV2,qdk,H8M,by have:=HZ1.o;omega,by have:=HZ2.o;omega,qem.o,qcF.o,rfl⟩
    have HV2:Hid (iE (iE acc (.cons y j .nil)) (z3 (txT y j::met) r')=C):=qa (by rw[<-HV.o,z3,qv (by rw[hdd];decide),qv qcx,i8];rfl);have qdk:Hid (∀s,s∈cvN (txT y j)::ts↔s∈(txT y j::met).map cvN):=qa (fun s=>by rw[qJ,jM,jM,HTM.o]);have qlx:Hid (∀l∈txT y j::met,By8 l):=qa (fun l hl=>(List.mem_cons.1 hl).elim (fun e=>e▸H8J.o) (H8M.o l));have ql8:Hid (cvN (txT y j)∉ts):=qa (fun hh=>qcx (qfM.o.1 hh));have HZ4:Hid (cnt acc+cnt (.cons y j .nil)<=1000000000):=qa (by have:=HZ1.o;simp only[cnt];omega);have HZ5:Hid (cnt (iE acc (.cons y j .nil))+(N+1)+2*szF r'<=2000000):=qa (by have:=HZ1.o;rw[gX];simp only[cnt];omega);clear HV HTM HR HNO hdd qfM H8M qcx;generalize txT y j=tx at*;obtain⟨ykd,yn,ya,yb,yc,yd,ylo,yhi⟩:=y
    go_wp2_with(first
     |(refine eA rfl (.tmp 14) rfl b (off+i*8) rfl ykd yn ya yb yc yd ylo yhi (.slice oj nj cj) HCW.o ?_)
     |(refine dC rfl (.tmp 7) rfl wr.heap.size rfl ykd yn ya yb yc yd ylo yhi (.slice oj nj cj) HBX.o ?_)
     |((with_reducible refine HDY.o.mono ?_);rintro e w5 ⟨rfl,hx⟩;have HSA:=qa (HSA.o.up (aI hx));have HBX:=qa (HBX.o.up (aI hx));clear hx)
     |((with_reducible refine(HTX.o _ (HSA.o.tms HK.o HT.o)).mono ?_);rintro e w6 ⟨rfl,hb⟩;have HSA:=qa (HSA.o.up hb);have HBX:=qa (HBX.o.up hb);clear hb)
     |(at_lookup;refine wpList_lookup_own_int _ rfl (.tmp 18) (.tmp 21) 65 rfl 9 3 .i64 eX underlying65 underlying3 (oL _) m0 _ _ rfl HSA.o.map.1 _ _ rfl HKY.o ?_;intro c hat hwc;have hcv:=HSA.o.map.val hat;have hc0:c=0:=hcv.2.2.2 ql8.o;subst hc0;have HID:=qa HSA.o.map.2.1;have HCV:Hid ((0:Int)<=0/\(0:Int)<=N):=qa ⟨Int.le_refl _,hcv.2.1⟩;clear hat hwc hcv)
     |(at_lookup;refine wpList_lookup_own_int _ rfl (.tmp 24) (.tmp 27) 65 rfl 9 3 .i64 eX underlying65 underlying3 (oL _) m0 _ _ rfl HSA.o.map.1 _ _ rfl HKY.o ?_;intro c2 hat hwc;have hc2:c2=1:=q0f HID.o hat;subst hc2;have hb2:=aD w6 (.cells (tmA ⟨ykd,yn,ya,yb,yc,yd,ylo,yhi⟩ (.slice oj nj cj)) 55);have HSB:=qa (HSA.o.up hb2);have HX:=qa (xY w6 ⟨ykd,yn,ya,yb,yc,yd,ylo,yhi⟩ (.slice oj nj cj));have HN:=qa (cA.single (x:=⟨ykd,yn,ya,yb,yc,yd,ylo,yhi⟩) ((HSA.o.own.away HK.o.lt (HSA.o.tms HK.o HT.o)).up hb2));clear hat hwc hb2)
     |(at_mapUpdate;refine wpList_mapUpdate_own _ rfl _ _ _ 65 rfl 9 3 eX underlying65 _ m0 _ _ rfl HSA.o.map.1 (by unfold maxLen;omega) _ _ _ rfl rfl HKY.o _ [] (plainElem_int underlying3 (by first|(simp[Lit.wf,IntKind.min,IntKind.max,IntKind.signed,IntKind.bits];done)|(simp[Lit.wf,IntKind.min,IntKind.max,IntKind.signed,IntKind.bits];omega))) ?_;intro w7 hown hgr;have HSA:=qa (HSA.o.put HK.o HCV.o hown hgr);have HBX:=qa (HBX.o.keep hgr (.inr (fun e=>HWR.o (qr (show some wr.heap.size=some m0 from e)))));clear hown hgr)
     |(at_builtin;refine fQ rfl (.tmp 30) (.tmp 32) rfl A1 w1.heap.size _ acc rfl HSB.o.own _ rfl _ _ HX.o HN.o HZ4.o HSB.o.stay.size ?_;intro v9 w9 hO hg hq hk5;have HS9:=qa (HSB.o.app HK.o hO hg);clear hO hg hq hk5))
    go_roundg (m-(i+1))
    case measure=>have:=HGK.o;omega
    case rel=>exact⟨i+1,N+1,_,_,_,_,r',by go_num,by omega,HS9.o,HV2,qdk,qlx,HZ5.o,by have:=HZ2.o;omega,qem.o,qcF.o,rfl⟩
   rw[hdd]at HDY;have HV2:Hid (iE acc (z3 met r')=C):=qa (by rw[<-HV.o,z3,qw hdd]);clear HV HR HNO hdd HTX H8J HKY;obtain⟨ykd,yn,ya,yb,yc,yd,ylo,yhi⟩:=y
   go_wp2_with(first
     |(refine eA rfl (.tmp 14) rfl b (off+i*8) rfl ykd yn ya yb yc yd ylo yhi (.slice oj nj cj) HCW.o ?_)
     |(refine dC rfl (.tmp 7) rfl wr.heap.size rfl ykd yn ya yb yc yd ylo yhi (.slice oj nj cj) HBX.o ?_)
     |((with_reducible refine HDY.o.mono ?_);rintro e w5 ⟨rfl,hx⟩;have HSA:=qa (HSA.o.up (aI hx));have HBX:=qa (HBX.o.up (aI hx));clear hx))
   go_roundg (m-(i+1))
   case measure=>have:=HGK.o;omega
   case rel=>exact⟨i+1,N,_,_,met,acc,r',by go_num,by omega,HSA.o,HV2,HTM,H8M,by have:=HZ1.o;omega,by have:=HZ2.o;omega,qem.o,qcF.o,rfl⟩
  have hr0:=HRR.o.done (by rw[HW.o.len];omega);subst hr0;have HRA:Hid (R=uL 4 iG acc):=qa (by rw[HR.o,<-HV.o,z3,nI]);have HTA:=qa (HS.o.own.tms.mono (A':=upA A0 (g0+1)) (fun b hb=>hb.elim (fun h=>HGE.o b (HA2.o b h).1) (fun h=>.inr (qc HG0.o.2 h))));have HBR:=qa HS.o.bel;have HGR:=qa HS.o.box;have HSR:Hid (g0+1<=wr.heap.size):=qa (qc HG0.o.2 HS.o.stay.size);clear HV HR HDD HS qcQ qdf HRR HIX qeD HTM H8M
  match acc,HRA,HTA with
  |.nil,HRA,HTA=>
   obtain⟨rs2,oa2,cap2,b2,off2,rfl,-,-⟩:=HTA.o.walk;simp only[cnt]at*
   go_wp2_with(first
    |((with_reducible refine(HNO.o _).mono ?_);rintro e w6 ⟨u6,rfl,hT6,hb⟩;have HB6:=qa (HBR.o.trans (hb.mono HBR.o.size));have HG6:=qa (HGR.o.up hb);have HT6:Hid (bA (upA A0 (g0+1)) w6 u6 .nil):=qa (hT6.mono (fun b hb=>hb.imp id (qc HSR.o)));clear hb hT6)
    |(refine bT rfl (.tmp 2) (.tmp 39) rfl g0 rfl noT u6 HT6.o.one rfl _ HG6.o (show(8:Nat)=8 from rfl) ?_;intro w7 hbx hg;have HX7:=qa hbx;have qcy:=qa hg;clear hbx hg))
   rw[HRA.o];exact iY rfl rfl rfl HA1.o HG0.o.1 HT6.o HB6.o qcy.o HX7.o
  |.cons x k .nil,HRA,HTA=>
   obtain⟨rs2,oa2,cap2,b2,off2,rfl,hd2,hw2⟩:=HTA.o.walk;simp only[cnt]at*;obtain⟨y,oj,nj,cj,j,r',hre,ht,-,hcc⟩:=hw2.next (i:=0) hw2.rows (Nat.one_pos) (qn _ _);injection hre with e1 e2 e3;subst e1;subst e2;have qew:∀W,(Instr.indexAt 50 (.slice oa2 1 cap2) (.int .i64 0)).run prog W=.ok (.pointer (some ⟨b2,off2,none⟩)) W:=fun W=>by simpa using fE hd2 W 0 Nat.one_pos
   have HCW:Hid (∀q,q<8->wr.cell? ⟨b2,off2+q,none⟩=some ((tmA x (.slice oj nj cj)).getD q undef)):=qa (by simpa using hcc);have HT6:=qa ht;clear hd2 hw2 ht hcc e3;obtain⟨ykd,yn,ya,yb,yc,yd,ylo,yhi⟩:=x
   go_wp2_with(first
    |(refine eA rfl (.tmp 43) rfl b2 off2 rfl ykd yn ya yb yc yd ylo yhi (.slice oj nj cj) HCW.o ?_)
    |(refine bT rfl (.tmp 2) (.tmp 44) rfl g0 rfl ⟨ykd,yn,ya,yb,yc,yd,ylo,yhi⟩ (.slice oj nj cj) HT6.o.one rfl _ HGR.o (show(8:Nat)=8 from rfl) ?_;intro w7 hbx hg;have HX7:=qa hbx;have qcy:=qa hg;clear hbx hg))
   rw[HRA.o];exact iY rfl rfl rfl HA1.o HG0.o.1 HT6.o HBR.o qcy.o HX7.o
  |.cons x k (.cons y j r),HRA,HTA=>
   have HRK:=qa (HRA.o.trans (q0a (by simp only[cnt];omega)));obtain⟨M,hM⟩:∃M,M=Fo.cons x k (.cons y j r):=⟨_,rfl⟩;have hc2:2<=cnt M:=by rw[hM];simp only[cnt];omega
   rw[<-hM]at HTA HRK;have HO1:=qa HTA.o.one;obtain⟨rs2,oa2,cap2,b2,off2,rfl,-,-⟩:=HTA.o.walk;have HKT:Hid (q3i 4 M=(⟨4,cnt M,0,0,0,0,0,0⟩,M)):=qa rfl;generalize cnt M=c at*;clear hM HRA;have q0:((c:Int)==0)=false:=by simp;omega
   have q1:((c:Int)==1)=false:=by simp;omega
   go_wp2_with(first|(refine bT rfl (.tmp 2) (.tmp 46) rfl g0 rfl ⟨4,c,0,0,0,0,0,0⟩ _ HO1.o rfl _ HGR.o (show(8:Nat)=8 from rfl) ?_;intro w7 hbx hg;have HX7:=qa hbx;have qcy:=qa hg;clear hbx hg))
   rw[HRK.o,HKT.o];exact iY rfl rfl rfl HA1.o HG0.o.1 HTA.o HBR.o qcy.o HX7.o
end Go.Cm
namespace Go.Cm
open Go.RowKit Go.Proofs
structure RpS(A0:Nat->Prop)(w W:World)(x:Nd)(u:Value)(k:Fo):Prop where
 bel:Below w.heap.size w W
 box:kH W (w.heap.size+1) (tmC ⟨0,0,0,0,0,0,0,0⟩ (.slice none 0 0))
 tb:kH W w.heap.size (tmC x u)
 tm:bA A0 W u k
 sz:w.heap.size+1+1<=W.heap.size
theorem RpS.up{A0:Nat->Prop}{w W W':World}{x:Nd}{u:Value}{k:Fo}(h:RpS A0 w W x u k)(hb:Below W.heap.size W W'):RpS A0 w W' x u k:=
 ⟨h.bel.trans (hb.mono h.bel.size),h.box.up hb,h.tb.up hb,h.tm.up hb,qc h.sz hb.size⟩
theorem RpS.new{A0:Nat->Prop}{w:World}{x:Nd}{u:Value}{k:Fo}(h:bA A0 w u k):RpS A0 w ((w.alloc (.cells (tmA x u) 55)).alloc (.cells tm0 55)) x u k:=by
 have hb1:=aD w (.cells (tmA x u) 55);have hb2:=aD (w.alloc (.cells (tmA x u) 55)) (.cells tm0 55);have hb:=hb1.trans (hb2.mono hb1.size);have hs1:(w.alloc (.cells (tmA x u) 55)).heap.size=w.heap.size+1:=by simp
 have hg:=dX (w.alloc (.cells (tmA x u) 55)) ⟨0,0,0,0,0,0,0,0⟩ (.slice none 0 0);rw[hs1]at hg;exact⟨hb,hg,(dX w x u).up hb2,h.up hb,by simp⟩
structure RpR(A0:Nat->Prop)(w W:World)(t:Tm)(u:Value):Prop where
 bel:Below w.heap.size w W
 box:kH W (w.heap.size+1) (tmC ⟨0,0,0,0,0,0,0,0⟩ (.slice none 0 0))
 tm:bA (upA A0 (w.heap.size+1+1)) W u t.2
theorem RpS.call{A0:Nat->Prop}{w W W':World}{x:Nd}{u u':Value}{k:Fo}{t:Tm}(h:RpS A0 w W x u k)(hT:bA (upA A0 W.heap.size) W' u' t.2)(hb:Below W.heap.size W W'):RpR A0 w W' t u':=
 ⟨(h.up hb).bel,(h.up hb).box,hT.mono fun _b hb=>hb.imp id (qc h.sz)⟩
theorem RpS.own{A0:Nat->Prop}{w W:World}{x:Nd}{u:Value}{k:Fo}(h:RpS A0 w W x u k):RpR A0 w W (x,k) u:=⟨h.bel,h.box,h.tm.mono fun _ hb=>.inl hb⟩
theorem RpS.lit{A0:Nat->Prop}{w W:World}{x y:Nd}{u:Value}{k:Fo}(h:RpS A0 w W x u k)(hA:∀b,A0 b->b<w.heap.size):RpR A0 w (W.alloc (.cells (tmA x u) 55)) (y,.cons x k .nil) (.slice (some ⟨W.heap.size,0,none⟩) 1 1):=
 ⟨(h.up (aD _ _)).bel,(h.up (aD _ _)).box,(q8x h.tm (fun b hb=>qe (hA b hb) h.bel.size)).mono fun _b hb=>hb.imp id (qc h.sz)⟩
theorem RpR.ret{A A0:Nat->Prop}{fn:Func}{tmps:Array Value}{w W W':World}{ds:List Deferred}{s:Nat}{t R:Tm}{z:Nd}{u:Value}(h:RpR A0 w W t u)(hA:∀b,A0 b->A b/\b<w.heap.size)(hg:W.grownBy W' (some (w.heap.size+1)))(hB:kH W' (w.heap.size+1) (tmC z u))(hR:R=(z,t.2))
  (hf:fn.results=#[.cell s 55]) (ha:tmps.getD s undef=.pointer (some ⟨w.heap.size+1,0,none⟩)) (hd:ds=[]):bodyPost prog fn (nR A R w) .ret ⟨tmps,ds⟩ W':=by
 subst hR;exact iY hf ha hd hA (jd _) h.tm h.bel hg hB
theorem qc9{A:Nat->Prop}{w:World}{x:Nd}{u:Value}{k:Fo}(lo hi:Int)(h:bA A w u k):Calls prog 77 #[.agg (tmA x u),.int .i64 lo,.int .i64 hi] w (nR A (T4 (x,k) lo hi) w):=by
 obtain⟨A0,hA0⟩:∃A0,A0=fun b=>A b/\b<w.heap.size:=⟨_,rfl⟩;have h0:=h.lt;rw[<-hA0]at h0;have HA1:Hid (∀b,A0 b->A b/\b<w.heap.size):=qa (fun b hb=>by rw[hA0]at hb;exact hb);obtain⟨o,n,c,rfl,-⟩:=h.form;have HS:=qa (RpS.new (x:=x) h0);have HEM:Hid (∀W,Calls prog 72 #[] W (nR A0 gL W)):=qa (fun W=>q2n A0);have HNO:Hid (∀W,Calls prog 48 #[] W (nR A0 iG W)):=qa (fun W=>q3p A0);have HST:Hid (∀W,bA A0 W (.slice o n c) k->Calls prog 76 #[.agg (tmA x (.slice o n c))] W (nR A0 (oE (x,k)) W)):=qa (fun W hW=>qau hW);have HDD:Hid (∀W,Calls prog 41 #[.agg (tmA x (.slice o n c))] W fun e w'=>e=.returned (.bool (kG x))/\∃x,w'=ext W x):=qa (fun W=>M4 x (.slice o n c));obtain⟨R,hR⟩:∃R,R=T4 (x,k) lo hi:=⟨_,rfl⟩;rw[<-hR];unfold T4 at hR;simp only at hR;have HR:=qa hR;clear h h0 hA0 hR;generalize hq:kG x=q at*;generalize oE (x,k)=st at*;obtain⟨⟨skd,sn,sa,sb,sc,sd,slo,shi⟩,sk⟩:=st;obtain⟨kd,nn,a,b,c',d,lo',hi'⟩:=x;clear hq;cases q
 all_goals
  go_enter func77,ntmps77
  go_wp2_with(first
   |((with_reducible refine(HDD.o _).mono ?_);rintro e w5 ⟨rfl,hx⟩;have HS:=qa (HS.o.up (aI hx));have c0:=HS.o.tb.cell (i:=0) (show(0:Nat)<8 by decide);simp only[tmC,ja]at c0;clear hx)
   |((with_reducible refine(HEM.o _).mono ?_);rintro e w6 ⟨u6,rfl,hT6,hb⟩;have HC:=qa (HS.o.call (t:=gL) hT6 hb);clear hb hT6)
   |((with_reducible refine(HNO.o _).mono ?_);rintro e w6 ⟨u6,rfl,hT6,hb⟩;have HC:=qa (HS.o.call (t:=iG) hT6 hb);clear hb hT6)
   |((with_reducible refine(HST.o _ HS.o.tm).mono ?_);rintro e w6 ⟨u6,rfl,hT6,hb⟩;have HC:=qa (HS.o.call (t:=(⟨skd,sn,sa,sb,sc,sd,slo,shi⟩,sk)) hT6 hb);clear hb hT6)
   |(refine dC rfl _ rfl w.heap.size rfl kd nn a b c' d lo' hi' (.slice o n c) HS.o.tb ?_)
   |(refine bT rfl (.tmp 6) (.tmp 49) rfl (w.heap.size+1) rfl ⟨8,1,0,0,0,0,_,_⟩ _ rfl rfl _ (HS.o.lit (y:=noT) (fun b hb=>(HA1.o b hb).2)).box (show(8:Nat)=8 from rfl) ?_;intro w7 hbx hg;have HX7:=qa hbx;have qcy:=qa hg;have HC:=qa (HS.o.lit (y:=noT) (fun b hb=>(HA1.o b hb).2));clear hbx hg)
   |(refine bT rfl (.tmp 6) (.tmp 27) rfl (w.heap.size+1) rfl ⟨kd,nn,a,b,c',d,lo',hi'⟩ _ rfl rfl _ HS.o.box (show(8:Nat)=8 from rfl) ?_;intro w7 hbx hg;have HX7:=qa hbx;have qcy:=qa hg;have HC:=qa HS.o.own;clear hbx hg)
   |(refine bT rfl (.tmp 6) _ rfl (w.heap.size+1) rfl _ u6 HC.o.tm.one rfl _ HC.o.box (show(8:Nat)=8 from rfl) ?_;intro w7 hbx hg;have HX7:=qa hbx;have qcy:=qa hg;clear hbx hg))
  all_goals(refine HC.o.ret HA1.o qcy.o HX7.o ?_ rfl rfl rfl;rw[HR.o];simp only[a7,beq_eq_false_iff_ne]at*;first|(simp[*,one];done)|(simp[*];omega)|omega)
end Go.Cm
namespace Go.Cm
open Go.RowKit Go.Proofs
theorem eI.okT{f:Fo}(h:eI f):mM OkT f:=(iQ f).2 fun x hx=>((iQ f).1 h.1 x hx).1
theorem bA.tail{A:Nat->Prop}{w:World}{oa:Option Addr}{n cap:Nat}{x:Nd}{k r:Fo}(h:bA A w (.slice oa n cap) (.cons x k r)):
  ∃o c,(∀W:World,(Instr.sliceAt 50 (.slice oa n cap) (some (.int .i64 1)) none none).run prog W=.ok (.slice o (cnt r) c) W)/\bA A w (.slice o (cnt r) c) r:=by
 obtain⟨rs,⟨oa',cap',b,off,e,hd,hc⟩,hin,hr⟩:=h;have hl:=hr.len;rw[show cnt (.cons x k r)=cnt r+1 from rfl]at hl;injection e with e1 e2 e3;subst e1;subst e3;have hn:n=cnt r+1:=by omega
 subst hn;rw[<-e2]at hd hc;obtain⟨h1,h2⟩:=rX (P:=prog) 50 55 (k:=8) underlying50 (by kernel_rfl);have hcap:=hd.hcap;obtain⟨u,ks,rest,er,⟨hs1,hs2⟩,hk,hrr⟩:=hr;have hrl:=hrr.len;refine⟨if cap=1 then oa else oa.map (·.add (1*8)),cap-1,fun W=>?_,rest,?_,?_,hrr⟩
 ·rw[run_sliceAt_slice (P:=prog) (t:=50) (h:=h1),show((1:Int))=((1:Nat):Int)from rfl,run_slice_l (t:=50) (ht:=h1) (h0:=by omega) (h1:=by omega),h2]
  simp[Result.andThen,sliced]
 ·refine⟨if cap=1 then oa else oa.map (·.add (1*8)),cap-1,b,off+8,by rw[hrl],⟨fun h0=>?_,by rw[hrl];omega,by have:=hd.hmax;omega,by have:=hd.hsml;rw[hrl];omega,fun _=>hd.hblk (by omega)⟩,fun i hi q hq=>?_⟩
  ·rw[hrl]at h0
   rw[qv (by omega),hd.hat (by omega)];simp[kJ]
  have h3:=hc (i+1) (by omega) q hq;rw[jN,Nat.one_mul]at h3;rw[show off+8+i*8+q=off+(i*8+8)+q by omega,h3,er]
  rfl
 intro b' off' o' n' cap' e4 hn';injection e4 with e5 e6 e7;by_cases hc1:cap=1
 ·rw[qw hc1]at e5
  omega
 rw[qv hc1,hd.hat (by omega)]at e5;simp only[jP,jC]at e5;rw[kJ]at e5;injection e5 with e8;rw[<-e8];exact hin b off none (cnt r+1) cap (by rw[hd.hat (by omega)]) (by omega)
abbrev UA(A0:Nat->Prop)(g0:Nat)(gb:Option Nat):Nat->Prop:=fun b=>(A0 b\/g0+1<=b)/\gb≠some b
structure RwS(w1 W:World)(g0:Nat)(gb:Option Nat):Prop where
 bel:Below w1.heap.size w1 W
 box:kH W g0 (tmC ⟨0,0,0,0,0,0,0,0⟩ (.slice none 0 0))
 sz:g0+1<=w1.heap.size
 gb:∀q,gb=some q->w1.heap.size<=q/\q<W.heap.size/\kH W q (tmC ⟨0,0,0,0,0,0,0,0⟩ (.slice none 0 0))
section
variable {A0 : Nat → Prop} {w1 W W' : World} {g0 : Nat} {gb : Option Nat} {u : Value} {f : Fo}
theorem RwS.up(h:RwS w1 W g0 gb)(hb:Below W.heap.size W W'):RwS w1 W' g0 gb:=
 ⟨h.bel.trans (hb.mono h.bel.size),h.box.up hb,h.sz,fun q e=>by obtain⟨a,b,c⟩:=h.gb q e;exact⟨a,qe b hb.size,c.up hb⟩⟩
theorem RwS.alloc(h:RwS w1 W g0 none):RwS w1 (W.alloc (.cells tm0 55)) g0 (some W.heap.size):=by
 have hb:=aD W (.cells tm0 55);refine⟨h.bel.trans (hb.mono h.bel.size),h.box.up hb,h.sz,fun q e=>?_⟩;injection e with e;subst e;exact⟨h.bel.size,by simp,dX W ⟨0,0,0,0,0,0,0,0⟩ (.slice none 0 0)⟩
theorem RwS.res(h:RwS w1 W g0 gb)(ht:bA (upA (UA A0 g0 gb) W.heap.size) W' u f):bA (UA A0 g0 gb) W' u f:=
 ht.mono fun b hb=>hb.elim id fun hb=>⟨.inr (qc (qc h.sz h.bel.size) hb),fun e=>by have:=(h.gb b e).2.1;omega⟩
theorem RwS.old(h:RwS w1 W g0 gb)(hA:∀b,A0 b->b<w1.heap.size)(ht:bA A0 w1 u f):bA (UA A0 g0 gb) W u f:=
 (ht.up h.bel).mono fun b hb=>⟨.inl hb,fun e=>by have h1:=(h.gb b e).1;have h2:=hA b hb;omega⟩
theorem UA.alloc{o:Obj}(h:bA (UA A0 g0 none) W u f):bA (UA A0 g0 (some W.heap.size)) (W.alloc o) u f:=
 ((h.lt).up (aD _ _)).mono fun b hb=>⟨hb.1.1,fun e=>by injection e with e;have:=hb.2;omega⟩
theorem RwS.two(h:RwS w1 W g0 gb){x y:Nd}{v:Value}{j:Fo}(h1:bA (UA A0 g0 gb) W u f)(h2:bA (UA A0 g0 gb) W v j):
  bA (UA A0 g0 gb) (W.alloc (.cells (tmA x u++tmA y v) 55)) (.slice (some ⟨W.heap.size,0,none⟩) 2 2) (.cons x f (.cons y j .nil)):=by
 have hb:=aD W (.cells (tmA x u++tmA y v) 55);obtain⟨r1,a1,a2,a3⟩:=h1.up hb;obtain⟨r2,b1,b2,b3⟩:=h2.up hb;refine⟨[tmC x u,tmC y v],tD 8 W (tmA x u++tmA y v) 55 [tmC x u,tmC y v] rfl (by intro z hz;simp only[jM,List.not_mem_nil,or_false]at hz;rcases hz with rfl|rfl<;>rfl) (show(2:Nat)<=4294967296 by decide),?_,u,r1,[tmC y v],rfl,⟨a1,a2⟩,a3,v,r2,[],rfl,⟨b1,b2⟩,b3,rfl⟩;intro b off o n cap e hn;injection e with e;injection e with e;injection e with e;subst e;exact⟨.inr (qc h.sz h.bel.size),fun e=>by have:=(h.gb _ e).2.1;omega⟩
theorem q0g{gb':Nat}{z:Nd}(h:RwS w1 W g0 (some gb'))(ht:bA (UA A0 g0 (some gb')) W u f)(hg:W.grownBy W' (some gb'))(_hx:kH W' gb' (tmC z u)):
  Below w1.heap.size w1 W'/\bA (UA A0 g0 (some gb')) W' u f/\kH W' g0 (tmC ⟨0,0,0,0,0,0,0,0⟩ (.slice none 0 0))/\Below w1.heap.size w1 W':=by
 obtain⟨h1,h2,h3⟩:=h.gb gb' rfl;have hb:=h.bel.grown hg h.bel.size (by rintro k ⟨⟩;exact h1);refine⟨hb,ht.keep hg.size (fun b hb hlt=>hg.block b hlt (fun e=>hb.2 e.symm)),h.box.keep hg (.inr (fun e=>?_)),hb⟩;have:=h.sz;have:=qr (show some g0=some gb' from e);omega
theorem xZ{P:Program}{C:World->Prop}{o:Oper}{a:Act}{K:Act->Prop}(t:TypeId)(x:Operand)(lo hi mx:Option Operand)(ho:o.op=.slice t x lo hi mx)(v:Value)(hr:∀w',C w'->(Instr.sliceAt t (a.eval x) (lo.map a.eval) (hi.map a.eval) (mx.map a.eval)).run P w'=.ok v w')(h:K (a.put o.dst v)):o.quiet P a C K:=by
 refine⟨v,fun w' hw'=>?_,h⟩;unfold Oper.quietAt execOp;simp only[ho,Sem.run_bind,Sem.run_pure,Result.andThen_ok,hr w' hw',Oper.quietUpon];exact⟨trivial,trivial⟩
end
end Go.Cm
namespace Go.Cm
open Go.RowKit Go.Proofs Go.Maps
def X6(x:Ed)(c:Nat):Int:=mG x (c/64)/2^(c%64)%2
theorem V6(x:Ed)(c:Nat):pB x c=(X6 x c==1):=by
 unfold pB X6 mG
 have h2:(if c<64 then x.a else if c<128 then x.b else if c<192 then x.c else x.d)=(if c/64=0 then x.a else if c/64=1 then x.b else if c/64=2 then x.c else x.d):=by
  (repeat' split)<;>first|rfl|omega
 rw[h2]
theorem V7(x:Ed)(c:Nat):X6 x c=0\/X6 x c=1:=by unfold X6;omega
def kC(l:List Ed)(x:Ed)(c:Nat):Value:=.agg #[.int .i64 (gH l c:Nat),.int .u64 (X6 x c)]
theorem q5T{l:List Ed}{x:Ed}{a b:Nat}:kC l x a=kC l x b↔tN l x a=tN l x b:=by
 unfold kC tN;rw[V6,V6];rcases V7 x a with h|h<;>rcases V7 x b with h'|h'<;>simp[h,h']<;>omega
theorem qaK{l:List Ed}{x:Ed}{F:List Nat}{c:Nat}:kC l x c∈F.map (kC l x)↔tN l x c∈F.map (tN l x):=by
 simp only[jB];exact⟨fun⟨a,ha,h⟩=>⟨a,ha,q5T.1 h⟩,fun⟨a,ha,h⟩=>⟨a,ha,q5T.2 h⟩⟩
theorem q3A{l:List Ed}{x:Ed}{c:Nat}(hc:c<256){F:List Nat}(hF:aU (tN l x) (iI.take c)=F):
  (∃i,(F.map (kC l x))[i]? =some (kC l x c)/\aU (tN l x) (iI.take (c+1))=F/\lT (tN l x) iI c=i)\/(kC l x c∉F.map (kC l x)/\aU (tN l x) (iI.take (c+1))=F++[c]/\lT (tN l x) iI c=F.length):=by
 have hcl:c<iI.length:=by rw[nG];exact hc
 by_cases hm:tN l x c∈F.map (tN l x)
 ·left
  have h1:=eJ hm;have h2:=f8 hm;rw[qB]at h1;rw[jx]at h2;have hq:F.getD (idx (F.map (tN l x)) (tN l x c)) 0=F[idx (F.map (tN l x)) (tN l x c)]:=by simp[List.getD,h1]
  have h3:=D1 (f:=tN l x) (l:=iI) (z:=0) hcl (uY hc) hF h1 (fun a ha e=>by
   have hal:a<F.length:=by omega
   have:=U2 (F.map (tN l x)) a (tN l x c) (by rw[qU,qy hal,jP,<-e];simp[List.getD,hal]);unfold idx at ha;omega) (by rw[hq];exact h2)
  refine⟨_,?_,h3.1,h3.2⟩;rw[qU,qy h1,jP,q5T.2 h2]
 right
 have h3:=q06 (f:=tN l x) (l:=iI) (z:=0) hcl (uY hc) hF (fun a ha e=>hm (by rw[<-e];exact je (cE _ _ _ ha)));exact⟨fun h=>hm (qaK.1 h),h3.1,h3.2⟩
theorem vP:Keyed prog 125:=Keyed.of_law (deep_law_laid q2F (m:=2) (by omega) (jc (by kernel_rfl)) (by kernel_rfl) (by kernel_rfl))
theorem q7L(d:Nat){a:Int}(h:(Lit.int .i64 a).wf=true):prog.keyLits (d+1) 3 [.int .i64 a]=some [.int .i64 a]:=by
 unfold Program.keyLits;simp[underlying3,h]
theorem q9w{l:List Ed}{x:Ed}{c:Nat}(hc:c<256):∃s,keyOf prog 125 (kC l x c)=some s:=by
 have h1:(Lit.int .i64 (gH l c:Nat)).wf=true:=by
  have h1:=pE l hc;have h2:=oI l;exact qa3 _ (by omega)
 have h2:WQ (X6 x c):=by rcases V7 x c with h|h<;>rw[h]<;>exact⟨by decide,by decide⟩
 unfold kC;generalize ((gH l c:Nat):Int)=a at*;generalize X6 x c=b at*;obtain⟨d,hd1⟩:∃d,prog.types.size=d+1:=Nat.exists_eq_succ_of_ne_zero (jc (by kernel_rfl));have c4:prog.cellsOf 125=2:=by kernel_rfl
 have c1:prog.cellsOf 51=1:=by kernel_rfl
 have c0:prog.cellsOf 3=1:=by kernel_rfl
 have hk:prog.keyType 125=true:=by kernel_rfl
 have hl:prog.keyLits (d+1+1) 125 [.int .i64 a,.int .u64 b]=some [.int .i64 a,.int .u64 b]:=by
  unfold Program.keyLits;rw[underlying125];have e0:=q7L d h1;have e1:=vO d h2;simp[c0,c1,c4,e0,e1]
 unfold keyOf;rw[underlying125];simp only[hk,j6];rw[hd1]
 have hf:(Value.agg #[.int .i64 a,.int .u64 b]).formed prog 125=true:=by
  unfold Value.formed;rw[underlying125];simp[c4]
 rw[qw hf];have hv:(Value.agg #[.int .i64 a,.int .u64 b]).cells.toList=[.int .i64 a,.int .u64 b]:=rfl;rw[hv,hl];exact⟨_,rfl⟩
def q3B(l:List Ed)(cl:List Int):Prop:=cl.length=256/\∀c,c<256->cl.getD c 0=(gH l c:Nat)
def N5(l:List Ed)(x:Ed)(c:Nat)(cl:List Int):Prop:=cl.length=256/\∀q,q<256->cl.getD q 0=if q<c then((lT (tN l x) iI q:Nat):Int)else(gH l q:Nat)
theorem q1y{l:List Ed}{x:Ed}{cl:List Int}(h:q3B l cl):N5 l x 0 cl:=⟨h.1,fun q hq=>by rw[qv (qC q)];exact h.2 q hq⟩
theorem q5U{l:List Ed}{x:Ed}{c:Nat}{cl:List Int}(h:N5 l x c cl)(hc:c<256):cl.getD c 0=(gH l c:Nat):=by rw[h.2 c hc,qv (jK c)]
theorem N6{l:List Ed}{x:Ed}{c k:Nat}{cl:List Int}(h:N5 l x c cl)(hc:c<256)(hk:lT (tN l x) iI c=k):N5 l x (c+1) (cl.set c (k:Int)):=by
 refine⟨by rw[jb];exact h.1,fun q hq=>?_⟩;by_cases hqc:q=c
 ·subst hqc
  rw[cU (by rw[h.1];exact hq),qw (by omega),hk]
 rw[d6 (fun e=>hqc e.symm),h.2 q hq];by_cases hlt:q<c
 ·rw[qw hlt,qw (by omega)]
 rw[qv hlt,qv (by omega)]
theorem q3C{l:List Ed}{x:Ed}{cl:List Int}(h:N5 l x 256 cl):q3B (l++[x]) cl:=⟨h.1,fun c hc=>by rw[h.2 c hc,qw hc,(q2e l x).2 c hc]⟩
theorem q9x(n c:Nat):(List.replicate n (0:Int)).getD c 0=0:=by
 rw[qu,jT];split<;>rfl
theorem q5V:q3B [] (List.replicate 256 0):=⟨qP,fun c hc=>by rw[q4U.1 c hc];exact q9x 256 c⟩
theorem q5W{e:List (List Ed)}{cl:List Int}(h:q3B (q07 e) cl):cl=i7 e:=q9u h.1 fun i hi=>by rw[h.2 i hi,(q2f e).2 i hi];rfl
theorem q7M{w:World}{A:Array Value}{e:List (List Ed)}{F:Int}{r:List Int}(h:X4 w A e F r)(hw:∀a x,x∈Row e a->EdW x)(ht:tot e<=1000000):
  Calls prog 26 #[.agg A] w (q5N e F r w):=by
 have HH:=qa h;obtain⟨ve,vr,rfl,he,hr⟩:=h;obtain⟨oe,ce,be,fe,rfl,-,-⟩:=he.open;obtain⟨orr,cr,br,fr,rfl,-,-⟩:=hr.open;obtain⟨n,hn⟩:∃n,n=e.length:=⟨_,rfl⟩;obtain⟨m,hm⟩:∃m,m=r.length:=⟨_,rfl⟩;rw[<-hn,<-hm]at HH⊢;have hz:=zF;obtain⟨Z,hZ⟩:∃Z,Z=q8H:=⟨_,rfl⟩;rw[<-hZ]at hz;obtain⟨O,hO⟩:∃O:List Int,O=List.replicate 256 0:=⟨_,rfl⟩;have HON:Hid (q3B [] O):=qa (by rw[hO];exact q5V);have HOL:Hid (O.length=256):=qa HON.o.1;have hsA:(w.alloc (.cells #[.slice oe n ce,.int .i64 F,.slice orr m cr] 35)).heap.size=w.heap.size+1:=by simp
 have hbx:Own (w.alloc (.cells #[.slice oe n ce,.int .i64 F,.slice orr m cr] 35)) 0 35 (.slice (some ⟨w.heap.size,0,none⟩) 3 3) [.slice oe n ce,.int .i64 F,.slice orr m cr]:=by simpa using cN w 0 #[.slice oe n ce,.int .i64 F,.slice orr m cr] 35 (by simp) (qd _)
 have hb1:=qa5 (w.alloc (.cells #[.slice oe n ce,.int .i64 F,.slice orr m cr] 35)) Z hZ;have hb2:=qa5 ((w.alloc (.cells #[.slice oe n ce,.int .i64 F,.slice orr m cr] 35)).alloc (.cells Z 25)) Z hZ;rw[hsA]at hb1;rw[show((w.alloc (.cells #[.slice oe n ce,.int .i64 F,.slice orr m cr] 35)).alloc (.cells Z 25)).heap.size=w.heap.size+2 by simp]at hb2;rw[<-hO]at hb1 hb2;have HB2:=qa hb2;have HB1:=qa (hb1.up (aD _ (.cells Z 25)));have HBX:=qa ((hbx.up (aD _ (.cells Z 25))).up (aD _ (.cells Z 25)));have HA:Hid (Below w.heap.size w (((w.alloc (.cells #[.slice oe n ce,.int .i64 F,.slice orr m cr] 35)).alloc (.cells Z 25)).alloc (.cells Z 25))):=qa aO;have hs3:(((w.alloc (.cells #[.slice oe n ce,.int .i64 F,.slice orr m cr] 35)).alloc (.cells Z 25)).alloc (.cells Z 25)).heap.size=w.heap.size+3:=by simp
 have HRT:=qa (q4r (HH.o.up HA.o));have HCO:Hid ((dK e F r=true->q3w e F r=i7 e/\q5M e F r=(aY e).length)/\(dK e F r=false->q3w e F r=O/\q5M e F r=0)):=qa ⟨fun h=>⟨by unfold q3w;rw[qw h],by unfold q5M;rw[qw h]⟩,fun h=>⟨by unfold q3w;rw[qv (by rw[h];decide),hO],by unfold q5M;rw[qv (by rw[h];decide)]⟩⟩;unfold q5N;obtain⟨CO,hCO⟩:∃CO,CO=q3w e F r:=⟨_,rfl⟩;obtain⟨KO,hKO⟩:∃KO,KO=q5M e F r:=⟨_,rfl⟩;rw[<-hCO,<-hKO]at HCO⊢;obtain⟨R,hR⟩:∃R,R=dK e F r:=⟨_,rfl⟩;rw[<-hR]at HRT HCO;clear he hr hn hm hbx hb1 hb2 hsA hZ hO hCO hKO hR;cases R with
 |false=>
  obtain⟨hc1,hk1⟩:=HCO.o.2 rfl;subst hc1 hk1;go_enter func26,ntmps26
  go_upto_region 3 with(first
   |(refine aH rfl 35 _ rfl w.heap.size 0 3 rfl _ _ (pR HBX.o) rfl underlying35 rfl (by kernel_rfl) ?_)
   |((with_reducible go_at_call 60);refine HRT.o.mono ?_;rintro en w1 ⟨rfl,x1,rfl⟩))
  have HE1:=qa (aE (((w.alloc (.cells #[.slice oe n ce,.int .i64 F,.slice orr m cr] 35)).alloc (.cells Z 25)).alloc (.cells Z 25)) x1);have qgj:=qa (HB2.o.up HE1.o);have qdc:=qa (HB1.o.up HE1.o);have HA1:=qa (HA.o.trans (HE1.o.mono HA.o.size));clear HE1 HB2 HB1 HA HBX hz;generalize ext (((w.alloc (.cells #[.slice oe n ce,.int .i64 F,.slice orr m cr] 35)).alloc (.cells Z 25)).alloc (.cells Z 25)) x1=w1 at*;obtain⟨B,hgB,hsB,hB⟩:=qgj.o.open;have HBA:=qa (j0 List.toArray hB);clear hB
  go_wp2_with(first
   |(refine mZ rfl 25 256 _ rfl (w.heap.size+2) rfl B hsB hgB _ underlying25 rfl (by kernel_rfl) ?_)
   |(refine iB rfl 25 256 _ _ rfl (w.heap.size+1) rfl CO CO (j0 Value.agg HBA.o) HOL.o (by kernel_rfl) qdc.o ?_;intro w2 hb2 hg2;have HB4:=qa hb2;have HG2:=qa hg2;clear hb2 hg2))
  refine bS (s:=2) (b:=3) (ad:=⟨w.heap.size+1,0,none⟩) (x:=.agg (ints CO).toArray) (y:=.int .i64 0) rfl rfl rfl rfl (HB4.o.load _ underlying25 rfl (by kernel_rfl)) ?_;exact⟨rfl,HA1.o.grown HG2.o HA1.o.size (fun k hk=>by cases hk;omega)⟩
 |true=>
  have HC1:=qa (HCO.o.1 rfl).1;have HK1:=qa (HCO.o.1 rfl).2;clear HCO;go_enter func26,ntmps26
  go_upto_region 4 with(first
   |(refine aH rfl 35 _ rfl w.heap.size 0 3 rfl _ _ (pR HBX.o) rfl underlying35 rfl (by kernel_rfl) ?_)
   |((with_reducible go_at_call 60);refine HRT.o.mono ?_;rintro en w1 ⟨rfl,x1,rfl⟩))
  have HE1:=qa (aE (((w.alloc (.cells #[.slice oe n ce,.int .i64 F,.slice orr m cr] 35)).alloc (.cells Z 25)).alloc (.cells Z 25)) x1);have qgj:=qa (HB2.o.up HE1.o);have qdc:=qa (HB1.o.up HE1.o);have qdn:=qa (HBX.o.up HE1.o);have HA1:=qa (HA.o.trans (HE1.o.mono HA.o.size));have hs1:=HE1.o.size;rw[hs3]at hs1;clear HE1 HB2 HB1 HA HBX hz HRT hs3;generalize ext (((w.alloc (.cells #[.slice oe n ce,.int .i64 F,.slice orr m cr] 35)).alloc (.cells Z 25)).alloc (.cells Z 25)) x1=w1 at*;have HST:=qa (qbt (HH.o.up HA1.o) hw ht);clear hw ht
  go_upto_region 6 with(first
   |(refine aH rfl 35 _ rfl w.heap.size 0 3 rfl _ _ (pR qdn.o) rfl underlying35 rfl (by kernel_rfl) ?_)
   |((with_reducible go_at_call 61);refine HST.o.mono ?_;rintro en w2 ⟨u,rfl,hown,qcw⟩;have hsl:=hown.sl;(obtain⟨ou,cu,bu,fu,rfl,hdu,hcu⟩:=hsl);rw[qB]at hdu hcu⊢;have HDU:=qa hdu;have qjg:=qa hcu;have HOW:=qa hown;have HE2:=qa qcw;clear hown qcw hdu hcu))
  have hdu:=HDU.o;have hcu:=qjg.o;have HFB:Hid (∀x,w2.grownBy x (some (w.heap.size+2))->Below w.heap.size w x):=qa (fun x hx=>(HA1.o.trans (HE2.o.mono HA1.o.size)).grown hx (by have:=HA1.o.size;have:=HE2.o.size;omega) (fun k hk=>by cases hk;omega));have qjy:=qa (qgj.o.up HE2.o);have HR2:Hid (∀x,w2.grownBy x (some (w.heap.size+2))->sU x 25 256 (w.heap.size+1) O):=qa (fun x hx=>(qdc.o.up HE2.o).keep hx (by intro hh;injection hh with hh;omega));have hs2:w.heap.size+3<=w2.heap.size:=by have:=HE2.o.size;omega
  clear qdn qdc qgj HA1 HE2 HH HST;generalize hSS:q07 e=S at*;have qfe:=mJ (P:=prog) 4 61 53 underlying61 (by kernel_rfl) hdu
  have HCU:Hid (∀i,i<S.length->∀c,c<4->w2.cell? ⟨bu,fu+i*4+c,none⟩=some ((#[.int .u64 (S.getD i cY).a,.int .u64 (S.getD i cY).b,.int .u64 (S.getD i cY).c,.int .u64 (S.getD i cY).d]:Array Value).getD c undef)):=qa (fun i hi c hc=>by
   rw[hcu i hi c hc];have e1:(S.map pI).getD i []=pI (S.getD i cY):=by simp[List.getD,hi]
   rw[e1];unfold pI;simp[List.getD,qS])
  have HBU:Hid (0<S.length->w.heap.size+3<=bu/\bu<w2.heap.size):=qa (fun h0=>⟨by have h1:=HOW.o.lt bu (by rw[hdu.hat h0];rfl);omega,hdu.hblk h0⟩);have hmm:=@run_makeMap prog;have hmu:=hdu.len;have HSS:=qa hSS;obtain⟨N,hN⟩:∃N,N=S.length:=⟨_,rfl⟩;have HN:=qa hN;rw[<-hN]at qfe HCU HBU hmu⊢;clear HDU qjg HOW hs1 hdu hcu hSS hN
  go_loopg [5,20] N (fun gk nv iv wr=>∃(i:Nat) (cl:List Int),iv=.int .i64 i/\i<=N/\nv=.int .i64 ((d8 (S.take i)).length:Nat)/\sU wr 25 256 (w.heap.size+2) cl/\q3B (S.take i) cl/\w2.grownBy wr (some (w.heap.size+2))/\gk=N-i)
  case atStart=>exact⟨0,O,rfl,qd _,by rw[List.take_zero,q4U.2];rfl,qjy.o,HON.o,dL _ _,rfl⟩
  case round=>
   obtain⟨i,cl,rfl,hi,rfl,hbx,hcl,hgr,rfl⟩:=hrel;have qdQ:=qa hbx;have HCL:=qa hcl;have HG:=qa hgr;clear hbx hcl hgr qjy;by_cases hlt:i<N
   ·obtain⟨hb3,hb4⟩:=HBU.o (by omega)
    have hgc:=fun q (hq:q<4)=>HG.o.cell (HCU.o i hlt q hq) (by intro hh;injection hh with hh;simp at hh;omega);have HCD:=qa hgc;have qdL:bu<wr.heap.size:=by have:=HG.o.size;omega
    have qcB:∀W,(Instr.indexAt 61 (.slice ou N cu) (.int .i64 i)).run prog W=.ok (.pointer (some ⟨bu,fu+i*4,none⟩)) W:=fun W=>by simpa using qfe W .i64 i (by omega) (by omega)
    obtain⟨x,hx⟩:∃x,x=S.getD i cY:=⟨_,rfl⟩;have HTK:Hid (S.take (i+1)=S.take i++[x]):=qa (by rw[hx];exact aV S i cY (by have:=HN.o;omega));rw[<-hx]at HCD;generalize S.take i=l at*;clear hgc hx hb3 hb4
    have HQ0:Hid (∀q,q<4->((wr.alloc (.cells #[.int .u64 x.a,.int .u64 x.b,.int .u64 x.c,.int .u64 x.d] 53)).alloc (.map #[] 0)).cell? ⟨wr.heap.size,q,none⟩=some (.int .u64 (mG x q))):=qa (fun q hq=>by
     rw[(aD (wr.alloc (.cells #[.int .u64 x.a,.int .u64 x.b,.int .u64 x.c,.int .u64 x.d] 53)) (.map #[] 0)).cell (p:=⟨wr.heap.size,q,none⟩) (by simp),World.cell?_alloc_new];unfold mG;rcases(show q=0\/q=1\/q=2\/q=3 by omega)with rfl|rfl|rfl|rfl<;>rfl)
    have HM0:Hid (wH prog 125 ((wr.alloc (.cells #[.int .u64 x.a,.int .u64 x.b,.int .u64 x.c,.int .u64 x.d] 53)).alloc (.map #[] 0)) (wr.heap.size+1) []):=qa (by
     have:=wH.made prog 125 (wr.alloc (.cells #[.int .u64 x.a,.int .u64 x.b,.int .u64 x.c,.int .u64 x.d] 53));simpa using this)
    have hl2:Below wr.heap.size wr ((wr.alloc (.cells #[.int .u64 x.a,.int .u64 x.b,.int .u64 x.c,.int .u64 x.d] 53)).alloc (.map #[] 0)):=aO;have qjr:=qa (qdQ.o.up hl2);have HG0:=qa (aL HG.o (aK hl2 _));have hz0:((wr.alloc (.cells #[.int .u64 x.a,.int .u64 x.b,.int .u64 x.c,.int .u64 x.d] 53)).alloc (.map #[] 0)).heap.size=wr.heap.size+2:=by simp
    have hws:=HG.o.size;clear hl2 qdQ HG
    go_wp2_with(refine aH rfl 53 _ rfl bu (fu+i*4) 4 rfl _ _ HCD.o rfl underlying53 rfl (by kernel_rfl) ?_)
    generalize hwo:((wr.alloc (.cells #[.int .u64 x.a,.int .u64 x.b,.int .u64 x.c,.int .u64 x.d] 53)).alloc (.map #[] 0))=wo at*;obtain⟨mb,hmb⟩:∃mb,mb=wr.heap.size+1:=⟨_,rfl⟩;obtain⟨pb,hpb⟩:∃pb,pb=wr.heap.size:=⟨_,rfl⟩;rw[<-hmb]at HM0⊢;rw[<-hpb]at HQ0⊢;have HPM:Hid (pb<mb/\mb<wo.heap.size/\w2.heap.size<=pb):=qa (by omega);clear hwo hmb hpb hz0 HCD qcB qdL hmm hws
    go_loopg [25] 256 (fun gk cv wr=>∃(c:Nat) (cl:List Int),cv=.int .i64 c/\c<=256/\sU wr 25 256 (w.heap.size+2) cl/\N5 l x c cl/\wH prog 125 wr mb ((aU (tN l x) (iI.take c)).map (kC l x))/\(∀q,q<4->wr.cell? ⟨pb,q,none⟩=some (.int .u64 (mG x q)))/\w2.grownBy wr (some (w.heap.size+2))/\gk=256-c)
    case atStart=>exact⟨0,cl,rfl,qd _,qjr.o,q1y HCL.o,by rw[List.take_zero];exact HM0.o,HQ0.o,HG0.o,rfl⟩
    case round=>
     obtain⟨c,cl,rfl,hc,hbx,hcl,hmp,hq,hgr,rfl⟩:=hrel;have qdQ:=qa hbx;have HCM:=qa hcl;have HMP:=qa hmp;have HQ:=qa hq;have HG:=qa hgr;have qjY:=hmp.lt;clear hbx hcl hmp hq hgr qjr HM0 HQ0 HG0 HCL;by_cases qcM:c<256
     ·have hcI:(c:Int)<256:=by omega
      have d0:decide ((c:Int)<256)=true:=qz hcI
      have hcc:wr.cell? ⟨w.heap.size+1+1,c,none⟩=some (.int .i64 (gH l c:Nat)):=by
       have:=qdQ.o.cell (c:=c) qcM;rw[q5U HCM.o qcM]at this;exact this
      have hqq:=HQ.o (c/64) (by omega);have hpw:w.heap.size+1+1<wr.heap.size:=qdQ.o.lt;have qhV:pb<wr.heap.size:=by have:=HPM.o;omega
      have qk0:c%64<64:=jW _ (by decide);have qkg:c/64<4:=by omega
      have h1:=R9;have HBN:Hid (mG x (c/64)/2^(c%64)%2=X6 x c):=qa rfl;obtain⟨lk,hlk⟩:=q9w (l:=l) (x:=x) qcM;have hkC:kC l x c=.agg #[.int .i64 (gH l c:Nat),.int .u64 (X6 x c)]:=rfl;have HSP:=qa (q3A (l:=l) (x:=x) qcM (F:=aU (tN l x) (iI.take c)) rfl);have hkz:gH l c<256:=qe (pE l qcM) (oI l);generalize hFF:aU (tN l x) (iI.take c)=Fq at*
      have HFL:Hid (Fq.length<=256):=qa (by
       have:=sE (tN l x) (iI.take c);rw[qX,nG,hFF]at this;omega)
      have HKV:=qa hkC;have HLK:=qa hlk;clear hFF hkC hlk;generalize gH l c=kc at*;rw[HKV.o]at HSP HLK;generalize mG x (c/64)=v at*;generalize X6 x c=bt at*;have hl7:Below wr.heap.size wr (wr.alloc (.cells #[.int .i64 kc,.int .u64 bt] 125)).drew:=aO
      have HQK:Hid (∀q,q<2->(wr.alloc (.cells #[.int .i64 kc,.int .u64 bt] 125)).drew.cell? ⟨wr.heap.size,0+q,none⟩=some ((#[.int .i64 kc,.int .u64 bt]:Array Value).getD q undef)):=qa (fun q hq=>by
       rw[qI];show(wr.alloc (.cells #[.int .i64 kc,.int .u64 bt] 125)).cell? ⟨wr.heap.size,q,none⟩=_;rw[World.cell?_alloc_new];rcases(show q=0\/q=1 by omega)with rfl|rfl<;>rfl)
      have HL7:=qa hl7;clear hl7;go_wp2;refine aR [0,1,2,3,4,5,6,7,8,9,10,11,12] [13] [14] (by kernel_rfl) (by kernel_rfl) ?_;simp only[pk]
      repeat(go_big_quiet_step (fail))
      refine wpQuiet_nil ?_
      (unfold aF;go_wp2;refine⟨aJ aO,?_⟩)
      unfold aF;rw[HBN.o];unfold aF;go_wp2;refine⟨trivial,?_⟩;unfold aF;have HM7:=qa (HMP.o.up HL7.o);have HB7:=qa (qdQ.o.up HL7.o);have HG7:=qa (aL HG.o (aK HL7.o _));have HQ7:Hid (∀q,q<4->(wr.alloc (.cells #[.int .i64 kc,.int .u64 bt] 125)).drew.cell? ⟨pb,q,none⟩=some (.int .u64 (mG x q))):=qa (fun q hq=>(HL7.o.cell (p:=⟨pb,q,none⟩) qhV).trans (HQ.o q hq));have hs7:(wr.alloc (.cells #[.int .i64 kc,.int .u64 bt] 125)).drew.heap.size=wr.heap.size+1:=by simp
      clear hcc hqq hpw HMP qdQ HG HQ HL7;generalize (wr.alloc (.cells #[.int .i64 kc,.int .u64 bt] 125)).drew=w7 at*;obtain⟨pk,hpk⟩:∃pk,pk=wr.heap.size:=⟨_,rfl⟩;rw[<-hpk]at HQK⊢;have qlP:pk<w7.heap.size:=by omega
      have qlO:pb<pk:=by omega
      have qlN:mb<pk:=by omega
      clear hpk hs7 qhV qjY;rcases HSP.o with⟨ix,hx1,hx2,hx3⟩|⟨hx1,hx2,hx3⟩
      ·obtain⟨e1,e2⟩:=HM7.o.lookOld vP underlying123 HLK.o hx1
       have HX2:=qa hx2;have HX3:=qa hx3;have hcc:w7.cell? ⟨w.heap.size+1+1,c,none⟩=some (.int .i64 (cl.getD c 0)):=HB7.o.cell qcM;have hff:w7.frozen? ⟨w.heap.size+1+1,c,none⟩=false:=HB7.o.free c;have hpw:w.heap.size+1+1<w7.heap.size:=HB7.o.lt;have HST:=qa (HB7.o.set c ix);generalize cl.getD c 0=y0 at*;clear hx1 hx2 hx3
       go_wp2_with(refine aH rfl 125 _ rfl pk 0 2 rfl _ _ HQK.o rfl underlying125 rfl (by kernel_rfl) ?_)
       go_roundg (256-(c+1))
       case measure=>omega
       case rel=>
        have hgs:=HST.o.2;refine⟨c+1,cl.set c ix,by go_num,by omega,HST.o.1,N6 HCM.o qcM HX3.o,?_,fun q hq=>hgs.cell (HQ7.o q hq) (by intro hh;injection hh with hh;have:=HPM.o;simp at hh;omega),aL HG7.o hgs,rfl⟩;rw[HX2.o];exact HM7.o.keep hgs (by intro hh;injection hh with hh;have:=HPM.o;omega)
      have e1:=HM7.o.lookNew vP underlying123 (pH w7) HLK.o hx1;obtain⟨w8,e2,hm8,hg8⟩:=HM7.o.put vP underlying123 HLK.o hx1;have hmap:Fq.map (kC l x)++[Value.agg #[.int .i64 kc,.int .u64 bt]]=(Fq++[c]).map (kC l x):=by rw[qH,qJ,HKV.o];rfl
      rw[qB]at e2;rw[hmap]at hm8;have e3:=(hm8.lookOld vP underlying123 (i:=Fq.length) HLK.o (by rw[<-hmap,<-qB (f:=kC l x),ji (qb _),Nat.sub_self];rfl)).2;have HX2:=qa hx2;have HX3:=qa hx3;have HM8:=qa hm8;have HB8:=qa (HB7.o.keep hg8 (by intro hh;injection hh with hh;have:=HPM.o;omega));have ql0:=qa (fun q hq=>hg8.cell (HQK.o q hq) (by intro hh;injection hh with hh;simp at hh;omega));have HQ8:=qa (fun q hq=>hg8.cell (HQ7.o q hq) (by intro hh;injection hh with hh;have:=HPM.o;simp at hh;omega));have HG8:=qa (q4Q HG7.o hg8 (by have:=HPM.o;omega));have hcc:w8.cell? ⟨w.heap.size+1+1,c,none⟩=some (.int .i64 (cl.getD c 0)):=HB8.o.cell qcM;have hff:w8.frozen? ⟨w.heap.size+1+1,c,none⟩=false:=HB8.o.free c;have hpw:w.heap.size+1+1<w8.heap.size:=HB8.o.lt;have HST:=qa (HB8.o.set c Fq.length);have qlM:pk<w8.heap.size:=by have:=hg8.size;omega
      generalize cl.getD c 0=y0 at*;have hlen:=HM7.o.len underlying123 3;rw[qB]at hlen;clear hx1 hx2 hx3 hm8 hg8 hmap
      go_wp2_with(first|(refine aH rfl 125 _ rfl pk 0 2 rfl _ _ HQK.o rfl underlying125 rfl (by kernel_rfl) ?_)|(refine aH rfl 125 _ rfl pk 0 2 rfl _ _ ql0.o rfl underlying125 rfl (by kernel_rfl) ?_))
      go_roundg (256-(c+1))
      case measure=>omega
      case rel=>
       have hgs:=HST.o.2;refine⟨c+1,cl.set c Fq.length,by go_num,by omega,HST.o.1,N6 HCM.o qcM HX3.o,?_,fun q hq=>hgs.cell (HQ8.o q hq) (by intro hh;injection hh with hh;have:=HPM.o;simp at hh;omega),aL HG8.o hgs,rfl⟩;rw[HX2.o];exact HM8.o.keep hgs (by intro hh;injection hh with hh;have:=HPM.o;omega)
     have hce:c=256:=by omega
     subst hce;have htk:iI.take 256=iI:=qG (by rw[nG];exact qb _);have HLEN:Hid (((aU (tN l x) (iI.take 256)).map (kC l x)).length=(d8 (l++[x])).length):=qa (by rw[qB,htk,(q2e l x).1]);have hlen:=HMP.o.len underlying123 3;rw[HLEN.o]at hlen;clear htk;go_wp2
     go_roundg (N-(i+1))
     case measure=>omega
     case rel=>exact⟨i+1,cl,by go_num,by omega,by rw[HTK.o],qdQ.o,by rw[HTK.o];exact q3C HCM.o,HG.o,rfl⟩
   have hie:i=N:=by omega
   subst hie;have htk:S.take i=S:=qG (by have:=HN.o;omega);have HKO:Hid ((d8 (S.take i)).length=KO):=qa (by rw[htk,HK1.o,<-HSS.o,(q2f e).1];rfl);have HCA:Hid (cl=i7 e):=qa (q5W (by rw[HSS.o,<-htk];exact HCL.o));rw[HKO.o];obtain⟨B,hgB,hsB,hB⟩:=qdQ.o.open;have HBA:Hid (B=(ints CO).toArray):=qa (by rw[HC1.o,<-HCA.o];exact j0 List.toArray hB);have HR:=qa (HR2.o _ HG.o);have qke:wr.heap[w.heap.size+1+1]? =some (.cells B 25 (0,0)):=hgB;clear hB htk
   go_wp2_with(first
    |(refine mZ rfl 25 256 _ rfl (w.heap.size+1+1) rfl B hsB qke _ underlying25 rfl (by kernel_rfl) ?_)
    |(refine iB rfl 25 256 _ _ rfl (w.heap.size+1) rfl O CO (j0 Value.agg HBA.o) (by rw[HC1.o];exact zC e) (by kernel_rfl) HR.o ?_;intro w3 hb2 hg2;have HB4:=qa hb2;have HG2:=qa hg2;clear hb2 hg2))
   refine bS (s:=2) (b:=3) (ad:=⟨w.heap.size+1,0,none⟩) (x:=.agg (ints CO).toArray) (y:=.int .i64 KO) rfl rfl rfl rfl (HB4.o.load _ underlying25 rfl (by kernel_rfl)) ?_;exact⟨rfl,(HFB.o _ HG.o).grown HG2.o (HFB.o _ HG.o).size (fun k hk=>by cases hk;omega)⟩
theorem kS{α:Type} [DecidableEq α]{l ks:List α}{x:α}(h:x∈l):x∈l.foldl aQ ks:=by
 induction l generalizing ks with
 |nil=>cases h
 |cons a l ih=>
  rw[qL];rcases List.mem_cons.1 h with rfl|h
  ·obtain⟨k,hk⟩:=bP l (aQ ks x)
   rw[hk];exact j5 _ (cR.2 (.inr rfl))
  exact ih h
theorem q64{β:Type} [DecidableEq β]{l:List β}(hnd:l.Nodup){k:Nat}{x:β}(hx:l[k]? =some x):idx l x=k:=by
 obtain⟨hkl,h4⟩:=List.getElem?_eq_some_iff.1 hx;have hmm:x∈l:=jA hx;have h2:=f8 hmm;have h3:=eJ hmm;rcases Nat.lt_trichotomy (idx l x) k with h|h|h
 ·exact((List.pairwise_iff_getElem.1 hnd _ k h3 hkl h) (h2.trans h4.symm)).elim
 ·exact h
 exact((List.pairwise_iff_getElem.1 hnd k _ hkl h3 h) (h4.trans h2.symm)).elim
theorem q3E{e:List (List Ed)}{k:Nat}(hk:k<(aY e).length):xB e ((aY e).getD k 0)=k/\(aY e).getD k 0<256/\∀q,q<(aY e).getD k 0->xB e q≠k:=by
 obtain⟨c,hc⟩:∃c,c=(aY e).getD k 0:=⟨_,rfl⟩;rw[<-hc];have hm:c∈aY e:=by rw[hc];exact cE _ _ _ hk
 have hgk:(aY e)[k]=c:=by
  rw[hc];generalize aY e=H at*;simp[List.getD,hk]
 have hg:(aY e)[k]? =some c:=by rw[qy hk,hgk]
 have qgQ:c<256:=xA hm;have hmap:(aY e).map (iJ (bQ e))=eH (iI.map (iJ (bQ e))):=lF _ _;have hnd:((aY e).map (iJ (bQ e))).Nodup:=by rw[hmap];exact sD _
 have qdY:((aY e).map (iJ (bQ e)))[k]? =some (iJ (bQ e) c):=by rw[qU,hg,jP]
 have h1:xB e c=idx ((aY e).map (iJ (bQ e))) (iJ (bQ e) c):=rfl;have hcls:xB e c=k:=by rw[h1];exact q64 hnd qdY
 refine⟨hcls,qgQ,fun q hq e1=>?_⟩
 have hqb:q∈iI.take (q+1):=by
  have:iI.take (q+1)=iI.take q++[q]:=mR (z:=0) (by rw[nG];omega) (uY (by omega));rw[this];simp
 have hlt:=U1 (f:=iJ (bQ e)) hqb
 have hpl:lT (iJ (bQ e)) (iI.take (q+1)) q=xB e q:=by
  have:=nF (f:=iJ (bQ e)) (m:=iI.drop (q+1)) hqb;rw[j8]at this;exact this.symm
 rw[hpl,e1]at hlt;obtain⟨tl,htl⟩:=uX (iJ (bQ e)) (iI.take (q+1)) (iI.drop (q+1));rw[j8]at htl
 have hg2:(aU (iJ (bQ e)) (iI.take (q+1)))[k]? =some c:=by
  have h0:(aY e)=aU (iJ (bQ e)) (iI.take (q+1))++tl:=htl;rw[h0,qW hlt]at hg;exact hg
 have h5:=lG (jA hg2)
 have h6:iI.take (q+1)=List.range (q+1):=by
  unfold iI;rw[List.take_range,show min (q+1) 256=q+1 by omega]
 rw[h6,a9]at h5;omega
def xJ(e:List (List Ed))(c:Nat)(l:List Nat):Prop:=l.length=(aY e).length/\∀k,k<l.length->l.getD k 0<256/\∀q,c<=q->q<256->xB e q=k->(∀p,c<=p->p<q->xB e p≠k)->l.getD k 0=q
theorem J2(e:List (List Ed)):xJ e 256 (List.replicate (aY e).length 0):=by
 refine⟨qP,fun k hk=>⟨?_,fun q h1 h2 _ _=>absurd h2 (by omega)⟩⟩;rw[qu,jT];split<;>decide
theorem q9C(e:List (List Ed)){c:Nat}(h:c<256):xB e c<(aY e).length:=pE _ h
theorem q3F{e:List (List Ed)}{c:Nat}{l:List Nat}(h:xJ e (c+1) l)(hc:c<256):xJ e c (l.set (xB e c) c):=by
 refine⟨by rw[jb];exact h.1,fun k hk=>?_⟩;rw[jb]at hk;obtain⟨h1,h2⟩:=h.2 k hk;by_cases hkc:xB e c=k
 ·rw[hkc,cU hk]
  refine⟨hc,fun q hq hq2 hqk hall=>?_⟩;rcases Nat.lt_or_eq_of_le hq with h3|h3
  ·exact absurd hkc (hall c (qb _) h3)
  exact h3
 rw[d6 hkc];refine⟨h1,fun q hq hq2 hqk hall=>h2 q ?_ hq2 hqk fun p hp hp2=>hall p (by omega) hp2⟩;rcases Nat.lt_or_eq_of_le hq with h3|h3
 ·exact h3
 rw[h3]at hkc;exact absurd hqk hkc
theorem q65{e:List (List Ed)}{l:List Nat}(h:xJ e 0 l):l=aY e:=by
 refine jV h.1 fun k h1 h2=>?_;obtain⟨h3,h4,h5⟩:=q3E h2;have h6:=(h.2 k h1).2 _ (qd _) h4 h3 (fun p _ hp=>h5 p hp);simpa[List.getD,h1,h2]using h6
def OkL(n:Nat)(L:List Nat):Prop:=L.length<=n/\∀s∈L,s<n
theorem q2J(n:Nat)(P:Nat->Prop):OkL n (nD n P):=⟨q23 n P,fun _ hs=>(i6.1 hs).1⟩
theorem q2K(e:List (List Ed))(F:Int)(r st:List Int)(c:Nat):OkL e.length (pW e F r st c):=by
 unfold pW tI;split
 ·exact q2J _ _
 exact⟨qd _,fun _ hs=>by cases hs⟩
theorem q66(e:List (List Ed))(F:Int)(r st:List Int):OkL e.length (q0V e F r st):=by
 unfold q0V;split
 ·exact q2J _ _
 exact⟨qd _,fun _ hs=>by cases hs⟩
theorem q67(e:List (List Ed))(F:Int)(r:List Int)(L:List Nat):∀x∈bY e F r L,OkL e.length x:=by
 intro x hx;obtain⟨c,-,rfl⟩:=List.mem_map.1 hx;exact q2K _ _ _ _ _
theorem q2L{n:Nat}{l R:List (List Nat)}(hR:∀x∈R,OkL n x)(hl:∀x∈l,OkL n x):∀x∈l.foldl aQ R,OkL n x:=by
 induction l generalizing R with
 |nil=>exact hR
 |cons a l ih=>
  exact ZmK1
theorem q1A{n:Nat}(hn:n<=3000){R:List (List Nat)}(h:∀x∈R,OkL n x):q5I R:=fun L hL=>⟨by have:=(h L hL).1;omega,fun _ hs=>by have:=(h L hL).2 _ hs;omega⟩
structure q6O(e:List (List Ed))(F:Int)(r:List Int)(i:Nat)(R:List (List Nat)):Prop where
 le:i<=R.length
 len:R.length<=1000
 go:goS (bY e F r) [] (1001-i) i R=nH e F r
 ok:∀x∈R,OkL e.length x
 mem:∀k,k<i->∀x∈bY e F r (R.getD k []),x∈R
noncomputable def pT(e:List (List Ed))(F:Int)(r:List Int)(R:List (List Nat))(i:Nat):List (List Int):=(R.take i).map (fP e F r R)
def gJ(r:List Int)(R:List (List Nat))(i:Nat):List Int:=(R.take i).map (mS r)
theorem q68(e:List (List Ed))(F:Int)(r:List Int):q6O e F r 0 [q0V e F r [F]]:=
 ⟨qd _,by simp,rfl,fun x hx=>by rw[List.mem_singleton.1 hx];exact q66 _ _ _ _,fun k hk=>absurd hk (qC k)⟩
noncomputable def rM(e:List (List Ed))(F:Int)(r:List Int)(i:Nat)(R:List (List Nat)):List (List Nat):=(bY e F r (R.getD i [])).foldl aQ R
theorem q6O.big{e:List (List Ed)}{F:Int}{r:List Int}{i:Nat}{R:List (List Nat)}(h:q6O e F r i R)(hi:i<R.length)(hb:1000<(rM e F r i R).length):nH e F r=none:=by
 have h1:=h.go;have h2:=h.len;rw[show 1001-i=(1000-i)+1 by omega]at h1;unfold goS at h1;rw[qw hi]at h1;have h3:1000<((bY e F r (R.getD i [])).foldl aQ R).length:=hb;rw[qw h3]at h1;exact h1.symm
theorem q6O.next{e:List (List Ed)}{F:Int}{r:List Int}{i:Nat}{R:List (List Nat)}(h:q6O e F r i R)(hi:i<R.length)(hb:(rM e F r i R).length<=1000):
  q6O e F r (i+1) (rM e F r i R)/\pT e F r (rM e F r i R) (i+1)=pT e F r R i++[fP e F r (rM e F r i R) (R.getD i [])]/\gJ r (rM e F r i R) (i+1)=gJ r R i++[mS r (R.getD i [])]:=by
 obtain⟨k,hk⟩:=bP (bY e F r (R.getD i [])) R;have hk':rM e F r i R=R++k:=hk;have qdY:∀j,j<R.length->(rM e F r i R).getD j []=R.getD j []:=fun j hj=>by rw[hk',bC hj]
 have htk:(rM e F r i R).take (i+1)=R.take i++[R.getD i []]:=by
  rw[hk',List.take_append_of_le_length (by omega)];exact aV R i [] hi
 refine⟨⟨by rw[hk',qj];omega,hb,?_,q2L h.ok (q67 _ _ _ _),fun j hj x hx=>?_⟩,?_,?_⟩
 ·have h1:=h.go
  have h2:=h.len;rw[show 1001-i=(1000-i)+1 by omega]at h1;unfold goS at h1;have h3:¬1000<((bY e F r (R.getD i [])).foldl aQ R).length:=by have:(rM e F r i R).length<=1000:=hb;unfold rM at this;omega
  rw[qw hi,qv h3]at h1;rw[show 1001-(i+1)=1000-i by omega];exact h1
 ·exact ZmK0
 ·unfold pT
  rw[htk,qH,qJ,ju];refine j0 (· ++[fP e F r (rM e F r i R) (R.getD i [])]) (List.map_congr_left fun L hL=>?_);obtain⟨j,hj,rfl⟩:=List.mem_iff_getElem.1 hL;rw[qX]at hj;unfold fP;refine List.map_congr_left fun x hx=>?_
  have hxR:x∈R:=h.mem j (by omega) x (by
   have:R.getD j []=(R.take i)[j]:=by simp[List.getD,show j<R.length by omega]
   rw[this];exact hx)
  rw[hk',cD hxR]
 unfold gJ;rw[htk,qH,qJ,ju]
theorem q6O.done{e:List (List Ed)}{F:Int}{r:List Int}{i:Nat}{R:List (List Nat)}(h:q6O e F r i R)(hi:¬i<R.length):nH e F r=some R/\pT e F r R i=(tV e F r R).next/\gJ r R i=(tV e F r R).rules:=by
 have h1:=h.go;have h2:=h.len;have h3:=h.le;rw[show 1001-i=(1000-i)+1 by omega]at h1;unfold goS at h1;rw[qv hi]at h1;have htk:R.take i=R:=qG (by omega);exact⟨h1.symm,by unfold pT;rw[htk];rfl,by unfold gJ;rw[htk];rfl⟩
noncomputable def tT(e:List (List Ed))(F:Int)(r:List Int)(i:Nat)(R:List (List Nat))(j:Nat):List (List Nat):=((bY e F r (R.getD i [])).take j).foldl aQ R
noncomputable def nJ(e:List (List Ed))(F:Int)(r:List Int)(i:Nat)(R:List (List Nat))(j:Nat):List Int:=((bY e F r (R.getD i [])).take j).map (fun x=>(idx (tT e F r i R j) x:Int))++List.replicate ((aY e).length-j) 0
theorem q2M(e:List (List Ed))(F:Int)(r:List Int)(i:Nat)(R:List (List Nat)):tT e F r i R 0=R/\nJ e F r i R 0=List.replicate (aY e).length 0:=⟨by simp[tT],by simp[nJ]⟩
theorem q3G(e:List (List Ed))(F:Int)(r:List Int)(i:Nat)(R:List (List Nat)){j:Nat}(hj:j<=(aY e).length):(nJ e F r i R j).length=(aY e).length:=by
 unfold nJ;rw[qj,qB,qX,vA,qP];omega
theorem q7P(e:List (List Ed))(F:Int)(r:List Int)(i:Nat)(R:List (List Nat)){j:Nat}(hj:j<(aY e).length):
  tT e F r i R (j+1)=aQ (tT e F r i R j) (pW e F r (nz (R.getD i [])) ((aY e).getD j 0))/\
  nJ e F r i R (j+1)=(nJ e F r i R j).set j (idx (aQ (tT e F r i R j) (pW e F r (nz (R.getD i [])) ((aY e).getD j 0))) (pW e F r (nz (R.getD i [])) ((aY e).getD j 0)):Nat):=by
 have hl:j<(bY e F r (R.getD i [])).length:=by rw[vA];exact hj
 have hx:(bY e F r (R.getD i [])).getD j []=pW e F r (nz (R.getD i [])) ((aY e).getD j 0):=by
  unfold bY;simp[List.getD,hj]
 have htk:(bY e F r (R.getD i [])).take (j+1)=(bY e F r (R.getD i [])).take j++[pW e F r (nz (R.getD i [])) ((aY e).getD j 0)]:=by
  rw[<-hx];exact aV _ j [] hl
 have h1:tT e F r i R (j+1)=aQ (tT e F r i R j) (pW e F r (nz (R.getD i [])) ((aY e).getD j 0)):=by
  unfold tT;rw[htk,qZ]
  rfl
 refine⟨h1,?_⟩;unfold nJ;rw[<-h1,htk,qH,qJ,ju];have hml:(((bY e F r (R.getD i [])).take j).map (fun x=>(idx (tT e F r i R j) x:Int))).length=j:=by rw[qB,qX];omega
 have hmap:((bY e F r (R.getD i [])).take j).map (fun x=>(idx (tT e F r i R (j+1)) x:Int))=((bY e F r (R.getD i [])).take j).map (fun x=>(idx (tT e F r i R j) x:Int)):=by
  refine List.map_congr_left fun x hx=>?_;have hxm:x∈tT e F r i R j:=kS hx;rw[h1,xV hxm]
 rw[hmap,List.set_append_right _ _ (by omega),hml,Nat.sub_self,qk];refine j0 _ ?_;rw[show(aY e).length-j=((aY e).length-(j+1))+1 by omega,List.replicate_succ]
 rfl
theorem q9D(e:List (List Ed))(F:Int)(r:List Int)(i:Nat)(R:List (List Nat)):tT e F r i R (aY e).length=rM e F r i R/\nJ e F r i R (aY e).length=fP e F r (rM e F r i R) (R.getD i []):=by
 have htk:(bY e F r (R.getD i [])).take (aY e).length=bY e F r (R.getD i []):=qG (by rw[vA];exact qb _);have h1:tT e F r i R (aY e).length=rM e F r i R:=by unfold tT rM;rw[htk]
 refine⟨h1,?_⟩;unfold nJ fP;rw[htk,h1,Nat.sub_self];simp
theorem qaP{e:List (List Ed)}{F:Int}{r:List Int}{i:Nat}{R:List (List Nat)}(h:∀x∈R,OkL e.length x)(j:Nat):∀x∈tT e F r i R j,OkL e.length x:=
 q2L h fun x hx=>q67 e F r (R.getD i []) x (List.mem_of_mem_take hx)
theorem q9E(e:List (List Ed))(F:Int)(r:List Int)(i:Nat)(R:List (List Nat))(j:Nat):∃k,tT e F r i R j=R++k:=bP _ _
theorem q69(e:List (List Ed))(F:Int)(r:List Int)(i:Nat)(R:List (List Nat))(j:Nat)(hj:j<=256):(tT e F r i R j).length<=R.length+256:=by
 unfold tT
 have:∀(l ks:List (List Nat)),(l.foldl aQ ks).length<=ks.length+l.length:=by
  intro l
  induction l with
  |nil=>intro ks;simp
  |cons a l ih=>
   intro ks;have:=ih (aQ ks a);simp only[qL,qA];have h2:(aQ ks a).length<=ks.length+1:=by unfold aQ;split<;>simp
   omega
 have h1:=this ((bY e F r (R.getD i [])).take j) R;rw[qX]at h1;omega
end Go.Cm
namespace Go.Cm
open Go.RowKit Go.Proofs
def OkF(n:Nat)(f:Fo):Prop:=eI f/\fH f=true/\cnt f=n
structure vV(f0:Fo)(i:Nat)(R:List Fo):Prop where
 le:i<=R.length
 len:R.length<=1000
 go:goD f0 (1001-i) i R=kM f0
 ok:∀x∈R,OkF (cnt f0) x
 mem:∀k,k<i->∀x∈nxD f0 (R.getD k .nil),x∈R
def m8(f0:Fo)(R:List Fo)(i:Nat):List (List Int):=(R.take i).map (q1j f0 R)
def eU(R:List Fo)(i:Nat):List Int:=(R.take i).map (xX 0)
theorem q3H{f0:Fo}(h:OkF (cnt f0) f0):vV f0 0 [f0]:=
 ⟨qd _,by simp,rfl,fun x hx=>by rw[List.mem_singleton.1 hx];exact h,fun k hk=>absurd hk (qC k)⟩
section
variable {f0 : Fo} {i : Nat} {R : List Fo}
theorem vV.unf(h:vV f0 i R)(hi:i<R.length):(if q6M f0 (R.getD i .nil)=true/\(oJ f0 (R.getD i .nil) R).length<=1000 then goD f0 (1000-i) (i+1) (oJ f0 (R.getD i .nil) R)else none)=kM f0:=by
 have h1:=h.go;have h2:=h.len;rw[show 1001-i=(1000-i)+1 by omega,goD,qw hi]at h1;exact h1
theorem vV.small(h:vV f0 i R)(hi:i<R.length)(hb:q6M f0 (R.getD i .nil)=false):kM f0=none:=by
 have h1:=h.unf hi;rw[qv (by rw[hb];simp)]at h1;exact h1.symm
theorem vV.big(h:vV f0 i R)(hi:i<R.length)(hb:1000<(oJ f0 (R.getD i .nil) R).length):kM f0=none:=by
 have h1:=h.unf hi;rw[qv (by omega)]at h1;exact h1.symm
theorem q7Q{n:Nat}{l R:List Fo}(hR:∀x∈R,OkF n x)(hl:∀x∈l,OkF n x):∀x∈l.foldl aQ R,OkF n x:=by
 induction l generalizing R with
 |nil=>exact hR
 |cons a l ih=>
  exact ZmK1
theorem vV.next(h:vV f0 i R)(hi:i<R.length)(ho:q6M f0 (R.getD i .nil)=true)(hb:(oJ f0 (R.getD i .nil) R).length<=1000):
  vV f0 (i+1) (oJ f0 (R.getD i .nil) R)/\m8 f0 (oJ f0 (R.getD i .nil) R) (i+1)=m8 f0 R i++[q1j f0 (oJ f0 (R.getD i .nil) R) (R.getD i .nil)]/\eU (oJ f0 (R.getD i .nil) R) (i+1)=eU R i++[xX 0 (R.getD i .nil)]:=by
 obtain⟨k,hk⟩:=bP (nxD f0 (R.getD i .nil)) R;have hk':oJ f0 (R.getD i .nil) R=R++k:=hk;have qdY:∀j,j<R.length->(oJ f0 (R.getD i .nil) R).getD j .nil=R.getD j .nil:=fun j hj=>by rw[hk',bC hj]
 have htk:(oJ f0 (R.getD i .nil) R).take (i+1)=R.take i++[R.getD i .nil]:=by
  rw[hk',List.take_append_of_le_length (by omega)];exact aV R i .nil hi
 have hgi:=h.ok _ (cE R i .nil hi);refine⟨⟨by rw[hk',qj];omega,hb,?_,q7Q h.ok (fun x hx=>?_),fun j hj x hx=>?_⟩,?_,?_⟩
 ·have h1:=h.unf hi
  rw[qw ⟨ho,hb⟩]at h1;rw[show 1001-(i+1)=1000-i by omega];exact h1
 ·have hs:=List.all_eq_true.1 ho x hx
  obtain⟨c,-,rfl⟩:=List.mem_map.1 hx;exact⟨fV c _ hgi.1,hs,by rw[sA];exact hgi.2.2⟩
 ·exact ZmK0
 ·unfold m8
  rw[htk,qH,qJ,ju];refine j0 (· ++[q1j f0 (oJ f0 (R.getD i .nil) R) (R.getD i .nil)]) (List.map_congr_left fun L hL=>?_);obtain⟨j,hj,rfl⟩:=List.mem_iff_getElem.1 hL;rw[qX]at hj;unfold q1j;refine List.map_congr_left fun x hx=>?_
  have hxR:x∈R:=h.mem j (by omega) x (by
   have:R.getD j .nil=(R.take i)[j]:=by simp[List.getD,show j<R.length by omega]
   rw[this];exact hx)
  rw[hk',cD hxR]
 unfold eU;rw[htk,qH,qJ,ju]
theorem vV.done(h:vV f0 i R)(hi:¬i<R.length):kM f0=some R/\m8 f0 R i=(sG f0 R).next/\eU R i=(sG f0 R).rules:=by
 have h1:=h.go;have h2:=h.len;have h3:=h.le;rw[show 1001-i=(1000-i)+1 by omega,goD,qv hi]at h1;have htk:R.take i=R:=qG (by omega);exact⟨h1.symm,by unfold m8;rw[htk];rfl,by unfold eU;rw[htk];rfl⟩
end
def N9(f0 g:Fo)(R:List Fo)(j:Nat):List Fo:=((nxD f0 g).take j).foldl aQ R
def F3(f0 g:Fo)(R:List Fo)(j:Nat):List Int:=((nxD f0 g).take j).map fun x=>(idx (N9 f0 g R j) x:Int)
theorem q6a(f0 g:Fo)(R:List Fo):N9 f0 g R 0=R/\F3 f0 g R 0=[]:=⟨rfl,rfl⟩
theorem q7R(f0 g:Fo)(R:List Fo):N9 f0 g R (d8 (gA f0)).length=oJ f0 g R/\F3 f0 g R (d8 (gA f0)).length=q1j f0 (oJ f0 g R) g:=by
 have h:(nxD f0 g).take (d8 (gA f0)).length=nxD f0 g:=qG (by rw[tP];exact qb _);unfold F3 N9 q1j oJ;rw[h];exact⟨rfl,rfl⟩
theorem q1B{f0 g:Fo}{j:Nat}(hj:j<(d8 (gA f0)).length):(nxD f0 g).getD j .nil=eM ((d8 (gA f0)).getD j 0) g:=by
 unfold nxD;generalize d8 (gA f0)=l at*;simp[List.getD,hj]
theorem q6b{f0 g:Fo}{R:List Fo}{j:Nat}(hj:j<(d8 (gA f0)).length):
  N9 f0 g R (j+1)=aQ (N9 f0 g R j) (eM ((d8 (gA f0)).getD j 0) g)/\F3 f0 g R (j+1)=F3 f0 g R j++[(idx (N9 f0 g R (j+1)) (eM ((d8 (gA f0)).getD j 0) g):Int)]:=by
 have hl:j<(nxD f0 g).length:=by rw[tP];exact hj
 have ht:=aV (nxD f0 g) j .nil hl;rw[q1B hj]at ht
 have h1:N9 f0 g R (j+1)=aQ (N9 f0 g R j) (eM ((d8 (gA f0)).getD j 0) g):=by
  unfold N9;rw[ht,qZ]
  rfl
 refine⟨h1,?_⟩;unfold F3;rw[ht,qH];refine j0 (· ++_) (List.map_congr_left fun x hx=>?_);have hm:x∈N9 f0 g R j:=kS hx;rw[h1];unfold aQ;split
 ·rfl
 rw[cD hm]
def SmD(f0 g:Fo)(j:Nat):Prop:=∀x∈(nxD f0 g).take j,fH x=true
theorem q7S(f0 g:Fo):SmD f0 g 0:=fun x hx=>by cases hx
theorem q7T{f0 g:Fo}{j:Nat}(h:SmD f0 g j)(hj:j<(d8 (gA f0)).length)(hs:fH (eM ((d8 (gA f0)).getD j 0) g)=true):SmD f0 g (j+1):=by
 have ht:=aV (nxD f0 g) j .nil (by rw[tP];exact hj);rw[q1B hj]at ht;intro x hx;rw[ht]at hx;rcases List.mem_append.1 hx with h1|h1
 ·exact h x h1
 rw[List.mem_singleton.1 h1];exact hs
theorem q9F{f0 g:Fo}(h:SmD f0 g (d8 (gA f0)).length):q6M f0 g=true:=by
 unfold SmD at h;rw[qG (by rw[tP];exact qb _)]at h;exact List.all_eq_true.2 h
theorem q9G{f0 g:Fo}{j:Nat}(hj:j<(d8 (gA f0)).length)(hs:fH (eM ((d8 (gA f0)).getD j 0) g)=false):q6M f0 g=false:=by
 have hm:eM ((d8 (gA f0)).getD j 0) g∈nxD f0 g:=by
  rw[<-q1B hj];exact cE _ _ _ (by rw[tP];exact hj)
 cases h:q6M f0 g with
 |false=>rfl
 |true=>have:=List.all_eq_true.1 h _ hm;rw[hs]at this;exact this.symm
theorem q7U(f0 g:Fo)(R:List Fo)(j:Nat):(N9 f0 g R j).length<=R.length+j:=by
 have:∀(l K:List Fo),(l.foldl aQ K).length<=K.length+l.length:=by
  intro l
  induction l with
  |nil=>intro K;exact qb _
  |cons a l ih=>
   intro K;rw[qL];have h1:=ih (aQ K a);have h2:(aQ K a).length<=K.length+1:=by unfold aQ;split<;>simp
   rw[qA];omega
 have h1:=this ((nxD f0 g).take j) R;unfold N9;rw[qX]at h1;omega
theorem q7V(f0 g:Fo)(R:List Fo)(j:Nat):∃k,N9 f0 g R j=R++k:=bP _ R
theorem vW:∀{f:Fo},fH f=true->szF f<=400*cnt f
 |.nil,_=>qb _
 |.cons x k r,h=>by
  rw[fH,qK,jn]at h;have:=vW h.2;rw[szF,cnt];omega
end Go.Cm
namespace Go.Cm
open Go.RowKit Go.Proofs Go.Maps
def MkF(q m:Nat)(lv:Value)(vs:List Value)(k:Nat):Prop:=k=q\/k=m\/¬eG.free lv vs (some k)
def DbF(g:Nat)(nv:Value)(nvs:List Value)(rv:Value)(k:Nat):Prop:=k=g\/rv.ownBlock=some k\/¬eG.free nv nvs (some k)
section
variable {S S' : Nat → Prop} {w w1 : World} {B E E' : Nat} {v : Value} {vs : List Value} {ll : List (List Value)}
theorem eG.gw(h:eG w B E E' v vs ll)(hg:Gw S w S' w1)(hs:∀k,S k->eG.free v vs (some k)):eG w1 B E E' v vs ll:=
 ⟨hg.own h.outer (fun k hk hS=>(hs k hS).1 k hk rfl),h.len,fun i hi=>hg.own (h.rows i hi) (fun k hk hS=>(hs k hS).2 i (by rw[h.len];exact hi) k hk rfl),h.apart,h.off⟩
theorem eG.blkF(h:eG w B E E' v vs ll){k:Nat}(hk:¬eG.free v vs (some k)):B<=k/\k<w.heap.size:=by
 refine⟨qi fun h1=>hk (h.free_below (by omega)),qi fun h1=>hk (h.free_new (by omega))⟩
theorem eS.gw{α:Type} [DecidableEq α]{P:Program}{K T:TypeId}{lit:α->Lit}{b:Nat}{ks:List α}(h:eS P K T lit w b ks)(hg:Gw S w S' w1)(hn:¬S b):eS P K T lit w1 b ks:=by
 obtain⟨D,h1,h2⟩:=h;have hlt:=h1.lt;obtain⟨es,clock,hb,rest⟩:=h1;exact⟨D,⟨es,clock,(hg.blk hlt hn).trans hb,rest⟩,h2⟩
theorem pL{k:Nat}{P:Prop}(h:P->False)(hf:¬eG.free v vs (some k)->P):eG.free v vs (some k):=qi fun h1=>h (hf h1)
end
section
variable {S S' : Nat → Prop} {w w1 w2 : World} {B q m : Nat} {ve vr : Value} {F : Int} {lv : Value} {vs : List Value} {R : List (List Nat)}
theorem MkN.gw(h:MkN w B q m ve vr F lv vs R)(hg:Gw S w S' w1)(hs:∀k,S k->¬MkF q m lv vs k):MkN w1 B q m ve vr F lv vs R:=
 ⟨hg.own h.box (fun k hk hS=>hs k hS (.inl (by injection hk with hk;exact hk.symm))),h.lists.gw hg (fun k hS=>pL (hs k hS) fun hf=>.inr (.inr hf)),h.map.gw hg (fun hS=>hs m hS (.inr (.inl rfl))),h.mB,h.qm,h.offQ,h.offM⟩
theorem MkN.ltF(h:MkN w B q m ve vr F lv vs R):∀k,MkF q m lv vs k->B<=k/\k<w.heap.size:=fun k hk=>by
 rcases hk with rfl|rfl|hk
 ·exact h.box.lt _ rfl
 ·exact⟨h.mB,h.map.lt⟩
 exact h.lists.blkF hk
theorem q6c{k:Nat}(h:wG q m lv k):MkF q m lv vs k:=by
 rcases h with rfl|rfl|h
 ·exact .inl rfl
 ·exact .inr (.inl rfl)
 exact .inr (.inr fun hf=>hf.1 k h rfl)
end
structure DbN(w:World)(B g:Nat)(nv:Value)(nvs:List Value)(rv:Value)(cl:List Int)(rows:List (List Int))(rules:List Int):Prop where
 box:mY w g nv rv cl
 gB:B<=g
 rows:eG w B 27 3 nv nvs (rows.map ints)
 rls:Own w B 3 rv (ints rules)
 fg:eG.free nv nvs (some g)
 rg:rv.ownBlock≠some g
 fr:eG.free nv nvs rv.ownBlock
section
variable {S S' : Nat → Prop} {w w1 w2 : World} {B g : Nat} {nv rv v' : Value} {nvs : List Value} {cl : List Int} {rows : List (List Int)} {rules : List Int}
theorem DbN.gw(h:DbN w B g nv nvs rv cl rows rules)(hg:Gw S w S' w1)(hs:∀k,S k->¬DbF g nv nvs rv k):DbN w1 B g nv nvs rv cl rows rules:=
 ⟨⟨hg.own h.box.own (fun k hk hS=>hs k hS (.inl (by injection hk with hk;exact hk.symm))),h.box.len⟩,h.gB,h.rows.gw hg (fun k hS=>pL (hs k hS) fun hf=>.inr (.inr hf)),hg.own h.rls (fun k hk hS=>hs k hS (.inr (.inl hk))),h.fg,h.rg,h.fr⟩
theorem DbN.up(h:DbN w B g nv nvs rv cl rows rules)(hb:Below w.heap.size w w1):DbN w1 B g nv nvs rv cl rows rules:=h.gw (d7 (fun _=>False) hb) (fun _ hf=>hf.elim)
theorem DbN.ltF(h:DbN w B g nv nvs rv cl rows rules):∀k,DbF g nv nvs rv k->B<=k/\k<w.heap.size:=fun k hk=>by
 rcases hk with rfl|hk|hk
 ·exact⟨h.gB,h.box.lt⟩
 ·exact h.rls.lt k hk
 exact h.rows.blkF hk
theorem free_push{x:Value}{k n:Nat}(h:eG.free nv nvs (some k))(hx:x.ownBlock≠some k)(hk:∀j,v'.ownBlock=some j->nv.ownBlock=some j\/n<=j)(hn:k<n):eG.free v' (nvs++[x]) (some k):=vL h hx hk hn
theorem DbN.pushRow(h:DbN w B g nv nvs rv cl rows rules){row:Value}{x:List Int}(hr:Own w B 3 row (ints x))(hf:∀k,row.ownBlock=some k->¬DbF g nv nvs rv k)(hb:Below w.heap.size w w1)(ho:Own w2 B 27 v' (nvs++[row]))(hg:w1.grownBy w2 nv.ownBlock)(hk:∀k,v'.ownBlock=some k->nv.ownBlock=some k\/w1.heap.size<=k):
  DbN (w2.setCell ⟨g,256,none⟩ v') B g v' (nvs++[row]) rv cl (rows++[x]) rules/\Gw (fun k=>DbF g nv nvs rv k\/row.ownBlock=some k) w (DbF g v' (nvs++[row]) rv) (w2.setCell ⟨g,256,none⟩ v'):=by
 have hgl:=h.box.lt;have hs1:=hb.size
 have hrow:eG.free nv nvs row.ownBlock:=by
  cases hro:row.ownBlock with
  |none=>exact eG.free_none
  |some k=>exact pL (hf k hro) fun hf=>.inr (.inr hf)
 have hp:=h.rows.push hr hrow (aK hb none) ho hg hk;have hrg:row.ownBlock≠some g:=fun e=>hf g e (.inl rfl);have hng:nv.ownBlock≠some g:=fun e=>h.fg.1 g e rfl;have hgf:=free_push h.fg hrg hk (by omega);have hbx:=(h.box.up hb).keep hg hng;have hst:=hbx.setN v'
 have qjN:=(h.rls.up hb).keep hg (by
  cases hro:rv.ownBlock with
  |none=>exact .inl rfl
  |some k=>exact .inr (fun e=>by have:=h.fr.1 k e.symm;exact this hro))
 have qjK:∀k,rv.ownBlock=some k->k<w.heap.size:=fun k hk=>(h.rls.lt k hk).2
 refine⟨⟨hst.1,h.gB,?_,qjN.keep hst.2 (by
  cases hro:rv.ownBlock with
  |none=>exact .inl rfl
  |some k=>exact .inr (fun e=>h.rg (by rw[hro];exact e))),hgf,h.rg,?_⟩,?_⟩
 ·rw[qH]
  exact hp.keep' hst.2 hgf
 ·cases hro:rv.ownBlock with
  |none=>exact eG.free_none
  |some k=>
   have h1:=h.fr;rw[hro]at h1;exact free_push h1 (fun e=>hf k e (.inr (.inl hro))) hk (by have:=qjK k hro;omega)
 have g1:Gw (fun k=>DbF g nv nvs rv k\/row.ownBlock=some k) w (fun k=>DbF g nv nvs rv k\/row.ownBlock=some k) w1:=d7 _ hb
 have g2:Gw (fun k=>DbF g nv nvs rv k\/row.ownBlock=some k) w1 (DbF g v' (nvs++[row]) rv) w2:=dQ hg (fun k hk=>.inl (.inr (.inr (fun e=>e.1 k hk rfl)))) (fun k hk2=>by
  rcases hk2 with h2|h2|h2
  ·exact .inl (.inl (.inl h2))
  ·exact .inl (.inl (.inr (.inl h2)))
  by_cases hlt:k<w1.heap.size
  ·refine .inl (qi fun h3=>h2 (free_push ?_ (fun e=>h3 (.inr e)) hk hlt))
   exact qi fun h4=>h3 (.inl (.inr (.inr h4)))
  exact .inr (by omega))
 exact(g1.trans g2).trans (dQ hst.2 (fun k hk=>.inl (by injection hk with hk;exact hk.symm)) (fun k hk=>.inl hk))
theorem DbN.pushRule(h:DbN w B g nv nvs rv cl rows rules){x:Int}(hb:Below w.heap.size w w1)(ho:Own w2 B 3 v' (ints (rules++[x])))(hg:w1.grownBy w2 rv.ownBlock)(hk:∀k,v'.ownBlock=some k->rv.ownBlock=some k\/w1.heap.size<=k):
  DbN (w2.setCell ⟨g,257,none⟩ v') B g nv nvs v' cl rows (rules++[x])/\Gw (DbF g nv nvs rv) w (DbF g nv nvs v') (w2.setCell ⟨g,257,none⟩ v'):=by
 have hgl:=h.box.lt;have hs1:=hb.size
 have hvg:v'.ownBlock≠some g:=fun e=>by
  rcases hk g e with h1|h1
  ·exact h.rg h1
  omega
 have hbx:=(h.box.up hb).keep hg h.rg;have hst:=hbx.setR v'
 have hfv:eG.free nv nvs v'.ownBlock:=by
  cases hro:v'.ownBlock with
  |none=>exact eG.free_none
  |some k=>
   rcases hk k hro with h1|h1
   ·have:=h.fr;rwa [h1]at this
   exact h.rows.free_new (by omega)
 refine⟨⟨hst.1,h.gB,((h.rows.up hb).keep' hg h.fr).keep' hst.2 h.fg,ho.keep hst.2 (by
  cases hro:v'.ownBlock with
  |none=>exact .inl rfl
  |some k=>exact .inr (fun e=>hvg (by rw[hro];exact e))),h.fg,hvg,hfv⟩,?_⟩
 have g1:Gw (DbF g nv nvs rv) w (DbF g nv nvs rv) w1:=d7 _ hb
 have g2:Gw (DbF g nv nvs rv) w1 (DbF g nv nvs v') w2:=dQ hg (fun k hk=>.inr (.inl hk)) (fun k hk2=>by
  rcases hk2 with h2|h2|h2
  ·exact .inl (.inl h2)
  ·rcases hk k h2 with h3|h3
   ·exact .inl (.inr (.inl h3))
   exact .inr h3
  exact .inl (.inr (.inr h2)))
 exact(g1.trans g2).trans (dQ hst.2 (fun k hk=>.inl (by injection hk with hk;exact hk.symm)) (fun k hk=>.inl hk))
end
end Go.Cm
namespace Go.Cm
open Go.RowKit Go.Proofs Go.Maps
structure nU(w:World)(B q m:Nat)(ve vr:Value)(F:Int)(lv:Value)(vs:List Value)(R:List (List Nat))(g:Nat)(nv:Value)(nvs:List Value)(rv:Value)(cl:List Int)(rows:List (List Int))(rules:List Int):Prop where
 mkr:MkN w B q m ve vr F lv vs R
 db:DbN w B g nv nvs rv cl rows rules
 ap:∀k,MkF q m lv vs k->¬DbF g nv nvs rv k
section
variable {w w1 w2 w7 w8 : World} {B q m g : Nat} {ve vr lv lv' nv rv v' : Value} {F : Int} {vs vs' nvs : List Value} {R R' : List (List Nat)} {cl : List Int} {rows : List (List Int)} {rules : List Int}
theorem nU.up(h:nU w B q m ve vr F lv vs R g nv nvs rv cl rows rules)(hb:Below w.heap.size w w1):nU w1 B q m ve vr F lv vs R g nv nvs rv cl rows rules:=⟨h.mkr.up hb,h.db.up hb,h.ap⟩
theorem nU.gw{S S':Nat->Prop}(h:nU w B q m ve vr F lv vs R g nv nvs rv cl rows rules)(hg:Gw S w S' w1)(h1:∀k,S k->¬MkF q m lv vs k)(h2:∀k,S k->¬DbF g nv nvs rv k):nU w1 B q m ve vr F lv vs R g nv nvs rv cl rows rules:=⟨h.mkr.gw hg h1,h.db.gw hg h2,h.ap⟩
theorem nU.num(h:nU w B q m ve vr F lv vs R g nv nvs rv cl rows rules)(hb:Below w.heap.size w w7)(hm:MkN w8 B q m ve vr F lv' vs' R')(hg:Gw (wG q m lv) w7 (wG q m lv') w8)(hf:∀k,k<w.heap.size->eG.free lv vs (some k)->eG.free lv' vs' (some k)):
  nU w8 B q m ve vr F lv' vs' R' g nv nvs rv cl rows rules/\∀k,k<w.heap.size->¬MkF q m lv vs k->¬MkF q m lv' vs' k:=by
 have hk:∀k,k<w.heap.size->¬MkF q m lv vs k->¬MkF q m lv' vs' k:=fun k hk hn h1=>by
  rcases h1 with rfl|rfl|h1
  ·exact hn (.inl rfl)
  ·exact hn (.inr (.inl rfl))
  exact h1 (hf k hk (pL hn fun hf=>.inr (.inr hf)))
 exact⟨⟨hm,(h.db.up hb).gw hg (fun k hk=>h.ap k (q6c hk)),fun k h1 h2=>hk k (h.db.ltF k h2).2 (fun h3=>h.ap k h3 h2) h1⟩,hk⟩
theorem nU.pushRow(h:nU w B q m ve vr F lv vs R g nv nvs rv cl rows rules){row:Value}{x:List Int}(hr:Own w B 3 row (ints x))(hf:∀k,row.ownBlock=some k->¬DbF g nv nvs rv k/\¬MkF q m lv vs k)(hb:Below w.heap.size w w1)(ho:Own w2 B 27 v' (nvs++[row]))(hg:w1.grownBy w2 nv.ownBlock)(hk:∀k,v'.ownBlock=some k->nv.ownBlock=some k\/w1.heap.size<=k):
  nU (w2.setCell ⟨g,256,none⟩ v') B q m ve vr F lv vs R g v' (nvs++[row]) rv cl (rows++[x]) rules/\Below B w (w2.setCell ⟨g,256,none⟩ v'):=by
 obtain⟨h1,h2⟩:=h.db.pushRow hr (fun k hk=>(hf k hk).1) hb ho hg hk;have hB:∀k,(DbF g nv nvs rv k\/row.ownBlock=some k)->B<=k/\k<w.heap.size:=fun k hk=>hk.elim (h.db.ltF k) (hr.lt k);refine⟨⟨h.mkr.gw h2 (fun k hk hm=>hk.elim (h.ap k hm) (fun e=>(hf k e).2 hm)),h1,fun k hm hd=>?_⟩,h2.below (by have:=(h.db.ltF g (.inl rfl));omega) fun k hk=>(hB k hk).1⟩;rcases h2.sub k hd with h3|h3
 ·rcases h3 with h3|h3
  ·exact h.ap k hm h3
  exact(hf k h3).2 hm
 have:=(h.mkr.ltF k hm).2;omega
theorem nU.pushRule(h:nU w B q m ve vr F lv vs R g nv nvs rv cl rows rules){x:Int}(hb:Below w.heap.size w w1)(ho:Own w2 B 3 v' (ints (rules++[x])))(hg:w1.grownBy w2 rv.ownBlock)(hk:∀k,v'.ownBlock=some k->rv.ownBlock=some k\/w1.heap.size<=k):
  nU (w2.setCell ⟨g,257,none⟩ v') B q m ve vr F lv vs R g nv nvs v' cl rows (rules++[x])/\Below B w (w2.setCell ⟨g,257,none⟩ v'):=by
 obtain⟨h1,h2⟩:=h.db.pushRule hb ho hg hk;refine⟨⟨h.mkr.gw h2 (fun k hk hm=>h.ap k hm hk),h1,fun k hm hd=>?_⟩,h2.below (by have:=(h.db.ltF g (.inl rfl));omega) fun k hk=>(h.db.ltF k hk).1⟩;rcases h2.sub k hd with h3|h3
 ·exact h.ap k hm h3
 have:=(h.mkr.ltF k hm).2;omega
theorem nU.row(h:nU w B q m ve vr F lv vs R g nv nvs rv cl rows rules){br:Nat}(h1:¬MkF q m lv vs br)(h2:¬DbF g nv nvs rv br)(i:Nat)(u:Value)(hg:w.grownBy (w.setCell ⟨br,i,none⟩ u) (some br)):nU (w.setCell ⟨br,i,none⟩ u) B q m ve vr F lv vs R g nv nvs rv cl rows rules:=
 h.gw (dQ (S:=fun k=>k=br) (S':=fun k=>k=br) hg (fun k hk=>by injection hk with hk;exact hk.symm) (fun _ hk=>.inl hk)) (fun _ hk=>hk▸h1) (fun _ hk=>hk▸h2)
end
theorem q7W(c:List Value):∀(k:Nat) (A:Array Value),k+c.length<=A.size->((c.zipIdx k).foldl (fun cs x=>cs.setIfInBounds (0+x.2) x.1) A).toList=A.toList.take k++c++A.toList.drop (k+c.length):=by
 induction c with
 |nil=>intro k A _;simp
 |cons a c ih=>
  intro k A h;rw[qA]at h;rw[List.zipIdx_cons,qL,ih (k+1) _ (by simp;omega)];rw[qI,Array.toList_setIfInBounds];have hk:k<A.toList.length:=by simp;omega
  have h1:(A.toList.set k a).take (k+1)=A.toList.take k++[a]:=by
   rw[qM (by simpa using hk),List.take_set_of_le (qb _)];simp
  have h2:(A.toList.set k a).drop (k+1+c.length)=A.toList.drop (k+(a::c).length):=by
   rw[List.drop_set_of_lt (by omega),qA,show k+1+c.length=k+(c.length+1) by omega]
  rw[h1,h2];simp
theorem q6d(v:Value):prog.built 29 [(0,v)]=Instr.fill (fun i=>#[(0,256),(256,1),(257,1)][i]?) X7 [(0,v)]:=by kernel_rfl
theorem q0w(cl:List Int)(hl:cl.length=256):∃D:Array Value,(∀W:World,(Instr.build 29 #[(0,.agg (ints cl).toArray)]).run prog W=.ok (.agg D) W)/\D.toList=ints cl++[.slice none 0 0,.slice none 0 0]:=by
 obtain⟨D,hD⟩:∃D,D=(((ints cl).toArray.zipIdx).foldl (fun cs x=>cs.setIfInBounds (0+x.2) x.1) X7):=⟨_,rfl⟩;have hs:(ints cl).toArray.size=256:=by simp[hl]
 refine⟨D,fun W=>run_build W 29 _ D ?_,?_⟩
 ·show prog.built 29 [(0,.agg (ints cl).toArray)]=some D
  rw[q6d];have hz:=vT;generalize X7=Z at*;unfold Instr.fill;have hc:(Value.agg (ints cl).toArray).cells=(ints cl).toArray:=rfl;simp only[hc,hs,hz,hD]
  rfl
 have h1:=q7W (ints cl) 0 X7 (by rw[vT,aS,hl];decide);rw[hD]
 have e1:(((ints cl).toArray.zipIdx).foldl (fun cs x=>cs.setIfInBounds (0+x.2) x.1) X7)=((ints cl).zipIdx 0).foldl (fun cs x=>cs.setIfInBounds (0+x.2) x.1) X7:=by
  generalize X7=Z;simp
 rw[e1,h1,mT,qI,aS,hl];have h3:(ints (List.replicate 256 0)).length=256:=by rw[aS,qP]
 rw[List.drop_append_of_le_length (by rw[h3];exact qb _),jp (by rw[h3];exact qb _)]
 rfl
theorem oN{P:Program}{ops:Array Oper}{rest:List Oper}{o:Oper}{a:Act}{w:World}{Q:Exit->Act->World->Prop}(hgd:o.guard=none)(t:TypeId)(F:Array (Nat×Operand))(ho:o.op=.build t F)
  (G:Array (Nat×Value)) (hG:(F.map fun(i,x)=>(i,a.eval x))=G) (C:Array Value) (hb:∀W,(Instr.build t G).run P W=.ok (.agg C) W)
  (h:wpList P ops Q rest (a.put o.dst (.agg C)) w):wpList P ops Q (o::rest) a w:=by
 subst hG;refine wpList_plain hgd fun K hK=>?_;unfold Oper.wp execOp;simp only[ho,Sem.run_bind,hb,Result.andThen_ok];exact hK _ _ h
end Go.Cm
namespace Go.Cm
open Go.RowKit Go.Proofs
theorem q0D{w:World}{A:Array Value}{d:Dfa}(h:q1z w A d):∃vn vr,A.toList=ints d.cls++[vn,vr]/\vn.oneCell'=true/\vr.oneCell'=true:=by
 obtain⟨hs,hl,hc,⟨vn,hn,hrw⟩,⟨vr,hr,hru⟩⟩:=h;obtain⟨oa,cap,b,off,rfl,-,-⟩:=hrw.open;obtain⟨oq,capq,bq,offq,rfl,-,-⟩:=hru.open;refine⟨.slice oa d.next.length cap,.slice oq d.rules.length capq,?_,rfl,rfl⟩;apply List.ext_getElem?;intro i;have qgQ:(ints d.cls).length=256:=by rw[aS,hl]
 rw[j9];rcases jR i 256 with h|h
 ·rw[hc i h,qW (by omega)]
  simp[ints,List.getD,hl,h]
 rw[ji (by omega),qgQ];rcases jR i 258 with h2|h2
 ·obtain rfl|rfl:i=256\/i=257:=by omega
  ·rw[hn];rfl
  rw[hr];rfl
 rw[qQ (by simp;omega),jw (by omega)]
theorem oO{ops:Array Oper}{rest:List Oper}{o:Oper}{a:Act}{w w0:World}{Q:Exit->Act->World->Prop}(hgd:o.guard=none)(x y:Operand)(ho:o.op=.store 29 x y)
  (g:Nat) (hx:a.eval x=.pointer (some ⟨g,0,none⟩)) (C:Array Value) (hy:a.eval y=.agg C) {d:Dfa} (hC:q1z w0 C d) {nv rv:Value} {cl:List Int} (hB:mY w g nv rv cl)
  (h:∀w',w'.heap[g]? =some (.cells C 29 (0,0))->w.grownBy w' (some g)->wpList prog ops Q rest (a.put o.dst undef) w'):wpList prog ops Q (o::rest) a w:=by
 obtain⟨vn,vr,hl,h1,h2⟩:=q0D hC;refine fL hgd x y ho g hx C hy hl hC.hlen h1 h2 hB fun w' hb hg=>h w' ?_ hg;obtain⟨A,hA,-,hAl⟩:=hb.open;rw[hA]
 have:A=C:=by
  cases A;cases C;simp only at hAl hl;rw[hAl,hl]
 rw[this]
theorem mU{o:Oper}{a:Act}{w:World}{K:Act->World->Prop}{Q:Exit->Act->World->Prop}(x:Operand)(ho:o.op=.load 29 x)(g:Nat)(hx:a.eval x=.pointer (some ⟨g,0,none⟩))(A:Array Value)(hs:A.size=258)
  (hg:w.heap[g]? =some (.cells A 29 (0,0))) (h:K (a.put o.dst (.agg A)) w):o.wp prog a w K Q:=by
 have hl:=dA (P:=prog) w g 0 258 29 29 A (0,0) _ hg underlying29 rfl (by kernel_rfl) (by rw[hs];decide);have e:A.extract 0 (0+258)=A:=by rw[qI,<-hs];simp
 rw[e]at hl;unfold Oper.wp execOp;simp only[ho,hx,Instr.loadAt,Instr.sureAddr,Sem.run_bind,Sem.run_pure,Result.andThen_ok,hl];exact h
theorem mY.at{w:World}{g g':Nat}{nv rv:Value}{cl:List Int}(h:mY w g nv rv cl)(e:g=g'):mY w g' nv rv cl:=e▸h
theorem q3K(d:Dfa):uT d d=true:=by simp[uT]
theorem q6v(v v':Value)(d:Dfa)(w:World)(h:mX w v d)(h':mX w v' d):
  Calls prog 10 #[v,v'] w fun e w'=>e=.returned (.bool true)/\∃x,w'=ext w x:=by
 have:=same v v' d d w h h';rwa [q3K]at this
def xL(w:World)(g:Nat)(A:Array Value)(d:Dfa):Prop:=w.heap[g]? =some (.cells A 29 (0,0))/\q1z w A d
theorem xL.up{w w':World}{g:Nat}{A:Array Value}{d:Dfa}(h:xL w g A d)(hb:Below w.heap.size w w'):xL w' g A d:=⟨(hb.block g (lt_of_block h.1)).trans h.1,h.2.up hb⟩
theorem xL.lt{w:World}{g:Nat}{A:Array Value}{d:Dfa}(h:xL w g A d):g<w.heap.size:=lt_of_block h.1
theorem xL.new{w w':World}{A Z:Array Value}{d:Dfa}(h:q1z w A d)(hg:w'.heap[w.heap.size]? =some (.cells A 29 (0,0)))(hgr:(w.alloc (.cells Z 29)).grownBy w' (some w.heap.size)):xL w' w.heap.size A d/\Below w.heap.size w w':=by
 have hb:Below w.heap.size w w':=(aD w (.cells Z 29)).grown hgr (by simp) (fun j hj=>by cases hj;exact qb _);exact⟨⟨hg,h.up hb⟩,hb⟩
end Go.Cm
namespace Go.Cm
open Go.RowKit Go.Proofs Go.Maps
def q41(l:List Nat):List Value:=l.map fun c:Nat=>.int .u8 (c:Int)
theorem q2V(l:List Nat):(q41 l).length=l.length:=qB _
theorem q82{l:List Nat}{k:Nat}(h:k<l.length):(q41 l).getD k undef=.int .u8 (l.getD k 0:Nat):=by simp[q41,List.getD,h]
theorem q83(l:List Nat)(k c:Nat):(q41 l).set k (.int .u8 (c:Int))=q41 (l.set k c):=by simp[q41,aC]
theorem q84(n:Nat):List.replicate n (Value.int .u8 0)=q41 (List.replicate n 0):=by simp[q41,List.map_replicate]
def q8O(e:List (List Ed))(F:Int)(r:List Int)(w:World)(en:Ending)(w':World):Prop:=
 ∃v,en=.returned (.tuple #[v,.int .i64 (q3Y e F r)])/\mX w' v (q51 e F r)/\Below w.heap.size w w'
theorem q85{w:World}{A:Array Value}{e:List (List Ed)}{F:Int}{r:List Int}(h:X4 w A e F r)(hw:∀a x,x∈Row e a->EdW x)(ht:tot e<=1000000):
  Calls prog 8 #[.agg A] w (q8O e F r w):=by
 have HH:=qa h;obtain⟨ve,vr,rfl,he,hr⟩:=h;obtain⟨oe,ce,be,fe,rfl,-,-⟩:=he.open;obtain⟨orr,cr,br,fr,rfl,-,-⟩:=hr.open;obtain⟨n,hn⟩:∃n,n=e.length:=⟨_,rfl⟩;obtain⟨m,hm⟩:∃m,m=r.length:=⟨_,rfl⟩;rw[<-hn,<-hm]at HH⊢;have hz:=vS;have hzc:=zF;obtain⟨ZC,hZC⟩:∃ZC,ZC=q8H:=⟨_,rfl⟩;rw[<-hZC]at hzc;have HBZ:Hid (∀w:World,sU (w.alloc (.cells ZC 25)) 25 256 w.heap.size (List.replicate 256 0)):=qa (fun w=>qa5 w ZC hZC);have hbd:=F2;obtain⟨Z,hZ⟩:∃Z,Z=X7:=⟨_,rfl⟩;rw[<-hZ]at hz hbd;have HBW:Hid (∀w:World,mY (w.alloc (.cells Z 29)) w.heap.size (.slice none 0 0) (.slice none 0 0) (List.replicate 256 0)):=qa (fun w=>by rw[hZ];exact tR w);have HZL:Hid (Z.toList=ints (List.replicate 256 0)++[Value.slice none 0 0,Value.slice none 0 0]):=qa (by rw[hZ];exact mT);have hsA:(w.alloc (.cells #[.slice oe n ce,.int .i64 F,.slice orr m cr] 35)).heap.size=w.heap.size+1:=by simp
 have hbx:Own (w.alloc (.cells #[.slice oe n ce,.int .i64 F,.slice orr m cr] 35)) 0 35 (.slice (some ⟨w.heap.size,0,none⟩) 3 3) [.slice oe n ce,.int .i64 F,.slice orr m cr]:=by simpa using cN w 0 #[.slice oe n ce,.int .i64 F,.slice orr m cr] 35 (by simp) (qd _)
 have hb1:=tR (w.alloc (.cells #[.slice oe n ce,.int .i64 F,.slice orr m cr] 35));rw[hsA,<-hZ]at hb1;have HB1:=qa hb1;have HBX:=qa (hbx.up (aD _ (.cells Z 29)));have HA:Hid (Below w.heap.size w ((w.alloc (.cells #[.slice oe n ce,.int .i64 F,.slice orr m cr] 35)).alloc (.cells Z 29))):=qa aO;have hs3:((w.alloc (.cells #[.slice oe n ce,.int .i64 F,.slice orr m cr] 35)).alloc (.cells Z 29)).heap.size=w.heap.size+2:=by simp
 have HCL:=qa (q7M (HH.o.up HA.o) hw ht);unfold q5N at HCL;have HBN:=qa (q0w (q3w e F r) (q2D e F r));have HCN:Hid ((dK e F r=true->q3w e F r=i7 e/\q5M e F r=(aY e).length)/\(dK e F r=false->q5M e F r=0)):=qa ⟨fun h=>⟨by unfold q3w;rw[qw h],by unfold q5M;rw[qw h]⟩,fun h=>by unfold q5M;rw[qv (by rw[h];decide)]⟩;have qe3:Hid ((q3w e F r).length=256):=qa (q2D e F r);obtain⟨CO,hCO⟩:∃CO,CO=q3w e F r:=⟨_,rfl⟩;obtain⟨KO,hKO⟩:∃KO,KO=q5M e F r:=⟨_,rfl⟩;rw[<-hCO,<-hKO]at HCN HCL;rw[<-hCO]at HBN qe3;clear he hr hn hm hbx hb1 hsA hZ hZC hw ht hCO hKO;by_cases hrt:dK e F r=true
 ·obtain⟨h1,h2⟩:=HCN.o.1 hrt
  have hK1:1<=KO:=by rw[h2];exact q3m _
  have hK2:KO<=256:=by rw[h2];exact oI _
  have HKO:=qa h2;have HCO:=qa h1;have HRT:=qa hrt;have hk0:((KO:Int)==0)=false:=by simp;omega
  have qlX:decide ((KO:Int)=0)=false:=by simp;omega
  have hmk:∀W:World,(Instr.makeSlice 58 (.int .i64 KO) (.int .i64 KO)).run prog W=.ok (.slice (some ⟨W.heap.size,0,none⟩) KO KO) (W.alloc (.cells (madeCells #[Value.int .u8 0] KO) 5)):=J8 (P:=prog) 58 5 (.int .u8 0) 1 KO underlying58 (by kernel_rfl) rfl (by decide) (by omega);have HBD:=qa hbd;clear HCN h1 h2 hrt hbd;go_enter func8,ntmps8
  go_upto_region 6 with(first
   |(refine aH rfl 35 _ rfl w.heap.size 0 3 rfl _ _ (pR HBX.o) rfl underlying35 rfl (by kernel_rfl) ?_)
   |((with_reducible go_at_call 26);refine HCL.o.mono ?_;rintro en w1 ⟨rfl,hb1⟩;have HE1:=qa (hb1.trans ((aD w1 (.cells ZC 25)).mono hb1.size));have hs1:=hb1.size;clear hb1)
   |(refine iB rfl 25 256 _ _ rfl w1.heap.size rfl _ CO rfl qe3.o (by kernel_rfl) (HBZ.o w1) ?_;intro w2 hb2 hg2;have HB2:=qa hb2;have HE2:=qa (HE1.o.grown hg2 HE1.o.size (fun k hk=>by cases hk;exact hs1));clear hb2 hg2))
  have HAW:=qa (HA.o.trans (HE2.o.mono HA.o.size));have qcY:=qa (HB1.o.up HE2.o);have qcP:=qa (HBX.o.up HE2.o);have hs2:=HE2.o.size;rw[hs3]at hs1 hs2;have hp4:w1.heap.size<w2.heap.size:=HB2.o.lt;have hl3:Below w2.heap.size w2 (w2.alloc (.cells (madeCells #[Value.int .u8 0] KO) 5)):=aD _ _;have qhC:=qa (HAW.o.trans (hl3.mono (by omega)));have qjA:=qa (qcY.o.up hl3);have qjq:=qa (qcP.o.up hl3);have qgi:=qa (HB2.o.up hl3);have HOF:=qa (yR w2 w2.heap.size 5 (.int .u8 0) KO (qb _) (by omega));rw[q84]at HOF;have hs4:(w2.alloc (.cells (madeCells #[Value.int .u8 0] KO) 5)).heap.size=w2.heap.size+1:=by simp
  clear HE1 HE2 HB1 HBX qcY qcP HAW HA hl3 HCL HBZ hmk hzc hs3 HB2;generalize (w2.alloc (.cells (madeCells #[Value.int .u8 0] KO) 5))=w3 at*;obtain⟨pf,hpf⟩:∃pf,pf=w2.heap.size:=⟨_,rfl⟩;obtain⟨p4,qhX⟩:∃p4,p4=w1.heap.size:=⟨_,rfl⟩;rw[<-hpf]at HOF⊢;rw[<-qhX]at qgi⊢;have HPO:Hid (w.heap.size+2<=p4/\p4<pf/\pf<w3.heap.size):=qa (by omega);clear hpf qhX hs1 hs2 hs4 hp4;have HFZ:Hid (xJ e 256 (List.replicate KO 0)):=qa (by rw[HKO.o];exact J2 e)
  go_loopg [7] 256 (fun gk iv wr=>∃(c:Nat) (l:List Nat),iv=.int .i64 ((c:Int)-1)/\c<=256/\Own wr pf 5 (.slice (some ⟨pf,0,none⟩) KO KO) (q41 l)/\xJ e c l/\w3.grownBy wr (some pf)/\gk=c)
  case atStart=>exact⟨256,_,rfl,qb _,HOF.o,HFZ.o,dL _ _,rfl⟩
  case round=>
   obtain⟨c,l,rfl,hc,hown,hfo,hgr,rfl⟩:=hrel;have HOW:=qa hown;have HFO:=qa hfo;have HG:=qa hgr;clear hown hfo hgr HOF HFZ;cases gk with
   |zero=>
    rw[show((0:Nat):Int)-1= -1 from rfl];have hle:=q65 HFO.o;have HOF:=HOW;rw[hle]at HOF;have qjx:=qa (qgi.o.keep HG.o (by intro hh;injection hh with hh;have:=HPO.o;omega));have qeG:=qa (qjq.o.keep HG.o (.inr (by intro hh;simp[Value.ownBlock]at hh;have:=HPO.o;omega)));have qjz:=qa (qjA.o.keep HG.o (by intro hh;injection hh with hh;have:=HPO.o;omega));have qgl:=qa (qhC.o.grown HG.o qhC.o.size (fun k hk=>by injection hk with hk;have:=HPO.o;omega));have HP4:Hid (w.heap.size+2<=p4/\p4<pf/\pf<wr.heap.size):=qa (by have:=HPO.o;have:=HG.o.size;omega);have hmm:=@run_makeMap prog;clear hle HOW HFO hc qgi qjq qjA qhC HPO HG l;obtain⟨w4,rfl⟩:∃w4:World,w4=wr:=⟨_,rfl⟩;have qiW:=qa (HH.o.up qgl.o)
    go_upto_region 10 with(refine aH rfl 35 _ rfl w.heap.size 0 3 rfl _ _ (pR qeG.o) rfl underlying35 rfl (by kernel_rfl) ?_)
    have HFR:Hid (∀x,Below w4.heap.size w4 x->Below w.heap.size w x):=qa (fun x hx=>qgl.o.trans (hx.mono qgl.o.size));have HNV:Hid (∀x,Below w4.heap.size w4 x->X4 x #[.slice oe n ce,.int .i64 F,.slice orr m cr] e F r):=qa (fun x hx=>qiW.o.up hx);have HXC:Hid (∀x,Below w4.heap.size w4 x->∀c,c<3->x.cell? ⟨w.heap.size,0+c,none⟩=some ((#[.slice oe n ce,.int .i64 F,.slice orr m cr]:Array Value).getD c undef)):=qa (fun x hx=>pR (qeG.o.up hx));have HR1:Hid (∀x,Below w4.heap.size w4 x->mY x (w.heap.size+1) (.slice none 0 0) (.slice none 0 0) (List.replicate 256 0)):=qa (fun x hx=>qjz.o.up hx);have HC4:Hid (∀x,Below w4.heap.size w4 x->sU x 25 256 p4 CO):=qa (fun x hx=>qjx.o.up hx)
    have HFI:Hid (∀x,Below w4.heap.size w4 x->∀k,k<KO->x.cell? ⟨pf,k,none⟩=some (.int .u8 ((aY e).getD k 0:Nat))):=qa (fun x hx k hk=>by
     have hl:(q41 (aY e)).length=KO:=by rw[q2V,HKO.o]
     rw[(HOF.o.up hx).cell (i:=k) (by omega),q82 (by rw[<-HKO.o];exact hk)])
    have HMK:Hid (MkN ((w4.alloc (.map #[] 0)).alloc (.cells #[.slice oe n ce,.int .i64 F,.slice orr m cr,.slice none 0 0,.map (some w4.heap.size)] 86)) w4.heap.size (w4.heap.size+1) w4.heap.size (.slice oe n ce) (.slice orr m cr) F (.slice none 0 0) [] []):=qa (by
     have h1:=cN (w4.alloc (.map #[] 0)) w4.heap.size #[.slice oe n ce,.int .i64 F,.slice orr m cr,.slice none 0 0,.map (some w4.heap.size)] 86 (by simp) (by simp);have h2:eS prog 9 3 qa4 (w4.alloc (.map #[] 0)) w4.heap.size (([]:List (List Nat)).map iA):=eS.made w4 qa4;have hs:(w4.alloc (.map #[] 0)).heap.size=w4.heap.size+1:=by simp
     rw[hs]at h1;exact⟨h1,eG.nil _ _ _ _,h2.up (aD _ _),qb _,by omega,⟨fun _ hk=>by simp[Value.ownBlock]at hk,fun i hi=>absurd hi (qC i)⟩,⟨fun _ hk=>by simp[Value.ownBlock]at hk,fun i hi=>absurd hi (qC i)⟩⟩)
    have HL5:Hid (Below w4.heap.size w4 ((w4.alloc (.map #[] 0)).alloc (.cells #[.slice oe n ce,.int .i64 F,.slice orr m cr,.slice none 0 0,.map (some w4.heap.size)] 86))):=qa aO;have hs5:((w4.alloc (.map #[] 0)).alloc (.cells #[.slice oe n ce,.int .i64 F,.slice orr m cr,.slice none 0 0,.map (some w4.heap.size)] 86)).heap.size=w4.heap.size+2:=by simp
    clear qjx qeG qjz qgl hmm qiW HOF HH;generalize hB:w4.heap.size=B at*;generalize ((w4.alloc (.map #[] 0)).alloc (.cells #[.slice oe n ce,.int .i64 F,.slice orr m cr,.slice none 0 0,.map (some B)] 86))=w5 at*;have HBB:=qa hB;have hpB:p4<B/\pf<B/\w.heap.size+2<=B:=by have:=HP4.o;omega
    clear hB;have hl6:Below w5.heap.size w5 (w5.alloc (.cells #[.int .i64 F] 3)):=aD _ _;have qgz:=HL5.o.trans (hl6.mono (by omega));have hs6:(w5.alloc (.cells #[.int .i64 F] 3)).heap.size=w5.heap.size+1:=by simp
    have HSF:Hid (eB (w5.alloc (.cells #[.int .i64 F] 3)) (.slice (some ⟨w5.heap.size,0,none⟩) 1 1) [F]):=qa (show Sl (w5.alloc (.cells #[.int .i64 F] 3)) (.slice (some ⟨w5.heap.size,0,none⟩) 1 1) [.int .i64 F]from by simpa using eK w5 #[.int .i64 F] 3 (by simp));have qhr:=qa (q7c (HNV.o _ qgz) HSF.o);have qiX:=qa (HMK.o.up hl6);have HL6:=qa qgz;have hL2:=q1A (by have:=rA HRT.o;omega:e.length<=3000) (R:=[q0V e F r [F]]) (fun x hx=>by rw[List.mem_singleton.1 hx];exact q66 e F r [F]) _ jh;have HGZ:=qa (q68 e F r);obtain⟨L0,hL0⟩:∃L0,L0=q0V e F r [F]:=⟨_,rfl⟩;rw[<-hL0]at hL2 HGZ qhr
    have qdl:Hid (∀w7 u,Below (w5.alloc (.cells #[.int .i64 F] 3)).heap.size (w5.alloc (.cells #[.int .i64 F] 3)) w7->Own w7 (w5.alloc (.cells #[.int .i64 F] 3)).heap.size 3 u (ints (nz L0))->
      Calls prog 27 #[.pointer (some ⟨B+1,0,none⟩),u] w7 fun en w'=>(∃k:Nat,en=.returned (.int .i64 k))/\∃lv' vs',MkN w' B (B+1) B (.slice oe n ce) (.slice orr m cr) F lv' vs' [L0]/\Gw (wG (B+1) B (.slice none 0 0)) w7 (wG (B+1) B lv') w'):=qa (fun w7 u hb hu=>(q5J qiX.o hb hu (fun L hL=>by cases hL) hL2 (by simp)).mono (by
       rintro en w' ⟨h1,lv',vs',h2,h3,-⟩;exact⟨⟨_,h1⟩,lv',vs',h2,h3⟩))
    clear hL0 hL2;have qjp:=qa (HXC.o w5 HL5.o);have x1:=HXC.o w5 HL5.o 1 (by omega);simp at x1;have hw0:w.heap.size<w5.heap.size:=by omega
    have HS5:=qa hs5;clear hl6 qgz HSF HMK HL5 hs5 hs6
    go_upto_region 11 with(first
     |(refine aH rfl 35 _ rfl w.heap.size 0 3 rfl _ _ qjp.o rfl underlying35 rfl (by kernel_rfl) ?_)
     |((with_reducible go_at_call 28);(with_reducible refine qhr.o.mono ?_);rintro en w7 ⟨u,rfl,hown,hbl⟩;have HU:=qa hown;have HB7:=qa hbl;clear hown hbl)
     |((with_reducible go_at_call 27);(with_reducible refine(qdl.o _ _ HB7.o HU.o).mono ?_);rintro en w8 ⟨⟨k8,rfl⟩,lv,vs,qfa,hg8⟩;have HM8:=qa qfa;have HG8:=qa hg8;clear qfa hg8))
    have HF8:Hid (Below B w4 w8):=qa ((HL6.o.trans (HB7.o.mono (by have:=HS5.o;have:=HL6.o.size;have:=HBB.o;omega))).trans (HG8.o.below (by have:=HS5.o;have:=HB7.o.size;have:=HL6.o.size;have:=HBB.o;omega) (fun k hk=>by
     rcases hk with rfl|rfl|hk
     ·omega
     ·exact qb _
     simp[Value.ownBlock]at hk)))
    obtain⟨A,hgA,qeV,hA⟩:=(HC4.o _ HF8.o).open;have hAe:A=(ints CO).toArray:=j0 List.toArray hA;obtain⟨D,hbc,hDl⟩:=HBN.o;rw[<-hAe]at hbc;have HBC:=qa hbc;clear hbc;have HDL:=qa hDl;have qfy:=qa (HBW.o w8);have hB8:B<=w8.heap.size:=by have:=HF8.o.size;have:=HBB.o;omega
    clear hA hAe hDl qjp x1 qhr qdl qiX HL6 HS5 HB7 HG8 HBN HBW HC4 HU
    go_upto_region 13 with(first
     |(refine mZ rfl 25 256 _ rfl p4 rfl A qeV hgA _ underlying25 rfl (by kernel_rfl) ?_)
     |(refine oN rfl 29 _ rfl #[(0,.agg A)] (by first|kernel_rfl|rfl|(simp;rfl)) D HBC.o ?_)
     |(refine fL rfl _ _ rfl w8.heap.size rfl D rfl HDL.o qe3.o rfl rfl qfy.o ?_;intro w9 hb9 hg9;have HB9:=qa hb9;have HG9:=qa hg9;clear hb9 hg9))
    have hl9:Below w8.heap.size w8 (w8.alloc (.cells Z 29)):=aD _ _;have qhc:=qa (hl9.grown HG9.o hl9.size (fun k hk=>by injection hk with hk;omega));have HF9:=qa (HF8.o.trans (qhc.o.mono hB8));obtain⟨g,hg⟩:∃g,g=w8.heap.size:=⟨_,rfl⟩;rw[<-hg]at HB9⊢;have HGG:Hid (g=w8.heap.size):=qa hg;have hBg:B<=g:=by omega
    have HBO:Hid (nU w9 B (B+1) B (.slice oe n ce) (.slice orr m cr) F lv vs [L0] g (.slice none 0 0) [] (.slice none 0 0) CO [] []):=qa (by
     have hnf:eG.free (.slice none 0 0) [] (some g):=⟨fun _ hk=>by simp[Value.ownBlock]at hk,fun i hi=>absurd hi (qC i)⟩;refine⟨HM8.o.up qhc.o,⟨HB9.o,hBg,eG.nil _ _ _ _,Own.nil _ _ _,hnf,by simp[Value.ownBlock],eG.free_none⟩,fun k hk hd=>?_⟩;have hk8:=(HM8.o.ltF k hk).2;rcases hd with hd|hd|hd
     ·omega
     ·simp[Value.ownBlock]at hd
     exact hd ⟨fun _ hk=>by simp[Value.ownBlock]at hk,fun i hi=>absurd hi (qC i)⟩)
    clear hg qhc hl9 HG9 HB9 HM8 HF8 hgA qeV HBC HDL qfy hB8 HGG
    go_loopg [10] 1001 (fun gk iv wr=>∃(i:Nat) (R:List (List Nat)) (lv:Value) (vs:List Value) (nv:Value) (nvs:List Value) (rv:Value),iv=.int .i64 i/\q6O e F r i R/\nU wr B (B+1) B (.slice oe n ce) (.slice orr m cr) F lv vs R g nv nvs rv CO (pT e F r R i) (gJ r R i)/\Below B w4 wr/\gk=1001-i)
    case atStart=>exact⟨0,[L0],lv,vs,_,_,_,rfl,HGZ.o,by simpa[pT,gJ]using HBO.o,HF9.o,rfl⟩
    case round=>
     obtain⟨i,R,lv,vs,nv,nvs,rv,rfl,hgo,hbo,hbl,rfl⟩:=hrel;have HGO:=qa hgo;have HBT:=qa hbo;have HF:=qa hbl;clear hgo hbo hbl HBO HF9 HGZ;obtain⟨og,cg,gg,hlv,-⟩:=HBT.o.mkr.lists.outer.cases;have hvl:=HBT.o.mkr.lists.len;rw[mL]at hvl;rw[hvl]at hlv;subst hlv;obtain⟨-,-,-,c3,-,hq⟩:=HBT.o.mkr.c;by_cases hlt:i<R.length
     ·have d0:decide ((i:Int)<R.length)=true:=by simp;omega
      have hmk:∀W:World,(Instr.makeSlice 27 (.int .i64 KO) (.int .i64 KO)).run prog W=.ok (.slice (some ⟨W.heap.size,0,none⟩) KO KO) (W.alloc (.cells (madeCells #[Value.int .i64 0] KO) 3)):=J8 (P:=prog) 27 3 (.int .i64 0) 8 KO underlying27 (by kernel_rfl) rfl (by decide) (by omega);have hBw:B<=wr.heap.size:=by have:=HF.o.size;have:=HBB.o;omega
      have hlk:Below wr.heap.size wr (wr.alloc (.cells (madeCells #[Value.int .i64 0] KO) 3)):=aD _ _;have qcX:=qa (yR wr B 3 (.int .i64 0) KO hBw (by omega));rw[show List.replicate KO (Value.int .i64 0)=ints (nJ e F r i R 0) by rw[(q2M e F r i R).2,HKO.o];simp[ints,List.map_replicate]]at qcX;have qes:=qa (HBT.o.up hlk);rw[<-(q2M e F r i R).1]at qes;have HF0:=qa (HF.o.trans (hlk.mono hBw));have HNM:Hid (¬MkF (B+1) B (.slice og R.length cg) vs wr.heap.size):=qa (fun hk=>by have:=(HBT.o.mkr.ltF _ hk).2;omega);have HND:Hid (¬DbF g nv nvs rv wr.heap.size):=qa (fun hk=>by have:=(HBT.o.db.ltF _ hk).2;omega);have HBR:Hid (B<=wr.heap.size):=qa hBw;clear hlk hBw HBT HF hvl
      go_upto_region 17 with(fail)
      generalize (wr.alloc (.cells (madeCells #[Value.int .i64 0] KO) 3))=wk at*;obtain⟨br,hbr⟩:∃br,br=wr.heap.size:=⟨_,rfl⟩;rw[<-hbr]at qcX HNM HND HBR⊢;clear hbr hmk c3 hq
      go_loopg [61] KO (fun gk jv wr=>∃(j:Nat) (lv:Value) (vs:List Value),jv=.int .i64 j/\j<=KO/\nU wr B (B+1) B (.slice oe n ce) (.slice orr m cr) F lv vs (tT e F r i R j) g nv nvs rv CO (pT e F r R i) (gJ r R i)/\Own wr B 3 (.slice (some ⟨br,0,none⟩) KO KO) (ints (nJ e F r i R j))/\¬MkF (B+1) B lv vs br/\Below B w4 wr/\gk=KO-j)
      case atStart=>exact⟨0,_,_,rfl,qd _,qes.o,qcX.o,HNM.o,HF0.o,rfl⟩
      case round=>
       obtain⟨j,lv,vs,rfl,hj,hbo,hrw,hnm,hbl,rfl⟩:=hrel;have HBT:=qa hbo;have HRW:=qa hrw;have HNM:=qa hnm;have HF:=qa hbl;clear hbo hrw hnm hbl qes qcX HF0;by_cases qcC:j<KO
       ·have hjh:j<(aY e).length:=by rw[<-HKO.o];exact qcC
        obtain⟨og,cg,gg,hlv,-⟩:=HBT.o.mkr.lists.outer.cases;have hvl:=HBT.o.mkr.lists.len;rw[mL]at hvl;rw[hvl]at hlv;subst hlv;obtain⟨oa,cap,b,off,hle,hd,hrs⟩:=HBT.o.mkr.lists.rowsG.open;rw[mL]at hle hd hrs;injection hle with hle1 hle2 hle3;subst hle1 hle3;clear hle2;obtain⟨kt,hkt⟩:=q9E e F r i R j;have hgi:(tT e F r i R j).getD i []=R.getD i []:=by rw[hkt,bC hlt]
        have him:i<(tT e F r i R j).length:=by rw[hkt,qj];omega
        obtain⟨oi,ci,bi,fi,hcell,hdi,-,hsi⟩:=hrs i him;have hix:=aT (P:=prog) 26 27 underlying26 (by kernel_rfl) hd;have qcB:∀W,(Instr.indexAt 26 (.slice og (tT e F r i R j).length cg) (.int .i64 (i:Int))).run prog W=.ok (.pointer (some ⟨b,off+i,none⟩)) W:=fun W=>by simpa using hix W .i64 i (by omega) (by omega)
        have hbb:=hd.hblk (by omega);rw[N0 him,hgi]at hcell hdi hsi;obtain⟨nl,hnl⟩:∃nl,nl=(ints (nz (R.getD i []))).length:=⟨_,rfl⟩;rw[<-hnl]at hcell hdi hsi;clear hnl;have HC1:=qa (fun(x:World) (hx:Below B w4 x)=>HXC.o x (hx.mono (by have:=HBB.o;omega)));have HMS:=qa (q7P e F r i R hjh);have qec:(aY e).getD j 0<256:=xA (cE _ _ _ hjh);have hcc:=HFI.o _ HF.o j qcC;have HTW:=qa (q1A (by have:=rA HRT.o;omega:e.length<=3000) (qaP (F:=F) (r:=r) (i:=i) HGO.o.ok j));have HT2:=qa (q1A (by have:=rA HRT.o;omega:e.length<=3000) (fun x hx=>by rw[List.mem_singleton.1 hx];exact q2K e F r (nz (R.getD i [])) ((aY e).getD j 0):∀x∈[pW e F r (nz (R.getD i [])) ((aY e).getD j 0)],OkL e.length x) _ jh);have HLN:Hid ((tT e F r i R j).length<=100000):=qa (by have:=q69 e F r i R j (by omega);have:=HGO.o.len;omega);have hBw:B<=wr.heap.size:=by have:=HF.o.size;have:=HBB.o;omega
        have HF1:=qa (HF.o.trans ((show Below wr.heap.size wr wr.drew from by rw[World.drew_is_drewN];exact aX wr 1).mono hBw));have qhy:=qa (HBT.o.up (show Below wr.heap.size wr wr.drew from by rw[World.drew_is_drewN];exact aX wr 1));have qiN:=qa (q7G (HNV.o wr.drew HF1.o) (v:=.slice oi nl ci) (st:=nz (R.getD i [])) (hsi.up (show Below wr.heap.size wr wr.drew from by rw[World.drew_is_drewN];exact aX wr 1)) _ qec);generalize (aY e).getD j 0=c at*;generalize pW e F r (nz (R.getD i [])) c=X at*
        have qdl:Hid (∀w7 u,Below wr.drew.heap.size wr.drew w7->Own w7 wr.drew.heap.size 3 u (ints (nz X))->
          Calls prog 27 #[.pointer (some ⟨B+1,0,none⟩),u] w7 fun en w'=>en=.returned (.int .i64 (idx (aQ (tT e F r i R j) X) X:Nat))/\∃lv' vs',MkN w' B (B+1) B (.slice oe n ce) (.slice orr m cr) F lv' vs' (aQ (tT e F r i R j) X)/\Gw (wG (B+1) B (.slice og (tT e F r i R j).length cg)) w7 (wG (B+1) B lv') w'/\(∀k,k<wr.drew.heap.size->eG.free (.slice og (tT e F r i R j).length cg) vs (some k)->eG.free lv' vs' (some k))):=qa (fun w7 u hb hu=>q5J qhy.o.mkr hb hu HTW.o HT2.o HLN.o)
        generalize idx (aQ (tT e F r i R j) X) X=kx at*;generalize hR':aQ (tT e F r i R j) X=R' at*;obtain⟨c0,c1,c2,c3,-,hq⟩:=HBT.o.mkr.c;have qkh:=HC1.o _ HF.o
        have HXQ:Hid (∀w',(∃y,w'=ext wr y)->∀c,c<3->w'.cell? ⟨w.heap.size,0+c,none⟩=some ((#[.slice oe n ce,.int .i64 F,.slice orr m cr]:Array Value).getD c undef)):=qa (by
         rintro w' ⟨y,rfl⟩;exact HC1.o _ (HF.o.trans ((aE wr y).mono hBw)))
        have hpw:pf<wr.heap.size:=by omega
        have hw0:w.heap.size<wr.heap.size:=by omega
        have qkN:=HTW;clear hrs hix hd hdi hsi hkt hgi qkh c0 c1 c2 HTW qkN HT2 HLN hR' hvl HXQ;go_wp2;refine hU (C:=fun w'=>Below B w4 w') (.q 0 (.q 1 (.q 2 (.q 3 (.q 4 (.q 8 (.q 11 (.br 5 (.br 6 (.br 7 (.br 9 (.br 10 (.br 12 (.br 13 (.br 14 (.br 15 .done .no) .no) .no) .no) .no) .no) .no) .no) .no)))))))) (by kernel_rfl) (by kernel_rfl) HF1.o ?_
        (repeat((unfold aZ;simp only[pk]);(first|(go_big_quiet_want;refine cB 35 3 _ rfl w.heap.size 0 rfl #[.slice oe n ce,.int .i64 F,.slice orr m cr] rfl HC1.o _ underlying35 rfl (by kernel_rfl) ?_;go_simp;go_big_quiet_on)|go_big_quiet_step (fail));refine wpQuiet_nil ?_))
        have c3d:wr.drew.cell? ⟨B+1,3,none⟩=_:=c3;have qfj:wr.drew.cell? ⟨b,off+i,none⟩=_:=hcell;have hqd:B+1<wr.drew.heap.size:=hq;have qkC:b<wr.drew.heap.size:=hbb;have qiP:Hid (Own wr.drew B 3 (.slice (some ⟨br,0,none⟩) KO KO) (ints (nJ e F r i R j))):=qa (HRW.o.up (show Below wr.heap.size wr wr.drew from by rw[World.drew_is_drewN];exact aX wr 1));clear c3 hcell hq hbb HRW HBT HF hcc hpw hw0;generalize wr.drew=wd at*
        ((unfold aZ;simp only[pk]);refine⟨?_,by unfold aZ;exact True.intro⟩;unfold aF;go_wp2;refine⟨HF1.o,?_⟩;unfold aF)
        ((unfold aZ;simp only[pk]);refine⟨?_,by unfold aZ;exact True.intro⟩;unfold aF;go_wp2;refine⟨HF1.o,?_⟩;unfold aF)
        ((unfold aZ;simp only[pk]);refine⟨?_,by unfold aZ;exact True.intro⟩;unfold aF;go_wp2;refine⟨HF1.o,?_⟩;unfold aF)
        ((unfold aZ;simp only[pk]);refine⟨?_,by unfold aZ;exact True.intro⟩;unfold aF;go_wp2;refine⟨HF1.o,?_⟩;unfold aF)
        ((unfold aZ;simp only[pk]);refine⟨?_,by unfold aZ;exact True.intro⟩;unfold aF;go_wp2;refine⟨HF1.o,?_⟩;unfold aF)
        ((unfold aZ;simp only[pk]);refine⟨?_,by unfold aZ;exact True.intro⟩;unfold aF)
        have hBd:B<=wd.heap.size:=by omega
        go_wp2_with((with_reducible go_at_call 29);(with_reducible refine qiN.o.mono ?_);rintro en w7 ⟨u,rfl,hown,hbl⟩;have HU:=qa hown;have HB7:=qa hbl;clear hown hbl)
        have HF7:=qa (HF1.o.trans (HB7.o.mono hBd));refine⟨HF7.o,?_⟩;unfold aF
        ((unfold aZ;simp only[pk]);refine⟨?_,by unfold aZ;exact True.intro⟩;unfold aF)
        go_wp2_with((with_reducible go_at_call 27);(with_reducible refine(qdl.o _ _ HB7.o HU.o).mono ?_);rintro en w8 ⟨rfl,lv2,vs2,qfa,hg8,hf8⟩;have HM8:=qa qfa;have HG8:=qa hg8;have HF8:=qa hf8;clear qfa hg8 hf8)
        have HNB:=qa (qhy.o.num HB7.o HM8.o HG8.o HF8.o);have HFX:=qa (HF7.o.trans (HG8.o.below (by have:=HB7.o.size;omega) (fun k hk=>(qhy.o.mkr.lt k hk).1)));have qin:br<wd.heap.size:=(qiP.o.lt br rfl).2;have qeC:=qa (HG8.o.own (qiP.o.up HB7.o) (fun k hk hS=>by simp[Value.ownBlock]at hk;subst hk;exact HNM.o (q6c hS)));refine⟨HFX.o,?_⟩;unfold aF;have hlr:(ints (nJ e F r i R j)).length=KO:=by rw[aS,q3G e F r i R (by omega),HKO.o]
        have hcf:=qeC.o.cell (i:=j) (by omega);have hff:=qeC.o.free j;have qms:br<w8.heap.size:=qeC.o.blk.2;have HST:=qa (qeC.o.store j (.int .i64 (kx:Nat)));generalize (ints (nJ e F r i R j)).getD j undef=y0 at*;clear hlr c3d qfj hqd qkC qiN qdl HU
        ((unfold aZ;simp only[pk]);refine⟨?_,by unfold aZ;exact True.intro⟩;unfold aF)
        go_wp2;refine⟨HFX.o,?_⟩;unfold aF
        ((unfold aZ;simp only[pk]);refine⟨?_,by unfold aZ;exact True.intro⟩;unfold aF)
        go_wp2;have HFY:=qa (HFX.o.grown HST.o.2 (by have:=HFX.o.size;have:=HBB.o;omega) (fun k hk=>by injection hk with hk;have:=HBR.o;omega));refine⟨HFY.o,?_⟩;unfold aF;unfold aZ
        first|(intro _ hqq;clear hqq)|(intro hqq;clear hqq)
        go_wp2
        go_roundg (KO-(j+1))
        case measure=>omega
        case rel=>
         refine⟨j+1,lv2,vs2,by go_num,by omega,?_,?_,HNB.o.2 br qin HNM.o,HFY.o,rfl⟩
         ·rw[HMS.o.1]
          exact HNB.o.1.row (HNB.o.2 br qin HNM.o) HND.o j _ HST.o.2
         rw[HMS.o.2,<-yY];exact HST.o.1
       have hje:j=KO:=by omega
       subst hje;have hma:=q9D e F r i R;rw[<-HKO.o]at hma;rw[hma.1]at HBT;rw[hma.2]at HRW;clear hma;obtain⟨R2,hR2⟩:∃R2,R2=rM e F r i R:=⟨_,rfl⟩;have HR2:=qa hR2;have qgg:Hid (1000<R2.length->nH e F r=none):=qa (fun hb=>HGO.o.big hlt (by rw[<-hR2];exact hb));have qh5:Hid (R2.length<=1000->q6O e F r (i+1) R2/\pT e F r R2 (i+1)=pT e F r R i++[fP e F r R2 (R.getD i [])]/\gJ r R2 (i+1)=gJ r R i++[mS r (R.getD i [])]):=qa (fun hb=>by rw[hR2];exact HGO.o.next hlt (by rw[<-hR2];exact hb));rw[<-hR2]at HBT HRW;clear hR2;obtain⟨og,cg,gg,hlv,-⟩:=HBT.o.mkr.lists.outer.cases;have hvl:=HBT.o.mkr.lists.len;rw[mL]at hvl;rw[hvl]at hlv;subst hlv;obtain⟨c0,c1,c2,c3,-,hq⟩:=HBT.o.mkr.c;clear c0 c1 c2;by_cases qe0:1000<R2.length
       ·have HE:Hid (q3Y e F r=3/\q51 e F r=J0):=qa ⟨by unfold q3Y;rw[qw HRT.o,qgg.o qe0],by unfold q51;rw[qw HRT.o,qgg.o qe0]⟩
        have d1:decide ((1000:Int)<R2.length)=true:=by simp;omega
        have hbd:=HBD.o;have HR9:=qa (HR1.o _ (HF.o.mono (by have:=HBB.o;omega)))
        go_wp2_with(refine fL rfl _ _ rfl (w.heap.size+1) rfl Z rfl HZL.o qP rfl rfl HR9.o ?_;intro w12 qcU qcT;have qcY:=qa qcU;have qcV:=qa qcT;clear qcU qcT)
        refine tS rfl rfl rfl rfl qcY.o (vU _) (rules:=[]) (Sl.nil _) fun v hv=>⟨v,by rw[HE.o.1];rfl,by rw[HE.o.2];exact hv,?_⟩;have h1:=HFR.o _ (HF.o.mono (by have:=HBB.o;omega));exact h1.grown qcV.o h1.size (fun k hk=>by cases hk;omega)
       have d1:decide ((1000:Int)<R2.length)=false:=by simp;omega
       obtain⟨hg2,hr2,hu2⟩:=qh5.o (by omega);have HGN:=qa hg2;have HRN:=qa hr2;have HUN:=qa hu2;have hBw:B<=wr.heap.size:=by have:=HF.o.size;have:=HBB.o;omega
       obtain⟨on,cn,gn,hnv,-⟩:=HBT.o.db.rows.outer.cases;obtain⟨nn,hnn⟩:∃nn,nn=nvs.length:=⟨_,rfl⟩;rw[<-hnn]at hnv;subst hnv;clear hnn;have e256:=HBT.o.db.box.cellN;have hgl:=HBT.o.db.box.lt;have hng:(Value.slice on nn cn).ownBlock≠some g:=fun e=>HBT.o.db.fg.1 g e rfl;have hlr:Below wr.heap.size wr (wr.alloc (.cells #[.slice (some ⟨br,0,none⟩) j j] 27)):=aD _ _;have HLR:=qa hlr;have HSX:Hid (Sl (wr.alloc (.cells #[.slice (some ⟨br,0,none⟩) j j] 27)) (.slice (some ⟨wr.heap.size,0,none⟩) 1 1) [.slice (some ⟨br,0,none⟩) j j]):=qa (by simpa using eK wr #[.slice (some ⟨br,0,none⟩) j j] 27 (by simp));have HT1:=qa (HBT.o.db.rows.outer.up hlr);have HT3:Hid (nvs.length+[Value.slice (some ⟨br,0,none⟩) j j].length<=4294967296):=qa (by have h1:=HBT.o.db.rows.len;have h2:=HGO.o.len;have h3:=HGO.o.le;simp[pT]at h1;simp;omega);have HT4:Hid (B<=(wr.alloc (.cells #[.slice (some ⟨br,0,none⟩) j j] 27)).heap.size):=qa (by have:=hlr.size;omega);have qdR:=qa (HBT.o.db.box.up hlr);have HNG:=qa hng;clear hg2 hr2 hu2 hlr hng
       go_upto_region 24 with(at_builtin;refine bF rfl (.tmp 90) (.tmp 92) 26 rfl B 27 (.slice none 0 0) 24 underlying26 (by kernel_rfl) rfl (by decide) (.slice on nn cn) nvs rfl HT1.o (.slice (some ⟨wr.heap.size,0,none⟩) 1 1) [.slice (some ⟨br,0,none⟩) j j] rfl HSX.o (by simp[Value.oneCell']) HT3.o HT4.o ?_;intro v' w5 hown1 hg1 hk1;(obtain⟨o5,c5,q5',hv5,-⟩:=hown1.cases);(obtain⟨n5,hn5⟩:∃n5,n5=(nvs++[Value.slice (some ⟨br,0,none⟩) j j]).length:=⟨_,rfl⟩);rw[<-hn5]at hv5;subst hv5;clear hn5;have HO5:=qa hown1;have HG5:=qa hg1;have HK5:=qa hk1;clear hown1 hg1 hk1;have qcO:=qa (qdR.o.keep HG5.o HNG.o);have g5:=qcO.o.free 256;have h5:=qcO.o.cellN;have hq5:=qcO.o.lt)
       have HPR:=qa (HBT.o.pushRow HRW.o (fun k hk=>by simp[Value.ownBlock]at hk;subst hk;exact⟨HND.o,HNM.o⟩) HLR.o HO5.o HG5.o HK5.o);clear qcO g5 h5 hq5 qdR HT1 HT3 HT4 HSX HO5 HG5 HK5 e256 hgl c3 hq HLR;rw[<-HRN.o]at HPR;generalize hw6:w5.setCell ⟨g,256,none⟩ (.slice o5 n5 c5)=w6 at*;have qcR:=qa HPR.o.1;have HF6:=qa (HF.o.trans (HPR.o.2.mono (by have:=HBB.o;omega)));clear hw6 HPR HBT HF;obtain⟨kt,hkt⟩:=bP (bY e F r (R.getD i [])) R;have qeg:R2=R++kt:=HR2.o.trans hkt;have hgi:R2.getD i []=R.getD i []:=by rw[qeg,bC hlt]
       have him:i<R2.length:=by rw[qeg,qj];omega
       obtain⟨oa,cap,b,off,hle,hd,hrs⟩:=qcR.o.mkr.lists.rowsG.open;rw[mL]at hle hd hrs;injection hle with hle1 hle2 hle3;subst hle1 hle3;clear hle2;obtain⟨oi,ci,bi,fi,hcell,hdi,-,hsi⟩:=hrs i him;have hix:=aT (P:=prog) 26 27 underlying26 (by kernel_rfl) hd;have qcB:∀W,(Instr.indexAt 26 (.slice og R2.length cg) (.int .i64 (i:Int))).run prog W=.ok (.pointer (some ⟨b,off+i,none⟩)) W:=fun W=>by simpa using hix W .i64 i (by omega) (by omega)
       have hbb:=hd.hblk (by omega);rw[N0 him,hgi]at hcell hdi hsi;obtain⟨nl,hnl⟩:∃nl,nl=(ints (nz (R.getD i []))).length:=⟨_,rfl⟩;rw[<-hnl]at hcell hdi hsi;obtain⟨c0,c1,c2,c3,-,hq⟩:=qcR.o.mkr.c;have hB6:B<=w6.heap.size:=by have:=HF6.o.size;have:=HBB.o;omega
       have hd6:Below w6.heap.size w6 w6.drew:=by rw[World.drew_is_drewN];exact aX w6 1
       have HD6:=qa hd6;obtain⟨ve',vr',heq,-,hrr⟩:=HNV.o _ (HF6.o.trans (hd6.mono hB6))
       have hvr:vr'=.slice orr m cr:=by
        have:=j0 (fun x:Array Value=>x.getD 2 undef) heq;simpa using this.symm
       rw[hvr]at hrr;have hok:=HGO.o.ok _ (cE R i [] hlt);have hrg:=tO HRT.o;have qfF:=qa (qbq (w:=w6.drew) (q:=B+1) c2 hq hrr (v:=.slice oi nl ci) (L:=R.getD i []) (hsi.up hd6) (fun s hs=>by rw[hrg.1];exact hok.2 s hs) hrg.2);obtain⟨orv,crv,grv,hrv,-⟩:=qcR.o.db.rls.cases;obtain⟨nrv,qf4⟩:∃nrv,nrv=(ints (gJ r R i)).length:=⟨_,rfl⟩;rw[<-qf4]at hrv;subst hrv;clear qf4 hnl hkt qeg hgi hrs hix hd hdi hsi heq hvr hrr hok hrg c0 c1 c2;have e257:=qcR.o.db.box.cellR;have hgl:=qcR.o.db.box.lt;generalize mS r (R.getD i [])=lx at*;have HRL:Hid ((gJ r R i).length<=1000):=qa (by have h2:=HGO.o.len;have h3:=HGO.o.le;simp[gJ];omega);go_wp2;refine aR [0,1,2,3,4,5,6,7,8,9] [10,11] [12,13,14] (by kernel_rfl) (by kernel_rfl) ?_;simp only[pk]
       repeat(go_big_quiet_step (fail))
       refine wpQuiet_nil ?_;generalize w6.drew=wd at*;unfold aF
       go_wp2_with((with_reducible go_at_call 30);(with_reducible refine qfF.o.mono ?_);rintro en w7 ⟨rfl,x7,rfl⟩)
       have HB7:=qa (gK HD6.o x7);refine⟨aJ HB7.o,?_⟩;generalize ext wd x7=w7 at*;have hs7:=HB7.o.size;have hl8:Below w6.heap.size w6 (w7.alloc (.cells #[.int .i64 lx] 3)):=HB7.o.trans ((aD w7 (.cells #[.int .i64 lx] 3)).mono hs7);have HL8:=qa hl8;have HSX:Hid (Sl (w7.alloc (.cells #[.int .i64 lx] 3)) (.slice (some ⟨w7.heap.size,0,none⟩) 1 1) (ints [lx])):=qa (by simpa[ints]using eK w7 #[.int .i64 lx] 3 (by simp));have HT1:=qa (qcR.o.db.rls.up hl8);have HT3:Hid ((ints (gJ r R i)).length+(ints [lx]).length<=4294967296):=qa (by have:=HRL.o;simp only[aS,qE];omega);have HT4:Hid (B<=(w7.alloc (.cells #[.int .i64 lx] 3)).heap.size):=qa (by have:=hl8.size;omega);have qdR:=qa (qcR.o.db.box.up hl8);have HRG:=qa qcR.o.db.rg;clear hl8 e257 hgl hs7 hcell qcB hbb c3 hq qfF
       (unfold aF;go_wp2;refine⟨aJ HL8.o,?_⟩)
       unfold aF;unfold aF
       go_wp2_with(at_builtin;refine bF rfl (.tmp 96) (.tmp 106) 27 rfl B 3 (.int .i64 0) 8 underlying27 (by kernel_rfl) rfl (by decide) (.slice orv nrv crv) (ints (gJ r R i)) rfl HT1.o (.slice (some ⟨w7.heap.size,0,none⟩) 1 1) (ints [lx]) rfl HSX.o (iC _) HT3.o HT4.o ?_;intro v' w9 hown1 hg1 hk1;(obtain⟨o9,c9,q9',hv9,-⟩:=hown1.cases);(obtain⟨n9,hn9⟩:∃n9,n9=(ints (gJ r R i)++ints [lx]).length:=⟨_,rfl⟩);rw[<-hn9]at hv9;subst hv9;clear hn9;have HO9:=qa hown1;have HG9:=qa hg1;have HK9:=qa hk1;clear hown1 hg1 hk1)
       have qdg:=qa (qdR.o.keep HG9.o HRG.o);have g9:=qdg.o.free 257;have h9:=qdg.o.cellR;have hq9:=qdg.o.lt;refine⟨trivial,?_⟩
       (unfold aF;go_wp2;refine⟨trivial,?_⟩)
       (unfold aF;go_wp2;refine⟨trivial,?_⟩)
       unfold aF;have HPU:=qa (qcR.o.pushRule HL8.o (x:=lx) (by rw[rZ];exact HO9.o) HG9.o HK9.o);rw[<-HUN.o]at HPU;go_wp2
       go_roundg (1001-(i+1))
       case measure=>have:=HGO.o.len;omega
       case rel=>exact⟨i+1,R2,_,_,_,_,_,by go_num,HGN.o,HPU.o.1,HF6.o.trans (HPU.o.2.mono (by have:=HBB.o;omega)),rfl⟩
     have d0:decide ((i:Int)<R.length)=false:=by simp;omega
     obtain⟨hl1,hl2,hl3⟩:=HGO.o.done hlt;have HE:Hid (q3Y e F r=0/\q51 e F r=tV e F r R):=qa ⟨by unfold q3Y;rw[qw HRT.o,hl1],by unfold q51;rw[qw HRT.o,hl1]⟩;have HRW:Hid (pT e F r R i=(tV e F r R).next):=qa hl2;have HRU:Hid (gJ r R i=(tV e F r R).rules):=qa hl3;obtain⟨A9,hA9,hs9,hl9⟩:=HBT.o.db.box.open;have HA9:=qa hA9;have HS9:=qa hs9;have HL9:=qa hl9;have qf9:nv.oneCell'=true:=lC HBT.o.db.rows.outer;have qeY:rv.oneCell'=true:=lC HBT.o.db.rls;have qfG:=qa (HR1.o _ HF.o);clear hA9 hs9 hl9 hl1 hl2 hl3
     go_wp2_with(first|(refine dI rfl _ rfl g rfl A9 HS9.o HA9.o ?_)|(refine fL rfl _ _ rfl (w.heap.size+1) rfl A9 rfl HL9.o HBT.o.db.box.len qf9 qeY qfG.o ?_;intro w12 qcU qcT;have qcY:=qa qcU;have qcV:=qa qcT;clear qcU qcT))
     have qf3:=((HBT.o.db.rows.keep' qcV.o (HBT.o.db.rows.free_below (by omega))).rowsG.ints)
     have qeW:eB w12 rv (gJ r R i):=(HBT.o.db.rls.keep qcV.o (by
      cases hro:rv.ownBlock with
      |none=>exact .inl rfl
      |some k=>exact .inr (fun e=>by injection e with e;have:=(HBT.o.db.rls.lt k hro).1;omega))).sl
     refine tS rfl rfl rfl rfl qcY.o qf3 qeW fun v hv=>⟨v,by rw[HE.o.1];rfl,?_,?_⟩
     ·rw[HE.o.2]
      rw[HRW.o,HRU.o,HCO.o]at hv;exact hv
     have h1:=HFR.o _ (HF.o.mono (by have:=HBB.o;omega));exact h1.grown qcV.o h1.size (fun j hj=>by injection hj with hj;omega)
   |succ d=>
    rw[show((d+1:Nat):Int)-1=d by omega];have qdI:d<256:=by omega
    have hmd:(d:Int)%256=d:=by omega
    have HBC:=qa (qgi.o.keep HG.o (by intro hh;injection hh with hh;have:=HPO.o;omega))
    have hcc:wr.cell? ⟨p4,d,none⟩=some (.int .i64 (xB e d:Nat)):=by
     rw[HBC.o.cell qdI,HCO.o,U3 e qdI]
    have hkz:xB e d<KO:=by rw[HKO.o];exact q9C e qdI
    have hpw:p4<wr.heap.size:=HBC.o.lt;have qlQ:pf<wr.heap.size:=HOW.o.blk.2;have hff:=HOW.o.free (xB e d);have hlen:(q41 l).length=KO:=by rw[q2V,HFO.o.1,HKO.o]
    have hcf:=HOW.o.cell (i:=xB e d) (by omega);have HST:=qa (HOW.o.store (xB e d) (.int .u8 (d:Int)));have HNX:=qa (q3F HFO.o qdI);rw[q83]at HST;generalize (q41 l).getD (xB e d) undef=y0 at*;generalize xB e d=kc at*;clear hlen;go_wp2
    go_roundg d
    case measure=>omega
    case rel=>exact⟨d,l.set kc d,rfl,by omega,HST.o.1,HNX.o,aL HG.o HST.o.2,rfl⟩
 have hrf:dK e F r=false:=by simpa using hrt
 have HE:Hid (q3Y e F r=4/\q51 e F r=J0):=qa ⟨by unfold q3Y;rw[qv hrt],by unfold q51;rw[qv hrt]⟩;obtain rfl:=HCN.o.2 hrf;clear hrf hrt;go_enter func8,ntmps8
 go_wp2_with(first
  |(refine aH rfl 35 _ rfl w.heap.size 0 3 rfl _ _ (pR HBX.o) rfl underlying35 rfl (by kernel_rfl) ?_)
  |((with_reducible go_at_call 26);refine HCL.o.mono ?_;rintro en w1 ⟨rfl,hb1⟩;have HE1:=qa (hb1.trans ((aD w1 (.cells ZC 25)).mono hb1.size));have hs1:=hb1.size;clear hb1)
  |(refine iB rfl 25 256 _ _ rfl w1.heap.size rfl _ CO rfl qe3.o (by kernel_rfl) (HBZ.o w1) ?_;intro w2 hb2 hg2;have HB2:=qa hb2;have HE2:=qa (HE1.o.grown hg2 HE1.o.size (fun k hk=>by cases hk;exact hs1));clear hb2 hg2)
  |(refine fL rfl _ _ rfl (w.heap.size+1) rfl Z rfl HZL.o qP rfl rfl (HB1.o.up HE2.o) ?_;intro w3 hb3 hg3;have HB3:=qa hb3;have HG3:=qa hg3;clear hb3 hg3))
 refine tS rfl rfl rfl rfl HB3.o (vU _) (rules:=[]) (Sl.nil _) fun v hv=>⟨v,by rw[HE.o.1];rfl,by rw[HE.o.2];exact hv,?_⟩;have h1:=HA.o.trans (HE2.o.mono HA.o.size);exact h1.grown HG3.o h1.size (fun k hk=>by cases hk;omega)
end Go.Cm
namespace Go.Cm
theorem q0E{α:Type} [DecidableEq α]:∀{l m:List α},l.Nodup->(∀x∈l,x∈m)->l.length<=m.length
 |[],_,_,_=>qd _
 |a::l,m,h1,h2=>by
  have h3:=List.nodup_cons.1 h1;have ha:=h2 a jh;have ih:=q0E (l:=l) (m:=m.erase a) h3.2 (fun x hx=>(List.mem_erase_of_ne (fun e=>h3.1 (by rw[<-e];exact hx))).2 (h2 x (qY _ hx)));rw[List.length_erase_of_mem ha]at ih;have:=List.length_pos_of_mem ha;rw[qA];omega
end Go.Cm
namespace Go.Cm
open Go.RowKit Go.Proofs
theorem q6w(e:List (List Ed))(F:Int)(r:List Int):(q3Y e F r=0/\dK e F r=true/\∃R,nH e F r=some R/\q51 e F r=tV e F r R)\/((q3Y e F r=3\/q3Y e F r=4)/\q51 e F r=J0):=by
 unfold q3Y q51;by_cases h:dK e F r=true
 ·rw[qw h,qw h]
  cases hl:nH e F r with
  |some R=>exact .inl ⟨rfl,h,R,rfl,rfl⟩
  |none=>exact .inr ⟨.inl rfl,rfl⟩
 rw[qv h,qv h];exact .inr ⟨.inr rfl,rfl⟩
end Go.Cm
namespace Go.Cm
def sB(d:Dfa)(s:Nat)(b:UInt8):Nat:=aM d s (d.cls.getD b.toNat 0).toNat
theorem q0S{d:Dfa}(hv:bD d)(hl:d.cls.length=256)(b:UInt8):∃c:Nat,d.cls.getD b.toNat 0=c/\c<kN_MiniE d:=by
 have hb:b.toNat<256:=b.toNat_lt;have hm:d.cls.getD b.toNat 0∈d.cls:=cE _ _ _ (by omega);have hr:=kZ hv hm;exact⟨(d.cls.getD b.toNat 0).toNat,by omega,by omega⟩
theorem q8f{d:Dfa}(hv:bD d)(hl:d.cls.length=256){s:Nat}(hs:s∈reach d)(b:UInt8):sB d s b∈reach d:=by
 obtain⟨c,hc,hk⟩:=q0S hv hl b;unfold sB;rw[hc,qD];exact pP hv hs hk
theorem q6I{d:Dfa}(hv:bD d)(hl:d.cls.length=256):∀(t:List UInt8) (s:Nat),s∈reach d->e9 d (s:Nat) t=(t.foldl (sB d) s:Nat)/\t.foldl (sB d) s∈reach d
 |[],s,hs=>⟨rfl,hs⟩
 |b::t,s,hs=>by
  obtain⟨c,hc,hk⟩:=q0S hv hl b;have hr:=q8f hv hl hs b;have ih:=q6I hv hl t _ hr;refine⟨?_,ih.2⟩;rw[qL,<-ih.1];unfold e9;rw[qD]
  have e:(d.next.getD s []).getD (d.cls.getD b.toNat 0).toNat 0=(sB d s b:Nat):=by
   unfold sB;rw[hc,qD];have hcl:c<(d.next.getD s []).length:=by rw[fT hv (fU hv hs)];exact hk
   obtain⟨_,_,_,k,hk2,hrr⟩:=id hv;have:=(hrr s (fU hv hs)).2.2.2 c hcl
   have e2:aM d s c=((d.next.getD s []).getD c 0).toNat:=by
    unfold aM rowN_MiniM;simp only[qu,qU]at hcl⊢;rw[qy hcl];rfl
   omega
  rw[e];cases t<;>rfl
theorem q33{d:Dfa}(hv:bD d)(hl:d.cls.length=256)(t:List UInt8):eR d t=gZ d (t.foldl (sB d) 0):=by
 have h:=(q6I hv hl t 0 (oQ hv)).1;unfold eR;rw[qw hv];change e9 d 0 t=_ at h;rw[h,qD]
 rfl
theorem q34{d:Dfa}(hv:bD d)(hl:d.cls.length=256){c:Nat}(hc:c<kN_MiniE d):∃b:UInt8,∀s,sB d s b=aM d s c:=by
 obtain⟨i,hi,hx⟩:=jj (l6 hv hc);refine⟨UInt8.ofNat i,fun s=>?_⟩;unfold sB;have e:(UInt8.ofNat i).toNat=i:=by rw[UInt8.toNat_ofNat'];exact Nat.mod_eq_of_lt (by omega)
 rw[e,qu,qy hi,qN,hx,qD]
theorem q3S{d:Dfa}(hv:bD d)(hl:d.cls.length=256):∀s,s∈reach d->∃t:List UInt8,t.foldl (sB d) 0=s:=by
 obtain⟨hm,hlt,-⟩:=eT hv
 have key:∀j,j<(reach d).length->∃t:List UInt8,t.foldl (sB d) 0=(reach d).getD j 0:=by
  intro j
  induction j using Nat.strongRecOn with
  |ind j ih=>
   intro hj;have h1:=hm.take hj
   have h2:(reach d).getD j 0∈upTo (rowN_MiniM d) ((reach d).take j):=by
    have h3:(reach d).getD j 0∈(reach d).take (j+1):=by
     rw[aV (reach d) j 0 hj];simp
    rw[h1]at h3;exact List.mem_of_mem_take h3
   unfold upTo at h2;rw[dF]at h2;rcases List.mem_cons.1 h2 with h0|h2
   ·exact⟨[],h0.symm⟩
   obtain⟨x,hx,hr⟩:=List.mem_flatMap.1 h2;obtain⟨i,hi,he⟩:=jj hx;rw[qX]at hi;obtain⟨t,ht⟩:=ih i (by omega) (by omega);rw[List.getElem_take]at he;have hxi:(reach d).getD i 0=x:=by rw[qu,qy (by omega),qN,he]
   have hxr:x∈reach d:=by rw[<-he];exact jl _
   obtain⟨c,hc,hce⟩:=jj hr;rw[lI,fT hv (fU hv hxr)]at hc;obtain⟨b,hb⟩:=q34 hv hl hc;refine⟨t++[b],?_⟩;rw[qZ,ht,hxi,qL,List.foldl_nil,hb,<-hce];unfold aM;rw[qu,qy,qN]
 intro s hs;obtain⟨i,hi,he⟩:=jj hs;obtain⟨t,ht⟩:=key i hi;exact⟨t,by rw[ht,qu,qy hi,qN,he]⟩
theorem q8g{d:Dfa}(hv:bD d)(hl:d.cls.length=256){a b:Nat}:Eqv d a b↔∀u:List UInt8,gZ d (u.foldl (sB d) a)=gZ d (u.foldl (sB d) b):=by
 constructor
 ·intro h u
  have e:∀(u:List UInt8) (s:Nat),u.foldl (sB d) s=q42 d s (u.map fun b=>(d.cls.getD b.toNat 0).toNat):=by
   intro u
   induction u with
   |nil=>intro s;rfl
   |cons b u ih=>intro s;rw[qL,ih];rfl
  rw[e,e];refine h _ fun c hc=>?_;obtain⟨b,-,rfl⟩:=List.mem_map.1 hc;obtain⟨c,hc,hk⟩:=q0S hv hl b;rw[hc,qD];exact hk
 intro h cs hcs
 have e:∀cs:List Nat,(∀c∈cs,c<kN_MiniE d)->∃u:List UInt8,∀s,u.foldl (sB d) s=q42 d s cs:=by
  intro cs
  induction cs with
  |nil=>intro _;exact⟨[],fun s=>rfl⟩
  |cons c cs ih=>
   intro hcs;obtain⟨u,hu⟩:=ih (fun x hx=>hcs x (qY _ hx));obtain⟨b,hb⟩:=q34 hv hl (hcs c jh);exact⟨b::u,fun s=>by rw[qL,hb,hu];rfl⟩
 obtain⟨u,hu⟩:=e cs hcs;rw[<-hu,<-hu];exact h u
end Go.Cm
namespace Go.Cm
structure mI(d:Dfa):Prop where
 valid:bD d
 cl:d.cls.length=256
 reach:reach d=List.range d.next.length
 apart:∀i j,i<d.next.length->j<d.next.length->Eqv d i j->i=j
 cols:∀a b,a<kN_MiniE d->b<kN_MiniE d->(∀s,s<d.next.length->aM d s a=aM d s b)->a=b
 again:bX d=d
theorem q8h(rows:List (List Int))(cls:List Int):(q0Z rows cls).length=cls.length:=by simp[q0Z]
theorem P9{d:Dfa}(hv:bD d)(hl:d.cls.length=256):mI (bX d):=by
 have hm:=sP hv;refine⟨hm,(q8h _ _).trans hl,by rw[nM];exact P5 hv,fun i j hi hj h=>?_,fun a b ha hb h=>?_,q6E hv⟩
 ·rw[nM]at hi hj
  exact P6 hv hi hj h
 have ha':=ha;have hb':=hb;rw[q1L hv]at ha' hb';refine q0R hv ha' hb' ?_;unfold pN;apply List.map_congr_left;intro r hr;obtain⟨s,hs,he⟩:=jj hr;have hrow:(bX d).next.getD s []=r:=by rw[qu,qy hs,qN,he]
 have h1:=h s hs;obtain⟨_,_,_,k,hk,hrr⟩:=id hm;have hlen:=fT hm hs;rw[hrow]at hlen;have hra:=(hrr s hs).2.2.2;rw[hrow]at hra
 have e:∀c,c<kN_MiniE (bX d)->aM (bX d) s c=(r.getD c 0).toNat:=fun c hc=>by
  unfold aM rowN_MiniM;rw[hrow,qu,qU,qy (by omega),qu,qy (by omega)];rfl
 rw[e a ha,e b hb]at h1;have h2:=hra a (by omega);have h3:=hra b (by omega);rw[qD,qD];omega
theorem q0T{d:Dfa}(hv:bD d)(hl:d.cls.length=256){c:Nat}(hc:c<256):d.cls.getD c 0=(aW (fun c=>d.cls.getD c 0) (List.range 256) c:Nat):=by
 have h1:(List.range 256).map (fun c=>d.cls.getD c 0)=d.cls:=by
  refine jV (by simp[hl]) fun i h1 h2=>?_;rw[jx,List.getElem_range,qu,qy h2,qN]
 have h2:=bL (fun c=>d.cls.getD c 0) (List.range 256);rw[h1,wB hv]at h2;have hm:d.cls.getD c 0∈d.cls:=cE _ _ _ (by omega);have hr:=kZ hv hm;unfold aW;rw[h2];show d.cls.getD c 0=((idx (nl (List.range (kN_MiniE d))) (d.cls.getD c 0):Nat):Int);obtain⟨q,hq⟩:∃q:Nat,d.cls.getD c 0=q:=⟨(d.cls.getD c 0).toNat,by omega⟩;rw[hq]at hr⊢
 have h3:idx (nl (List.range (kN_MiniE d))) (q:Int)=q:=by
  have hnd:(nl (List.range (kN_MiniE d))).Nodup:=by rw[<-wB hv];exact sD _
  unfold idx;have e:(nl (List.range (kN_MiniE d)))[q]'(by simp;omega)=(q:Int):=by simp[nl]
  rw[<-e];exact hnd.idxOf_getElem q _
 rw[h3]
theorem q8i{x y:Dfa}(hx:bD x)(hy:bD y)(lx:x.cls.length=256)(ly:y.cls.length=256)(h:∀a b,a<256->b<256->(x.cls.getD a 0=x.cls.getD b 0↔y.cls.getD a 0=y.cls.getD b 0)):x.cls=y.cls:=by
 have hc:=(f7 (f:=fun c=>x.cls.getD c 0) (g:=fun c=>y.cls.getD c 0) (l:=List.range 256) (fun a ha b hb=>h a b (List.mem_range.1 ha) (List.mem_range.1 hb))).2;refine jV (by omega) fun i h1 h2=>?_;have e1:=q0T hx lx (c:=i) (by omega);have e2:=q0T hy ly (c:=i) (by omega);rw[hc i (List.mem_range.2 (by omega)),<-e2]at e1;rwa [qu,qy h1,qN,qu,qy h2,qN]at e1
abbrev toS(d:Dfa)(t:List UInt8):Nat:=t.foldl (sB d) 0
section
variable {x y : Dfa}
theorem mI.to_lt(h:mI x)(t:List UInt8):toS x t<x.next.length:=by
 have:=(q6I h.valid h.cl t 0 (oQ h.valid)).2;rw[h.reach,a9]at this;exact this
theorem mI.text(h:mI x){s:Nat}(hs:s<x.next.length):∃t,toS x t=s:=q3S h.valid h.cl s (by rw[h.reach,a9];exact hs)
theorem mI.told(hx:mI x)(hy:mI y)(h:∀t,eR x t=eR y t)(t u:List UInt8):gZ x (u.foldl (sB x) (toS x t))=gZ y (u.foldl (sB y) (toS y t)):=by
 have:=h (t++u);rw[q33 hx.valid hx.cl,q33 hy.valid hy.cl,qZ,qZ]at this;exact this
theorem mI.same(hx:mI x)(hy:mI y)(h:∀t,eR x t=eR y t){t u:List UInt8}(he:toS x t=toS x u):toS y t=toS y u:=by
 refine hy.apart _ _ (hy.to_lt t) (hy.to_lt u) ((q8g hy.valid hy.cl).2 fun v=>?_);rw[<-hx.told hy h,<-hx.told hy h,he]
theorem sQ(d:Dfa)(t:List UInt8)(b:UInt8):toS d (t++[b])=sB d (toS d t) b:=by unfold toS;rw[qZ];rfl
theorem mI.cls_iff(hx:mI x){a b:UInt8}:x.cls.getD a.toNat 0=x.cls.getD b.toNat 0↔∀t,toS x (t++[a])=toS x (t++[b]):=by
 constructor
 ·intro h t
  rw[sQ,sQ];unfold sB;rw[h]
 intro h;obtain⟨c,hc,hck⟩:=q0S hx.valid hx.cl a;obtain⟨e,he,hek⟩:=q0S hx.valid hx.cl b;rw[hc,he]
 have:c=e:=hx.cols c e hck hek fun s hs=>by
  obtain⟨t,rfl⟩:=hx.text hs;have h1:=h t;rw[sQ,sQ]at h1;unfold sB at h1;rw[hc,he,qD,qD]at h1;exact h1
 rw[this]
theorem q1O{a:Nat}(h:a<256):∃b:UInt8,b.toNat=a:=⟨UInt8.ofNat a,by rw[UInt8.toNat_ofNat'];exact Nat.mod_eq_of_lt (by omega)⟩
theorem mI.cls_eq(hx:mI x)(hy:mI y)(h:∀t,eR x t=eR y t):x.cls=y.cls:=by
 refine q8i hx.valid hy.valid hx.cl hy.cl fun a b ha hb=>?_;obtain⟨a,rfl⟩:=q1O ha;obtain⟨b,rfl⟩:=q1O hb;rw[hx.cls_iff,hy.cls_iff];exact⟨fun g t=>hx.same hy h (g t),fun g t=>hy.same hx (fun t=>(h t).symm) (g t)⟩
theorem mI.kN_eq(hx:mI x)(hy:mI y)(h:∀t,eR x t=eR y t):kN_MiniE x=kN_MiniE y:=by
 have h1:=xO hx.valid;rw[hx.cls_eq hy h,xO hy.valid]at h1;injection h1 with h1;exact h1.symm
theorem mI.len_le(hx:mI x)(hy:mI y)(h:∀t,eR x t=eR y t):x.next.length<=y.next.length:=by
 obtain⟨τ,hτ⟩:∃τ:Nat->List UInt8,∀s,s<x.next.length->toS x (τ s)=s:=
  ⟨fun s=>if h:s<x.next.length then(hx.text h).choose else [],fun s hs=>by simp only[dif_pos hs];exact(hx.text hs).choose_spec⟩
 have h1:=q0E (l:=(List.range x.next.length).map fun s=>toS y (τ s)) (m:=List.range y.next.length) (by
  rw[List.nodup_iff_pairwise_ne,List.pairwise_map];refine List.Pairwise.imp_of_mem ?_ List.nodup_range;intro a b ha hb hab he;rw[a9]at ha hb;have:=hy.same hx (fun t=>(h t).symm) he;rw[hτ a ha,hτ b hb]at this;exact hab this) (fun z hz=>by
  obtain⟨s,-,rfl⟩:=List.mem_map.1 hz;exact List.mem_range.2 (hy.to_lt _))
 simpa using h1
theorem q3T(hx:mI x)(hy:mI y)(h:∀t,eR x t=eR y t):x=y:=by
 have hs:=fun t=>(h t).symm;have hlen:y.next.length=x.next.length:=Nat.le_antisymm (hy.len_le hx hs) (hx.len_le hy h)
 obtain⟨τ,hτ⟩:∃τ:Nat->List UInt8,∀s,s<x.next.length->toS x (τ s)=s:=
  ⟨fun s=>if h:s<x.next.length then(hx.text h).choose else [],fun s hs=>by simp only[dif_pos hs];exact(hx.text hs).choose_spec⟩
 obtain⟨σ,hσ⟩:∃σ:Nat->List UInt8,∀s,s<y.next.length->toS y (σ s)=s:=
  ⟨fun s=>if h:s<y.next.length then(hy.text h).choose else [],fun s hs=>by simp only[dif_pos hs];exact(hy.text hs).choose_spec⟩
 have hp:∀t,toS y (τ (toS x t))=toS y t:=fun t=>hx.same hy h (hτ _ (hx.to_lt t));have hq:∀t,toS x (σ (toS y t))=toS x t:=fun t=>hy.same hx hs (hσ _ (hy.to_lt t));have h0:=hx.valid.1
 have hT:fM x y (fun i=>toS y (τ i)) (fun i=>toS x (σ i)):=by
  refine⟨(hx.cls_eq hy h).symm,hlen,by rw[hy.valid.2.2.1,hlen],fun i hi=>by rw[<-hlen];exact hy.to_lt _,fun i hi=>hx.to_lt _,fun i hi=>?_,fun i hi=>?_,?_,fun i hi=>?_,fun i hi=>?_⟩
  ·show toS x (σ (toS y (τ i)))=i
   rw[hq,hτ i hi]
  ·show toS y (τ (toS x (σ i)))=i
   rw[hp,hσ i (by omega)]
  ·show toS y (τ 0)=0
   have:=hp [];exact this
  ·show y.next.getD (toS y (τ i)) []=_
   have hyl:=hy.to_lt (τ i);have e1:=fT hy.valid hyl;have e2:=fT hx.valid hi;have e3:=hx.kN_eq hy h;refine jV (by rw[lS,qB,lI,e1,e2,e3]) fun c h1 h2=>?_;have hcx:c<kN_MiniE x:=by omega
   obtain⟨b,hb,hbx⟩:=jj (l6 hx.valid hcx);have hb2:b<256:=by have:=hx.cl;omega
   obtain⟨bb,rfl⟩:=q1O hb2;have cx:x.cls.getD bb.toNat 0=(c:Int):=by rw[qu,qy hb,qN,hbx]
   have cy:y.cls.getD bb.toNat 0=(c:Int):=by rw[<-hx.cls_eq hy h];exact cx
   have s1:=hp (τ i++[bb]);rw[sQ,sQ,hτ i hi]at s1;unfold sB at s1;rw[cx,cy,qD]at s1;obtain⟨_,_,_,k,hk,hrr⟩:=id hy.valid;have hra:=(hrr _ hyl).2.2.2 c h1
   have e4:aM y (toS y (τ i)) c=((y.next.getD (toS y (τ i)) []).getD c 0).toNat:=by
    unfold aM rowN_MiniM;simp only[qu,qU];cases(y.next[toS y (τ i)]?.getD [])[c]? <;>rfl
   rw[e4]at s1;have e5:(y.next.getD (toS y (τ i)) []).getD c 0=(y.next.getD (toS y (τ i)) [])[c]:=by rw[qu,qy h1,qN]
   have e6:aM x i c=(rowN_MiniM x i)[c]'(by rw[lI,e2];exact hcx):=by
    unfold aM;rw[qu,qy,qN]
   rw[e5]at s1 hra;simp only[nl,jx];rw[<-e6];have s2:toS y (τ (aM x i c))=((y.next.getD (toS y (τ i)) [])[c]).toNat:=s1;rw[s2];omega
  have:=hx.told hy h (τ i) [];rw[List.foldl_nil,List.foldl_nil,hτ i hi]at this;exact this.symm
 have h1:=hT.make hx.valid;rw[hx.again,hy.again]at h1;exact h1.symm
end
end Go.Cm
