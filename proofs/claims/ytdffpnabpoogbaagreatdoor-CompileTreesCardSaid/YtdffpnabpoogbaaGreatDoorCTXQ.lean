/- Walks of functions and plain facts, joined and squeezed by a program. Conditions: as each says. -/
import Derived.Test.YtdffpnabpoogbaaGreatDoorCTXL
set_option maxHeartbeats 8000000
set_option maxRecDepth 100000
set_option linter.unusedSimpArgs false
open Go.Proofs.Tryz
namespace Go.Cm
open Go.RowKit Go.Proofs
def InL(n:Nat)(st:List Int)(i:Nat):Prop:=i<n/\(i:Int)∈st
theorem q0e(n:Nat)(st:List Int):On (sJ n st)=InL n st:=funext fun i=>propext (q4W n st i)
noncomputable def O0(e:List (List Ed))(F:Int)(r st:List Int):List Nat:=if dZ e F r then nO e.length (Rch e (InL e.length st))else []
noncomputable def pQ(e:List (List Ed))(st:List Int)(c:Nat):List Nat:=nO e.length (Rch e (By e (InL e.length st) c))
theorem o6{e:List (List Ed)}{F:Int}{r:List Int}(h:dZ e F r=true):1<=e.length/\e.length<=3000:=by
 have:=j9 (kY.1 h).1;omega
theorem o8{w:World}{p:Nat}{ve vr:Value}{F:Int}(h:Own w 0 209 (.slice (some ⟨p,0,none⟩) 3 3) [ve,.int .i64 F,vr]):∀c,c<3->w.cell? ⟨p,0+c,none⟩=some ((#[ve,.int .i64 F,vr]:Array Value).getD c undef):=fun c hc=>by
 rw[qE,h.cell (by simpa using hc)];rcases(show c=0\/c=1\/c=2 by omega)with rfl|rfl|rfl<;>rfl
theorem q4X{w:World}{A:Array Value}{e:List (List Ed)}{F:Int}{r:List Int}(h:zW w A e F r){v:Value}{st:List Int}(hs:eE w v st):
  Calls prog 199 #[.agg A,v] w fun en w'=>∃u,en=.returned u/\Own w' w.heap.size 3 u (ints (nz (O0 e F r st)))/\Below w.heap.size w w':=by
 have h0:=h;obtain⟨ve,vr,rfl,-,-⟩:=h;obtain⟨R,hR⟩:∃R,R=dZ e F r:=⟨_,rfl⟩;have HR:=qa hR;have HH:=qa h0;have HS:=qa hs;have HA:=qa (aA w (.cells #[ve,.int .i64 F,vr] 209));have HRT:=qa (q2E (h0.up HA.o));rw[<-hR]at HRT;have HBX:=qa (by simpa using bU w 0 #[ve,.int .i64 F,vr] 209 (by simp) (qd _):Own (w.alloc (.cells #[ve,.int .i64 F,vr] 209)) 0 209 (.slice (some ⟨w.heap.size,0,none⟩) 3 3) [ve,.int .i64 F,vr]);clear h0 hs hR;cases R with
 |false=>
  have HC:Hid (O0 e F r st=[]):=qa (by unfold O0;rw[<-HR.o];rfl);go_enter func199,ntmps199
  go_wp2_with((with_reducible go_at_call 202);refine HRT.o.mono ?_;rintro en w1 ⟨rfl,x1,rfl⟩)
  go_ret;exact⟨_,rfl,by rw[HC.o];exact Own.nil _ _ _,HA.o.trans ((aD _ x1).mono HA.o.size)⟩
 |true=>
  have HN:=qa (o6 HR.o.symm);have HC:Hid (O0 e F r st=nO e.length (Rch e (On (sJ e.length st)))):=qa (by unfold O0;rw[<-HR.o,q0e];rfl);go_enter func199,ntmps199
  go_upto_region 3 with((with_reducible go_at_call 202);refine HRT.o.mono ?_;rintro en w1 ⟨rfl,x1,rfl⟩)
  have HB1:=qa (HA.o.trans ((aD _ x1).mono HA.o.size));have qc0:=qa (HBX.o.up (aD _ x1));clear HA HBX HRT;generalize ext (w.alloc (.cells #[ve,.int .i64 F,vr] 209)) x1=w1 at*
  have HBQ:Hid (∀w',(∃y,w'=ext w1 y)->∀c,c<3->w'.cell? ⟨w.heap.size,0+c,none⟩=some ((#[ve,.int .i64 F,vr]:Array Value).getD c undef)):=qa (by
   rintro w' ⟨y,rfl⟩;exact o8 (qc0.o.up (aD _ y)))
  have HMK:=qa (q64 ((HH.o.up HB1.o).up (aR w1)) (by have:=HN.o;omega) ((HS.o.up HB1.o).up (aR w1)));refine aT [0,1,2] [3] [4,5] (by kernel_rfl) (by kernel_rfl) ?_;simp only[pk]
  repeat(first|(go_big_quiet_want;refine dO 209 3 _ rfl w.heap.size 0 rfl #[ve,.int .i64 F,vr] rfl HBQ.o _ underlying209 rfl (by kernel_rfl) ?_;go_simp;go_big_quiet_on)|go_big_quiet_step (fail))
  refine wpQuiet_nil ?_;unfold aG
  go_wp2_with((with_reducible go_at_call 206);refine HMK.o.mono ?_;rintro en w2 ⟨u,rfl,ho,hb⟩;have HO:=qa ho;have HB2:=qa hb;clear ho hb)
  have HSP:=qa (q2G (w0:=w) HH.o ((HB1.o.trans ((aR w1).mono HB1.o.size)).trans (HB2.o.mono (by simpa using HB1.o.size))) HR.o.symm (HO.o.mono (by simpa using HB1.o.size)) (uE _ _));refine⟨aI ((aR w1).trans HB2.o),?_⟩;unfold aG;unfold aG
  go_wp2_with((with_reducible go_at_call 205);refine HSP.o.mono ?_;rintro en w3 ⟨u3,rfl,ho,hb⟩;have HO3:=qa ho;have HB3:=qa hb;clear ho hb)
  refine⟨trivial,?_⟩;unfold aG;go_wp2;refine⟨trivial,?_⟩;unfold aG;go_wp2;go_ret;exact⟨_,rfl,by rw[HC.o];exact HO3.o,HB3.o⟩
def By1(e:List (List Ed))(a c b:Nat):Prop:=∃x∈e.getD a [],x.free=false/\tI x c=true/\x.to=b
theorem q8v{e:List (List Ed)}{S:Nat->Prop}{n c b:Nat}(L:List Nat)(hL:L=nO n S)(hS:∀i,S i->i<n):By e S c b↔∃q,q<L.length/\By1 e (L.getD q 0) c b:=by
 constructor
 ·rintro⟨a,ha,h⟩
  have:a∈L:=by rw[hL,gC];exact⟨hS a ha,ha⟩
  obtain⟨q,hq,rfl⟩:=jg this;exact⟨q,hq,by rw[show L.getD q 0=L[q] by simp[List.getD,hq]];exact h⟩
 rintro⟨q,hq,h⟩;have:L.getD q 0∈L:=by simp[List.getD,hq]
 rw[hL,gC,<-hL]at this;exact⟨_,this.2,h⟩
theorem q9W{w:World}{A:Array Value}{e:List (List Ed)}{F:Int}{r:List Int}(h:zW w A e F r)(hr:dZ e F r=true){v:Value}{st:List Int}(hs:eE w v st)(c:Nat)(hc:c<256):
  Calls prog 207 #[.agg A,v,.int .u8 c] w fun en w'=>∃u,en=.returned u/\Own w' w.heap.size 3 u (ints (nz (pQ e st c)))/\Below w.heap.size w w':=by
 obtain⟨hhd,qc6⟩:=kY.1 hr;have hn:=o6 hr;have HED:Hid (∀i,i<e.length->∀j,j<(e.getD i []).length->W0 e.length ((e.getD i []).getD j eA)=true):=qa (fun i hi j hj=>(G2.1 (qc6 i hi)).2 j hj);have HH:=qa h;have HRR:=qa hr;obtain⟨ve,vr,rfl,he,-⟩:=h;obtain⟨oe,ce,be,fe,rfl,hde,hce⟩:=he.open;have qc9:=sK hde;have hbe:=hde.hblk (by omega);have HCE:=qa hce;have HSS:=qa hs;have HSN:Hid (pQ e st c=nO e.length (Rch e (By e (InL e.length st) c))):=qa rfl;obtain⟨L,hL⟩:∃L,L=nO e.length (InL e.length st):=⟨_,rfl⟩;have HLM:Hid (lG (sJ e.length st)=L):=qa (by rw[sL (uE _ _),q0e,hL]);have HBI:Hid (∀b,By e (InL e.length st) c b↔∃q,q<L.length/\By1 e (L.getD q 0) c b):=qa (fun b=>q8v L hL (fun i hi=>hi.1))
 have HLT:Hid (∀q,q<L.length->L.getD q 0<e.length):=qa (fun q hq=>by
  have:L.getD q 0∈L:=by simp[List.getD,hq]
  rw[hL,gC,<-hL]at this;exact this.1)
 have hLl:L.length<=e.length:=by rw[hL];exact q0a _ _
 have HMM:=qa (fun(x:World) (hb:Below w.heap.size w x)=>q64 (w:=x) (HH.o.up hb) (by omega) (hs.up hb));have HML:Hid ((sJ e.length st).length<=100000):=qa (by rw[(uE e.length st).len];omega);obtain⟨n,hn'⟩:∃n,n=e.length:=⟨_,rfl⟩;have HN:=qa hn';have hmk:=wX (P:=prog) 39 3 (.int .i64 0) 8 n underlying39 (by kernel_rfl) rfl (by decide) (by omega);rw[<-hn']at hn HED qc9 HCE HSN HLM HBI HLT hLl HMM HML⊢;have hA:=aA w (.cells #[.slice oe n ce,.int .i64 F,vr] 209);have HBX:=qa (by simpa using bU w 0 #[.slice oe n ce,.int .i64 F,vr] 209 (by simp) (qd _):Own (w.alloc (.cells #[.slice oe n ce,.int .i64 F,vr] 209)) 0 209 (.slice (some ⟨w.heap.size,0,none⟩) 3 3) [.slice oe n ce,.int .i64 F,vr]);have hsz:(w.alloc (.cells #[.slice oe n ce,.int .i64 F,vr] 209)).heap.size=w.heap.size+1:=by simp
 have HO:=qa (vZ (w.alloc (.cells #[.slice oe n ce,.int .i64 F,vr] 209)) (w.heap.size+1) 3 (.int .i64 0) n (by simp) (by omega));rw[hsz]at HO;have hA2:=aA (w.alloc (.cells #[.slice oe n ce,.int .i64 F,vr] 209)) (.cells (madeCells #[.int .i64 0] n) 3);have qbm:=qa (HBX.o.up hA2);have HB2:=qa (hA.trans (hA2.mono hA.size));have qbw:((w.alloc (.cells #[.slice oe n ce,.int .i64 F,vr] 209)).alloc (.cells (madeCells #[.int .i64 0] n) 3)).heap.size=w.heap.size+2:=by simp
 clear hs hhd qc6 hr he hde hce hL hn' hA hA2 HBX hsz;go_enter func207,ntmps207
 go_upto_region 2 with fail
 generalize (w.alloc (.cells #[.slice oe n ce,.int .i64 F,vr] 209)).alloc (.cells (madeCells #[.int .i64 0] n) 3)=w2 at*;have HMK:=qa (HMM.o w2 HB2.o)
 go_upto_region 3 with(first
  |(refine aH rfl 209 _ rfl w.heap.size 0 3 rfl #[.slice oe n ce,.int .i64 F,vr] _ (o8 qbm.o) rfl underlying209 rfl (by kernel_rfl) ?_)
  |((with_reducible go_at_call 206);refine HMK.o.mono ?_;rintro en w3 ⟨u3,rfl,ho,hb⟩;have HO3:=qa ho;have HB3:=qa hb;clear ho hb)
  |((with_reducible go_at_call 208);refine(V9 HO3.o.sl HML.o).mono ?_;rintro en w4 ⟨u4,rfl,ho,hb⟩;rw[HLM.o]at ho;have HO4:=qa ho;have HB4:=qa (HB3.o.trans (hb.mono HB3.o.size));obtain⟨ol,cl,gl,rfl,hdl,hgl,hcl,-⟩:=ho.cases;rw[show(ints (nz L)).length=L.length by simp[nz]]at*;clear ho hb))
 have HW4:=qa (HB2.o.trans (HB4.o.mono (by omega)));have HX4:=qa (qbm.o.up HB4.o);have HM4:=qa (by simpa[q0d]using HO.o.up HB4.o:Own w4 (w.heap.size+1) 3 (.slice (some ⟨w.heap.size+1,0,none⟩) n n) (ints (List.replicate n 0)));have HCL:Hid (∀i,i<L.length->w4.cell? ⟨gl,i,none⟩=some (.int .i64 ((L.getD i 0:Nat):Int))):=qa (fun i hi=>by rw[hcl i hi,eS _ _ (by simpa[nz]using hi),F3 _ _ hi]);have qd0:=fun(W:World) (i:Nat) (hi:i<L.length)=>aU (P:=prog) 39 3 underlying39 (by kernel_rfl) hdl W .i64 i (by omega) (by omega);simp only[qA,qE]at qd0;have HGL:Hid (0<L.length->gl<w4.heap.size/\w.heap.size+2<=gl):=qa (fun hp=>⟨hdl.hblk hp,by have:=(hgl hp).2;have:=HB3.o.size;omega⟩);have hml:=hdl.len;obtain⟨ll,hll⟩:∃ll,ll=L.length:=⟨_,rfl⟩;have HLL:=qa hll;rw[<-hll]at qd0 HGL HCL hml hLl HBI HLT⊢;have HWO:Hid (w.heap.size+2<=w4.heap.size):=qa (by have:=HB4.o.size;omega);clear HMK HO qbm HB2 HO3 HB3 HO4 hdl hgl hcl HB4 HLM HML HMM hmk hll qbw
 go_loopg [21] ll (fun gk iv wr=>∃(i:Nat) (m:List Int),iv=.int .i64 i/\i<=ll/\Own wr (w.heap.size+1) 3 (.slice (some ⟨w.heap.size+1,0,none⟩) n n) (ints m)/\kL n m/\(∀b,On m b↔∃q,q<i/\By1 e (L.getD q 0) c b)/\w4.grownBy wr (some (w.heap.size+1))/\gk=ll-i)
 case atStart=>exact⟨0,_,rfl,qd _,HM4.o,xR n,fun b=>⟨fun h=>absurd h (q2F n b),fun⟨q,h,_⟩=>absurd h (qz q)⟩,cW _ _,rfl⟩
 case round=>
  obtain⟨i,m,rfl,hi,hm,qe5,hon,hgr,rfl⟩:=hrel;have HM:=qa hm;have HBT:=qa qe5;have HON:=qa hon;have HG:=qa hgr;have HW:Hid (Below w.heap.size w wr):=qa (HW4.o.grown hgr HW4.o.size (fun k hk=>by cases hk;omega));have HX:=qa (HX4.o.keep hgr (.inr (fun e=>by have:w.heap.size=w.heap.size+1:=qo e;omega)));clear hm qe5 hon hgr HM4;have x0:=HX.o.cell (i:=0) (by simp);simp only[j7]at x0;have hwx:w.heap.size<wr.heap.size:=HX.o.blk.2;by_cases hlt:i<ll
  ·have hgl:=HGL.o (by omega)
   have hcl:=(World.cell?_of_block (a:=⟨gl,i,none⟩) (HG.o.block gl hgl.1 (fun e=>by have:gl=w.heap.size+1:=qo e;omega))).trans (HCL.o i hlt);have qeJ:gl<wr.heap.size:=by have:=HG.o.size;omega
   have qiP:=fun W=>qd0 W i hlt;obtain⟨s,hs⟩:∃s,s=L.getD i 0:=⟨_,rfl⟩;have HS:=qa hs;have hsn:s<n:=by rw[hs];exact HLT.o i hlt
   rw[<-hs]at hcl;obtain⟨oi,ci,bi,fi,hrow,hdi,hcell⟩:=HCE.o s hsn;have qbN:=(HW.o.cell (p:=⟨be,fe+s,none⟩) hbe).trans hrow;have qcv:be<wr.heap.size:=by have:=HW.o.size;omega
   have qd1:=fun W=>qc9 W s hsn;have qbi:=pB hdi;have hbi:=hdi.hblk;have hmi:=hdi.len;have HCI:=qa hcell;have qdd:=qa (HED.o s hsn);obtain⟨row,hrw⟩:∃row,row=e.getD s []:=⟨_,rfl⟩;have HRO:=qa hrw;rw[<-hrw]at qbN qbi hbi hmi HCI qdd;obtain⟨ln,hln⟩:∃ln,ln=row.length:=⟨_,rfl⟩;have HLN:=qa hln;rw[<-hln]at qbN qbi hbi hmi HCI qdd;clear hs hrow hdi hcell hrw hln hgl;go_wp2;have HMO:=HM;have HGO:=HG;have qid:=HBT;clear HM HX HG HW qbN qcv x0 hwx hcl qeJ HBT;generalize wr=wo at*
   go_loopg [31] ln (fun gk jv wr=>∃(j:Nat) (m':List Int),jv=.int .i64 j/\j<=ln/\Own wr (w.heap.size+1) 3 (.slice (some ⟨w.heap.size+1,0,none⟩) n n) (ints m')/\kL n m'/\(∀b,On m' b↔On m b\/∃q,q<j/\(row.getD q eA).free=false/\tI (row.getD q eA) c=true/\(row.getD q eA).to=b)/\w4.grownBy wr (some (w.heap.size+1))/\gk=ln-j)
   case atStart=>exact⟨0,m,rfl,qd _,HMO.o,qid.o,fun b=>⟨.inl,fun h=>h.elim id (fun⟨q,h,_⟩=>absurd h (qz q))⟩,HGO.o,rfl⟩
   case round=>
    obtain⟨j,m',rfl,hj,hm,qe5,hon,hgr,rfl⟩:=hrel;have HM:=qa hm;have HBT:=qa qe5;have qcR:=qa hon;have HG:=qa hgr;have HW:Hid (Below w.heap.size w wr):=qa (HW4.o.grown hgr HW4.o.size (fun k hk=>by cases hk;omega));have qh0:=HM.o.blk.2;clear hm qe5 hon hgr HMO HGO qid;by_cases hlt:j<ln
    ·obtain⟨ed,hed⟩:∃ed,ed=row.getD j eA:=⟨_,rfl⟩
     have HEE:=qa hed;have qcu:=hbi (by omega)
     have HCD:Hid (∀c,c<6->wr.cell? ⟨bi,fi+j*6+c,none⟩=some ((edA ed).getD c undef)):=qa (fun c hcl=>by
      rw[HW.o.cell (p:=⟨bi,fi+j*6+c,none⟩) qcu,HCI.o j hlt c hcl,G4,hed])
     have hok:=qdd.o j hlt;rw[<-hed]at hok;obtain⟨tq,fr',a,b,c',d⟩:=ed;unfold edA at HCD;simp only at HCD;have ht:0<=tq/\tq<n:=by unfold W0 at hok;simp at hok;omega
     obtain⟨t,rfl⟩:=jE ht.1;have htn:t<n:=by omega
     have qcq:=fun W=>qbi W j hlt;have HA6:=qa (aA wr (.cells #[.int .i64 t,.bool fr',.int .u64 a,.int .u64 b,.int .u64 c',.int .u64 d] 226));have HG6:=qa (aC HG.o (aE HA6.o _));have HM6:=qa (HM.o.up HA6.o)
     have qd9:Hid ((fr'=true\/tI ⟨(t:Int),fr',a,b,c',d⟩ c=false)->∀bb,On m' bb↔On m bb\/∃q,q<j+1/\(row.getD q eA).free=false/\tI (row.getD q eA) c=true/\(row.getD q eA).to=bb):=qa (fun hno bb=>by
      rw[qcR.o bb];refine or_congr Iff.rfl ⟨fun⟨q,h1,h2⟩=>⟨q,by omega,h2⟩,fun⟨q,h1,h2,h3,h4⟩=>?_⟩;by_cases hqj:q=j
      ·rw[hqj,<-HEE.o]at h2 h3
       rcases hno with hno|hno
       ·rw[hno]at h2;cases h2
       rw[hno]at h3;cases h3
      exact⟨q,by omega,h2,h3,h4⟩)
     have HHS:=qa (fun(x:World)=>q4V (w:=x) ⟨(t:Int),fr',a,b,c',d⟩ c hc);clear hed hok ht;cases fr' with
     |true=>
      go_wp2_with(refine aH rfl 226 _ rfl bi (fi+j*6) 6 rfl _ _ HCD.o rfl underlying226 rfl (by kernel_rfl) ?_)
      go_roundg (ln-(j+1))
      case measure=>omega
      case rel=>exact⟨j+1,m',by go_num,by omega,HM6.o,HBT.o,qd9.o (.inl (by trivial)),HG6.o,rfl⟩
     |false=>
      obtain⟨hv,hhv⟩:∃hv,hv=tI ⟨(t:Int),false,a,b,c',d⟩ c:=⟨_,rfl⟩;have HHV:=qa hhv;rw[<-hhv]at qd9 HHS;clear hhv;cases hv with
      |false=>
       go_wp2_with(first|(refine aH rfl 226 _ rfl bi (fi+j*6) 6 rfl _ _ HCD.o rfl underlying226 rfl (by kernel_rfl) ?_)|((with_reducible go_at_call 209);refine(HHS.o _).mono ?_;rintro en w7 ⟨rfl,x7,rfl⟩))
       go_roundg (ln-(j+1))
       case measure=>omega
       case rel=>exact⟨j+1,m',by go_num,by omega,HM6.o.up (aD _ x7),HBT.o,qd9.o (.inr (by trivial)),aC HG6.o (aE (aD _ x7) _),rfl⟩
      |true=>
       have qfr:=fun W=>aU (P:=prog) 39 3 underlying39 (by kernel_rfl) (show Hd wr (some ⟨w.heap.size+1,0,none⟩) n n (w.heap.size+1) 0 from⟨fun _=>rfl,qb _,by simp only[maxLen];omega,by omega,fun _=>qh0⟩) W .i64 t (by omega) (by omega);simp only[qA,qE]at qfr;have hfr:=HM.o.free t;have qir:∀x7,(ext (wr.alloc (.cells #[.int .i64 t,.bool false,.int .u64 a,.int .u64 b,.int .u64 c',.int .u64 d] 226)) x7).heap.size≥wr.heap.size+1:=fun x7=>by have:=(aD (wr.alloc (.cells #[.int .i64 t,.bool false,.int .u64 a,.int .u64 b,.int .u64 c',.int .u64 d] 226)) x7).size;simp at this;omega
       go_wp2_with(first|(refine aH rfl 226 _ rfl bi (fi+j*6) 6 rfl _ _ HCD.o rfl underlying226 rfl (by kernel_rfl) ?_)|((with_reducible go_at_call 209);refine(HHS.o _).mono ?_;rintro en w7 ⟨rfl,x7,rfl⟩;have hsx:=qir x7;have qkX:=(HM6.o.up (aD _ x7)).free t;have ql7:=(HM6.o.up (aD _ x7)).cell (i:=t) (by rw[aV,HBT.o.len];exact htn)))
       go_roundg (ln-(j+1))
       case measure=>omega
       case rel=>
        have hst:=(HM6.o.up (aD _ x7)).store t (.int .i64 1);refine⟨j+1,m'.set t 1,by go_num,by omega,by rw[<-wI];exact hst.1,wH HBT.o t,fun bb=>?_,aC (aC HG6.o (aE (aD _ x7) _)) hst.2,rfl⟩;rw[q0b HBT.o htn,qcR.o bb]
        constructor
        ·rintro(rfl|h|⟨q,h1,h2⟩)
         ·exact .inr ⟨j,by omega,by rw[<-HEE.o],by rw[<-HEE.o,HHV.o],by rw[<-HEE.o]⟩
         ·exact .inl h
         exact .inr ⟨q,by omega,h2⟩
        rintro(h|⟨q,h1,h2,h3,h4⟩)
        ·exact .inr (.inl h)
        by_cases hqj:q=j
        ·rw[hqj,<-HEE.o]at h4
         exact .inl (jo h4).symm
        exact .inr (.inr ⟨q,by omega,h2,h3,h4⟩)
    go_wp2
    go_roundg (ll-(i+1))
    case measure=>omega
    case rel=>
     refine⟨i+1,m',by go_num,by omega,HM.o,HBT.o,fun b=>?_,HG.o,rfl⟩;rw[qcR.o b,HON.o b]
     constructor
     ·rintro(⟨q,h1,h2⟩|⟨q,h1,h2,h3,h4⟩)
      ·exact⟨q,by omega,h2⟩
      refine⟨i,by omega,row.getD q eA,?_,h2,h3,h4⟩;rw[<-HS.o,<-HRO.o];have:=HLN.o;simp[List.getD,show q<row.length by omega]
     rintro⟨q,h1,h2⟩;by_cases hqi:q=i
     ·subst hqi
      obtain⟨x,hx,h3,h4,h5⟩:=h2;rw[<-HS.o,<-HRO.o]at hx;obtain⟨p,hp,rfl⟩:=jg hx;have hg:row.getD p eA=row[p]:=by simp[List.getD,hp]
      exact .inr ⟨p,by have:=HLN.o;omega,by rw[hg];exact h3,by rw[hg];exact h4,by rw[hg];exact h5⟩
     exact .inl ⟨q,by omega,h2⟩
  have hie:i=ll:=by omega
  subst hie;have HOS:Hid (On m=By e (InL n st) c):=qa (funext fun b=>propext ((HON.o b).trans (HBI.o b).symm));have HSP:=qa (q2G (w0:=w) HH.o HW.o HRR.o (HM.o.mono (ja _)) (by rw[<-HN.o];exact HBT.o));rw[<-HN.o,HOS.o]at HSP
  go_wp2_with(first
   |(refine aH rfl 209 _ rfl w.heap.size 0 3 rfl #[.slice oe n ce,.int .i64 F,vr] _ (o8 HX.o) rfl underlying209 rfl (by kernel_rfl) ?_)
   |((with_reducible go_at_call 205);refine HSP.o.mono ?_;rintro en w5 ⟨u5,rfl,ho,hb⟩;have HO5:=qa ho;have HB5:=qa hb;clear ho hb))
  go_ret;exact⟨_,rfl,by rw[HSN.o];exact HO5.o,HB5.o⟩
def txt(s:ByteArray):List Nat:=s.data.toList.map UInt8.toNat
theorem q8w{e:List (List Ed)}{S:Nat->Prop}(c:Nat):By e (fun i=>i<e.length/\S i) c=By e S c:=by
 funext b
 refine propext ⟨fun⟨a,⟨_,ha⟩,h⟩=>⟨a,ha,h⟩,fun⟨a,ha,x,hx,h⟩=>⟨a,⟨?_,ha⟩,x,hx,h⟩⟩;apply qh;intro hn;simp[List.getD,qM (show e.length<=a by omega)]at hx
theorem q8x(n:Nat)(P:Nat->Prop):InL n (nz (nO n P))=fun i=>i<n/\P i:=by
 funext i
 refine propext ⟨fun⟨h,h2⟩=>⟨h,?_⟩,fun h=>⟨h.1,?_⟩⟩
 ·simp only[nz,jy]at h2
  obtain⟨j,hj,e⟩:=h2;rw[gC]at hj;obtain rfl:j=i:=jo e;exact hj.2
 simp only[nz,jy];exact⟨i,gC.2 h,rfl⟩
theorem q1t(e:List (List Ed))(F:Nat)(cs:List Nat)(c:Nat):pQ e (nz (nO e.length (vS e F cs))) c=nO e.length (vS e F (c::cs)):=by
 unfold pQ;rw[q8x,q8w]
 rfl
theorem q2H{e:List (List Ed)}{F:Int}{r:List Int}(h:dZ e F r=true):O0 e F r [F]=nO e.length (vS e F.toNat []):=by
 unfold O0;rw[qt h];have hF:0<=F/\F<e.length:=by have:=j9 (kY.1 h).1;omega
 have:InL e.length [F]=fun i=>i=F.toNat:=by
  funext i
  refine propext ⟨fun⟨h1,h2⟩=>by simp at h2;omega,fun h1=>⟨by omega,by simp;omega⟩⟩
 rw[this]
 rfl
def q9E(e:List (List Ed))(F:Int)(r:List Int)(t:List Nat)(k:Nat):Prop:=∃x,x<e.length/\vS e F.toNat t.reverse x/\r.getD x 0=k
noncomputable def q9F(e:List (List Ed))(F:Int)(r:List Int)(t:List Nat):List Nat:=if dZ e F r then nO 32 (q9E e F r t)else []
theorem q4Y{e:List (List Ed)}{F:Int}{r:List Int}{t:List Nat}(L:List Nat)(hL:L=nO e.length (vS e F.toNat t.reverse))(k:Nat):q9E e F r t k↔∃q,q<L.length/\r.getD (L.getD q 0) 0=k:=by
 constructor
 ·rintro⟨x,hx,h1,h2⟩
  have:x∈L:=by rw[hL,gC];exact⟨hx,h1⟩
  obtain⟨q,hq,rfl⟩:=jg this;exact⟨q,hq,by rw[show L.getD q 0=L[q] by simp[List.getD,hq]];exact h2⟩
 rintro⟨q,hq,h⟩;have:L.getD q 0∈L:=by simp[List.getD,hq]
 rw[hL,gC,<-hL]at this;exact⟨_,this.1,this.2,h⟩
theorem cB.form{w:World}{v:Value}{l:List Nd}(h:cB w v l):∃oa cap,v=.slice oa l.length cap:=by
 obtain⟨oa,cap,b,off,hv,-,-⟩:=h.open;exact⟨oa,cap,hv⟩
theorem dS.form{w:World}{B:Nat}{v:Value}{l:List Nd}(h:dS w B v l):∃oa cap,v=.slice oa l.length cap:=h.at.form
theorem q2I{w x y:World}{p q:Nat}(h:w.grownBy x (some p))(k:x.grownBy y (some q))(hq:w.heap.size<=q):w.grownBy y (some p):=
 ⟨k.os.trans h.os,k.tape.trans h.tape,k.output.trans h.output,qc h.size k.size,fun z hz hne=>by
  rw[k.block z (qe hz h.size) (by intro e;have:=qo e;omega),h.block z hz hne]⟩
theorem dS.lt{w:World}{B:Nat}{u:Value}{l:List Nd}(h:dS w B u l):∀b,u.ownBlock=some b->B<=b/\b<w.heap.size:=cA.lt h
end Go.Cm
namespace Go.Cm
theorem q8y{ll:List (List Nd)}(h:rH ll=0):(∀l∈ll,Chk l)/\1+(ll.map iH).sum<=3000/\ll.length<=32/\0<ll.length:=by
 unfold rH at h;by_cases c1:ll.length=0
 ·rw[qt c1]at h;cases h
 rw[qr c1]at h;by_cases c2:32<ll.length
 ·rw[qt c2]at h;cases h
 rw[qr c2]at h;by_cases c3:∀l∈ll,Chk l
 ·rw[qr (fun h=>h c3)]at h
  by_cases c4:3000<1+(ll.map iH).sum
  ·rw[qt c4]at h;cases h
  exact⟨c3,by omega,by omega,by omega⟩
 rw[qt c3]at h;cases h
end Go.Cm
namespace Go.Cm
open Go.RowKit Go.Proofs
theorem Sl.mid{P:Program}{w:World}{v:Value}{l:List Value}(h:Sl w v l)(t E:TypeId)(ht:P.underlying t=some (.slice E))(hE:(P.info? E).map (·.size)=some 1)(n m:Nat)(hn:n<=m)(hm:m<=l.length):
  ∃u,(∀W:World,(Instr.sliceAt t v (some (.int .i64 (n:Int))) (some (.int .i64 (m:Int))) none).run P W=.ok u W)/\Sl w u ((l.drop n).take (m-n)):=by
 obtain⟨oa,cap,b,off,rfl,hd,hc⟩:=h;obtain⟨h1,h2⟩:=oY t E ht hE;have hcap:=hd.hcap;have hl:((l.drop n).take (m-n)).length=m-n:=by rw[qT,qY];omega
 refine⟨sliced oa n m cap 1,fun W=>?_,?_⟩
 ·rw[run_sliceAt_slice (P:=P) (t:=t) (h:=h1),run_slice_lh (t:=t) (ht:=h1) (h0:=by omega) (h1:=by omega) (h2:=by omega),h2]
  simp[Result.andThen]
 refine⟨if cap=n then oa else oa.map (·.add (n*1)),cap-n,b,off+n,by rw[hl];simp[sliced],⟨fun h0=>?_,by omega,by have:=hd.hmax;omega,by have:=hd.hsml;omega,fun h0=>hd.hblk (by omega)⟩,fun i hi=>?_⟩
 ·rw[hl]at h0
  rw[qr (by omega),hd.hat (by omega)];simp[kF]
 rw[hl]at hi;rw[jI,hc (n+i) (by omega)];simp[List.getD,hi]
theorem gW.one{w:World}{v:Value}{ll:List (List Nd)}(h:gW w v ll)(i:Nat)(hi:i<ll.length):
  ∃u,(∀W:World,(Instr.sliceAt 26 v (some (.int .i64 (i:Int))) (some (.int .i64 ((i:Int)+1))) none).run prog W=.ok u W)/\gW w u [ll.getD i []]:=by
 obtain⟨vs,h1,h2,h3⟩:=h;obtain⟨u,hu,hs⟩:=h1.mid (P:=prog) 26 31 underlying26 (by kernel_rfl) i (i+1) (ja _) (by omega);refine⟨u,fun W=>by have:=hu W;push_cast at this;exact this,[vs.getD i undef],?_,rfl,fun j hj=>?_⟩
 ·have e:(vs.drop i).take (i+1-i)=[vs.getD i undef]:=by
   rw[Nat.add_sub_cancel_left];rw[jB (show i<vs.length by omega),List.take_succ_cons,List.take_zero];simp[List.getD,show i<vs.length by omega]
  rw[e]at hs;exact hs
 obtain rfl:j=0:=by simpa using hj
 exact h3 i hi
end Go.Cm
namespace Go.Cm
open Go.RowKit Go.Proofs Go.WideShapes Go.ChangeShapes Go.Deep
instance :Inhabited Nd:=⟨⟨0,0,0,0,0,0,0,0⟩⟩
end Go.Cm
