/- Walks of functions and plain facts, joined and squeezed by a program. Conditions: as each says. -/
import Derived.Deep.CutBlock
import Derived.Test.YtdffpnabpoogbaaGreatDoorCTXM
import Derived.Test.YtdffpnabpoogbaaGreatDoorCTXN
import Derived.Test.YtdffpnabpoogbaaGreatDoorCTXG
import Derived.Test.YtdffpnabpoogbaaGreatDoorCTXL
set_option maxHeartbeats 8000000
set_option maxRecDepth 100000
set_option linter.unusedSimpArgs false
open Go.Proofs.Tryz
namespace Go.Cm
open Go.RowKit Go.Proofs
theorem ZmO0{P:Prop}(h:P:=by
 have qbJ:=HIX.o k hlt
 have HTK:=qa (HT.o k hlt);have HMK:=qa (HM.o k hlt);generalize l.getD k 0=d at*;by_cases hd:d=c
 ·subst hd
  go_wp2;go_ret;exact⟨by rw[HR.o,qw HMK.o];rfl,fD _⟩
 have hne:=kI hd;go_wp2
 go_round
 case rel=>exact⟨k+1,by omega,by go_num,HTK.o hd HN.o⟩
 case measure=>simp[intOf];omega):P:=h
theorem ZmO1{P:Prop}(h:P:=by
 go_wp2_with(first|((with_reducible refine(HC.o _).mono ?_);rintro e w2 ⟨rfl,rfl⟩)|((with_reducible refine(HH.o _).mono ?_);rintro e w3 ⟨rfl,hx⟩;have HX:=qa hx;clear hx))
 go_ret;refine⟨?_,HX.o⟩;simp;omega):P:=h
theorem ZmO2{P:Prop}(h:P:=by
 intro q hq;rcases h.1.2 with⟨h1,_⟩|⟨g,cap,cur,h1,_,hg,_⟩
 ·rw[h1]at hq;cases hq
 rw[h1]at hq;have:g=q:=by simpa[Value.ownBlock]using hq
 subst this;exact⟨cur,hg⟩):P:=h
theorem ZmO3{P:Prop}(h:P:=by clear h2;go_enter func138,ntmps138;go_wp2;go_ret;exact⟨HE2.o,(aI aJ)⟩):P:=h
theorem ZmO4{P:Prop}(h:P:=by rw[HR.o];exact t9 rfl rfl rfl HO5.o HB4.o HG5.o (qb _) (rQ HO4.o) HU.o):P:=h
theorem ZmO5{P:Prop}(h:P:=by go_wp2;go_ret;rw[HL.o]at HN;exact⟨by rw[HR.o,qu HN.o];rfl,fD _⟩):P:=h
theorem q3B{w:World}{B E:Nat}{v:Value}{xs:List Value}(h:Own w B E v xs):∀q,v.ownBlock=some q->∃cur,w.heap[q]? =some (.cells cur E (0,0)):=by
 exact ZmO2
theorem q1N{k:Nat}{w:World}{B E:Nat}{v:Value}{l:List (List Value)}(h:cA k w B E v l):∀q,v.ownBlock=some q->∃cur,w.heap[q]? =some (.cells cur E (0,0)):=by
 exact ZmO2
theorem lK{k:Nat}{w:World}{B B' E E':Nat}{v v':Value}{xs:List Value}{l:List (List Value)}(h:Own w B E v xs)(h':cA k w B' E' v' l)(hne:E≠E'):v'.ownBlock=none\/v'.ownBlock≠v.ownBlock:=by
 cases hq:v'.ownBlock with
 |none=>exact .inl rfl
 |some q=>
  right
  intro e;obtain⟨c1,h1⟩:=q1N h' q hq;obtain⟨c2,h2⟩:=q3B h q e.symm;rw[h1]at h2;injection h2 with h2;injection h2 with _ h2;exact hne h2.symm
theorem q6i{w:World}{B E g:Nat}{v:Value}{xs:List Value}(hg:g<B)(h:Own w B E v xs):v.ownBlock=none\/v.ownBlock≠some g:=by
 cases hv:v.ownBlock with
 |none=>exact .inl rfl
 |some q=>right;intro e;have h1:=(h.lt q hv).1;have h2:=qo e;omega
def d5(w:World)(B:Nat)(vs:List Value)(ls:List (List Nd)):Prop:=vs.length=ls.length/\∀i,i<ls.length->aO w B (vs.getD i undef) (ls.getD i [])
theorem d5.nil(w:World)(B:Nat):d5 w B [] []:=⟨rfl,fun i hi=>absurd hi (qz i)⟩
theorem d5.all{w w':World}{B:Nat}{vs:List Value}{ls:List (List Nd)}(h:d5 w B vs ls)(hk:∀v l,aO w B v l->aO w' B v l):d5 w' B vs ls:=⟨h.1,fun i hi=>hk _ _ (h.2 i hi)⟩
theorem d5.snoc{w:World}{B:Nat}{vs:List Value}{ls:List (List Nd)}{v:Value}{l:List Nd}(h:d5 w B vs ls)(hv:aO w B v l):d5 w B (vs++[v]) (ls++[l]):=by
 refine⟨by simp[h.1],fun i hi=>?_⟩;rw[qi,qB]at hi;by_cases hlt:i<ls.length
 ·have h1:=h.2 i hlt
  have e1:(vs++[v]).getD i undef=vs.getD i undef:=by simp[List.getD,List.getElem?_append,show i<vs.length by rw[h.1];exact hlt]
  have e2:(ls++[l]).getD i []=ls.getD i []:=by simp[List.getD,List.getElem?_append,hlt]
  rw[e1,e2];exact h1
 obtain rfl:i=ls.length:=by omega
 have e1:(vs++[v]).getD ls.length undef=v:=by simp[List.getD,<-h.1]
 have e2:(ls++[l]).getD ls.length []=l:=by simp[List.getD]
 rw[e1,e2];exact hv
theorem d5.nodes{w w':World}{B:Nat}{vs:List Value}{ls:List (List Nd)}(h:d5 w B vs ls)(hb:Below w.heap.size w w'):∀i,i<ls.length->cB w' (vs.getD i undef) (ls.getD i []):=fun i hi=>(aO.at (h.2 i hi)).up hb
theorem qaV{alt:PS->List Nd×PS}{w:World}{g lo:Nat}{s:ByteArray}{z:PS}(hA:q7k g s lo alt)(hlo:lo<=z.p)(hst:∀z,z.p<=(bys s).length->Stp (bys s) z (alt z).2)(hlen:∀z,z.p<=(bys s).length->(alt z).1.length+2*z.p<=2*(alt z).2.p+1)
  (h:dJ w g s z) (hs:s.size<=1000000) (hT:iZ w) (hzp:z.p<=s.size):
  Calls prog 62 #[.int .i64 3,.func (.func 85) #[.pointer (some ⟨g,0,none⟩)] #[],.func (.func 86) #[.pointer (some ⟨g,0,none⟩)] #[]] w (q1M (fJ (bys s) alt z).1 g s (fJ (bys s) alt z).2 w):=by
 have hgt:=hT.ne h;have HT:=qa hT;have HP0:Hid (Prs w w g s z):=qa ⟨h,cW _ _,h.lt⟩;have hgl:=h.lt;have HIN:Hid (∀W y,dJ W g s y->Calls prog 85 #[.pointer (some ⟨g,0,none⟩)] W fun e w'=>e=.returned (.bool (inR (bys s) y))/\∃x,w'=ext W x):=qa (fun W y h=>q7l h);have HRP:Hid (∀W y c,dJ W g s y->iZ W->lo<=y.p->nxR (bys s) y=some c->Calls prog 86 #[.pointer (some ⟨g,0,none⟩)] W (q1M (vT (bys s) alt y).1 g s (vT (bys s) alt y).2 W)):=qa (fun W y c h hT hl hc=>qaU hA hl hst hlen h hs hT hc);have HRS:=qa (fun(y:PS) (c:UInt8) (h:nxR (bys s) y=some c)=>yC hst h);have HSM:=I6 hst hlen ((bys s).length+1) [] z z (.inl (by simp[iJ]));have HCS:=(I4 hst ((bys s).length+1) [] z).len (by rw[aP];exact hzp);obtain⟨R,hR⟩:∃R,R=fJ (bys s) alt z:=⟨_,rfl⟩;rw[<-hR];unfold fJ at hR;obtain⟨L,hL⟩:∃L,L=yB (bys s) alt ((bys s).length+1) [] z:=⟨_,rfl⟩;rw[<-hL]at hR HSM HCS;rw[aP]at hL HCS;have HL:=qa hL.symm;have HR:=qa hR;have qbR:iJ L.1<=2*s.size+1:=by omega
 have qbA:=qa qbR;clear h hT hR hL hst hlen hA HSM HCS qbR
 have HJ:Hid (∀(x:Nd) W v (vs:List Value) (ls:List (List Nd)),Own W w.heap.size 31 v vs->d5 W w.heap.size vs ls->iJ ls<=4000000->Calls prog 84 #[.agg (ndA x),v] W (lM W (dM x ls))):=qa (fun x W v vs ls ho hr hl=>by
  unfold iJ at hl;exact q1L (x:=x) (ks:=ls) ho.sl hr.1 (hr.nodes (qk _ _)) (by omega))
 go_enter func62,ntmps62;go_wp2
 go_loopg [7] (s.size+1) (fun gk lv wr=>∃(f:Nat) (ls:List (List Nd)) (vs:List Value) (y:PS),gk=f/\Prs w wr g s y/\Own wr w.heap.size 31 lv vs/\d5 wr w.heap.size vs ls/\Hid (yB (bys s) alt f ls y=L)/\y.p<=s.size/\lo<=y.p/\(ls.length<=y.p\/(ls.length<=y.p+1/\y.e≠0))/\((y.e≠0/\1<=f)\/s.size+1<=f+y.p))
 case atStart=>exact⟨s.size+1,[],[],z,rfl,HP0.o,Own.nil _ _ _,d5.nil _ _,HL,hzp,hlo,.inl (qd _),.inr (by omega)⟩
 case round=>
  clear HP0 HL hzp;obtain⟨f0,ls,vs,y,hgk,hP,hO,hRW,HCL,hyp,qeG,hll,hf⟩:=hrel;obtain⟨f,hf0⟩:∃f,f0=f+1:=⟨f0-1,by omega⟩;subst hf0;subst hgk;have HP:=qa hP;have HO:=qa hO;have HRW:=qa hRW;have hvl:vs.length<=2000000:=by rw[hRW.1];omega
  have HI:=qa (HIN.o · y);have hC2:L=if inR (bys s) y then yB (bys s) alt f (ls++[(vT (bys s) alt y).1]) (vT (bys s) alt y).2 else(ls,y):=by rw[<-HCL.o,yB]
  clear hP hO hRW HCL HIN;cases hin:inR (bys s) y with
  |true=>
   rw[hin]at HI hC2;rw[qt rfl]at hC2;obtain⟨c,hc,-⟩:=X6 hin;obtain⟨hy0,hyl,-⟩:=dE hc;obtain⟨h1,h2⟩:=HRS.o y c hc;have h3:=h1.len (by omega);rw[aP]at hyl h3;have HRY:Hid (∀W,dJ W g s y->iZ W->Calls prog 86 #[.pointer (some ⟨g,0,none⟩)] W (q1M (vT (bys s) alt y).1 g s (vT (bys s) alt y).2 W)):=qa (fun W h hT=>HRP.o W y c h hT qeG hc);have HCL:=qa hC2.symm;have hle:=h1.le;clear h1 hC2 hin hc HRP HRS HR HJ qbA;generalize vT (bys s) alt y=P at*;obtain⟨pl,pz⟩:=P;simp only at HRY HCL h2 h3 hle
   go_wp2_with(first
    |((with_reducible refine(HI.o _ HP.o.box).mono ?_);rintro e w1 ⟨rfl,hx⟩;have HP1:=qa (HP.o.ext hx);have HO1:=qa (HO.o.up (aB hx));have HR1:Hid (d5 w1 w.heap.size vs ls):=qa (HRW.o.all (fun v l h=>cA.up h (aB hx)));have HT1:=qa (HP1.o.tab HT.o hgt);clear hx)
    |((with_reducible refine(HRY.o _ HP1.o.box HT1.o).mono ?_);rintro e w2 ⟨v2,rfl,ho,hB,hg⟩;have HN2:Hid (aO w2 w.heap.size v2 pl):=qa (cA.mono ho HP1.o.gr.size);have HP2:=qa (HP1.o.act hB hg);have HO2:=qa (HO1.o.keep hg (q6i hgl HO1.o));have HR2:Hid (d5 w2 w.heap.size vs ls):=qa (HR1.o.all (fun v l h=>aO.keepG h hg hgl));clear ho hB hg;obtain⟨oa,cap,hv2⟩:=aO.slice HN2.o;subst hv2;have hba:=aA w2 (.cells #[.slice oa pl.length cap] 31);have HX3:Hid (Sl (w2.alloc (.cells #[.slice oa pl.length cap] 31)) (.slice (some ⟨w2.heap.size,0,none⟩) 1 1) [.slice oa pl.length cap]):=qa (by simpa using dY w2 #[.slice oa pl.length cap] 31 (by simp));have HO3:=qa (HO2.o.up hba);have HP3:=qa (HP2.o.below hba);have HR3:Hid (d5 (w2.alloc (.cells #[.slice oa pl.length cap] 31)) w.heap.size (vs++[.slice oa pl.length cap]) (ls++[pl])):=qa ((HR2.o.snoc HN2.o).all (fun v l h=>cA.up h hba));have HLE:Hid (vs.length+[Value.slice oa pl.length cap].length<=4294967296):=qa (by simp;omega);clear hba)
    |(at_builtin;refine bM rfl (.tmp 10) (.tmp 13) 26 rfl w.heap.size 31 (.slice none 0 0) 24 underlying26 (by kernel_rfl) rfl (by decide) u7 vs rfl HO3.o (.slice (some ⟨w2.heap.size,0,none⟩) 1 1) [.slice oa pl.length cap] rfl HX3.o (by intro u hu;simp only[jd]at hu;subst hu;rfl) HLE.o HP3.o.gr.size ?_;intro v' w5 hown1 hg1 hk1;have HO5:=qa hown1;have HP5:=qa (HP3.o.far hg1 (fun q e=>(HO3.o.lt q e).1));have HR5:Hid (d5 w5 w.heap.size (vs++[.slice oa pl.length cap]) (ls++[pl])):=qa (HR3.o.all (fun v l h=>cA.keep h hg1 (lK HO3.o h (by decide))));clear hown1 hg1 hk1))
   go_roundg f
   case measure=>omega
   case rel=>exact⟨f,ls++[pl],vs++[.slice oa pl.length cap],pz,rfl,HP5.o,HO5.o,HR5.o,HCL,h3,by omega,by rw[qi,qB];rcases h2 with h2|h2<;>omega,by rcases h2 with h2|h2<;>omega⟩
  |false=>
   rw[hin]at HI hC2;rw[qr (by simp)]at hC2;have HR2:Hid (R=(m5 3 ls,y)):=qa (by rw[HR.o,hC2]);have HSL:Hid (iJ ls<=4000000):=qa (by have:=qbA.out;rw[hC2]at this;show iJ ls<=4000000;simp only at this;omega);have qbr:=HRW.o.1;clear hC2 hin HRP HRS HR qbA;cases ls with
   |nil=>
    have hvs:vs=[]:=List.length_eq_zero_iff.1 qbr;subst hvs;obtain⟨oa,cap,b,off,hv,-,-⟩:=HO.o.sl;have hv0:u7=.slice oa 0 cap:=hv;subst hv0;clear hv qbr;have HJ2:Hid (∀W,Calls prog 84 #[.agg #[.int .i64 2,.int .i64 0,.int .u64 0,.int .u64 0,.int .u64 0,.int .u64 0,.int .i64 0,.int .i64 0],.slice none 0 0] W (lM W (dM (kN 2) []))):=qa (fun W=>q1L (x:=kN 2) (ks:=[]) (Sl.nil W) rfl (fun i hi=>absurd hi (qz i)) (by simp))
    go_wp2_with(first
     |((with_reducible refine(HI.o _ HP.o.box).mono ?_);rintro e w1 ⟨rfl,hx⟩;have HP1:=qa (HP.o.ext hx);clear hx)
     |((with_reducible refine(HJ2.o _).mono ?_);rintro e w2 ⟨v2,rfl,ho,hb⟩;have HP2:=qa (HP1.o.below hb);have HN2:Hid (aO w2 w.heap.size v2 (dM (kN 2) [])):=qa (cA.mono ho HP1.o.gr.size);clear ho hb))
    go_ret;rw[HR2.o];exact⟨v2,rfl,HN2.o,HP2.o.box,HP2.o.gr⟩
   |cons l1 ls1=>
    cases ls1 with
    |nil=>
     obtain⟨v1,hvs⟩:∃v1,vs=[v1]:=List.length_eq_one_iff.1 qbr;subst hvs;obtain⟨oa,cap,b,off,hv,hd,hcl⟩:=HO.o.sl;have hv0:u7=.slice oa 1 cap:=hv;subst hv0;have hix:=fun W=>aU (P:=prog) 26 31 underlying26 (by kernel_rfl) hd W .i64 0 (by omega) (by simp);have hcell:=hcl 0 (by simp);have hbl:=hd.hblk (by simp);have HN1:Hid (aO wr w.heap.size v1 l1):=qa (HRW.o.2 0 (by simp));simp only[Int.toNat_zero,jC,qB]at hix;have qbE:wr.cell? ⟨b,off,none⟩=some v1:=hcell;clear hv qbr hd hcl hcell
     go_wp2_with(first
      |((with_reducible refine(HI.o _ HP.o.box).mono ?_);rintro e w1 ⟨rfl,hx⟩;have HP1:=qa (HP.o.ext hx);have HN2:Hid (aO w1 w.heap.size v1 l1):=qa (cA.up HN1.o (aB hx));have hce:=((aB hx).cell (p:=⟨b,off,none⟩) hbl).trans qbE;clear hx))
     go_ret;rw[HR2.o];exact⟨v1,rfl,HN2.o,HP1.o.box,HP1.o.gr⟩
    |cons l2 ls2=>
     obtain⟨oa,cap,b,off,hv,-,-⟩:=HO.o.sl;rw[qbr]at hv;have hv0:u7=.slice oa (ls2.length+1+1) cap:=hv;subst hv0;clear hv;have HR3:Hid (m5 3 (l1::l2::ls2)=dM (kN 3) (l1::l2::ls2)):=qa rfl;have HJ3:Hid (∀W,Own W w.heap.size 31 (.slice oa (ls2.length+1+1) cap) vs->d5 W w.heap.size vs (l1::l2::ls2)->Calls prog 84 #[.agg #[.int .i64 3,.int .i64 0,.int .u64 0,.int .u64 0,.int .u64 0,.int .u64 0,.int .i64 0,.int .i64 0],.slice oa (ls2.length+1+1) cap] W (lM W (dM (kN 3) (l1::l2::ls2)))):=qa (fun W ho hr=>HJ.o (kN 3) W _ vs _ ho hr HSL.o);have hn0:¬((ls2.length:Int)+1+1=0):=by omega
     have hn1:¬((ls2.length:Int)+1+1=1):=by omega
     clear qbr;generalize l1::l2::ls2=lss at*;generalize ls2.length=m at*
     go_wp2_with(first
      |((with_reducible refine(HI.o _ HP.o.box).mono ?_);rintro e w1 ⟨rfl,hx⟩;have HP1:=qa (HP.o.ext hx);have HO1:=qa (HO.o.up (aB hx));have qdp:Hid (d5 w1 w.heap.size vs lss):=qa (HRW.o.all (fun v l h=>cA.up h (aB hx)));clear hx)
      |((with_reducible refine(HJ3.o _ HO1.o qdp.o).mono ?_);rintro e w2 ⟨v2,rfl,ho,hb⟩;have HP2:=qa (HP1.o.below hb);have HN2:Hid (aO w2 w.heap.size v2 (dM (kN 3) lss)):=qa (cA.mono ho HP1.o.gr.size);clear ho hb))
     go_ret;rw[HR2.o,HR3.o];exact⟨v2,rfl,HN2.o,HP2.o.box,HP2.o.gr⟩
theorem qaX{alt:PS->List Nd×PS}{w:World}{g lo:Nat}{s:ByteArray}{z:PS}(hA:q7k g s lo alt)(hlo:lo<=z.p)(hst:∀z,z.p<=(bys s).length->Stp (bys s) z (alt z).2)(hlen:∀z,z.p<=(bys s).length->(alt z).1.length+2*z.p<=2*(alt z).2.p+1)
  (h:dJ w g s z) (hs:s.size<=1000000) (hT:iZ w) (hzp:z.p<=s.size):
  Calls prog 65 #[.pointer (some ⟨g,0,none⟩)] w (q1M (fJ (bys s) alt z).1 g s (fJ (bys s) alt z).2 w):=by
 have HR:=qa (qaV hA hlo hst hlen h hs hT hzp);clear h hT hzp hst hlen hA hlo;go_enter func65,ntmps65
 go_wp2_with((with_reducible refine(HR.o).mono ?_);rintro e w1 ⟨v,rfl,ho,hB,hg⟩;have HO:=qa ho;have HB:=qa hB;have HG:=qa hg;clear ho hB hg)
 go_ret;exact⟨v,rfl,HO.o,HB.o,HG.o⟩
structure sZ(w0 w:World)(g:Nat)(s:ByteArray)(z:PS)(b q:Nat)(fb:Bool):Prop where
 box:dJ w g s z
 fx:Fx (fun k=>k=g\/k=b) w0 w
 fst:Own w b 4 (.slice (some ⟨b,0,none⟩) 1 1) [.bool fb]
 ptr:w.cell? ⟨q,0,none⟩=some (.pointer (some ⟨g,0,none⟩))
 gl:g<w0.heap.size
 bl:b<w0.heap.size
 ql:q<w0.heap.size
 gb:g≠b
 gq:q≠g
 bq:q≠b
section
variable {w0 w w' : World} {g b q : Nat} {s : ByteArray} {z z' : PS} {fb fb' : Bool}
theorem sZ.up(h:sZ w0 w g s z b q fb)(hb:Below w.heap.size w w'):sZ w0 w' g s z b q fb:=
 ⟨h.box.up hb,h.fx.trans (q5o hb),h.fst.up hb,by rw[hb.cell (p:=⟨q,0,none⟩) (qe h.ql h.fx.size)];exact h.ptr,h.gl,h.bl,h.ql,h.gb,h.gq,h.bq⟩
theorem sZ.act(h:sZ w0 w g s z b q fb)(hB:dJ w' g s z')(hg:w.grownBy w' (some g)):sZ w0 w' g s z' b q fb:=
 ⟨hB,h.fx.trans (sY hg (fun k e=>.inl (qo e).symm)),h.fst.keep hg (.inr (fun e=>h.gb (qo e).symm)),by rw[World.cell?_of_block (w:=w) (hg.block q (qe h.ql h.fx.size) (fun e=>h.gq (qo e)))];exact h.ptr,h.gl,h.bl,h.ql,h.gb,h.gq,h.bq⟩
theorem sZ.flag(h:sZ w0 w g s z b q fb)(v:Bool):sZ w0 (w.setCell ⟨b,0,none⟩ (.bool v)) g s z b q v:=by
 obtain⟨h1,h2⟩:=h.fst.store 0 (.bool v);exact⟨h.box.keep h2 (fun e=>h.gb (qo e).symm),h.fx.trans (sY h2 (fun k e=>.inr (qo e).symm)),h1,by rw[World.cell?_of_block (w:=w) (h2.block q (qe h.ql h.fx.size) (fun e=>h.bq (qo e)))];exact h.ptr,h.gl,h.bl,h.ql,h.gb,h.gq,h.bq⟩
theorem sZ.far{row:Option Nat}(h:sZ w0 w g s z b q fb)(hg:w.grownBy w' row)(hq:∀k,row=some k->w0.heap.size<=k):sZ w0 w' g s z b q fb:=
 ⟨h.box.keep hg (fun e=>by have:=hq g e;have:=h.gl;omega),h.fx.grown hg (fun k e=>.inr (hq k e)),h.fst.keep hg (by
  show some b=none\/some b≠row
  right;intro e;have:=hq b e.symm;have:=h.bl;omega),by rw[World.cell?_of_block (w:=w) (hg.block q (qe h.ql h.fx.size) (fun e=>by have:=hq q e.symm;have:=h.ql;omega))];exact h.ptr,h.gl,h.bl,h.ql,h.gb,h.gq,h.bq⟩
theorem sZ.tab(h:sZ w0 w g s z b q fb)(hT:iZ w0)(hne:g≠6)(hbe:b≠6):iZ w:=fun j hj=>by
 rw[h.fx.cell hT.lt (fun e=>e.elim (fun e=>hne e.symm) (fun e=>hbe e.symm))];exact hT j hj
theorem sZ.c0(h:sZ w0 w g s z b q fb):w.cell? ⟨b,0,none⟩=some (.bool fb):=h.fst.cell (i:=0) (by simp)
theorem sZ.f0(h:sZ w0 w g s z b q fb):w.frozen? ⟨b,0,none⟩=false:=h.fst.free 0
end
theorem qa3{w0 w:World}{g b q:Nat}{s:ByteArray}{z:PS}(h:sZ w0 w g s z b q true):
  Calls prog 63 #[.pointer (some ⟨b,0,none⟩),.pointer (some ⟨q,0,none⟩)] w fun e w'=>e=.returned (.bool true)/\sZ w0 w' g s z b q false/\Fx (fun k=>k=g\/k=b) w w':=by
 have c0:=h.c0;have f0:=h.f0;have HF:=qa (h.flag false);have HX:Hid (Fx (fun k=>k=g\/k=b) w (w.setCell ⟨b,0,none⟩ (.bool false))):=qa (sY (h.fst.store 0 (.bool false)).2 (fun k e=>.inr (qo e).symm));have hbl:=(h.fst.blk).2;clear h;go_enter func63,ntmps63;go_wp2;go_ret;exact⟨rfl,HF.o,HX.o⟩
theorem qa4{w0 w:World}{g b q:Nat}{s:ByteArray}{z:PS}(h:sZ w0 w g s z b q false)(hs:s.size<=1000000):
  Calls prog 63 #[.pointer (some ⟨b,0,none⟩),.pointer (some ⟨q,0,none⟩)] w fun e w'=>e=.returned (.bool (b7 (bys s) 124 z).1)/\sZ w0 w' g s (b7 (bys s) 124 z).2 b q false/\Fx (fun k=>k=g\/k=b) w w':=by
 have c0:=h.c0;have cq:=h.ptr;have HP:=qa h;have HTK:Hid (Calls prog 64 #[.pointer (some ⟨g,0,none⟩),.int .u8 124] w (mR (.bool (b7 (bys s) 124 z).1) g s (b7 (bys s) 124 z).2 w)):=qa (Y0 h.box hs 124);generalize b7 (bys s) 124 z=T at*;obtain⟨bt,z1⟩:=T;simp only at HTK;clear h;go_enter func63,ntmps63
 go_wp2_with((with_reducible refine(HTK.o).mono ?_);rintro e w1 ⟨rfl,hB,hg⟩;have HP1:=qa (HP.o.act hB hg);have c10:=HP1.o.c0;have f10:=HP1.o.f0;have HF:=qa (HP1.o.flag false);have HX:=qa ((sY (S:=fun k=>k=g\/k=b) hg (fun k e=>.inl (qo e).symm)).trans (sY (HP1.o.fst.store 0 (.bool false)).2 (fun k e=>.inr (qo e).symm)));have hbl:=(HP1.o.fst.blk).2;clear hB hg)
 go_ret;exact⟨rfl,HF.o,HX.o⟩
theorem J5{S:Nat->Prop}{w w1:World}{k B E:Nat}{v:Value}{l:List (List Value)}(h:Fx S w w1)(ho:cA k w B E v l)(hv:∀q,B<=q->¬S q):cA k w1 B E v l:=by
 refine⟨⟨ho.1.1,ho.1.2.imp id ?_⟩,ho.2⟩;rintro⟨g,cap,cur,h1,h2,h3,h4⟩;exact⟨g,cap,cur,h1,h2,by rw[h.block g (Array.getElem?_eq_some_iff.1 h3).1 (hv g h2)];exact h3,h4⟩
def qaY(l:List Nd)(g b:Nat)(s:ByteArray)(z:PS)(w:World)(e:Ending)(w':World):Prop:=∃v,e=.returned v/\aO w' w.heap.size v l/\dJ w' g s z/\Fx (fun k=>k=g\/k=b) w w'
def tgA(s:cX)(alt:PS->List Nd×PS)(fb:Bool)(f:Nat)(ls:List (List Nd))(y:PS):List (List Nd)×PS:=if fb then m7 s alt f [(fJ s alt y).1] (fJ s alt y).2 else m7 s alt f ls y
def msA(fb:Bool)(f:Nat):Nat:=if fb then f+1 else f
theorem qaZ{alt:PS->List Nd×PS}{w:World}{g b0 q0 lo:Nat}{s:ByteArray}{z:PS}(hA:q7k g s lo alt)(hlo:lo<=z.p)(hst:∀z,z.p<=(bys s).length->Stp (bys s) z (alt z).2)(hlen:∀z,z.p<=(bys s).length->(alt z).1.length+2*z.p<=2*(alt z).2.p+1)
  (h:sZ w w g s z b0 q0 true) (hs:s.size<=1000000) (hT:iZ w) (hbt:b0≠6) (hzp:z.p<=s.size):
  Calls prog 62 #[.int .i64 4,.func (.func 63) #[] #[.pointer (some ⟨b0,0,none⟩),.pointer (some ⟨q0,0,none⟩)],.func (.func 65) #[.pointer (some ⟨g,0,none⟩)] #[]] w (qaY (m5 4 (m7 (bys s) alt ((bys s).length+1) [(fJ (bys s) alt z).1] (fJ (bys s) alt z).2).1) g b0 s (m7 (bys s) alt ((bys s).length+1) [(fJ (bys s) alt z).1] (fJ (bys s) alt z).2).2 w):=by
 have hgt:=hT.ne h.box;have HT:=qa hT;have HP0:=qa h;have hgl:=h.gl;have hbl:=h.bl;have HSN:Hid (∀q,w.heap.size<=q->¬(q=g\/q=b0)):=qa (fun q hq e=>by rcases e with e|e<;>omega);have HI1:Hid (∀W y,sZ w W g s y b0 q0 true->Calls prog 63 #[.pointer (some ⟨b0,0,none⟩),.pointer (some ⟨q0,0,none⟩)] W fun e w'=>e=.returned (.bool true)/\sZ w w' g s y b0 q0 false/\Fx (fun k=>k=g\/k=b0) W w'):=qa (fun W y h=>qa3 h);have HI2:Hid (∀W y,sZ w W g s y b0 q0 false->Calls prog 63 #[.pointer (some ⟨b0,0,none⟩),.pointer (some ⟨q0,0,none⟩)] W fun e w'=>e=.returned (.bool (b7 (bys s) 124 y).1)/\sZ w w' g s (b7 (bys s) 124 y).2 b0 q0 false/\Fx (fun k=>k=g\/k=b0) W w'):=qa (fun W y h=>qa4 h hs);have HRP:Hid (∀W y,dJ W g s y->iZ W->lo<=y.p->y.p<=s.size->Calls prog 65 #[.pointer (some ⟨g,0,none⟩)] W (q1M (fJ (bys s) alt y).1 g s (fJ (bys s) alt y).2 W)):=qa (fun W y h hT hl hy=>qaX hA hl hst hlen h hs hT hy);have HRS:=qa (fun(y:PS)=>yD hst y)
 have HSM:=I7 hst hlen ((bys s).length+1) [(fJ (bys s) alt z).1] z (fJ (bys s) alt z).2 (by
  have:=X9 hst hlen z;simp only[iJ,jF,qB];omega)
 have HCS:=(I5 hst ((bys s).length+1) [(fJ (bys s) alt z).1] (fJ (bys s) alt z).2).len ((yD hst z).len (by rw[aP];exact hzp));obtain⟨L,hL⟩:∃L,L=m7 (bys s) alt ((bys s).length+1) [(fJ (bys s) alt z).1] (fJ (bys s) alt z).2:=⟨_,rfl⟩;rw[<-hL]at HSM HCS⊢;rw[aP]at hL HCS;have HL:Hid (tgA (bys s) alt true (s.size+1) [] z=L):=qa hL.symm;have qbR:iJ L.1<=2*s.size+2:=by omega
 have qbA:=qa qbR;clear h hT hL hst hlen hA HSM HCS qbR
 have HJ:Hid (∀(x:Nd) W v (vs:List Value) (ls:List (List Nd)),Own W w.heap.size 31 v vs->d5 W w.heap.size vs ls->iJ ls<=4000000->Calls prog 84 #[.agg (ndA x),v] W (lM W (dM x ls))):=qa (fun x W v vs ls ho hr hl=>by
  unfold iJ at hl;exact q1L (x:=x) (ks:=ls) ho.sl hr.1 (hr.nodes (qk _ _)) (by omega))
 go_enter func62,ntmps62;go_wp2
 go_loopg [7] (s.size+1+1) (fun gk lv wr=>∃(fb:Bool) (f:Nat) (ls:List (List Nd)) (vs:List Value) (y:PS),gk=msA fb f/\sZ w wr g s y b0 q0 fb/\Own wr w.heap.size 31 lv vs/\d5 wr w.heap.size vs ls/\Hid (tgA (bys s) alt fb f ls y=L)/\y.p<=s.size/\lo<=y.p/\(fb=true->ls=[])/\ls.length<=y.p+1/\s.size+1<=f+y.p)
 case atStart=>exact⟨true,s.size+1,[],[],z,rfl,HP0.o,Own.nil _ _ _,d5.nil _ _,HL,hzp,hlo,fun _=>rfl,qd _,by omega⟩
 case round=>
  clear HP0 HL hzp;obtain⟨fb,f0,ls,vs,y,hgk,hP,hO,hRW,HCL,hyp,qeG,hfb,hll,hf⟩:=hrel;obtain⟨f,hf0⟩:∃f,f0=f+1:=⟨f0-1,by omega⟩;subst hf0;subst hgk;have HP:=qa hP;have HO:=qa hO;have HRW:=qa hRW;have hvl:vs.length<=2000000:=by rw[hRW.1];omega
  clear hP hO hRW;cases fb with
  |true=>
   have hls:=hfb rfl;subst hls;have hvs:vs=[]:=List.length_eq_zero_iff.1 HRW.o.1;subst hvs;have HRY:=qa (fun W h hT=>HRP.o W y h hT qeG hyp);have h1:=HRS.o y;have h3:=h1.len (by rw[aP];exact hyp);have hle:=h1.le;rw[aP]at h3;have qbL:Hid (m7 (bys s) alt (f+1) [(fJ (bys s) alt y).1] (fJ (bys s) alt y).2=L):=qa HCL.o;clear h1 HRP HRS HJ qbA HCL HI2;generalize fJ (bys s) alt y=P at*;obtain⟨pl,pz⟩:=P;simp only at HRY qbL h3 hle;have qin:([]:List Value).length<=2000000:=by simp
   clear hfb;obtain⟨ls,hls⟩:∃ls:List (List Nd),ls=[]:=⟨_,rfl⟩;obtain⟨vs,hvs⟩:∃vs:List Value,vs=[]:=⟨_,rfl⟩;have HLS:Hid (ls++[pl]=[pl]):=qa (by rw[hls];rfl);have qiI:ls.length=0:=by rw[hls];rfl
   rw[<-hls,<-hvs]at HRW;rw[<-hvs]at HO hvl qin;clear hls hvs hll
   go_wp2_with(first
    |((with_reducible refine(HI1.o _ _ HP.o).mono ?_);rintro e w1 ⟨rfl,hP1,hF1⟩;have HP1:=qa (hP1);have HO1:=qa (hF1.own HO.o (fun k hk=>HSN.o k (HO.o.lt k hk).1));have HR1:Hid (d5 w1 w.heap.size vs ls):=qa (HRW.o.all (fun v l h=>J5 hF1 h HSN.o));have HT1:=qa (HP1.o.tab HT.o hgt hbt);clear hP1 hF1)
    |((with_reducible refine(HRY.o _ HP1.o.box HT1.o).mono ?_);rintro e w2 ⟨v2,rfl,ho,hB,hg⟩;have HN2:Hid (aO w2 w.heap.size v2 pl):=qa (cA.mono ho HP1.o.fx.size);have HP2:=qa (HP1.o.act hB hg);have HO2:=qa (HO1.o.keep hg (q6i hgl HO1.o));have HR2:Hid (d5 w2 w.heap.size vs ls):=qa (HR1.o.all (fun v l h=>aO.keepG h hg hgl));clear ho hB hg;obtain⟨oa,cap,hv2⟩:=aO.slice HN2.o;subst hv2;have hba:=aA w2 (.cells #[.slice oa pl.length cap] 31);have HX3:Hid (Sl (w2.alloc (.cells #[.slice oa pl.length cap] 31)) (.slice (some ⟨w2.heap.size,0,none⟩) 1 1) [.slice oa pl.length cap]):=qa (by simpa using dY w2 #[.slice oa pl.length cap] 31 (by simp));have HO3:=qa (HO2.o.up hba);have HP3:=qa (HP2.o.up hba);have HR3:Hid (d5 (w2.alloc (.cells #[.slice oa pl.length cap] 31)) w.heap.size (vs++[.slice oa pl.length cap]) (ls++[pl])):=qa ((HR2.o.snoc HN2.o).all (fun v l h=>cA.up h hba));have HLE:Hid (vs.length+[Value.slice oa pl.length cap].length<=4294967296):=qa (by simp;omega);clear hba)
    |(at_builtin;refine bM rfl (.tmp 10) (.tmp 13) 26 rfl w.heap.size 31 (.slice none 0 0) 24 underlying26 (by kernel_rfl) rfl (by decide) u7 vs rfl HO3.o (.slice (some ⟨w2.heap.size,0,none⟩) 1 1) [.slice oa pl.length cap] rfl HX3.o (by intro u hu;simp only[jd]at hu;subst hu;rfl) HLE.o HP3.o.fx.size ?_;intro v' w5 hown1 hg1 hk1;have HO5:=qa hown1;have HP5:=qa (HP3.o.far hg1 (fun q e=>(HO3.o.lt q e).1));have HR5:Hid (d5 w5 w.heap.size (vs++[.slice oa pl.length cap]) (ls++[pl])):=qa (HR3.o.all (fun v l h=>cA.keep h hg1 (lK HO3.o h (by decide))));clear hown1 hg1 hk1))
   go_roundg (f+1)
   case measure=>show f+1<f+1+1;omega
   case rel=>exact⟨false,f+1,ls++[pl],vs++[.slice oa pl.length cap],pz,rfl,HP5.o,HO5.o,HR5.o,by rw[HLS.o];exact qbL,h3,by omega,(by intro h;cases h),by rw[qi,qB,qiI];omega,by omega⟩
  |false=>
   have HTT:=qa (fun h=>sV (s:=bys s) (c:=124) (z:=y) h);have HTF:=qa (fun h=>uL (s:=bys s) (c:=124) (z:=y) h);have qes:=qa (HI2.o · y)
   have hC2:L=if(b7 (bys s) 124 y).1 then m7 (bys s) alt f (ls++[(fJ (bys s) alt (b7 (bys s) 124 y).2).1]) (fJ (bys s) alt (b7 (bys s) 124 y).2).2 else(ls,y):=by
    rw[<-HCL.o];show m7 (bys s) alt (f+1) ls y=_;rw[m7]
   clear HCL hfb HI1 HI2;generalize b7 (bys s) 124 y=T at*;obtain⟨bt,y1⟩:=T;simp only at HTT HTF qes hC2;cases bt with
   |true=>
    rw[qt rfl]at hC2;obtain⟨hnx,hy1⟩:=HTT.o rfl;obtain⟨hy0,hyl,-⟩:=dE hnx;rw[aP]at hyl;have qkh:y1.p=y.p+1:=by rw[hy1];rfl
    have HRY:=qa (fun W h hT=>HRP.o W y1 h hT (by omega) (by omega));have h1:=HRS.o y1;have h3:=h1.len (by rw[aP];omega);have hle:=h1.le;rw[aP]at h3;have HCL:=qa hC2.symm;clear h1 HRP HRS HJ qbA HTT HTF hnx hy1 hy0 hC2;generalize fJ (bys s) alt y1=P at*;obtain⟨pl,pz⟩:=P;simp only at HRY HCL h3 hle
    go_wp2_with(first
     |((with_reducible refine(qes.o _ HP.o).mono ?_);rintro e w1 ⟨rfl,hP1,hF1⟩;have HP1:=qa (hP1);have HO1:=qa (hF1.own HO.o (fun k hk=>HSN.o k (HO.o.lt k hk).1));have HR1:Hid (d5 w1 w.heap.size vs ls):=qa (HRW.o.all (fun v l h=>J5 hF1 h HSN.o));have HT1:=qa (HP1.o.tab HT.o hgt hbt);clear hP1 hF1)
     |((with_reducible refine(HRY.o _ HP1.o.box HT1.o).mono ?_);rintro e w2 ⟨v2,rfl,ho,hB,hg⟩;have HN2:Hid (aO w2 w.heap.size v2 pl):=qa (cA.mono ho HP1.o.fx.size);have HP2:=qa (HP1.o.act hB hg);have HO2:=qa (HO1.o.keep hg (q6i hgl HO1.o));have HR2:Hid (d5 w2 w.heap.size vs ls):=qa (HR1.o.all (fun v l h=>aO.keepG h hg hgl));clear ho hB hg;obtain⟨oa,cap,hv2⟩:=aO.slice HN2.o;subst hv2;have hba:=aA w2 (.cells #[.slice oa pl.length cap] 31);have HX3:Hid (Sl (w2.alloc (.cells #[.slice oa pl.length cap] 31)) (.slice (some ⟨w2.heap.size,0,none⟩) 1 1) [.slice oa pl.length cap]):=qa (by simpa using dY w2 #[.slice oa pl.length cap] 31 (by simp));have HO3:=qa (HO2.o.up hba);have HP3:=qa (HP2.o.up hba);have HR3:Hid (d5 (w2.alloc (.cells #[.slice oa pl.length cap] 31)) w.heap.size (vs++[.slice oa pl.length cap]) (ls++[pl])):=qa ((HR2.o.snoc HN2.o).all (fun v l h=>cA.up h hba));have HLE:Hid (vs.length+[Value.slice oa pl.length cap].length<=4294967296):=qa (by simp;omega);clear hba)
     |(at_builtin;refine bM rfl (.tmp 10) (.tmp 13) 26 rfl w.heap.size 31 (.slice none 0 0) 24 underlying26 (by kernel_rfl) rfl (by decide) u7 vs rfl HO3.o (.slice (some ⟨w2.heap.size,0,none⟩) 1 1) [.slice oa pl.length cap] rfl HX3.o (by intro u hu;simp only[jd]at hu;subst hu;rfl) HLE.o HP3.o.fx.size ?_;intro v' w5 hown1 hg1 hk1;have HO5:=qa hown1;have HP5:=qa (HP3.o.far hg1 (fun q e=>(HO3.o.lt q e).1));have HR5:Hid (d5 w5 w.heap.size (vs++[.slice oa pl.length cap]) (ls++[pl])):=qa (HR3.o.all (fun v l h=>cA.keep h hg1 (lK HO3.o h (by decide))));clear hown1 hg1 hk1))
    go_roundg f
    case measure=>show f<f+1;omega
    case rel=>exact⟨false,f,ls++[pl],vs++[.slice oa pl.length cap],pz,rfl,HP5.o,HO5.o,HR5.o,HCL,h3,by omega,(by intro h;cases h),by rw[qi,qB];omega,by omega⟩
   |false=>
    have hy1:=HTF.o rfl;subst hy1;have HR2:Hid (L=(ls,y1)):=qa hC2;have HSL:Hid (iJ ls<=4000000):=qa (by have:=qbA.out;rw[HR2.o]at this;show iJ ls<=4000000;simp only at this;omega);have qbr:=HRW.o.1;clear hC2 HRP HRS qbA HTT HTF;cases ls with
    |nil=>
     have hvs:vs=[]:=List.length_eq_zero_iff.1 qbr;subst hvs;obtain⟨oa,cap,b,off,hv,-,-⟩:=HO.o.sl;have hv0:u7=.slice oa 0 cap:=hv;subst hv0;clear hv qbr;have HJ2:Hid (∀W,Calls prog 84 #[.agg #[.int .i64 2,.int .i64 0,.int .u64 0,.int .u64 0,.int .u64 0,.int .u64 0,.int .i64 0,.int .i64 0],.slice none 0 0] W (lM W (dM (kN 2) []))):=qa (fun W=>q1L (x:=kN 2) (ks:=[]) (Sl.nil W) rfl (fun i hi=>absurd hi (qz i)) (by simp))
     go_wp2_with(first
      |((with_reducible refine(qes.o _ HP.o).mono ?_);rintro e w1 ⟨rfl,hP1,hF1⟩;have HP1:=qa hP1;clear hP1 hF1)
      |((with_reducible refine(HJ2.o _).mono ?_);rintro e w2 ⟨v2,rfl,ho,hb⟩;have HP2:=qa (HP1.o.up hb);have HN2:Hid (aO w2 w.heap.size v2 (dM (kN 2) [])):=qa (cA.mono ho HP1.o.fx.size);clear ho hb))
     go_ret;rw[HR2.o];exact⟨v2,rfl,HN2.o,HP2.o.box,HP2.o.fx⟩
    |cons l1 ls1=>
     cases ls1 with
     |nil=>
      obtain⟨v1,hvs⟩:∃v1,vs=[v1]:=List.length_eq_one_iff.1 qbr;subst hvs;obtain⟨oa,cap,b,hv,hd,hob,hcl,-,-⟩:=HO.o.cases;have hbB:=(hob (by simp)).2;obtain⟨off,qc7⟩:∃off,off=0:=⟨_,rfl⟩;rw[<-qc7]at hd;have hv0:u7=.slice oa 1 cap:=hv;subst hv0;have hix:=fun W=>aU (P:=prog) 26 31 underlying26 (by kernel_rfl) hd W .i64 0 (by omega) (by simp);have qbO:=hd.hblk (by simp);have hbn:¬(b=g\/b=b0):=HSN.o b hbB;have HN1:Hid (aO wr w.heap.size v1 l1):=qa (HRW.o.2 0 (by simp));simp only[Int.toNat_zero,jC,qB]at hix;have qbE:wr.cell? ⟨b,off,none⟩=some v1:=by rw[qc7];exact hcl 0 (by simp)
      clear hv qbr hd hcl hob qc7
      go_wp2_with(first
       |((with_reducible refine(qes.o _ HP.o).mono ?_);rintro e w1 ⟨rfl,hP1,hF1⟩;have HP1:=qa hP1;have HN2:Hid (aO w1 w.heap.size v1 l1):=qa (J5 hF1 HN1.o HSN.o);have hce:=(hF1.cell qbO hbn).trans qbE;clear hP1 hF1))
      go_ret;rw[HR2.o];exact⟨v1,rfl,HN2.o,HP1.o.box,HP1.o.fx⟩
     |cons l2 ls2=>
      obtain⟨oa,cap,b,off,hv,-,-⟩:=HO.o.sl;rw[qbr]at hv;have hv0:u7=.slice oa (ls2.length+1+1) cap:=hv;subst hv0;clear hv;have HR3:Hid (m5 4 (l1::l2::ls2)=dM (kN 4) (l1::l2::ls2)):=qa rfl;have HJ3:Hid (∀W,Own W w.heap.size 31 (.slice oa (ls2.length+1+1) cap) vs->d5 W w.heap.size vs (l1::l2::ls2)->Calls prog 84 #[.agg #[.int .i64 4,.int .i64 0,.int .u64 0,.int .u64 0,.int .u64 0,.int .u64 0,.int .i64 0,.int .i64 0],.slice oa (ls2.length+1+1) cap] W (lM W (dM (kN 4) (l1::l2::ls2)))):=qa (fun W ho hr=>HJ.o (kN 4) W _ vs _ ho hr HSL.o);have hn0:¬((ls2.length:Int)+1+1=0):=by omega
      have hn1:¬((ls2.length:Int)+1+1=1):=by omega
      clear qbr;generalize l1::l2::ls2=lss at*;generalize ls2.length=m at*
      go_wp2_with(first
       |((with_reducible refine(qes.o _ HP.o).mono ?_);rintro e w1 ⟨rfl,hP1,hF1⟩;have HP1:=qa hP1;have HO1:=qa (hF1.own HO.o (fun k hk=>HSN.o k (HO.o.lt k hk).1));have qdp:Hid (d5 w1 w.heap.size vs lss):=qa (HRW.o.all (fun v l h=>J5 hF1 h HSN.o));clear hP1 hF1)
       |((with_reducible refine(HJ3.o _ HO1.o qdp.o).mono ?_);rintro e w2 ⟨v2,rfl,ho,hb⟩;have HP2:=qa (HP1.o.up hb);have HN2:Hid (aO w2 w.heap.size v2 (dM (kN 4) lss)):=qa (cA.mono ho HP1.o.fx.size);clear ho hb))
      go_ret;rw[HR2.o,HR3.o];exact⟨v2,rfl,HN2.o,HP2.o.box,HP2.o.fx⟩
theorem qaz{alt:PS->List Nd×PS}{w:World}{g lo:Nat}{s:ByteArray}{z:PS}(hA:q7k g s lo alt)(hlo:lo<=z.p)(hst:∀z,z.p<=(bys s).length->Stp (bys s) z (alt z).2)(hlen:∀z,z.p<=(bys s).length->(alt z).1.length+2*z.p<=2*(alt z).2.p+1)
  (h:dJ w g s z) (hs:s.size<=1000000) (hT:iZ w) (hzp:z.p<=s.size):
  Calls prog 39 #[.pointer (some ⟨g,0,none⟩)] w (q1M (m5 4 (m7 (bys s) alt ((bys s).length+1) [(fJ (bys s) alt z).1] (fJ (bys s) alt z).2).1) g s (m7 (bys s) alt ((bys s).length+1) [(fJ (bys s) alt z).1] (fJ (bys s) alt z).2).2 w):=by
 have hgl:=h.lt;have htl:=hT.lt;obtain⟨w2,hw2⟩:∃w2,w2=(w.alloc (.cells #[.pointer (some ⟨g,0,none⟩)] 86)).alloc (.cells #[.bool true] 4):=⟨_,rfl⟩;have hb2:Below w.heap.size w w2:=by rw[hw2];exact kO (aA w _) _
 have hs2:w2.heap.size=w.heap.size+2:=by rw[hw2];simp
 have HP:Hid (sZ w2 w2 g s z (w.heap.size+1) w.heap.size true):=qa ⟨h.up hb2,Fx.refl _ _,by
   have:=bU (w.alloc (.cells #[.pointer (some ⟨g,0,none⟩)] 86)) (w.heap.size+1) #[.bool true] 4 (by simp) (by simp);rw[hw2];simpa using this,by rw[hw2];simp,by omega,by omega,by omega,by omega,by omega,by omega⟩
 have HR:=qa (qaZ hA hlo hst hlen HP.o hs (hT.up hb2) (by omega) hzp);have HB2:=qa hb2;have HS2:=qa hs2;rw[hw2]at HR;generalize m5 4 (m7 (bys s) alt ((bys s).length+1) [(fJ (bys s) alt z).1] (fJ (bys s) alt z).2).1=L1 at*;generalize (m7 (bys s) alt ((bys s).length+1) [(fJ (bys s) alt z).1] (fJ (bys s) alt z).2).2=L2 at*;have HW2:=qa hw2;clear h hT hzp hst hlen hA hlo hb2 hs2 hw2;go_enter func39,ntmps39
 go_wp2_with((with_reducible refine(HR.o).mono ?_);rintro e w3 ⟨v,rfl,ho,hB,hF⟩;rw[<-HW2.o]at ho hF;have HO:Hid (aO w3 w.heap.size v L1):=qa (cA.mono ho (by rw[HS2.o];omega));have HB:=qa hB;have HG:Hid (w.grownBy w3 (some g)):=qa ⟨hF.os.trans HB2.o.os,hF.tape.trans HB2.o.tape,hF.output.trans HB2.o.output,qc HB2.o.size hF.size,fun k hk hne=>by rw[hF.block k (qe hk HB2.o.size) (fun e=>e.elim (fun e=>hne (by rw[e])) (fun e=>by omega)),HB2.o.block k hk]⟩;clear ho hB hF)
 go_ret;exact⟨v,rfl,HO.o,HB.o,HG.o⟩
theorem qaA(g:Nat)(s:ByteArray)(hs:s.size<=1000000):∀f lo,s.size<=f+lo->q7k g s lo (lB (bys s) f)
 |0,lo,hf=>fun W z h hT hl hz=>absurd hl (by omega)
 |f+1,lo,hf=>fun W z h hT hl hz=>qaz (lo:=lo+1) (qaA g s hs f (lo+1) (by omega)) hl (fun z _=>nD (bys s) f z) (fun z _=>uN (bys s) f z) h hs hT hz
def q3C(y:List Nd×Nat×Nat)(w:World)(e:Ending)(w':World):Prop:=∃v,e=.returned (.tuple #[v,.int .i64 (y.2.1:Nat),.int .i64 (y.2.2:Nat)])/\aO w' w.heap.size v y.1/\Below w.heap.size w w'
theorem q6k{s:ByteArray}{w:World}(hT:iZ w):Calls prog 21 #[.string s] w (q3C (iY (bys s)) w):=by
 obtain⟨R,hR⟩:∃R,R=iY (bys s):=⟨_,rfl⟩;rw[<-hR];unfold iY at hR;rw[aP]at hR;by_cases qc5:512<s.size
 ·rw[qt qc5]at hR
  have HR:=qa hR;clear hR;have hb:(s.size:Int)>512:=by omega
  go_enter func21,ntmps21;go_wp2;refine bodyPost_ret (v:=.tuple #[.slice none 0 0,.int .i64 3,.int .i64 512]) (by simp[results,results21,go_sem]) rfl ?_;rw[HR.o];exact⟨_,rfl,cA.nil 8 w w.heap.size 65,qk _ _⟩
 rw[qr qc5]at hR;have hb:¬(s.size:Int)>512:=by omega
 have hs:s.size<=1000000:=by omega
 obtain⟨w1,hw1⟩:∃w1,w1=w.alloc (.cells #[.string s,.int .i64 0,.int .i64 0,.int .i64 0] 88):=⟨_,rfl⟩;have hb1:Below w.heap.size w w1:=by rw[hw1];exact aA w _
 have hs1:w1.heap.size=w.heap.size+1:=by rw[hw1];simp
 have hB1:dJ w1 w.heap.size s ⟨0,0,0⟩:=⟨by
  rw[hw1];simpa using bU w w.heap.size #[.string s,.int .i64 0,.int .i64 0,.int .i64 0] 88 (by simp) (qb _)⟩
 have HA:=qa (qaz (lo:=0) (qaA w.heap.size s hs s.size 0 (by omega)) (qb _) (fun z _=>nD (bys s) s.size z) (fun z _=>uN (bys s) s.size z) hB1 hs (hT.up hb1) (qd _));have hL:lB (bys s) (s.size+1) ⟨0,0,0⟩=(m5 4 (m7 (bys s) (lB (bys s) s.size) ((bys s).length+1) [(fJ (bys s) (lB (bys s) s.size) ⟨0,0,0⟩).1] (fJ (bys s) (lB (bys s) s.size) ⟨0,0,0⟩).2).1,(m7 (bys s) (lB (bys s) s.size) ((bys s).length+1) [(fJ (bys s) (lB (bys s) s.size) ⟨0,0,0⟩).1] (fJ (bys s) (lB (bys s) s.size) ⟨0,0,0⟩).2).2):=rfl;rw[show q1M (m5 4 (m7 (bys s) (lB (bys s) s.size) ((bys s).length+1) [(fJ (bys s) (lB (bys s) s.size) ⟨0,0,0⟩).1] (fJ (bys s) (lB (bys s) s.size) ⟨0,0,0⟩).2).1) w.heap.size s (m7 (bys s) (lB (bys s) s.size) ((bys s).length+1) [(fJ (bys s) (lB (bys s) s.size) ⟨0,0,0⟩).1] (fJ (bys s) (lB (bys s) s.size) ⟨0,0,0⟩).2).2 w1=q1M (lB (bys s) (s.size+1) ⟨0,0,0⟩).1 w.heap.size s (lB (bys s) (s.size+1) ⟨0,0,0⟩).2 w1 by rw[hL]]at HA;clear hL hB1 hT;have HLN:=qa (uN (bys s) (s.size+1) ⟨0,0,0⟩);have HPL:=qa ((nD (bys s) (s.size+1) ⟨0,0,0⟩).len (qd _));generalize lB (bys s) (s.size+1) ⟨0,0,0⟩=A at*;obtain⟨l,z⟩:=A;simp only at hR HA HLN HPL;rw[aP]at HPL;have HX:Hid (∀W,dJ W w.heap.size s z->Calls prog 40 #[.pointer (some ⟨w.heap.size,0,none⟩)] W fun e w'=>e=.returned (nxV (nxR (bys s) z))/\∃x,w'=ext W x):=qa (fun W h=>nxP h);unfold nxV at HX;have HF:Hid (∀W,dJ W w.heap.size s z->Calls prog 41 #[.pointer (some ⟨w.heap.size,0,none⟩),.int .i64 15,.int .i64 z.p] W (mR (.tuple #[]) w.heap.size s (bB 15 z.p z) W)):=qa (fun W h=>uR h 15 z.p);generalize (nxR (bys s) z).getD 0=ch at*;generalize (nxR (bys s) z).isSome=cs at*;have hll:l.length<=1025:=by have h1:=HLN.o;have h2:=HPL.o;omega
 have HW1:=qa hw1;rw[hw1]at HA;have HB1:=qa hb1;have HS1:=qa hs1;clear qc5 hw1 hb1 hs1 HLN HPL;have hR:R=if(if cs then bB 15 z.p z else z).e≠0 then([],(if cs then bB 15 z.p z else z).e,(if cs then bB 15 z.p z else z).b)else if 400<l.length then([],3,0)else(l,0,0):=hR
 cases cs with
 |false=>
  have hR:R=if z.e≠0 then([],z.e,z.b)else if 400<l.length then([],3,0)else(l,0,0):=hR
  by_cases he:z.e=0
  ·rw[qr (fun h=>h he)]at hR
   have heb:((z.e:Int) != 0)=false:=by rw[he];rfl
   clear he;by_cases hbl:400<l.length
   ·rw[qt hbl]at hR
    have HR:=qa hR;have hbi:(l.length:Int)>400:=by omega
    clear hR;go_enter func21,ntmps21
    go_wp2_with(first
     |((with_reducible refine(HA.o).mono ?_);rintro e w2 ⟨v,rfl,ho,hB,hg⟩;rw[<-HW1.o]at ho hg;have HO2:Hid (aO w2 (w.heap.size+1) v l):=qa (cA.mono ho (by rw[HS1.o];exact qb _));have HP2:=qa hB;have HG2:=qa (HB1.o.grown hg (HB1.o.size) (fun k e=>by have:=qo e;omega));obtain⟨oa,cap,hv⟩:=aO.slice HO2.o;subst hv;clear ho hB hg)
     |((with_reducible refine(HX.o _ HP2.o).mono ?_);rintro e w3 ⟨rfl,hx⟩;have HP3:=qa (HP2.o.up (aB hx));have HG3:=qa (HG2.o.trans ((aB hx).mono HG2.o.size));have c2:=HP3.o.c2;clear hx))
    refine bodyPost_ret (v:=.tuple #[.slice none 0 0,.int .i64 3,.int .i64 0]) (by simp[results,results21,go_sem]) rfl ?_;rw[HR.o];exact⟨_,rfl,cA.nil 8 w3 w.heap.size 65,HG3.o⟩
   rw[qr hbl]at hR;have HR:=qa hR;have hbi:¬(l.length:Int)>400:=by omega
   clear hR;go_enter func21,ntmps21
   go_wp2_with(first
    |((with_reducible refine(HA.o).mono ?_);rintro e w2 ⟨v,rfl,ho,hB,hg⟩;rw[<-HW1.o]at ho hg;have HO2:Hid (aO w2 (w.heap.size+1) v l):=qa (cA.mono ho (by rw[HS1.o];exact qb _));have HP2:=qa hB;have HG2:=qa (HB1.o.grown hg (HB1.o.size) (fun k e=>by have:=qo e;omega));obtain⟨oa,cap,hv⟩:=aO.slice HO2.o;subst hv;clear ho hB hg)
    |((with_reducible refine(HX.o _ HP2.o).mono ?_);rintro e w3 ⟨rfl,hx⟩;have HP3:=qa (HP2.o.up (aB hx));have HO3:Hid (aO w3 (w.heap.size+1) (.slice oa l.length cap) l):=qa (cA.up HO2.o (aB hx));have HG3:=qa (HG2.o.trans ((aB hx).mono HG2.o.size));have c2:=HP3.o.c2;clear hx))
   refine bodyPost_ret (v:=.tuple #[.slice oa l.length cap,.int .i64 0,.int .i64 0]) (by simp[results,results21,go_sem]) rfl ?_;rw[HR.o];exact⟨_,rfl,cA.mono HO3.o (ja _),HG3.o⟩
  rw[qt he]at hR;have HR:=qa hR;have heb:((z.e:Int) != 0)=true:=by simp;omega
  clear hR he;go_enter func21,ntmps21
  go_wp2_with(first
   |((with_reducible refine(HA.o).mono ?_);rintro e w2 ⟨v,rfl,ho,hB,hg⟩;rw[<-HW1.o]at ho hg;have HP2:=qa hB;have HG2:=qa (HB1.o.grown hg (HB1.o.size) (fun k e=>by have:=qo e;omega));clear ho hB hg)
   |((with_reducible refine(HX.o _ HP2.o).mono ?_);rintro e w3 ⟨rfl,hx⟩;have HP3:=qa (HP2.o.up (aB hx));have HG3:=qa (HG2.o.trans ((aB hx).mono HG2.o.size));have c2:=HP3.o.c2;have c3:=HP3.o.c3;clear hx))
  go_simp
  go_quiet (fail)
  go_wp2;refine bodyPost_ret (v:=.tuple #[.slice none 0 0,.int .i64 z.e,.int .i64 z.b]) (by simp[results,results21,go_sem]) rfl ?_;rw[HR.o];exact⟨_,rfl,cA.nil 8 _ w.heap.size 65,HG3.o.trans ((aN _ _).mono HG3.o.size)⟩
 |true=>
  obtain⟨z2,hz2⟩:∃z2,z2=bB 15 z.p z:=⟨_,rfl⟩;have hR:R=if z2.e≠0 then([],z2.e,z2.b)else if 400<l.length then([],3,0)else(l,0,0):=by rw[hz2];exact hR
  rw[<-hz2]at HF;clear hz2;by_cases he:z2.e=0
  ·rw[qr (fun h=>h he)]at hR
   have heb:((z2.e:Int) != 0)=false:=by rw[he];rfl
   clear he;by_cases hbl:400<l.length
   ·rw[qt hbl]at hR
    have HR:=qa hR;have hbi:(l.length:Int)>400:=by omega
    clear hR;go_enter func21,ntmps21
    go_wp2_with(first
     |((with_reducible refine(HA.o).mono ?_);rintro e w2 ⟨v,rfl,ho,hB,hg⟩;rw[<-HW1.o]at ho hg;have HO2:Hid (aO w2 (w.heap.size+1) v l):=qa (cA.mono ho (by rw[HS1.o];exact qb _));have HP2:=qa hB;have HG2:=qa (HB1.o.grown hg (HB1.o.size) (fun k e=>by have:=qo e;omega));obtain⟨oa,cap,hv⟩:=aO.slice HO2.o;subst hv;clear ho hB hg)
     |((with_reducible refine(HX.o _ HP2.o).mono ?_);rintro e w3 ⟨rfl,hx⟩;have HP3:=qa (HP2.o.up (aB hx));have HG3:=qa (HG2.o.trans ((aB hx).mono HG2.o.size));have c1:=HP3.o.c1;clear hx)
     |((with_reducible refine(HF.o _ HP3.o).mono ?_);rintro e w4 ⟨rfl,hB,hg⟩;have HP4:=qa hB;have HG4:=qa (HG3.o.grown hg (HG3.o.size) (fun k e=>by have:=qo e;omega));have c2:=HP4.o.c2;have c3:=HP4.o.c3;clear hB hg))
    refine bodyPost_ret (v:=.tuple #[.slice none 0 0,.int .i64 3,.int .i64 0]) (by simp[results,results21,go_sem]) rfl ?_;rw[HR.o];exact⟨_,rfl,cA.nil 8 w4 w.heap.size 65,HG4.o⟩
   rw[qr hbl]at hR;have HR:=qa hR;have hbi:¬(l.length:Int)>400:=by omega
   clear hR;go_enter func21,ntmps21
   go_wp2_with(first
    |((with_reducible refine(HA.o).mono ?_);rintro e w2 ⟨v,rfl,ho,hB,hg⟩;rw[<-HW1.o]at ho hg;have HO2:Hid (aO w2 (w.heap.size+1) v l):=qa (cA.mono ho (by rw[HS1.o];exact qb _));have HP2:=qa hB;have HG2:=qa (HB1.o.grown hg (HB1.o.size) (fun k e=>by have:=qo e;omega));obtain⟨oa,cap,hv⟩:=aO.slice HO2.o;subst hv;clear ho hB hg)
    |((with_reducible refine(HX.o _ HP2.o).mono ?_);rintro e w3 ⟨rfl,hx⟩;have HP3:=qa (HP2.o.up (aB hx));have HO3:Hid (aO w3 (w.heap.size+1) (.slice oa l.length cap) l):=qa (cA.up HO2.o (aB hx));have HG3:=qa (HG2.o.trans ((aB hx).mono HG2.o.size));have c1:=HP3.o.c1;clear hx)
    |((with_reducible refine(HF.o _ HP3.o).mono ?_);rintro e w4 ⟨rfl,hB,hg⟩;have HP4:=qa hB;have HG4:=qa (HG3.o.grown hg (HG3.o.size) (fun k e=>by have:=qo e;omega));have HO4:Hid (aO w4 (w.heap.size+1) (.slice oa l.length cap) l):=qa (aO.keepG HO3.o hg (qR _));have c2:=HP4.o.c2;have c3:=HP4.o.c3;clear hB hg))
   refine bodyPost_ret (v:=.tuple #[.slice oa l.length cap,.int .i64 0,.int .i64 0]) (by simp[results,results21,go_sem]) rfl ?_;rw[HR.o];exact⟨_,rfl,cA.mono HO4.o (ja _),HG4.o⟩
  rw[qt he]at hR;have HR:=qa hR;have heb:((z2.e:Int) != 0)=true:=by simp;omega
  clear hR he;go_enter func21,ntmps21
  go_wp2_with(first
   |((with_reducible refine(HA.o).mono ?_);rintro e w2 ⟨v,rfl,ho,hB,hg⟩;rw[<-HW1.o]at ho hg;have HP2:=qa hB;have HG2:=qa (HB1.o.grown hg (HB1.o.size) (fun k e=>by have:=qo e;omega));clear ho hB hg)
   |((with_reducible refine(HX.o _ HP2.o).mono ?_);rintro e w3 ⟨rfl,hx⟩;have HP3:=qa (HP2.o.up (aB hx));have HG3:=qa (HG2.o.trans ((aB hx).mono HG2.o.size));have c1:=HP3.o.c1;clear hx)
   |((with_reducible refine(HF.o _ HP3.o).mono ?_);rintro e w4 ⟨rfl,hB,hg⟩;have HP4:=qa hB;have HG4:=qa (HG3.o.grown hg (HG3.o.size) (fun k e=>by have:=qo e;omega));have c2:=HP4.o.c2;have c3:=HP4.o.c3;clear hB hg))
  go_simp
  go_quiet (fail)
  go_wp2;refine bodyPost_ret (v:=.tuple #[.slice none 0 0,.int .i64 z2.e,.int .i64 z2.b]) (by simp[results,results21,go_sem]) rfl ?_;rw[HR.o];exact⟨_,rfl,cA.nil 8 _ w.heap.size 65,HG4.o.trans ((aN _ _).mono HG4.o.size)⟩
def Und:List Nd->Prop
 |[]=>True
 |x::r=>0<=x.n/\x.n<=(rU r).length/\Und r
theorem q3D(x:Nd)(r:List Nd):(rU (x::r)).length=(rU r).length-x.n.toNat+1:=by
 rw[rU];simp
theorem wJ:∀(f:Fo) (P:List Nd),wf f->Und P->Und (cO f++P)/\(rU (cO f++P)).length=cnt f+(rU P).length
 |.nil,P,_,h=>by simp[cO,cnt,h]
 |.cons x k r,P,hw,h=>by
  obtain⟨hn,hk,hr⟩:=hw;obtain⟨h1,h2⟩:=wJ r P hr h;obtain⟨h3,h4⟩:=wJ k (cO r++P) hk h1;have e:cO (.cons x k r)++P=x::(cO k++(cO r++P)):=by simp[cO]
  rw[e];refine⟨⟨by omega,by omega,h3⟩,?_⟩;rw[q3D,h4,h2,hn];simp only[cnt];omega
theorem q7q{l:List Nd}(h:Chk l):Und l:=by
 obtain⟨x,k,rfl,hn,hk,-⟩:=wB h;have:=(wJ (.cons x k .nil) [] ⟨hn,hk,trivial⟩ trivial).1;simpa[cO]using this
theorem q6l:∀{l:List Nd} {i:Nat},Und l->i<l.length->0<=(l.getD i zN).n/\(l.getD i zN).n<=(rU (l.drop (i+1))).length
 |x::r,0,h,_=>⟨h.1,h.2.1⟩
 |x::r,i+1,h,hi=>by
  have:=q6l (l:=r) (i:=i) h.2.2 (by simpa using hi);simpa using this
theorem q8V(l:List Nd):(rU l).length<=l.length:=by
 induction l with
 |nil=>simp[rU]
 |cons x r ih=>rw[q3D,qx];omega
theorem q3E{α:Type}(d:α){l:List α}{i:Nat}(h:i<l.length):l.drop i=l.getD i d::l.drop (i+1):=by
 rw[jB h];congr 1;simp[List.getD,h]
def bv(l:List Bool):List Value:=l.map Value.bool
theorem q3F(l:List Bool):(bv l).length=l.length:=by simp[bv]
theorem q7r(l:List Bool)(i:Nat)(h:i<l.length):(bv l).getD i undef=.bool (l.getD i false):=by simp[bv,List.getD,h]
def q7s(x:Nd)(k:List Bool):Bool:=if x.kd=2\/x.kd=5\/x.kd=7 then true else if x.kd=3\/x.kd=6 then k.all id else if x.kd=4 then k.any id else if x.kd=8 then k.all id||decide (x.lo=0)else false
theorem q5p(x:Nd)(r:List Nd):rU (x::r)=q7s x ((rU r).take x.n.toNat)::(rU r).drop x.n.toNat:=rfl
theorem Own.lowAny{P:Program}{w:World}{B:Nat}{v:Value}{xs:List Value}(T E:TypeId)(hT:P.underlying T=some (.slice E))(hE:(P.info? E).map (·.size)=some 1)(h:Own w B E v xs)(k:Nat)(hk:k<=xs.length):
  ∃u,(∀W:World,(Instr.sliceAt T v none (some (.int .i64 (k:Int))) none).run P W=.ok u W)/\Own w B E u (xs.take k)/\u.ownBlock=v.ownBlock:=by
 obtain⟨r1,r2⟩:=oY (P:=P) (k:=1) T E hT hE;obtain⟨⟨hz,hh⟩,hs⟩:=h;have ht:(xs.take k).length=k:=by rw[qT];omega
 rcases hh with⟨h1,h0⟩|⟨g,cap,cur,h1,hb,hg,hnc,hcm,hcs,qbh⟩
 ·have hx0:xs=[]:=List.length_eq_zero_iff.1 h0
  subst hx0;obtain rfl:k=0:=by simpa using hk
  refine⟨.slice none 0 0,fun W=>?_,Own.nil _ _ _,by rw[h1]⟩;rw[h1,run_sliceAt_slice (P:=P) (t:=T) (h:=r1),run_slice_h (t:=T) (ht:=r1) (h0:=by omega) (h2:=by omega),r2];simp[Result.andThen,sliced]
 refine⟨.slice (some ⟨g,0,none⟩) k cap,fun W=>?_,⟨⟨by omega,.inr ⟨g,cap,cur,by rw[ht],hb,hg,by rw[ht];omega,hcm,hcs,?_⟩⟩,by omega⟩,by rw[h1];rfl⟩
 ·rw[h1,run_sliceAt_slice (P:=P) (t:=T) (h:=r1),run_slice_h (t:=T) (ht:=r1) (h0:=by omega) (h2:=by omega),r2]
  by_cases hc:cap=0
  ·subst hc
   obtain rfl:k=0:=by omega
   simp[Result.andThen,sliced]
  simp[Result.andThen,sliced,hc,kF]
 rw[ht];have:xs.take k=(cur.toList.take (xs.length*1)).take k:=by rw[qbh]
 rw[this,List.take_take]
 congr 1
 omega
theorem nM.c6{w:World}{b:Nat}{x:Nd}(h:nM w b x):w.cell? ⟨b,6,none⟩=some (.int .i64 x.lo):=h.own.cell (by simp[ndC])
theorem q1O{w:World}{B E:Nat}{v:Value}{xs:List Value}(h:Own w B E v xs):∃oz nz cz,v=.slice oz nz cz:=by
 obtain⟨oa,cap,b,off,hv,-,-⟩:=h.sl;exact⟨oa,_,cap,hv⟩
theorem q8W{w:World}{v:Value}{l:List Nd}(h:cB w v l)(hl:l.length<=100000)(_hne:l.length≠0)(h1:(rU l).length=1)(hu:Und l):
  Calls prog 106 #[v] w fun e w'=>e=.returned (.bool ((rU l).headD false))/\∃x,w'=ext w x:=by
 obtain⟨oa,cap,b,off,rfl,hd,hc⟩:=h.open;have hix:=fun(W:World) (i:Nat) (hi:i<l.length)=>gA hd W .i64 i (by omega) (by omega);simp only[qA]at hix;have HIX:=qa hix;have HC:=qa hc;have HU:=qa (fun i hi=>q6l (l:=l) (i:=i) hu hi);have HSZ:=qa (fun i=>q8V (l.drop i));have HD:=qa (fun i (hi:i<l.length)=>q3E zN hi);have hbl:=hd.hblk;obtain⟨n,hn⟩:∃n,n=l.length:=⟨_,rfl⟩;have HN:=qa hn;have HNB:Hid (∀W:World,nM (W.alloc (.cells #[.int .i64 0,.int .i64 0,.int .u64 0,.int .u64 0,.int .u64 0,.int .u64 0,.int .i64 0,.int .i64 0] 65)) W.heap.size zN):=qa (fun W=>nE W zN _ rfl);rw[<-hn]at hl hbl HIX HC HU HD⊢;have HH1:=qa h1;clear h hix hc hd hu hn h1;go_enter func106,ntmps106;go_wp2
 go_loopg [3,4] n (fun gk lv iv wr=>∃j:Nat,j<=n/\iv=.int .i64 ((j:Int)-1)/\Own wr w.heap.size 4 lv (bv (rU (l.drop j)).reverse)/\Below w.heap.size w wr/\gk=j)
 case atStart=>exact⟨n,qb _,rfl,by rw[HN.o,List.drop_length];exact Own.nil _ _ _,qk _ _,rfl⟩
 case round=>
  obtain⟨j0,hj,rfl,hO,hB,hgk⟩:=hrel;have HGK:=qa hgk;have HO:=qa hO;have HB:=qa hB;clear hO hB hgk;rcases jD j0 with h0|qbs
  ·subst h0
   obtain⟨a,har⟩:∃a,rU l=[a]:=List.length_eq_one_iff.1 HH1.o;have HR:Hid ((rU l).headD false=a):=qa (by rw[har];rfl);rw[List.drop_zero,har]at HO;have HO1:Hid (Own wr w.heap.size 4 u3 [.bool a]):=qa HO.o;obtain⟨oa2,cap2,b2,hv,hd2,-,hcl,-,-⟩:=HO1.o.cases;have hv0:u3=.slice oa2 1 cap2:=hv;subst hv0;obtain⟨off2,qc7⟩:∃off2,off2=0:=⟨_,rfl⟩;rw[<-qc7]at hd2;have hix:=fun W=>aU (P:=prog) 84 4 underlying84 (by kernel_rfl) hd2 W .i64 0 (by omega) (by simp);have hcell:wr.cell? ⟨b2,off2,none⟩=some (.bool a):=by rw[qc7];exact hcl 0 (by simp)
   simp only[Int.toNat_zero,jC,qB]at hix;clear hd2 hcl qc7 hv HO HO1 har;go_wp2;go_ret;exact⟨by rw[HR.o];rfl,aI HB.o⟩
  obtain⟨j,hj1⟩:∃j,j0=j+1:=⟨j0-1,by omega⟩;subst hj1;obtain⟨hx0,hxn⟩:=HU.o j (by omega);have HDJ:=qa (HD.o j (by omega));have hdl:=HSZ.o (j+1);have HCJ:=qa (HC.o j (by omega));have qcq:=fun W=>HIX.o W j (by omega);have hbb:=hbl (by omega);have hbw:b<wr.heap.size:=by have:=HB.o.size;omega
  have HCW:Hid (∀c,c<8->wr.cell? ⟨b,off+j*8+c,none⟩=some ((ndA (l.getD j zN)).getD c undef)):=qa (fun c hc=>by
   rw[HB.o.cell (p:=⟨b,off+j*8+c,none⟩) hbb,HCJ.o c hc];rcases(show c=0\/c=1\/c=2\/c=3\/c=4\/c=5\/c=6\/c=7 by omega)with rfl|rfl|rfl|rfl|rfl|rfl|rfl|rfl<;>rfl)
  have HEV:Hid (rU (l.drop j)=q7s (l.getD j zN) ((rU (l.drop (j+1))).take (l.getD j zN).n.toNat)::(rU (l.drop (j+1))).drop (l.getD j zN).n.toNat):=qa (by rw[HDJ.o,q5p]);have qiX:(l.drop (j+1)).length<=100000:=by rw[qY,<-HN.o];omega
  generalize l.getD j zN=x at*;generalize rU (l.drop (j+1))=D at*;clear HU HD HSZ HC HIX HDJ HCJ;obtain⟨kd,xn,xa,xb,xc,xd,lo,hi⟩:=x;simp only at hx0 hxn;obtain⟨k,hk⟩:∃k:Nat,xn=(k:Int):=⟨xn.toNat,by omega⟩;subst hk;simp only[qA]at HEV;have hDl:D.length<=100000:=by omega
  have hkD:k<=D.length:=by omega
  have HDL:=qa hdl;clear hdl qiX;have e1:((D.length:Nat):Int)-(k:Int)=((D.length-k:Nat):Int):=by omega
  obtain⟨m,hm⟩:∃m,m=D.length-k:=⟨_,rfl⟩;rw[<-hm]at e1;have hml:(bv D.reverse).length=D.length:=by rw[q3F,List.length_reverse]
  obtain⟨oz,cz,bz,fz,hv,-,-⟩:=HO.o.sl;rw[hml]at hv;have HV:=qa hv;subst hv;obtain⟨u1,hu1,qfe⟩:=HO.o.sl.high 84 4 underlying84 (by kernel_rfl) m (by rw[hml];omega);obtain⟨u2,hu2,hO2,hb2⟩:=Own.lowAny (P:=prog) 84 4 underlying84 (by kernel_rfl) HO.o m (by rw[hml];omega)
  have HK1:Hid ((bv D.reverse).drop m=bv (D.take k).reverse):=qa (by
   unfold bv;rw[<-List.map_drop,List.drop_reverse,hm];congr 3;omega)
  have HK2:Hid ((bv D.reverse).take m=bv (D.drop k).reverse):=qa (by
   unfold bv;rw[<-List.map_take,List.take_reverse,hm];congr 3;omega)
  rw[HK1.o]at qfe;rw[HK2.o]at hO2;have HU1:=qa hu1;have HU2:=qa hu2;have HS1:=qa qfe;have HO2:=qa hO2;have HB2:=qa hb2;have HE1:=qa e1;have HN1:=qa (HNB.o wr);have HM:=qa hm;clear hu1 hu2 qfe hO2 hb2 HK1 HK2 hml e1 HV hm
  go_upto_region 8 with(first
   |(refine aH rfl 65 _ rfl b (off+j*8) 8 rfl (ndA ⟨kd,(k:Int),xa,xb,xc,xd,lo,hi⟩) _ HCW.o rfl underlying65 rfl (by kernel_rfl) ?_)
   |(refine hJ rfl _ _ rfl wr.heap.size rfl _ ⟨kd,(k:Int),xa,xb,xc,xd,lo,hi⟩ rfl HN1.o ?_;intro w2 hB2 hg2;have HN2:=qa hB2;have hbd:Below wr.heap.size wr w2:=(aA wr _).grown hg2 (by simp) (fun q e=>by injection e with e;omega);have HBD:=qa hbd;have n0:=HN2.o.c0;have n1:=HN2.o.c1;have n6:=HN2.o.c6;have hnl:=HN2.o.lt;clear hB2 hg2 hbd))
  rw[HE1.o];obtain⟨o1,c1,b1,f1,hv1,hd1,qeM⟩:=HS1.o;have qhb:(bv (D.take k).reverse).length=k:=by rw[q3F,List.length_reverse,qT];omega
  rw[qhb]at hv1 hd1 qeM;subst hv1;have hu1:=HU1.o;have qdX:=fun(W:World) (i:Nat) (hi:i<k)=>aU (P:=prog) 84 4 underlying84 (by kernel_rfl) hd1 W .i64 i (by omega) (by omega);simp only[qA]at qdX;have qhR:=qa qdX;have qhd:=hd1.hblk;obtain⟨K,hK⟩:∃K,K=(D.take k).reverse:=⟨_,rfl⟩;have hKl:K.length=k:=by rw[hK,List.length_reverse,qT];omega
  rw[<-hK]at qeM;have qi5:Hid (∀i,i<k->wr.cell? ⟨b1,f1+i,none⟩=some (.bool (K.getD i false))):=qa (fun i hi=>by rw[qeM i hi,q7r _ _ (by omega)]);have qi1:Hid (q7s ⟨kd,(k:Int),xa,xb,xc,xd,lo,hi⟩ (D.take k)=q7s ⟨kd,(k:Int),xa,xb,xc,xd,lo,hi⟩ K):=qa (by rw[hK];unfold q7s;simp);have HKL:=qa hKl;have hB2:=HB.o.trans (HBD.o.mono HB.o.size);have HBB:=qa hB2;clear hd1 qeM qdX hK hKl qhb hB2;go_wp2;clear hu1;have qeL:Hid (∀i,i<k->w2.cell? ⟨b1,f1+i,none⟩=some (.bool (K.getD i false))/\b1<w2.heap.size):=qa (fun i hi=>⟨by rw[HBD.o.cell (p:=⟨b1,f1+i,none⟩) (qhd (by omega)),qi5.o i hi],qe (qhd (by omega)) HBD.o.size⟩)
  go_loop [7,8,32] (fun al so ix=>∃i:Nat,i<=k/\ix=.int .i64 i/\al=.bool ((K.take i).all id)/\so=.bool ((K.take i).any id)) (fun _ _ ix=>k+1-(intOf ix).toNat)
  case atStart=>exact⟨0,qd _,rfl,rfl,rfl⟩
  case round=>
   obtain⟨i,hi',rfl,rfl,rfl⟩:=hrel;by_cases hlt:i<k
   ·obtain⟨hce,qlp⟩:=qeL.out i hlt
    have qbi:=fun W=>qhR.o W i hlt;have HTA:Hid ((K.take (i+1)).all id=((K.take i).all id&&K.getD i false)):=qa (by rw[aY K i false (by rw[HKL.o];exact hlt),List.all_append];simp);have HTS:Hid ((K.take (i+1)).any id=((K.take i).any id||K.getD i false)):=qa (by rw[aY K i false (by rw[HKL.o];exact hlt),List.any_append];simp);generalize K.getD i false=q at*;generalize (K.take i).all id=al at*;generalize (K.take i).any id=so at*;cases al<;>cases so<;>cases q
    all_goals
     go_wp2
     go_round
     case rel=>exact⟨i+1,by omega,by go_num,by rw[HTA.o];rfl,by rw[HTS.o];rfl⟩
     case measure=>simp[intOf];omega
   obtain rfl:i=k:=by omega
   rw[show K.take i=K by rw[<-HKL.o,qX]];obtain⟨oz2,nz2,cz2,hv2⟩:=q1O HO2.o;subst hv2;have hu2:=HU2.o
   go_upto_block 4 with(fail)
   have HEW:Hid (q7s ⟨kd,(i:Int),xa,xb,xc,xd,lo,hi⟩ K=if kd=2\/kd=5\/kd=7 then true else if kd=3\/kd=6 then K.all id else if kd=4 then K.any id else if kd=8 then K.all id||decide (lo=0)else false):=qa rfl;obtain⟨V,hV⟩:∃V,V=q7s ⟨kd,(i:Int),xa,xb,xc,xd,lo,hi⟩ K:=⟨_,rfl⟩;rw[<-hV]at HEW qi1;clear hV qhR qi5 qeL HKL;generalize K.all id=al at*;generalize K.any id=so at*
   go_cut [11] (fun x wx=>x=.bool V/\wx=w2)
   case first=>
    by_cases k2:kd=2
    ·subst k2
     go_wp2
     go_meet
     case rel=>exact⟨by rw[HEW.o];simp,rfl⟩
    by_cases k5:kd=5
    ·subst k5
     go_wp2
     go_meet
     case rel=>exact⟨by rw[HEW.o];simp,rfl⟩
    by_cases k7:kd=7
    ·subst k7
     go_wp2
     go_meet
     case rel=>exact⟨by rw[HEW.o];simp,rfl⟩
    have hn1:¬(kd=2\/kd=5\/kd=7):=by omega
    rw[qr hn1]at HEW;by_cases k3:kd=3
    ·subst k3
     clear hn1 k2 k5 k7;go_wp2
     go_meet
     case rel=>exact⟨by rw[HEW.o];simp,rfl⟩
    by_cases k6:kd=6
    ·subst k6
     clear hn1 k2 k5 k7 k3;go_wp2
     go_meet
     case rel=>exact⟨by rw[HEW.o];simp,rfl⟩
    have hn2:¬(kd=3\/kd=6):=by omega
    rw[qr hn2]at HEW;by_cases k4:kd=4
    ·subst k4
     clear hn1 hn2 k2 k5 k7 k3 k6;go_wp2
     go_meet
     case rel=>exact⟨by rw[HEW.o];simp,rfl⟩
    rw[qr k4]at HEW;by_cases k8:kd=8
    ·subst k8
     clear hn1 hn2 k2 k5 k7 k3 k6 k4;rw[qt rfl]at HEW;cases al
     ·by_cases hlo:lo=0
      ·subst hlo
       go_wp2
       go_meet
       case rel=>exact⟨by rw[HEW.o];rfl,rfl⟩
      have qeG:(lo==0)=false:=by simpa using hlo
      have HLO:=qa (qu hlo);clear hlo;go_wp2
      go_meet
      case rel=>exact⟨by rw[HEW.o,HLO.o];rfl,rfl⟩
     go_wp2
     go_meet
     case rel=>exact⟨by rw[HEW.o];rfl,rfl⟩
    rw[qr k8]at HEW;have q2:(kd==2)=false:=by simpa using k2
    have q5:(kd==5)=false:=by simpa using k5
    have q7:(kd==7)=false:=by simpa using k7
    have q3:(kd==3)=false:=by simpa using k3
    have q6:(kd==6)=false:=by simpa using k6
    have q4:(kd==4)=false:=by simpa using k4
    have q8:(kd==8)=false:=by simpa using k8
    clear hn1 hn2 k2 k5 k7 k3 k6 k4 k8;go_wp2
    go_meet
    case rel=>exact⟨by rw[HEW.o],rfl⟩
   case rest=>
    obtain⟨rfl,hwc⟩:=hcut;rw[hwc];clear hwc hu2 n0 n1 n6;have hu2:=HU2.o;have hba:=aA w2 (.cells #[.bool V] 4);have HBA:=qa hba;have HX:Hid (Sl (w2.alloc (.cells #[.bool V] 4)) (.slice (some ⟨w2.heap.size,0,none⟩) 1 1) [.bool V]):=qa (by simpa using dY w2 #[.bool V] 4 (by simp));have HO4:=qa ((HO2.o.up HBD.o).up hba)
    have HLE:Hid ((bv (D.drop i).reverse).length+[Value.bool V].length<=4294967296):=qa (by
     rw[q3F,List.length_reverse,qY];simp;omega)
    have HBC:=qa (HBB.o.trans (hba.mono HBB.o.size))
    have qg0:Hid (bv (rU (l.drop j)).reverse=bv (D.drop i).reverse++[.bool V]):=qa (by
     rw[HEV.o,qi1.o,List.reverse_cons];simp[bv])
    clear hba
    go_wp2_with(at_builtin;refine bM rfl (.tmp 68) (.tmp 70) 84 rfl w.heap.size 4 (.bool false) 1 underlying84 (by kernel_rfl) rfl (by decide) (.slice oz2 nz2 cz2) _ rfl HO4.o (.slice (some ⟨w2.heap.size,0,none⟩) 1 1) [.bool V] rfl HX.o (by intro u hu;simp only[jd]at hu;subst hu;rfl) HLE.o HBC.o.size ?_;intro v' w5 hown1 hg1 hk1;have HO5:=qa hown1;have HB5:=qa (dR HBC.o HBC.o.size HO4.o hg1);clear hown1 hg1 hk1)
    go_roundg j
    case measure=>rw[HGK.o];omega
    case rel=>exact⟨j,by omega,rfl,by rw[qg0.o];exact HO5.o,HB5.o,rfl⟩
theorem q7t{l:List Nd}(h:Chk l):(rU l).length=1:=by
 obtain⟨x,k,rfl,hn,hk,-⟩:=wB h;have:=(wJ (.cons x k .nil) [] ⟨hn,hk,trivial⟩ trivial).2;simpa[cO,cnt,rU]using this
theorem q8X{w:World}{v:Value}{l:List Nd}(h:cB w v l):Calls prog 91 #[v] w fun e w'=>e=.returned (.bool (q5f l))/\∃x,w'=ext w x:=by
 have HC:=qa (q2s h);by_cases hc:Chk l
 ·have HE:Hid (∀W,Below w.heap.size w W->Calls prog 106 #[v] W fun e w'=>e=.returned (.bool ((rU l).headD false))/\∃x,w'=ext W x):=qa (fun W hb=>q8W (h.up hb) (by have:=hc.1;omega) hc.2.1 (q7t hc) (q7q hc))
  have HR:Hid (q5f l=(rU l).headD false):=qa (by unfold q5f;rw[qw hc,j3]);rw[show kH l=0 by unfold kH;rw[qt hc]]at HC;rw[HR.o];generalize (rU l).headD false=b at*;clear h hc;go_enter func91,ntmps91
  go_wp2_with(first
   |((with_reducible refine(HC.o).mono ?_);rintro e w1 ⟨rfl,hx⟩;have HB1:=qa (aB hx);clear hx)
   |((with_reducible refine(HE.o _ HB1.o).mono ?_);rintro e w2 ⟨rfl,hx⟩;have HB2:=qa (cP HB1.o (aB hx));clear hx))
  go_ret;exact⟨rfl,aI HB2.o⟩
 have HR:Hid (q5f l=false):=qa (by unfold q5f;rw[qu hc,jL]);rw[show kH l=4 by unfold kH;rw[qr hc]]at HC;rw[HR.o];clear h hc;go_enter func91,ntmps91
 go_wp2_with(first
  |((with_reducible refine(HC.o).mono ?_);rintro e w1 ⟨rfl,hx⟩;have HB1:=qa (aB hx);clear hx))
 go_ret;exact⟨rfl,aI HB1.o⟩
theorem J8{s:ByteArray}(h:s.size=0):s=⟨#[]⟩:=by
 have:s.data=#[]:=Array.eq_empty_of_size_eq_zero h;cases s;simp_all
theorem q7z{s:ByteArray}(h:s.size≠0):s.toList.isEmpty=false:=by
 rw[ByteArray.toList_eq];cases hl:s.data.toList with
 |nil=>exact absurd (by have:=qW List.length hl;simpa using this) h
 |cons _ _=>rfl
theorem qa7(s:ByteArray)(hs:s.size<=1000000)(w:World):Calls prog 72 #[.string s] w fun e w'=>e=.returned (.bool (q1J (bys s)))/\∃x,w'=ext w x:=by
 by_cases h0:s.size=0
 ·obtain rfl:=J8 h0
  clear h0;go_enter func72,ntmps72;go_wp2;go_ret;exact⟨rfl,(aI aJ)⟩
 have hne:=q7z h0;have HC:Hid (∀W,Calls prog 90 #[.int .i32 (((bys s).getD 0 0).toNat:Nat)] W fun e w'=>e=.returned (.bool (q8F ((bys s).getD 0 0)))/\w'=W):=qa (fun W=>q3l _ W);have HH:Hid (∀W,Calls prog 53 #[.string s,.func (.func 71) #[] #[]] W fun e w'=>e=.returned (.int .i64 (fK B2 (bys s):Nat))/\∃x,w'=ext W x):=qa (fun W=>q69 s W);have hix:∀W,(Instr.index 9 (.string s) (.int .i64 0)).run prog W=.ok (.int .u8 (((bys s).getD 0 0).toNat:Nat)) W:=fun W=>e6 (P:=prog) 9 underlying9 (s:=s) (i:=0) (by omega) W;have hct:=((bys s).getD 0 0).toNat_lt;have hl:=uQ B2 (bys s);rw[aP]at hl
 have HR:Hid (q1J (bys s)=(q8F ((bys s).getD 0 0)&&(decide (fK B2 (bys s)=s.size)&&decide (s.size<=16)))):=qa (by
  unfold q1J;rw[aP]
  have:(bys s).isEmpty=false:=by
   cases hb:bys s with
   |nil=>exact absurd (by have:=qW List.length hb;rwa [aP]at this) h0
   |cons _ _=>rfl
  have h2:(bys s).headD 0=(bys s).getD 0 0:=by cases bys s<;>rfl
  rw[this,h2];rfl)
 rw[HR.o];generalize ((bys s).getD 0 0)=c at*;generalize fK B2 (bys s)=n at*;clear h0 HR;cases hc:q8F c
 ·rw[hc]at HC
  clear hc;go_enter func72,ntmps72
  go_wp2_with((with_reducible refine(HC.o _).mono ?_);rintro e w2 ⟨rfl,rfl⟩)
  go_ret;exact⟨rfl,(aI aJ)⟩
 rw[j3];rw[hc]at HC;clear hc;by_cases hn:n=s.size
 ·subst hn
  by_cases h16:s.size<=16
  ·rw[qw rfl,qw h16]
   go_enter func72,ntmps72
   exact ZmO1
  rw[qw rfl,qu h16];go_enter func72,ntmps72
  exact ZmO1
 have hnb:((n:Int)==(s.size:Int))=false:=by simp;omega
 rw[qu hn,jL];go_enter func72,ntmps72
 go_wp2_with(first|((with_reducible refine(HC.o _).mono ?_);rintro e w2 ⟨rfl,rfl⟩)|((with_reducible refine(HH.o _).mono ?_);rintro e w3 ⟨rfl,hx⟩;have HX:=qa hx;clear hx))
 go_ret;exact⟨rfl,HX.o⟩
theorem mO(l:cX):bys ⟨l.toArray⟩=l:=rfl
theorem q6p(s:ByteArray):(⟨(bys s).toArray⟩:ByteArray)=s:=by cases s;rfl
theorem q5t(s:ByteArray)(j:Nat)(h:j<=s.size)(W:World):(Instr.sliceAt 9 (.string s) none (some (.int .i64 (j:Int))) none).run prog W=.ok (.string ⟨((bys s).take j).toArray⟩) W:=by
 rw[run_sliceAt_string (P:=prog) (t:=9) (h:=underlying9),run_slice_string_to_if (P:=prog) (t:=9) (h:=underlying9),qt ⟨by omega,by omega⟩];rw[lL (l:=(bys s).take j) (by simp)]
theorem tA(s:ByteArray)(j:Nat)(h:j<=s.size)(W:World):(Instr.sliceAt 9 (.string s) (some (.int .i64 (j:Int))) none none).run prog W=.ok (.string ⟨((bys s).drop j).toArray⟩) W:=by
 rw[run_sliceAt_string (P:=prog) (t:=9) (h:=underlying9),run_slice_string_from_if (P:=prog) (t:=9) (h:=underlying9),qt ⟨by omega,by omega⟩];rw[lL (l:=(bys s).drop j) (by rw[qA,qC];rw[qY,aP];exact qb _)]
theorem q0Q(s:ByteArray)(a b:Nat)(h:a<=b)(hb:b<=s.size)(W:World):(Instr.sliceAt 9 (.string s) (some (.int .i64 (a:Int))) (some (.int .i64 (b:Int))) none).run prog W=.ok (.string ⟨(((bys s).drop a).take (b-a)).toArray⟩) W:=by
 rw[run_sliceAt_string (P:=prog) (t:=9) (h:=underlying9),run_slice_string_if (P:=prog) (t:=9) (h:=underlying9),qt ⟨by omega,by omega⟩,qt ⟨by omega,by omega⟩];rw[lL (l:=((bys s).drop a).take (b-a)) (by simp)]
theorem aK{P:Program}{ops:Array Oper}{rest:List Oper}{o:Oper}{a:Act}{w:World}{Q:Exit->Act->World->Prop}(hgd:o.guard=none)(t:TypeId)(x:Operand)(lo hi mx:Option Operand)(ho:o.op=.slice t x lo hi mx)(v:Value)(hr:(Instr.sliceAt t (a.eval x) (lo.map a.eval) (hi.map a.eval) (mx.map a.eval)).run P w=.ok v w)
  (h:wpList P ops Q rest (a.put o.dst v) w):wpList P ops Q (o::rest) a w:=by
 refine wpList_plain hgd fun K hK=>?_;unfold Oper.wp execOp;simp only[ho,Sem.run_bind,Sem.run_pure,Result.andThen_ok,hr];exact hK _ _ h
theorem q3N{l:cX}(h:l.length≠0):l=l.take (l.length-1)++[l.getD (l.length-1) 0]:=by
 have h1:=aY l (l.length-1) 0 (by omega);rw[show l.length-1+1=l.length by omega,qX]at h1;exact h1
theorem q5u{l:cX}(h:l.length≠0)(hb:pI (l.getD (l.length-1) 0)=true):mM l=mM (l.take (l.length-1)):=by
 have e:=q3N h;unfold mM
 rw[show l.reverse=l.getD (l.length-1) 0::(l.take (l.length-1)).reverse by
  conv=>lhs;rw[e]
  rw[List.reverse_append];rfl,List.dropWhile_cons_of_pos hb]
theorem q5v{l:cX}(h:l.length≠0)(hb:pI (l.getD (l.length-1) 0)=false):mM l=l:=by
 have e:=q3N h
 have hr:l.reverse=l.getD (l.length-1) 0::(l.take (l.length-1)).reverse:=by
  conv=>lhs;rw[e]
  rw[List.reverse_append];rfl
 unfold mM;rw[hr,List.dropWhile_cons_of_neg (by rw[hb];simp),<-hr,List.reverse_reverse]
theorem qa8(s:ByteArray)(hs:s.size<=1000000)(w:World):Calls prog 74 #[.string s] w fun e w'=>e=.returned (.string ⟨(mM (bys s)).toArray⟩)/\w'=w:=by
 obtain⟨R,hR⟩:∃R,R=mM (bys s):=⟨_,rfl⟩;rw[<-hR];have HR:=qa hR.symm;clear hR;go_enter func74,ntmps74;go_wp2
 go_loopg [0] s.size (fun gk v wr=>∃t:ByteArray,v=.string t/\Hid (mM (bys t)=R)/\t.size<=1000000/\wr=w/\gk=t.size)
 case atStart=>exact⟨s,rfl,HR,hs,rfl,rfl⟩
 case round=>
  clear HR hs;obtain⟨t,rfl,HT,hts,hw,hgk⟩:=hrel;subst hw;have HGK:=qa hgk;clear hgk;by_cases h0:t.size=0
  ·obtain rfl:=J8 h0
   have HE:Hid (R=[]):=qa (by rw[<-HT.o];rfl);clear h0 HT HGK;go_wp2;go_ret;rw[HE.o];exact⟨rfl,rfl⟩
  have hne:=q7z h0;have hct:=((bys t).getD (t.size-1) 0).toNat_lt;have e1:((t.size-1:Nat):Int)=(t.size:Int)-1:=by omega
  have hix:∀W,(Instr.index 9 (.string t) (.int .i64 ((t.size:Int)-1))).run prog W=.ok (.int .u8 (((bys t).getD (t.size-1) 0).toNat:Nat)) W:=fun W=>by
   rw[<-e1];exact e6 (P:=prog) 9 underlying9 (s:=t) (i:=t.size-1) (by omega) W
  have HC:Hid (∀W,Calls prog 70 #[.int .i32 (((bys t).getD (t.size-1) 0).toNat:Nat)] W fun e w'=>e=.returned (.bool (pI ((bys t).getD (t.size-1) 0)))/\w'=W):=qa (fun W=>by
   rw[(yE _).1.2.2];exact q68 _ W)
  have hl0:(bys t).length≠0:=by rw[aP];exact h0
  cases hb:pI ((bys t).getD (t.size-1) 0)with
  |true=>
   rw[hb]at HC
   have HT2:Hid (mM (bys ⟨((bys t).take (t.size-1)).toArray⟩)=R):=qa (by
    rw[mO,<-HT.o];have:=q5u hl0 (by rw[aP];exact hb);rw[aP]at this;exact this.symm)
   have hsz:(⟨((bys t).take (t.size-1)).toArray⟩:ByteArray).size=t.size-1:=by
    show(List.toArray _).size=_;rw[jA,qT,aP];omega
   have hsl:∀W,(Instr.sliceAt 9 (.string t) none (some (.int .i64 ((t.size:Int)-1))) none).run prog W=.ok (.string ⟨((bys t).take (t.size-1)).toArray⟩) W:=fun W=>by
    rw[<-e1];exact q5t t (t.size-1) (by omega) W
   generalize (⟨((bys t).take (t.size-1)).toArray⟩:ByteArray)=t2 at*;generalize ((bys t).getD (t.size-1) 0)=c at*;have HSZ:=qa hsz;have qbs:0<t.size:=by omega
   clear hb HT hl0 h0 e1 hsz
   go_wp2_with(first
    |((with_reducible refine(HC.o _).mono ?_);rintro e w2 ⟨rfl,rfl⟩)
    |((with_reducible show wpList _ _ _ (Oper.mk _ (.slice _ _ _ _ _) _ _ _ _::_) _ _);refine aK rfl 9 (.tmp 14) none (some (.tmp 17)) none rfl _ (hsl _) ?_))
   go_roundg t2.size
   case measure=>rw[HGK.o,HSZ.o];omega
   case rel=>exact⟨t2,rfl,HT2,by rw[HSZ.o];omega,rfl,rfl⟩
  |false=>
   rw[hb]at HC
   have HE:Hid (R=bys t):=qa (by
    rw[<-HT.o];exact q5v hl0 (by rw[aP];exact hb))
   generalize ((bys t).getD (t.size-1) 0)=c at*;clear hb HT hl0 h0 e1 HGK
   go_wp2_with((with_reducible refine(HC.o _).mono ?_);rintro e w2 ⟨rfl,rfl⟩)
   go_ret;rw[HE.o,q6p];exact⟨rfl,rfl⟩
theorem oN(w:World)(T:TypeId):Own (w.alloc (.cells #[.nilIface] T)) w.heap.size T (.slice (some ⟨w.heap.size,0,none⟩) 1 1) [.nilIface]:=by
 simpa using bU w w.heap.size #[.nilIface] T (by simp) (qb _)
theorem cY{ops:Array Oper}{rest:List Oper}{o:Oper}{a:Act}{w:World}{Q:Exit->Act->World->Prop}(hgd:o.guard=none)(x y:Operand)(ho:o.op=.store 45 x y)
  (g B:Nat) (hx:a.eval x=.pointer (some ⟨g,0,none⟩)) (u v:Value) (hy:a.eval y=.agg #[v]) (h1:v.oneCell'=true) (hown:Own w B 45 (.slice (some ⟨g,0,none⟩) 1 1) [u])
  (h:∀w',Own w' B 45 (.slice (some ⟨g,0,none⟩) 1 1) [v]->w.grownBy w' (some g)->wpList prog ops Q rest (a.put o.dst undef) w'):wpList prog ops Q (o::rest) a w:=by
 refine bD hgd 45 x y ho B 45 g 1 1 hx #[v] hy (by kernel_rfl) [u] hown (by simp) (fun z hz=>?_) fun w' hw hg=>h w' ?_ hg
 ·simp only[jd]at hz;rw[hz];exact h1
 simpa using hw
theorem Y4{w:World}{g B:Nat}{v:Value}(h:Own w B 45 (.slice (some ⟨g,0,none⟩) 1 1) [v]):(loadVar 45 ⟨g,0,none⟩).run prog w=.ok (.agg #[v]) w:=pJ h _ underlying45 rfl (by kernel_rfl)
theorem yK{ops:Array Oper}{rest:List Oper}{o:Oper}{a:Act}{w:World}{Q:Exit->Act->World->Prop}(hgd:o.guard=none)(x:Operand)(ho:o.op=.load 45 x)
  (g B:Nat) (hx:a.eval x=.pointer (some ⟨g,0,none⟩)) (v:Value) (hown:Own w B 45 (.slice (some ⟨g,0,none⟩) 1 1) [v])
  (h:wpList prog ops Q rest (a.put o.dst (.agg #[v])) w):wpList prog ops Q (o::rest) a w:=by
 obtain⟨A,hg,hs,hA⟩:=hown.whole;have hA2:A=#[v]:=by rw[<-Array.toArray_toList (xs:=A),hA]
 subst hA2;exact oX hgd 45 1 x ho g hx #[v] rfl hg _ underlying45 rfl (by kernel_rfl) h
theorem q3O{c at_:Nat}{w:World}(hL:gJ w)(hc:c<=27)(hc0:c≠0):Calls prog 52 #[.int .i64 c,.int .i64 at_] w (dI [(c,at_)] w):=by
 have HN:Hid (∀W,Below w.heap.size w W->Calls prog 28 #[.int .i64 c,.int .i64 at_] W (dI [(c,at_)] W)):=qa (fun W hb=>qaB (hL.up hb) hc hc0);have HO:=qa (oN w 45);have HB:Hid (Below w.heap.size w (w.alloc (.cells #[.nilIface] 45))):=qa (aA _ _);clear hL;go_enter func52,ntmps52
 go_wp2_with(first
  |((with_reducible refine(HN.o _ HB.o).mono ?_);rintro e w2 ⟨v,rfl,⟨u,rfl,hu⟩,hx⟩;have hb:=aB hx;have HU:=qa hu;have HO2:=qa (HO.o.up hb);have HB2:=qa (HB.o.trans (hb.mono HB.o.size));clear hx hu hb)
  |(refine cY rfl _ _ rfl w.heap.size w.heap.size rfl _ u rfl HU.o.one HO2.o ?_;intro w3 ho hg;have HO3:=qa ho;have HG3:=qa hg;clear ho hg))
 exact t9 rfl rfl rfl HO3.o HB2.o HG3.o (qb _) (rQ HO2.o) HU.o
theorem q5w(s:cX):(iY s).2.1<=18:=by
 unfold iY;split
 ·exact(by decide:(3:Nat)<=18)
 have h1:=(nD s (s.length+1) ⟨0,0,0⟩).cod (qd _);generalize lB s (s.length+1) ⟨0,0,0⟩=A at*;simp only
 have h2:(if(nxR s A.2).isSome=true then bB 15 A.2.p A.2 else A.2).e<=18:=by
  split
  ·unfold bB;split
   ·exact(by decide:(15:Nat)<=18)
   exact h1
  exact h1
 generalize (if(nxR s A.2).isSome=true then bB 15 A.2.p A.2 else A.2)=z at*;split
 ·exact h2
 split
 ·exact(by decide:(3:Nat)<=18)
 exact qd _
theorem qa9{s:ByteArray}{at_:Nat}{w:World}(hL:gJ w)(hT:iZ w):Calls prog 75 #[.string s,.int .i64 at_] w (dI (uO (bys s) at_) w):=by
 have hb0:=aA w (.cells #[.nilIface] 45);have HO:=qa (oN w 45);have HB:=qa hb0;have HPR:=qa (q6k (s:=s) (hT.up hb0));have qd3:=q5w (bys s);obtain⟨R,hR⟩:∃R,R=uO (bys s) at_:=⟨_,rfl⟩;rw[<-hR];unfold uO at hR;generalize iY (bys s)=P at*;obtain⟨l,c,b⟩:=P;simp only at hR qd3;have HWR:Hid (∀W c b,Below w.heap.size w W->c<=27->c≠0->Calls prog 52 #[.int .i64 (c:Nat),.int .i64 (b:Nat)] W (dI [(c,b)] W)):=qa (fun W c b hb hc h0=>q3O (hL.up hb) hc h0);have HUN:Hid (∀W v l,Below w.heap.size w W->gX W l v->Calls prog 56 #[.int .i64 4,.int .i64 at_,v] W (dI ((4,at_)::l) W)):=qa (fun W v l hb h=>q91 (c:=4) (hL.up hb) (by decide) (by decide) h);clear hL hT hb0;by_cases hc0:c=0
 ·subst hc0
  rw[qr (by simp)]at hR;have HEM:Hid (∀W v,cB W v l->Calls prog 91 #[v] W fun e w'=>e=.returned (.bool (q5f l))/\∃x,w'=ext W x):=qa (fun W v h=>q8X h);cases hem:q5f l with
  |true=>
   rw[qt hem]at hR;rw[hem]at HEM;have HR:=qa hR;have qjE:Hid (∀W,Below w.heap.size w W->Calls prog 52 #[.int .i64 27,.int .i64 at_] W (dI [(27,at_)] W)):=qa (fun W hb=>HWR.o W 27 at_ hb (by decide) (by decide));clear hR hem qd3;go_enter func75,ntmps75
   go_wp2_with(first
    |((with_reducible refine(HPR.o).mono ?_);rintro e w2 ⟨v,rfl,ho,hb⟩;have HN2:Hid (cB w2 v l):=qa (aO.at ho);have HB2:=qa (HB.o.trans (hb.mono HB.o.size));have HO2:=qa (HO.o.up hb);clear ho hb)
    |((with_reducible refine(HEM.o _ _ HN2.o).mono ?_);rintro e w3 ⟨rfl,hx⟩;have hb:=aB hx;have HB3:=qa (HB2.o.trans (hb.mono HB2.o.size));have HO3:=qa (HO2.o.up hb);clear hx hb)
    |((with_reducible refine(qjE.o _ HB3.o).mono ?_);rintro e w4 ⟨v4,rfl,⟨u,rfl,hu⟩,hx⟩;have hb:=aB hx;have HB4:=qa (HB3.o.trans (hb.mono HB3.o.size));have HO4:=qa (HO3.o.up hb);have HU:=qa hu;clear hx hb hu)
    |(refine cY rfl _ _ rfl w.heap.size w.heap.size rfl _ u rfl HU.o.one HO4.o ?_;intro w5 ho hg;have HO5:=qa ho;have HG5:=qa hg;clear ho hg))
   exact ZmO4
  |false=>
   rw[qr (by rw[hem];simp)]at hR;rw[hem]at HEM;have HR:=qa hR;have HE0:Hid (∀W,dF W [] .nilIface):=qa (fun W=>rfl);clear hR hem qd3 HWR HUN;go_enter func75,ntmps75
   go_wp2_with(first
    |((with_reducible refine(HPR.o).mono ?_);rintro e w2 ⟨v,rfl,ho,hb⟩;have HN2:Hid (cB w2 v l):=qa (aO.at ho);have HB2:=qa (HB.o.trans (hb.mono HB.o.size));have HO2:=qa (HO.o.up hb);clear ho hb)
    |((with_reducible refine(HEM.o _ _ HN2.o).mono ?_);rintro e w3 ⟨rfl,hx⟩;have hb:=aB hx;have HB3:=qa (HB2.o.trans (hb.mono HB2.o.size));have HO3:=qa (HO2.o.up hb);clear hx hb)
    |(refine cY rfl _ _ rfl w.heap.size w.heap.size rfl _ .nilIface rfl rfl HO3.o ?_;intro w5 ho hg;have HO5:=qa ho;have HG5:=qa hg;clear ho hg))
   rw[HR.o];exact t9 rfl rfl rfl HO5.o HB3.o HG5.o (qb _) (rQ HO3.o) (HE0.o _)
 rw[qt hc0]at hR;have HR:=qa hR;have hcb:((c:Int) != 0)=true:=by simp;omega
 have HWC:=qa (fun W (hb:Below w.heap.size w W)=>HWR.o W c b hb (by omega) hc0);clear hR hc0;go_enter func75,ntmps75
 go_wp2_with(first
  |((with_reducible refine(HPR.o).mono ?_);rintro e w2 ⟨v,rfl,ho,hb⟩;have HB2:=qa (HB.o.trans (hb.mono HB.o.size));have HO2:=qa (HO.o.up hb);clear ho hb)
  |((with_reducible refine(HWC.o _ HB2.o).mono ?_);rintro e w3 ⟨v3,rfl,hv3,hx⟩;have hb:=aB hx;have HB3:=qa (HB2.o.trans (hb.mono HB2.o.size));have HO3:=qa (HO2.o.up hb);have HV3:=qa hv3;clear hx hb hv3)
  |((with_reducible refine(HUN.o _ _ _ HB3.o HV3.o).mono ?_);rintro e w4 ⟨v4,rfl,⟨u,rfl,hu⟩,hx⟩;have hb:=aB hx;have HB4:=qa (HB3.o.trans (hb.mono HB3.o.size));have HO4:=qa (HO3.o.up hb);have HU:=qa hu;clear hx hb hu)
  |(refine cY rfl _ _ rfl w.heap.size w.heap.size rfl _ u rfl HU.o.one HO4.o ?_;intro w5 ho hg;have HO5:=qa ho;have HG5:=qa hg;clear ho hg))
 exact ZmO4
def z9(x:Rul):List Value:=[.string ⟨x.1.toArray⟩,.string ⟨x.2.toArray⟩]
def uU(w:World)(B:Nat)(v:Value)(ls:List Rul):Prop:=cA 2 w B 25 v (ls.map z9)
structure RRd(w:World)(r:Nat)(s:ByteArray)(lv:Value):Prop where
 own:Own w r 105 (.slice (some ⟨r,0,none⟩) 2 2) [.string s,lv]
theorem RRd.up{w w':World}{r:Nat}{s:ByteArray}{lv:Value}(h:RRd w r s lv)(hb:Below w.heap.size w w'):RRd w' r s lv:=⟨h.own.up hb⟩
theorem RRd.c1{w:World}{r:Nat}{s:ByteArray}{lv:Value}(h:RRd w r s lv):w.cell? ⟨r,1,none⟩=some lv:=h.own.cell (i:=1) (by simp)
theorem RRd.f1{w:World}{r:Nat}{s:ByteArray}{lv:Value}(h:RRd w r s lv):w.frozen? ⟨r,1,none⟩=false:=h.own.free 1
theorem RRd.lt{w:World}{r:Nat}{s:ByteArray}{lv:Value}(h:RRd w r s lv):r<w.heap.size:=(h.own.lt r rfl).2
theorem q0R(ls:List Rul)(i c:Nat)(h:i<ls.length):((ls.map z9).getD i []).getD c undef=(#[.string ⟨(ls.getD i ([],[])).1.toArray⟩,.string ⟨(ls.getD i ([],[])).2.toArray⟩]:Array Value).getD c undef:=by
 have e:(ls.map z9).getD i []=z9 (ls.getD i ([],[])):=by simp[List.getD,h]
 rw[e];rcases c with _|_|c<;>rfl
theorem q94(a b:cX):((⟨a.toArray⟩:ByteArray).toList==(⟨b.toArray⟩:ByteArray).toList)=(a==b):=by
 rw[ByteArray.toList_eq,ByteArray.toList_eq]
theorem qb0{w:World}{r B:Nat}{s:ByteArray}{lv:Value}{ls:List Rul}(h:RRd w r s lv)(hl:uU w B lv ls)(hn:ls.length<=1000)(nm:cX):
  Calls prog 73 #[.pointer (some ⟨r,0,none⟩),.string ⟨nm.toArray⟩] w fun e w'=>e=.returned (.bool (ls.any fun x=>x.1==nm))/\∃x,w'=ext w x:=by
 have c1:=h.c1;obtain⟨oa,cap,b,off,hv,hd,hc⟩:=cA.sl hl;rw[qy]at hv hd hc;subst hv;have hix:=fun(W:World) (i:Nat) (hi:i<ls.length)=>gY (P:=prog) 2 22 25 underlying22 (by kernel_rfl) hd W .i64 i (by omega) (by omega);simp only[qA]at hix;have HIX:=qa hix;have HC:Hid (∀i,i<ls.length->∀c,c<2->w.cell? ⟨b,off+i*2+c,none⟩=some ((#[.string ⟨(ls.getD i ([],[])).1.toArray⟩,.string ⟨(ls.getD i ([],[])).2.toArray⟩]:Array Value).getD c undef)):=qa (fun i hi c hcl=>by rw[hc i hi c hcl,q0R ls i c hi]);have hbl:=hd.hblk;have hm:=hd.len;obtain⟨n,hnn⟩:∃n,n=ls.length:=⟨_,rfl⟩;have HN:=qa hnn;obtain⟨R,hR⟩:∃R,R=ls.any fun x=>x.1==nm:=⟨_,rfl⟩;rw[<-hR];have HR:=qa hR;rw[<-hnn]at c1 HIX HC hbl hn hm;clear h hl hd hc hix hnn hR;go_enter func73,ntmps73;go_wp2
 go_loopg [12] (n+1) (fun gk iv wr=>∃i:Nat,i<=n/\iv=.int .i64 i/\Hid ((ls.take i).any (fun x=>x.1==nm)=false)/\Below w.heap.size w wr/\gk=n+1-i)
 case atStart=>exact⟨0,qd _,rfl,qa rfl,qk _ _,rfl⟩
 case round=>
  obtain⟨i,hi,rfl,HA,hB,hgk⟩:=hrel;have HB:=qa hB;have HGK:=qa hgk;clear hB hgk;by_cases hlt:i<n
  ·have qbi:=fun W=>HIX.o W i hlt
   have hbb:=hbl (by omega);have hbw:b<wr.heap.size:=by have:=HB.o.size;omega
   have HCW:Hid (∀c,c<2->wr.cell? ⟨b,off+i*2+c,none⟩=some ((#[.string ⟨(ls.getD i ([],[])).1.toArray⟩,.string ⟨(ls.getD i ([],[])).2.toArray⟩]:Array Value).getD c undef)):=qa (fun c hc=>by
    rw[HB.o.cell (p:=⟨b,off+i*2+c,none⟩) hbb];exact HC.o i hlt c hc)
   have HTS:Hid ((ls.take (i+1)).any (fun x=>x.1==nm)=((ls.take i).any (fun x=>x.1==nm)||((ls.getD i ([],[])).1==nm))):=qa (by
    rw[aY ls i ([],[]) (by rw[<-HN.o];exact hlt),List.any_append];simp)
   have qbl:Hid (((ls.getD i ([],[])).1==nm)=true->R=true):=qa (fun he=>by
    rw[HR.o,List.any_eq_true];exact⟨ls.getD i ([],[]),by rw[qq,qv (by rw[<-HN.o];exact hlt)];exact ji _,he⟩)
   have HEQ:=qa (q94 (ls.getD i ([],[])).1 nm);have HO0:Hid (Own (wr.alloc (.cells #[.string ⟨#[]⟩,.string ⟨#[]⟩] 25)) wr.heap.size 25 (.slice (some ⟨wr.heap.size,0,none⟩) 2 2) [.string ⟨#[]⟩,.string ⟨#[]⟩]):=qa (by simpa using bU wr wr.heap.size #[.string ⟨#[]⟩,.string ⟨#[]⟩] 25 (by simp) (qb _));generalize ls.getD i ([],[])=x at*;obtain⟨xn,xt⟩:=x;simp only at HCW HTS qbl HEQ;clear HIX HC;have HA0:=qa (aA wr (.cells #[.string ⟨#[]⟩,.string ⟨#[]⟩] 25))
   go_wp2_with(first
    |(refine aH rfl 25 _ rfl b (off+i*2) 2 rfl #[.string ⟨xn.toArray⟩,.string ⟨xt.toArray⟩] _ HCW.o rfl underlying25 rfl (by kernel_rfl) ?_)
    |(refine bD rfl 25 _ _ rfl wr.heap.size 25 wr.heap.size 2 2 rfl #[.string ⟨xn.toArray⟩,.string ⟨xt.toArray⟩] rfl (by kernel_rfl) _ HO0.o (by simp) (by simp[Value.oneCell']) ?_;intro w2 ho hg;have HO2:=qa ho;have HB2:=qa (HB.o.trans ((cF HA0.o hg (by rintro k ⟨⟩;exact qb _)).mono HB.o.size));have c2:=HO2.o.cell (i:=0) (by simp);simp only[List.getD,jj,List.getElem?_cons_zero,qJ]at c2;clear ho hg))
   ·rename_i hq
    go_ret;rw[qbl.o hq];exact⟨rfl,aI HB2.o⟩
   rename_i hq
   go_roundg (n-i)
   ·exact⟨i+1,by omega,by simp,qa (by rw[HTS.o,HA.o,hq];rfl),HB2.o,by omega⟩
   have:=HGK.o;omega
  obtain rfl:i=n:=by omega
  have HE:Hid (R=false):=qa (by rw[HR.o,<-HA.o,HN.o,qX]);go_wp2;go_ret;rw[HE.o];exact⟨rfl,aI HB.o⟩
theorem orQ{x y:Nat}(hx:x<2^256)(hy:y<2^256)(w:World):Calls prog 136 #[cD x,cD y] w (cI (x|||y) w):=by
 have hz:=gZ;obtain⟨Z,hZ⟩:∃Z,Z=z4:=⟨_,rfl⟩;rw[<-hZ]at hz;obtain⟨X,hX⟩:∃X,X=(wsV x).toArray:=⟨_,rfl⟩;obtain⟨Y,hY⟩:∃Y,Y=(wsV y).toArray:=⟨_,rfl⟩;have hb0:eX (w.alloc (.cells X 63)) w.heap.size x:=by rw[hX];exact gF w x
 have hb1:eX ((w.alloc (.cells X 63)).alloc (.cells Y 63)) (w.heap.size+1) y:=by
  have:=gF (w.alloc (.cells X 63)) y;rwa [<-hY,show(w.alloc (.cells X 63)).heap.size=w.heap.size+1 by simp]at this
 have hb2:eX (((w.alloc (.cells X 63)).alloc (.cells Y 63)).alloc (.cells Z 63)) (w.heap.size+2) 0:=by
  have:=cL ((w.alloc (.cells X 63)).alloc (.cells Y 63)) Z hZ;rwa [show((w.alloc (.cells X 63)).alloc (.cells Y 63)).heap.size=w.heap.size+2 by simp]at this
 have H0:=qa ((hb0.up (aA _ (.cells Y 63))).up (aA _ (.cells Z 63)));have H1:=qa (hb1.up (aA _ (.cells Z 63)));have H2:=qa hb2;have HBL:Hid (Below w.heap.size w (((w.alloc (.cells X 63)).alloc (.cells Y 63)).alloc (.cells Z 63))):=qa aJ;have HBX:Hid (∀W,Calls prog 134 #[cD x] W fun e w'=>e=.returned (.string ⟨(rB x 256).toArray⟩)/\∃y,w'=ext W y):=qa (fun W=>q4e x W);have HBY:Hid (∀W,Calls prog 134 #[cD y] W fun e w'=>e=.returned (.string ⟨(rB y 256).toArray⟩)/\∃y,w'=ext W y):=qa (fun W=>q4e y W)
 have HOF:Hid (∀W,Calls prog 119 #[.string ⟨(rB x 256++rB y 256).toArray⟩] W (cI (x|||y) W)):=qa (fun W=>by
  have h1:=tG x 256;have h2:=tG y 256;have:=ofQ ⟨(rB x 256++rB y 256).toArray⟩ (by show(rB x 256++rB y 256).toArray.size<=_;simp only[jA,qi];omega) W;rwa [mO,q4a,q4b hx,q4b hy]at this)
 have HCT:Hid ((rB x 256).length+(rB y 256).length<=9223372036854775807):=qa (by
  have h1:=tG x 256;have h2:=tG y 256;omega)
 have qlk:=fun W=>q3K (P:=prog) (rB x 256) (rB y 256) HCT.o W;have HS:Hid (cD x=.agg X/\cD y=.agg Y):=qa (by rw[hX,hY];exact⟨rfl,rfl⟩);rw[HS.o.1,HS.o.2];clear hb0 hb1 hb2 hX hY hZ hx hy;generalize rB x 256=bx at*;generalize rB y 256=bz at*;go_enter func136,ntmps136;go_wp2;generalize ((w.alloc (.cells X 63)).alloc (.cells Y 63)).alloc (.cells Z 63)=w1 at*;refine aT [0,2] [1,3,4,5] [6] (by kernel_rfl) (by kernel_rfl) ?_;simp only[pk];go_simp
 repeat(first
  |(go_big_quiet_want;refine bH _ rfl w.heap.size rfl x (fun w' hw=>by obtain⟨y,rfl⟩:=hw;exact H0.o.up (aB ⟨_,rfl⟩)) ?_;go_simp;go_big_quiet_on)
  |(go_big_quiet_want;refine bH _ rfl (w.heap.size+1) rfl y (fun w' hw=>by obtain⟨y,rfl⟩:=hw;exact H1.o.up (aB ⟨_,rfl⟩)) ?_;go_simp;go_big_quiet_on))
 refine wpQuiet_nil ?_;have hbd:=aN w1 1;rw[show w1.drewN 1=w1.drew from rfl]at hbd;have HD:=qa hbd;have H2d:=qa (H2.o.up hbd);have HBd:=qa (HBL.o.trans (hbd.mono HBL.o.size));clear hbd;unfold aG
 go_wp2_with((with_reducible refine(HBX.o _).mono ?_);rintro e w3 ⟨rfl,hx⟩;have hb:=aB hx;have H23:=qa (H2d.o.up hb);have HB3:=qa (HBd.o.trans (hb.mono HBd.o.size));have HD3:=qa (HD.o.trans (hb.mono HD.o.size));clear hx hb)
 refine⟨aI HD3.o,?_⟩;unfold aG
 go_wp2_with((with_reducible refine(HBY.o _).mono ?_);rintro e w4 ⟨rfl,hx⟩;have hb:=aB hx;have H24:=qa (H23.o.up hb);have HB4:=qa (HB3.o.trans (hb.mono HB3.o.size));have HD4:=qa (HD3.o.trans (hb.mono HD3.o.size));clear hx hb)
 refine⟨aI HD4.o,?_⟩;unfold aG;go_wp2;refine⟨aI HD4.o,?_⟩;unfold aG
 go_wp2_with((with_reducible refine(HOF.o _).mono ?_);rintro e w5 ⟨rfl,hx⟩;have hb:=aB hx;have H25:=qa (H24.o.up hb);have HB5:=qa (HB4.o.trans (hb.mono HB4.o.size));have HD5:=qa (HD4.o.trans (hb.mono HD4.o.size));clear hx hb)
 refine⟨aI HD5.o,?_⟩;unfold aG;unfold aG
 go_wp2_with(refine aF rfl _ _ rfl (w.heap.size+2) rfl 0 _ rfl H25.o ?_;intro w6 hB2 hg2;have H26:=qa hB2;have HB6:=qa (HB5.o.grown hg2 HB5.o.size (fun q e=>by cases e;omega));clear hB2 hg2)
 refine⟨trivial,?_⟩;unfold aG;go_wp2;refine bG (s:=4) (ad:=⟨w.heap.size+2,0,none⟩) (x:=cD (x|||y)) rfl rfl rfl H26.o.load ?_;exact⟨rfl,aI HB6.o⟩
theorem yR(l:cX)(k:Nat)(c:UInt8)(h:k<l.length)(hc:c∉l.take k)(hd:l.getD k 0≠c):c∉l.take (k+1):=by
 rw[aY l k 0 h];intro h;rcases List.mem_append.1 h with h|h
 ·exact hc h
 exact hd (List.mem_singleton.1 h).symm
theorem q7X(c:UInt8)(w:World):Calls prog 139 #[.int .u8 (c.toNat:Nat)] w fun e w'=>e=.returned (.bool (decide (c∈yA)))/\∃x,w'=ext w x:=by
 obtain⟨s,hs⟩:∃s:ByteArray,s=⟨#[92,91,93,40,41,123,125,42,43,63,124,46,45,94,47,34]⟩:=⟨_,rfl⟩;have hsz:s.size=16:=by rw[hs];rfl
 have hby:bys s=yA:=by rw[hs];rfl
 have hix:=fun(i:Nat) (h:i<s.size) (W:World)=>e6 (P:=prog) 9 underlying9 h W;rw[hby,hsz]at hix;have HIX:=qa hix;have HT:Hid (∀k,k<16->yA.getD k 0≠c->c∉yA.take k->c∉yA.take (k+1)):=qa (fun k hk h1 h2=>yR yA k c hk h2 h1)
 have HM:Hid (∀k,k<16->yA.getD k 0∈yA):=qa (fun k hk=>by
  rw[qq,qv (show k<yA.length from hk)];exact ji _)
 have HL:Hid (yA.take 16=yA):=qa rfl;obtain⟨r,hr⟩:∃r,r=decide (c∈yA):=⟨_,rfl⟩;have HR:=qa hr;rw[<-hr];have HSS:=qa hs;clear hix hby hr hs;generalize yA=l at*;go_enter func139,ntmps139;go_wp2;rw[<-HSS.o];clear HSS
 go_loop [4] (fun i=>∃k:Nat,k<=16/\i=.int .i64 k/\c∉l.take k) (fun i=>17-(intOf i).toNat)
 case atStart=>exact⟨0,qd _,rfl,by simp⟩
 case round=>
  obtain⟨k,hk,rfl,hn⟩:=hrel;have HN:=qa hn;clear hn;by_cases hlt:k<16
  ·exact ZmO0
  obtain rfl:k=16:=by omega
  exact ZmO5
theorem q5R(c:UInt8)(w:World):Calls prog 121 #[.int .u8 (c.toNat:Nat)] w fun e w'=>e=.returned (.bool (decide (c∈I2)))/\∃x,w'=ext w x:=by
 obtain⟨s,hs⟩:∃s:ByteArray,s=⟨#[92,91,93,40,41,123,125,42,43,63,124,46]⟩:=⟨_,rfl⟩;have hsz:s.size=12:=by rw[hs];rfl
 have hby:bys s=I2:=by rw[hs];rfl
 have hix:=fun(i:Nat) (h:i<s.size) (W:World)=>e6 (P:=prog) 9 underlying9 h W;rw[hby,hsz]at hix;have HIX:=qa hix;have HT:Hid (∀k,k<12->I2.getD k 0≠c->c∉I2.take k->c∉I2.take (k+1)):=qa (fun k hk h1 h2=>yR I2 k c hk h2 h1)
 have HM:Hid (∀k,k<12->I2.getD k 0∈I2):=qa (fun k hk=>by
  rw[qq,qv (show k<I2.length from hk)];exact ji _)
 have HL:Hid (I2.take 12=I2):=qa rfl;obtain⟨r,hr⟩:∃r,r=decide (c∈I2):=⟨_,rfl⟩;have HR:=qa hr;rw[<-hr];have HSS:=qa hs;clear hix hby hr hs;generalize I2=l at*;go_enter func121,ntmps121;go_wp2;rw[<-HSS.o];clear HSS
 go_loop [4] (fun i=>∃k:Nat,k<=12/\i=.int .i64 k/\c∉l.take k) (fun i=>13-(intOf i).toNat)
 case atStart=>exact⟨0,qd _,rfl,by simp⟩
 case round=>
  obtain⟨k,hk,rfl,hn⟩:=hrel;have HN:=qa hn;clear hn;by_cases hlt:k<12
  ·exact ZmO0
  obtain rfl:k=12:=by omega
  exact ZmO5
theorem qb6(c:UInt8)(w:World):Calls prog 138 #[.int .u8 (c.toNat:Nat)] w fun e w'=>e=.returned (.int .i64 (dgR c))/\∃x,w'=ext w x:=by
 have hc:=c.toNat_lt;have HD:Hid (dgR c=if 48<=c.toNat/\c.toNat<=57 then(c.toNat:Int)-48 else if 97<=c.toNat/\c.toNat<=102 then(c.toNat:Int)-97+10 else -1):=qa (by unfold dgR;rfl);generalize dgR c=D at*;generalize c.toNat=n at*;by_cases h1:48<=n/\n<=57
 ·obtain⟨a1,a2⟩:=h1
  have HE:Hid (D=(n:Int)-48):=qa (by rw[HD.o,qt ⟨a1,a2⟩]);clear HD;go_enter func138,ntmps138;go_wp2;go_ret;refine⟨?_,(aI aJ)⟩;rw[HE.o];rfl
 by_cases h2:97<=n/\n<=102
 ·obtain⟨a1,a2⟩:=h2
  have HE:Hid (D=(n:Int)-97+10):=qa (by rw[HD.o,qr h1,qt ⟨a1,a2⟩]);have a3:¬n<=57:=by omega
  have a4:48<=n:=by omega
  clear HD h1;go_enter func138,ntmps138;go_wp2;go_ret;refine⟨?_,(aI aJ)⟩;rw[HE.o];rfl
 have HE:Hid (D= -1):=qa (by rw[HD.o,qr h1,qr h2]);have HE2:Hid (Ending.returned (Value.int .i64 (-1))=Ending.returned (.int .i64 D)):=qa (by rw[HE.o]);clear HD HE;by_cases a1:48<=n
 ·have a2:¬n<=57:=fun h=>h1 ⟨a1,h⟩
  clear h1;by_cases a3:97<=n
  ·have a4:¬n<=102:=fun h=>h2 ⟨a3,h⟩
   exact ZmO3
  exact ZmO3
 have a3:¬97<=n:=by omega
 clear h1 h2;go_enter func138,ntmps138;go_wp2;go_ret;exact⟨HE2.o,(aI aJ)⟩
end Go.Cm
