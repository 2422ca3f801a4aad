/- Walks of functions and plain facts, joined and squeezed by a program. Conditions: as each says. -/
import Derived.DeepKeys4
import Derived.Laws.Tables
import Derived.Test.YtiladjhipahiiaaDMXJ
import Derived.Test.YtiladjhipahiiaaDMXI
set_option maxHeartbeats 8000000
set_option maxRecDepth 100000
set_option linter.unusedSimpArgs false
open Go.Proofs.Try
namespace Go.Cm
open Go.RowKit Go.Proofs
theorem ZmL0{P:Prop}(h:P:=by
 (unfold aN;simp only[pk])
 refine⟨?_,by exact True.intro⟩;unfold aD
 go_wp2_with(first|((with_reducible refine(HCR.o _ _ (HS.o.old HAW.o HTR.o)).mono ?_);rintro e w5 ⟨u2,rfl,hT,hb⟩;have HD2:=qa (HS.o.res hT);have HD1:=qa (HD1.o.up hb);have HS:=qa (HS.o.up hb);clear hT hb))
 refine⟨aF HS.o.bel,?_⟩;unfold aD
 (unfold aN;simp only[pk])
 refine⟨?_,by exact True.intro⟩;unfold aD;obtain⟨p1,n1,q1,hu1,-⟩:=HD1.o.form;obtain⟨p2,n2,q2,hu2,-⟩:=HD2.o.form;subst hu1;subst hu2;have HTW:Hid (aM (UA A0 w.heap.size (some gb)) (w5.alloc (.cells #[.int .i64 dk,.int .u64 da,.int .u64 db,.int .u64 dc,.int .u64 dd,.int .i64 dl,.int .i64 dh,.slice p1 n1 q1,.int .i64 ek,.int .u64 ea,.int .u64 eb,.int .u64 ec,.int .u64 ed,.int .i64 el,.int .i64 eh,.slice p2 n2 q2] 56)) (.slice (some ⟨w5.heap.size,0,none⟩) 2 2) (one (⟨dk,dn,da,db,dc,dd,dl,dh⟩,df) (one (⟨ek,en,ea,eb,ec,ed,el,eh⟩,ef) .nil))):=qa (HS.o.two (x:=⟨dk,dn,da,db,dc,dd,dl,dh⟩) (y:=⟨ek,en,ea,eb,ec,ed,el,eh⟩) HD1.o HD2.o);have HS:Hid (RwS w1 (w5.alloc (.cells #[.int .i64 dk,.int .u64 da,.int .u64 db,.int .u64 dc,.int .u64 dd,.int .i64 dl,.int .i64 dh,.slice p1 n1 q1,.int .i64 ek,.int .u64 ea,.int .u64 eb,.int .u64 ec,.int .u64 ed,.int .i64 el,.int .i64 eh,.slice p2 n2 q2] 56)) w.heap.size (some gb)):=qa (HS.o.up (aB _ _));go_wp2;refine⟨aF HS.o.bel,?_⟩;generalize w5.alloc (.cells #[.int .i64 dk,.int .u64 da,.int .u64 db,.int .u64 dc,.int .u64 dd,.int .i64 dl,.int .i64 dh,.slice p1 n1 q1,.int .i64 ek,.int .u64 ea,.int .u64 eb,.int .u64 ec,.int .u64 ed,.int .i64 el,.int .i64 eh,.slice p2 n2 q2] 56)=w8 at*;unfold aD
 (unfold aN;simp only[pk])
 refine⟨?_,by exact True.intro⟩;unfold aD
 go_wp2_with(first|((with_reducible refine(HCC.o _ _ _ HTW.o).mono ?_);rintro e w6 ⟨u3,rfl,hT,hb⟩;have HE:=qa (HS.o.res hT);have HS:=qa (HS.o.up hb);clear hT hb))
 refine⟨aF HS.o.bel,?_⟩;unfold aD
 (unfold aN;simp only[pk])
 refine⟨?_,by exact True.intro⟩;unfold aD
 go_wp2_with(first|(refine b6 rfl (.tmp 5) (.tmp 19) rfl gb rfl ⟨fk,fn,fa,fb,fc,fd,fl,fh⟩ u3 HE.o.one rfl _ (HS.o.gb gb rfl).2.2 (show(8:Nat)=8 from rfl) ?_;intro w9 hbx hg;have HX9:=qa hbx;have HG9:=qa hg;clear hbx hg))
 have hend:=xK HS.o HE.o HG9.o HX9.o;refine⟨aF hend.1,?_⟩;unfold aD;unfold aN;intro hz1 hz2;go_wp2
 go_meet
 case rel=>exact⟨gb,u3,rfl,HGL.o,HX9.o,hend.2.1,hend.2.2.1,hend.2.2.2⟩):P:=h
theorem ZmL1{P:Prop}(h:P:=by
 (unfold aN;simp only[pk])
 refine⟨?_,by exact True.intro⟩;unfold aD
 go_wp2_with(first|((with_reducible refine(HCC.o _ _ _ HTW.o).mono ?_);rintro e w6 ⟨u3,rfl,hT,hb⟩;have HE:=qa (HS.o.res hT);have HS:=qa (HS.o.up hb);clear hT hb))
 refine⟨aF HS.o.bel,?_⟩;unfold aD
 (unfold aN;simp only[pk])
 refine⟨?_,by exact True.intro⟩;unfold aD
 go_wp2_with(first|(refine b6 rfl (.tmp 5) (.tmp 19) rfl gb rfl ⟨fk,fn,fa,fb,fc,fd,fl,fh⟩ u3 HE.o.one rfl _ (HS.o.gb gb rfl).2.2 (show(8:Nat)=8 from rfl) ?_;intro w9 hbx hg;have HX9:=qa hbx;have HG9:=qa hg;clear hbx hg))
 have hend:=xK HS.o HE.o HG9.o HX9.o;refine⟨aF hend.1,?_⟩;unfold aD;unfold aN;intro hz1 hz2;go_wp2
 go_meet
 case rel=>exact⟨gb,u3,rfl,HGL.o,HX9.o,hend.2.1,hend.2.2.1,hend.2.2.2⟩):P:=h
theorem ZmL2{P:Prop}(h:P:=by
 go_wp2;refine aH [0,1,2,3,4,5,6,7,8,9,10,11,12,13,14,15,16,17,18,19,20] [] [21,22] (by kernel_rfl) (by kernel_rfl) ?_;simp only[pk]
 repeat(go_big_quiet_step (fail))
 refine wpQuiet_nil ?_;unfold aD;unfold aD;go_wp2;refine⟨trivial,?_⟩;unfold aD;go_wp2;refine⟨trivial,?_⟩;unfold aD;go_wp2
 go_roundg (N-(k+1))
 case measure=>omega
 case rel=>
  have h1:=HST.o true;exact⟨k+1,upd G j k true,by go_num,by omega,h1.1.up (aG _),q6r.o true (by simp),(HW.o.grown h1.2 HW.o.size (fun k hk=>by cases hk;exact q6u)).trans ((aG _).mono (by simpa using HW.o.size)),rfl⟩):P:=h
theorem ZmL3{P:Prop}(h:P:=by
 have hje:j=cnt k:=by omega
 subst hje;go_wp2;go_ret;exact⟨_,rfl,⟨G,HGR.o,HGL.o.congr HLN.o⟩,HW1.o.trans (HW.o.mono HW1.o.size)⟩):P:=h
theorem ZmL4{P:Prop}(h:P:=by
 go_roundg (m-(i+1))
 case measure=>have:=HGK.o;omega
 case rel=>exact⟨i+1,_,r',by go_num,by omega,HO5.o,HV2,q6l.o,q5Y.o,HB5.o,rfl⟩):P:=h
theorem ZmL5{P:Prop}(h:P:=by
 rw[q8Y j (by omega)]at hx
 rcases Nat.lt_succ_iff_lt_or_eq.1 hj with h1|rfl
 ·rw[hk'];exact j4 _ (h.mem j h1 x hx)
 exact gW hx):P:=h
theorem ZmL6{P:Prop}(h:P:=by
 rintro(h1|⟨h1|h1,h2⟩)
 ·exact .inl h1
 ·exact .inr ⟨.inl h1,h2⟩
 exact .inr ⟨.inr ⟨h1.1,by omega⟩,h2⟩):P:=h
theorem ZmL7{P:Prop}(h:P:=by
 rw[qK];refine ih (fun x hx=>?_) (fun x hx=>hl x (qX _ hx));rcases lY.1 hx with h|rfl
 ·exact hR x h
 exact hl x jg):P:=h
theorem ZmL8{P:Prop}(h:P:=by
 go_roundg (cnt k-(j+1))
 case measure=>omega
 case rel=>exact⟨j+1,G5,by go_num,by omega,HG5.o,HL5.o,HB5.o,rfl⟩):P:=h
theorem ZmL9{P:Prop}(h:P:=by (repeat' split)<;>first|exact h1.1|exact h2.1|exact h3.1|exact h4.1):P:=h
theorem ZmL10{P:Prop}(h:P:=by rw[HR.o];exact eZ rfl rfl rfl HA1.o HW1.o HT6.o HB6.o q5R.o HX7.o):P:=h
def q3w(A:Nat->Prop)(f:Fo)(w:World)(e:Ending)(w':World):Prop:=∃u,e=.returned u/\aM (upA A w.heap.size) w' u f/\Below w.heap.size w w'
theorem eJ:∀f g,cnt (eQ f g)=cnt f+cnt g
 |.nil,g=>by simp[eQ,cnt]
 |.cons x k r,g=>by rw[eQ,cnt,cnt,eJ r g];omega
theorem eO:∀f g h,eQ (eQ f g) h=eQ f (eQ g h)
 |.nil,g,h=>rfl
 |.cons x k r,g,h=>by rw[eQ,eQ,eQ,eO r g h]
theorem i7:∀f,eQ f .nil=f
 |.nil=>rfl
 |.cons x k r=>by rw[eQ,i7 r]
theorem q1F{A:Nat->Prop}{w:World}{v:Value}{f:Fo}(kd:Int)(h:aM A w v f)(hs:szF f<=100000000):Calls prog 71 #[.int .i64 kd,v] w (q3w A (eH kd f) w):=by
 obtain⟨rs,oa,cap,b,off,rfl,hd,hw⟩:=h.lt.walk;have HIX:=qa (dL hd);have HW:=qa hw;have hm:=hd.len;obtain⟨A0,hA0⟩:∃A0,A0=fun b=>A b/\b<w.heap.size:=⟨_,rfl⟩;rw[<-hA0]at HW;have HR0:Hid (bC A0 w (rs.drop 0) f):=qa HW.o.rows;have HA1:Hid (∀b,A0 b->A b/\b<w.heap.size):=qa (fun b hb=>by rw[hA0]at hb;exact hb);obtain⟨R,hR⟩:∃R,R=eH kd f:=⟨_,rfl⟩;rw[<-hR];have HR:Hid (eQ .nil (eH kd f)=R):=qa hR.symm;have HSZ:Hid (cnt .nil+szF f<=100000000):=qa (by rw[show cnt .nil=0 from rfl];omega);generalize cnt f=m at*;clear hd hw h hR hA0 hs;go_enter func71,ntmps71;go_wp2
 go_loopg [5,10] m (fun gk ov iv wr=>∃(i:Nat) (acc r:Fo),iv=.int .i64 i/\i<=m/\kM A0 wr w.heap.size 56 ov acc/\Hid (eQ acc (eH kd r)=R)/\cnt acc+szF r<=100000000/\bC A0 w (rs.drop i) r/\Below w.heap.size w wr/\gk=m-i)
 case atStart=>exact⟨0,.nil,f,rfl,qd _,kM.nil _ _ _ _,HR.o,HSZ.o,HR0.o,qn _ _,rfl⟩
 case round=>
  obtain⟨i,acc,r,rfl,hi,hO,HV,hsz,hrr,hB,hgk⟩:=hrel;have HB:=qa hB;have HO:=qa hO;have HGK:=qa hgk;have HRR:=qa hrr;have q66:=qa hsz;clear hB hgk hrr HR0 hsz hO HR HSZ;by_cases hlt:i<m
  ·have q64:=fun W=>HIX.o W i hlt
   obtain⟨y,oj,nj,cj,j,r',hre,ht,hrr,hcc⟩:=HW.o.next HRR.o hlt HB.o;subst hre;have HCW:=qa hcc;have q5Y:=qa hrr;have HBX:=qa (cM wr y (.slice oj nj cj));have hbn:=aB wr (.cells (tmA y (.slice oj nj cj)) 56);have HBA:=qa (HB.o.trans (hbn.mono HB.o.size));have HT:=qa (ht.up HBA.o);have HO2:=qa (HO.o.up hbn);clear hrr hcc HIX HRR HB HO hbn ht;by_cases hk:y.kd=kd
   ·have HV2:Hid (eQ (eQ acc j) (eH kd r')=R):=qa (by rw[eO,<-HV.o,eH,qv hk])
    have q6l:Hid (cnt (eQ acc j)+szF r'<=100000000):=qa (by have:=q66.o;have:=tN j;rw[szF]at*;rw[eJ];omega);have q6x:Hid (cnt acc+cnt j<=1000000000):=qa (by have:=q6l.o;rw[eJ]at this;omega);obtain⟨ns,h1,-,h3⟩:=HO2.o.away (fun b hb=>(HA1.o b hb).2) HT.o;have HX:=qa h1;have HN:=qa h3;clear h1 h3 q66 HV;obtain⟨ykd,yn,ya,yb,yc,yd,ylo,yhi⟩:=y;simp only at hk;subst hk
    go_wp2_with(first
     |(refine cR rfl (.tmp 12) rfl b (off+i*8) rfl ykd yn ya yb yc yd ylo yhi (.slice oj nj cj) HCW.o ?_)
     |(at_builtin;refine dT rfl (.tmp 18) (.tmp 20) rfl A0 w.heap.size _ acc rfl HO2.o _ rfl ns j HX.o HN.o q6x.o HBA.o.size ?_;intro v5 w5 hO hg hq hk5;have HO5:=qa hO;have HB5:=qa (HBA.o.grown hg HBA.o.size hq);clear hO hg hq hk5))
    exact ZmL4
   have HV2:Hid (eQ (eQ acc (.cons y j .nil)) (eH kd r')=R):=qa (by rw[eO,<-HV.o,eH,qu hk];rfl);have q6l:Hid (cnt (eQ acc (.cons y j .nil))+szF r'<=100000000):=qa (by have:=q66.o;rw[szF]at*;rw[eJ,cnt,cnt];omega);have q6x:Hid (cnt acc+cnt (.cons y j .nil)<=1000000000):=qa (by have:=q6l.o;rw[eJ]at this;omega);have hb2:=aB (wr.alloc (.cells (tmA y (.slice oj nj cj)) 56)) (.cells (tmA y (.slice oj nj cj)) 56);have HX:=qa (pD (wr.alloc (.cells (tmA y (.slice oj nj cj)) 56)) y (.slice oj nj cj));rw[show(wr.alloc (.cells (tmA y (.slice oj nj cj)) 56)).heap.size=wr.heap.size+1 by simp]at HX;have HN:=qa (bC.single (x:=y) ((HO2.o.away (fun b hb=>(HA1.o b hb).2) HT.o).up hb2));have HO3:=qa (HO2.o.up hb2);have HBB:=qa (HBA.o.trans (hb2.mono HBA.o.size));clear q66 HV hb2 HO2 HT;obtain⟨ykd,yn,ya,yb,yc,yd,ylo,yhi⟩:=y;simp only at hk
   go_wp2_with(first
    |(refine cR rfl (.tmp 12) rfl b (off+i*8) rfl ykd yn ya yb yc yd ylo yhi (.slice oj nj cj) HCW.o ?_)
    |(refine bY rfl (.tmp 7) rfl wr.heap.size rfl ykd yn ya yb yc yd ylo yhi (.slice oj nj cj) HBX.o ?_)
    |(at_builtin;refine dT rfl (.tmp 22) (.tmp 24) rfl A0 w.heap.size _ acc rfl HO3.o _ rfl _ _ HX.o HN.o q6x.o HBB.o.size ?_;intro v5 w5 hO hg hq hk5;have HO5:=qa hO;have HB5:=qa (HBB.o.grown hg HBB.o.size hq);clear hO hg hq hk5))
   exact ZmL4
  have hr0:=HRR.o.done (by rw[HW.o.len];omega);subst hr0;have HE:Hid (acc=R):=qa (by rw[<-HV.o,eH,i7]);go_wp2;go_ret;rw[<-HE.o];exact⟨_,rfl,HO.o.tms.mono (fun b hb=>hb.imp (fun h=>(HA1.o b h).1) id),HB.o⟩
theorem xE{kd:Int}{z:Tm}{f:Fo}(h:2<=cnt f):mZ kd z f=J2 kd f:=by
 match f,h with
 |.cons x k (.cons y j r),_=>rfl
theorem q4E{A:Nat->Prop}{w:World}{v:Value}{f:Fo}(h:aM A w v f)(hs:szF f<=100000000):Calls prog 52 #[v] w (iC A (iH f) w):=by
 obtain⟨A0,hA0⟩:∃A0,A0=fun b=>A b/\b<w.heap.size:=⟨_,rfl⟩;have h0:=h.lt;rw[<-hA0]at h0;have HA1:Hid (∀b,A0 b->A b/\b<w.heap.size):=qa (fun b hb=>by rw[hA0]at hb;exact hb);have hbw:=aB w (.cells tm0 56);have HFL:=qa (q1F 3 (h0.up hbw) hs);have HBW:=qa hbw;have HBG:=qa (cM w ⟨0,0,0,0,0,0,0,0⟩ (.slice none 0 0));have HNO:Hid (∀W,Calls prog 40 #[] W (iC A0 eS W)):=qa (fun W=>K0 A0);have HEM:Hid (∀W,Calls prog 49 #[] W (iC A0 eE W)):=qa (fun W=>D5 A0);have HDD:Hid (∀W y u,Calls prog 32 #[.agg (tmA y u)] W fun e w'=>e=.returned (.bool (fA y))/\∃x,w'=ext W x):=qa (fun W y u=>tU y u);obtain⟨R,hR⟩:∃R,R=iH f:=⟨_,rfl⟩;rw[<-hR];have HR:Hid (R=match oP (eH 3 f)with|none=>eS|some g=>mZ 3 eE g):=qa hR;have hsz:=qc (nI 3 f) hs;generalize eH 3 f=F at*;obtain⟨C,hC⟩:∃C,C=oP F:=⟨_,rfl⟩;have HC:Hid ((oP F).map (eQ .nil)=C):=qa (by rw[hC];cases oP F<;>rfl);rw[<-hC]at HR;have HSZ:Hid (cnt .nil+szF F<=100000000):=qa (by rw[show cnt .nil=0 from rfl];omega);clear hR hC hA0 h h0 hbw hs hsz;go_enter func52,ntmps52
 go_wp2_with((with_reducible refine HFL.o.mono ?_);rintro e w1 ⟨u7,rfl,hT,hb⟩;obtain⟨rs,oa,cap,b,off,rfl,hd,hw⟩:=hT.lt.walk;have HIX:=qa (dL hd);have HW:=qa hw;have hm:=hd.len;have HB1:=qa (HBW.o.trans (hb.mono HBW.o.size));have HG1:=qa (HBG.o.up hb);have HS1:Hid (w.heap.size+1<=w1.heap.size):=qa (by have:=hb.size;simpa using this);clear hT hd hw hb)
 obtain⟨A1,hA1⟩:∃A1,A1=fun b=>upA A0 (w.alloc (.cells tm0 56)).heap.size b/\b<w1.heap.size:=⟨_,rfl⟩;rw[<-hA1]at HW;have HA2:Hid (∀b,A1 b->upA A0 (w.heap.size+1) b/\b<w1.heap.size):=qa (fun b hb=>by rw[hA1]at hb;simpa using hb);have HR0:Hid (bC A1 w1 (rs.drop 0) F):=qa HW.o.rows;generalize cnt F=m at*;obtain⟨g0,hg0⟩:∃g0,g0=w.heap.size:=⟨_,rfl⟩;rw[<-hg0]at HG1 HS1 HA2⊢;have HG0:Hid (w.heap.size<=g0):=qa (by omega);clear hA1 HFL HBW HBG hg0
 go_loopg [3,9] m (fun gk ov iv wr=>∃(i:Nat) (acc r:Fo),iv=.int .i64 i/\i<=m/\kM A1 wr w1.heap.size 56 ov acc/\Hid ((oP r).map (eQ acc)=C)/\cnt acc+szF r<=100000000/\bC A1 w1 (rs.drop i) r/\Below w1.heap.size w1 wr/\gk=m-i)
 case atStart=>exact⟨0,.nil,F,rfl,qd _,kM.nil _ _ _ _,HC,HSZ.o,HR0.o,qn _ _,rfl⟩
 case round=>
  obtain⟨i,acc,r,rfl,hi,hO,HV,hsz,hrr,hB,hgk⟩:=hrel;have HB:=qa hB;have HO:=qa hO;have HGK:=qa hgk;have HRR:=qa hrr;have q66:=qa hsz;have HGR:=qa (HG1.o.up hB);have HSR:Hid (g0+1<=wr.heap.size):=qa (qc HS1.o hB.size);have HBR:=qa (HB1.o.trans (hB.mono HB1.o.size));clear hB hgk hrr HR0 hsz hO HC HSZ;by_cases hlt:i<m
  ·have q64:=fun W=>HIX.o W i hlt
   obtain⟨y,oj,nj,cj,j,r',hre,ht,hrr,hcc⟩:=HW.o.next HRR.o hlt HB.o;subst hre;have HCW:=qa hcc;have q5Y:=qa hrr;have HBX:=qa (cM wr y (.slice oj nj cj));have hbn:=aB wr (.cells (tmA y (.slice oj nj cj)) 56);have HBA:=qa (HB.o.trans (hbn.mono HB.o.size));have qaY:=qa (HBR.o.trans (hbn.mono HBR.o.size));have HT:=qa (ht.up HBA.o);have HO2:=qa (HO.o.up hbn);have HGA:=qa (HGR.o.up hbn);have HSA:Hid (g0+1<=(wr.alloc (.cells (tmA y (.slice oj nj cj)) 56)).heap.size):=qa (qc HSR.o hbn.size);have HDY:=qa (HDD.o (wr.alloc (.cells (tmA y (.slice oj nj cj)) 56)) y (.slice oj nj cj));clear hrr hcc HIX HRR HB HO hbn ht HGR HSR HBR HDD;rcases hdd:fA y with _|_
   ·rw[hdd]at HDY
    by_cases hk:y.kd=2
    ·have HV2:Hid ((oP r').map (eQ acc)=C):=qa (by
      rw[<-HV.o,oP,qu (by rw[hdd];decide)];cases oP r' with
      |none=>rfl
      |some q=>simp only[jN,qv hk])
     have q6l:Hid (cnt acc+szF r'<=100000000):=qa (by have:=q66.o;rw[szF]at this;omega);clear HV HR q66 HT hdd HEM HNO;obtain⟨ykd,yn,ya,yb,yc,yd,ylo,yhi⟩:=y;simp only at hk;subst hk
     go_wp2_with(first
      |(refine cR rfl (.tmp 11) rfl b (off+i*8) rfl 2 yn ya yb yc yd ylo yhi (.slice oj nj cj) HCW.o ?_)
      |(refine bY rfl (.tmp 5) rfl wr.heap.size rfl 2 yn ya yb yc yd ylo yhi (.slice oj nj cj) HBX.o ?_)
      |((with_reducible refine HDY.o.mono ?_);rintro e w5 ⟨rfl,hx⟩;have hb:=aE hx;have HB5:=qa (HBA.o.trans (hb.mono HBA.o.size));have HO5:=qa (HO2.o.up hb);have HX5:=qa (HBX.o.up hb);have c0:=HX5.o.cell (i:=0) (show(0:Nat)<8 by decide);simp only[tmC,j9]at c0;clear hx hb))
     go_roundg (m-(i+1))
     case measure=>have:=HGK.o;omega
     case rel=>exact⟨i+1,acc,r',by go_num,by omega,HO5.o,HV2,q6l.o,q5Y.o,HB5.o,rfl⟩
    have HV2:Hid ((oP r').map (eQ (eQ acc (.cons y j .nil)))=C):=qa (by
     rw[<-HV.o,oP,qu (by rw[hdd];decide)];cases oP r' with
     |none=>rfl
     |some q=>simp only[jN,qu hk,eO];rfl)
    have q6l:Hid (cnt (eQ acc (.cons y j .nil))+szF r'<=100000000):=qa (by have:=q66.o;rw[szF]at*;rw[eJ,cnt,cnt];omega);have q6x:Hid (cnt acc+cnt (.cons y j .nil)<=1000000000):=qa (by have:=q6l.o;rw[eJ]at this;omega);clear HV HR q66 hdd HEM HNO;obtain⟨ykd,yn,ya,yb,yc,yd,ylo,yhi⟩:=y;simp only at hk
    go_wp2_with(first
     |(refine cR rfl (.tmp 11) rfl b (off+i*8) rfl ykd yn ya yb yc yd ylo yhi (.slice oj nj cj) HCW.o ?_)
     |(refine bY rfl (.tmp 5) rfl wr.heap.size rfl ykd yn ya yb yc yd ylo yhi (.slice oj nj cj) HBX.o ?_)
     |((with_reducible refine HDY.o.mono ?_);rintro e w5 ⟨rfl,hx⟩;have hb:=aE hx;have HB5:=qa (HBA.o.trans (hb.mono HBA.o.size));have HO5:=qa (HO2.o.up hb);have HX5:=qa (HBX.o.up hb);have c0:=HX5.o.cell (i:=0) (show(0:Nat)<8 by decide);simp only[tmC,j9]at c0;have hb2:=aB w5 (.cells (tmA ⟨ykd,yn,ya,yb,yc,yd,ylo,yhi⟩ (.slice oj nj cj)) 56);have HX:=qa (pD w5 ⟨ykd,yn,ya,yb,yc,yd,ylo,yhi⟩ (.slice oj nj cj));have HN:=qa (bC.single (x:=⟨ykd,yn,ya,yb,yc,yd,ylo,yhi⟩) (((HO5.o.away (fun b hb=>(HA2.o b hb).2) HT.o).up hb).up hb2));have HO6:=qa (HO5.o.up hb2);have HB6:=qa (HB5.o.trans (hb2.mono HB5.o.size));clear hx hb hb2)
     |(refine bY rfl (.tmp 5) rfl wr.heap.size rfl ykd yn ya yb yc yd ylo yhi (.slice oj nj cj) HX5.o ?_)
     |(at_builtin;refine dT rfl (.tmp 21) (.tmp 23) rfl A1 w1.heap.size _ acc rfl HO6.o _ rfl _ _ HX.o HN.o q6x.o HB6.o.size ?_;intro v7 w7 hO hg hq hk5;have HO7:=qa hO;have HB7:=qa (HB6.o.grown hg HB6.o.size hq);clear hO hg hq hk5))
    go_roundg (m-(i+1))
    case measure=>have:=HGK.o;omega
    case rel=>exact⟨i+1,_,r',by go_num,by omega,HO7.o,HV2,q6l.o,q5Y.o,HB7.o,rfl⟩
   have HCN:Hid (C=none):=qa (by rw[<-HV.o,oP,qv hdd];rfl);have HRN:Hid (R=eS):=qa (by rw[HR.o,HCN.o]);rw[hdd]at HDY;clear HV HR HCN q66 HO2 HT hdd HEM;obtain⟨ykd,yn,ya,yb,yc,yd,ylo,yhi⟩:=y
   go_wp2_with(first
    |(refine cR rfl (.tmp 11) rfl b (off+i*8) rfl ykd yn ya yb yc yd ylo yhi (.slice oj nj cj) HCW.o ?_)
    |(refine bY rfl (.tmp 5) rfl wr.heap.size rfl ykd yn ya yb yc yd ylo yhi (.slice oj nj cj) HBX.o ?_)
    |((with_reducible refine HDY.o.mono ?_);rintro e w5 ⟨rfl,hx⟩;have hb:=aE hx;have HB5:=qa (qaY.o.trans (hb.mono qaY.o.size));have HG5:=qa (HGA.o.up hb);have HS5:=qa (qc HSA.o hb.size);clear hx hb)
    |((with_reducible refine(HNO.o _).mono ?_);rintro e w6 ⟨u6,rfl,hT6,hb⟩;have HB6:=qa (HB5.o.trans (hb.mono HB5.o.size));have HG6:=qa (HG5.o.up hb);have HT6:Hid (aM (upA A0 (g0+1)) w6 u6 .nil):=qa (hT6.mono (fun b hb=>hb.imp id (qc HS5.o)));clear hb hT6)
    |(refine b6 rfl (.tmp 2) (.tmp 16) rfl g0 rfl noT u6 HT6.o.one rfl _ HG6.o (by decide) ?_;intro w7 hbx hg;have HX7:=qa hbx;have q5R:=qa hg;clear hbx hg))
   rw[HRN.o];exact eZ rfl rfl rfl HA1.o HG0.o HT6.o HB6.o q5R.o HX7.o
  have hr0:=HRR.o.done (by rw[HW.o.len];omega);subst hr0;have HRA:Hid (R=mZ 3 eE acc):=qa (by rw[HR.o,<-HV.o,oP];simp only[jN,i7]);have HTA:=qa (HO.o.tms.mono (A':=upA A0 (g0+1)) (fun b hb=>hb.elim (fun h=>(HA2.o b h).1) (fun h=>.inr (qc HS1.o h))));clear HV HR HDD HNO HO q66 HRR HIX
  match acc,HRA,HTA with
  |.nil,HRA,HTA=>
   obtain⟨rs2,oa2,cap2,b2,off2,rfl,-,-⟩:=HTA.o.walk;simp only[cnt]at*
   go_wp2_with(first
    |((with_reducible refine(HEM.o _).mono ?_);rintro e w6 ⟨u6,rfl,hT6,hb⟩;have HB6:=qa (HBR.o.trans (hb.mono HBR.o.size));have HG6:=qa (HGR.o.up hb);have HT6:Hid (aM (upA A0 (g0+1)) w6 u6 .nil):=qa (hT6.mono (fun b hb=>hb.imp id (qc HSR.o)));clear hb hT6)
    |(refine b6 rfl (.tmp 2) (.tmp 30) rfl g0 rfl emT u6 HT6.o.one rfl _ HG6.o (by decide) ?_;intro w7 hbx hg;have HX7:=qa hbx;have q5R:=qa hg;clear hbx hg))
   rw[HRA.o];exact eZ rfl rfl rfl HA1.o HG0.o HT6.o HB6.o q5R.o HX7.o
  |.cons x k .nil,HRA,HTA=>
   obtain⟨rs2,oa2,cap2,b2,off2,rfl,hd2,hw2⟩:=HTA.o.walk;simp only[cnt]at*;obtain⟨y,oj,nj,cj,j,r',hre,ht,-,hcc⟩:=hw2.next (i:=0) hw2.rows (Nat.one_pos) (qn _ _);injection hre with e1 e2 e3;subst e1;subst e2;have q6Q:∀W,(Instr.indexAt 51 (.slice oa2 1 cap2) (.int .i64 0)).run prog W=.ok (.pointer (some ⟨b2,off2,none⟩)) W:=fun W=>by simpa using dL hd2 W 0 Nat.one_pos
   have HCW:Hid (∀q,q<8->wr.cell? ⟨b2,off2+q,none⟩=some ((tmA x (.slice oj nj cj)).getD q undef)):=qa (by simpa using hcc);have HT6:=qa ht;clear hd2 hw2 ht hcc e3;obtain⟨ykd,yn,ya,yb,yc,yd,ylo,yhi⟩:=x
   go_wp2_with(first
    |(refine cR rfl (.tmp 34) rfl b2 off2 rfl ykd yn ya yb yc yd ylo yhi (.slice oj nj cj) HCW.o ?_)
    |(refine b6 rfl (.tmp 2) (.tmp 35) rfl g0 rfl ⟨ykd,yn,ya,yb,yc,yd,ylo,yhi⟩ (.slice oj nj cj) HT6.o.one rfl _ HGR.o (by decide) ?_;intro w7 hbx hg;have HX7:=qa hbx;have q5R:=qa hg;clear hbx hg))
   rw[HRA.o];exact eZ rfl rfl rfl HA1.o HG0.o HT6.o HBR.o q5R.o HX7.o
  |.cons x k (.cons y j r),HRA,HTA=>
   have HRK:=qa (HRA.o.trans (xE (by simp only[cnt];omega)));obtain⟨M,hM⟩:∃M,M=Fo.cons x k (.cons y j r):=⟨_,rfl⟩;have hc2:2<=cnt M:=by rw[hM];simp only[cnt];omega
   rw[<-hM]at HTA HRK;have HO1:=qa HTA.o.one;obtain⟨rs2,oa2,cap2,b2,off2,rfl,-,-⟩:=HTA.o.walk;have HKT:Hid (J2 3 M=(⟨3,cnt M,0,0,0,0,0,0⟩,M)):=qa rfl;generalize cnt M=c at*;clear hM HRA;have q0:((c:Int)==0)=false:=by simp;omega
   have q1:((c:Int)==1)=false:=by simp;omega
   go_wp2_with(first|(refine b6 rfl (.tmp 2) (.tmp 37) rfl g0 rfl ⟨3,c,0,0,0,0,0,0⟩ _ HO1.o rfl _ HGR.o (by decide) ?_;intro w7 hbx hg;have HX7:=qa hbx;have q5R:=qa hg;clear hbx hg))
   rw[HRK.o,HKT.o];exact eZ rfl rfl rfl HA1.o HG0.o HTA.o HBR.o q5R.o HX7.o
theorem q1G{w:World}{A:Nat->Prop}{x:Nd}{u:Value}{k:Fo}(h:aM A w u k)(hA:∀b,A b->b<w.heap.size):aM (upA A w.heap.size) (w.alloc (.cells (tmA x u) 56)) (.slice (some ⟨w.heap.size,0,none⟩) 1 1) (.cons x k .nil):=(q3u w A x u k h hA).tms
theorem q3x{A:Nat->Prop}{w:World}{x:Nd}{u:Value}{k:Fo}(h:aM A w u k):Calls prog 53 #[.agg (tmA x u)] w (iC A (iL (x,k)) w):=by
 obtain⟨A0,hA0⟩:∃A0,A0=fun b=>A b/\b<w.heap.size:=⟨_,rfl⟩;have h0:=h.lt;rw[<-hA0]at h0;have HA1:Hid (∀b,A0 b->A b/\b<w.heap.size):=qa (fun b hb=>by rw[hA0]at hb;exact hb);obtain⟨o,n,c,rfl,-⟩:=h.form;have hb1:=aB w (.cells (tmA x (.slice o n c)) 56);have hb2:=aB (w.alloc (.cells (tmA x (.slice o n c)) 56)) (.cells tm0 56);have HB2:=qa (hb1.trans (hb2.mono hb1.size));have HT2:=qa (h0.up HB2.o);have HX2:=qa ((cM w x (.slice o n c)).up hb2);have HG2:=qa (cM (w.alloc (.cells (tmA x (.slice o n c)) 56)) ⟨0,0,0,0,0,0,0,0⟩ (.slice none 0 0));have hs1:(w.alloc (.cells (tmA x (.slice o n c)) 56)).heap.size=w.heap.size+1:=by simp
 rw[hs1]at HG2;have HS2:Hid (w.heap.size+1+1<=((w.alloc (.cells (tmA x (.slice o n c)) 56)).alloc (.cells tm0 56)).heap.size):=qa (by simp);have HDY:=qa (tU (w:=(w.alloc (.cells (tmA x (.slice o n c)) 56)).alloc (.cells tm0 56)) x (.slice o n c));have HEM:Hid (∀W,Calls prog 49 #[] W (iC A0 eE W)):=qa (fun W=>D5 A0);have HW1:Hid (w.heap.size<=w.heap.size+1):=qa (jc _);obtain⟨R,hR⟩:∃R,R=iL (x,k):=⟨_,rfl⟩;rw[<-hR];unfold iL at hR;simp only at hR;clear h h0 hA0 hb1 hb2 hs1;by_cases h5:x.kd=5
 ·rw[qv h5]at hR
  have HR:=qa hR;clear hR HEM HDY;obtain⟨kd,nn,a,b,c',d,lo,hi⟩:=x;simp only at h5;subst h5;go_enter func53,ntmps53
  go_wp2_with(first
   |(refine bY rfl (.tmp 1) rfl w.heap.size rfl 5 nn a b c' d lo hi (.slice o n c) HX2.o ?_)
   |(refine b6 rfl (.tmp 2) (.tmp 18) rfl (w.heap.size+1) rfl ⟨5,nn,a,b,c',d,lo,hi⟩ (.slice o n c) rfl rfl _ HG2.o (show(8:Nat)=8 from rfl) ?_;intro w7 hbx hg;have HX7:=qa hbx;have q5R:=qa hg;clear hbx hg))
  rw[HR.o];exact eZ rfl rfl rfl HA1.o HW1.o (HT2.o.mono fun b hb=>.inl hb) HB2.o q5R.o HX7.o
 rw[qu h5]at hR;by_cases he:x.kd=2\/fA x=true
 ·rw[qv he]at hR
  have HR:=qa hR;clear hR;rcases hdd:fA x with _|_
  ·have h2:x.kd=2:=he.resolve_right (by rw[hdd];decide)
   clear HDY he hdd;obtain⟨kd,nn,a,b,c',d,lo,hi⟩:=x;simp only at h2;subst h2;go_enter func53,ntmps53
   go_wp2_with(first
    |((with_reducible refine(HEM.o _).mono ?_);rintro e w6 ⟨u6,rfl,hT6,hb⟩;have HB6:=qa (HB2.o.trans (hb.mono HB2.o.size));have HG6:=qa (HG2.o.up hb);have HT6:Hid (aM (upA A0 (w.heap.size+1+1)) w6 u6 .nil):=qa (hT6.mono (fun b hb=>hb.imp id (qc HS2.o)));clear hb hT6)
    |(refine b6 rfl (.tmp 2) (.tmp 19) rfl (w.heap.size+1) rfl emT u6 HT6.o.one rfl _ HG6.o (show(8:Nat)=8 from rfl) ?_;intro w7 hbx hg;have HX7:=qa hbx;have q5R:=qa hg;clear hbx hg))
   exact ZmL10
  rw[hdd]at HDY;have hk1:x.kd=1:=by unfold fA at hdd;simp at hdd;exact hdd.1
  clear he hdd;obtain⟨kd,nn,a,b,c',d,lo,hi⟩:=x;simp only at hk1;subst hk1;go_enter func53,ntmps53
  go_wp2_with(first
   |((with_reducible refine HDY.o.mono ?_);rintro e w5 ⟨rfl,hx⟩;have hb:=aE hx;have HB5:=qa (HB2.o.trans (hb.mono HB2.o.size));have HG5:=qa (HG2.o.up hb);have HS5:=qa (qc HS2.o hb.size);have HX5:=qa (HX2.o.up hb);have c0:=HX5.o.cell (i:=0) (show(0:Nat)<8 by decide);simp only[tmC,j9]at c0;clear hx hb)
   |((with_reducible refine(HEM.o _).mono ?_);rintro e w6 ⟨u6,rfl,hT6,hb⟩;have HB6:=qa (HB5.o.trans (hb.mono HB5.o.size));have HG6:=qa (HG5.o.up hb);have HT6:Hid (aM (upA A0 (w.heap.size+1+1)) w6 u6 .nil):=qa (hT6.mono (fun b hb=>hb.imp id (qc HS5.o)));clear hb hT6)
   |(refine b6 rfl (.tmp 2) (.tmp 19) rfl (w.heap.size+1) rfl emT u6 HT6.o.one rfl _ HG6.o (show(8:Nat)=8 from rfl) ?_;intro w7 hbx hg;have HX7:=qa hbx;have q5R:=qa hg;clear hbx hg))
  exact ZmL10
 rw[qu he]at hR;have HR:=qa hR;have hd0:fA x=false:=by cases hq:fA x with|false=>rfl|true=>exact absurd (.inr hq) he
 have h2:x.kd≠2:=fun e=>he (.inl e);rw[hd0]at HDY;clear hR HEM hd0 he;obtain⟨kd,nn,a,b,c',d,lo,hi⟩:=x;simp only at h5 h2;have q5:(kd==5)=false:=by simpa using h5
 have q2:(kd==2)=false:=by simpa using h2
 go_enter func53,ntmps53
 go_wp2_with(first
  |((with_reducible refine HDY.o.mono ?_);rintro e w5 ⟨rfl,hx⟩;have hb:=aE hx;have HB5:=qa (HB2.o.trans (hb.mono HB2.o.size));have HG5:=qa (HG2.o.up hb);have HS5:=qa (qc HS2.o hb.size);have HX5:=qa (HX2.o.up hb);have HT5:=qa (q1G (x:=⟨kd,nn,a,b,c',d,lo,hi⟩) (HT2.o.up hb) (fun b hb=>qe (HA1.o b hb).2 HB5.o.size));have hba:=aB w5 (.cells (tmA ⟨kd,nn,a,b,c',d,lo,hi⟩ (.slice o n c)) 56);have HB6:=qa (HB5.o.trans (hba.mono HB5.o.size));have HG6:=qa (HG5.o.up hba);clear hx hb hba)
  |(refine bY rfl (.tmp 1) rfl w.heap.size rfl kd nn a b c' d lo hi (.slice o n c) HX5.o ?_)
  |(refine b6 rfl (.tmp 2) (.tmp 22) rfl (w.heap.size+1) rfl ⟨5,1,0,0,0,0,0,0⟩ _ rfl rfl _ HG6.o (show(8:Nat)=8 from rfl) ?_;intro w7 hbx hg;have HX7:=qa hbx;have q5R:=qa hg;clear hbx hg))
 rw[HR.o];exact eZ rfl rfl rfl HA1.o HW1.o (HT5.o.mono fun b hb=>hb.imp id (qc HS5.o)) HB6.o q5R.o HX7.o
end Go.Cm
namespace Go.Cm
open Go.RowKit Go.Proofs Go.Maps
structure K3(m:Nat)(w W:World):Prop where
 size:w.heap.size<=W.heap.size
 blk:∀b,b<w.heap.size->b≠m->W.heap[b]? =w.heap[b]?
theorem K3.refl(m:Nat)(w:World):K3 m w w:=⟨qb _,fun _ _ _=>rfl⟩
theorem K3.up{m:Nat}{w W W':World}(h:K3 m w W)(hb:Below W.heap.size W W'):K3 m w W':=
 ⟨qc h.size hb.size,fun b hlt hne=>(hb.block b (qe hlt h.size)).trans (h.blk b hlt hne)⟩
theorem K3.grown{m:Nat}{w W W':World}{row:Option Nat}(h:K3 m w W)(hg:W.grownBy W' row)(hr:∀k,row=some k->k=m\/w.heap.size<=k):K3 m w W':=
 ⟨qc h.size hg.size,fun b hlt hne=>(hg.block b (qe hlt h.size) (fun e=>by rcases hr b e.symm with h1|h1;exact hne h1;omega)).trans (h.blk b hlt hne)⟩
theorem aM.stay{A:Nat->Prop}{m:Nat}{w W:World}{v:Value}{f:Fo}(h:aM A w v f)(hs:K3 m w W)(hA:¬A m):aM A W v f:=
 h.keep hs.size (fun b hb hlt=>hs.blk b hlt (fun e=>hA (e▸hb)))
theorem aM.ina{A:Nat->Prop}{w:World}{oa:Option Addr}{n cap b off:Nat}{f:Fo}(h:aM A w (.slice oa n cap) f)(hd:Hd w oa n cap b off)(hn:0<n):A b:=by
 obtain⟨_,_,hin,_⟩:=h;exact hin b off none n cap (by rw[hd.hat hn]) hn
theorem q3v.nextS{A:Nat->Prop}{w W:World}{rs:List (List Value)}{b off m i m0:Nat}{k r:Fo}(h:q3v A w rs b off m k)(hr:bC A w (rs.drop i) r)(hi:i<m)(hb:K3 m0 w W)(hbm:b≠m0):
  ∃y o n c j r',r=.cons y j r'/\aM A w (.slice o n c) j/\bC A w (rs.drop (i+1)) r'/\∀q,q<8->W.cell? ⟨b,off+i*8+q,none⟩=some ((tmA y (.slice o n c)).getD q undef):=by
 obtain⟨y,v,j,r',rfl,hrow,ht,hrr⟩:=hr.step (by rw[h.len];exact hi);obtain⟨o,n,c,rfl,-⟩:=ht.form;refine⟨y,o,n,c,j,r',rfl,ht,hrr,fun q hq=>?_⟩;have e:=World.cell?_of_block (w:=w) (w':=W) (a:=⟨b,off+i*8+q,none⟩) (hb.blk b (h.blk (by omega)) hbm);rw[e,h.cell i hi q hq,hrow,q0L]
theorem dA:Keyed prog 9:=string_keyed underlying9
theorem iR(W:World):(zeroValue 3).run prog W=.ok (.int .i64 0) W:=by kernel_rfl
theorem vG(l:List Nat)(h:l.length<=1000000000):keyOf prog 9 (.string (kZ l))=some (.string (kZ l).data.toList):=by
 have:=Go.WideMaps.keyOf_string_mk (P:=prog) (k:=9) underlying9 (s:=kZ l) (by rw[xF];simp only[maxLen];omega);simpa using this
def zA(w:World)(b:Nat)(D:DataW Unit)(ts:List (List UInt8))(N:Nat):Prop:=
 w.ownsMap prog 9 (plainElem prog 3) b N D/\IsMap D/\∀t,(t∈ts->∃c:Int,1<=c/\c<=N/\D.atKey (.string t) (.lit (.int .i64 0))=.lit (.int .i64 c))/\(t∉ts->D.atKey (.string t) (.lit (.int .i64 0))=.lit (.int .i64 0))
theorem zA.made(w:World):zA (w.alloc (.map #[] 0)) w.heap.size (.map []) [] 0:=⟨World.ownsMap_made _ _ _ _,⟨[],rfl⟩,fun t=>⟨fun h=>(by cases h),fun _=>rfl⟩⟩
theorem zA.keep{w w':World}{b:Nat}{D:DataW Unit}{ts:List (List UInt8)}{N:Nat}(h:zA w b D ts N){row:Option Nat}(hg:w.grownBy w' row)(hne:some b≠row):zA w' b D ts N:=⟨h.1.kept hg hne,h.2⟩
theorem zA.up{w w':World}{b:Nat}{D:DataW Unit}{ts:List (List UInt8)}{N:Nat}(h:zA w b D ts N)(hb:Below w.heap.size w w'):zA w' b D ts N:=h.keep (row:=none) (aI hb none) (by simp)
theorem zA.val{w:World}{b:Nat}{D:DataW Unit}{ts:List (List UInt8)}{N:Nat}(h:zA w b D ts N){t:List UInt8}{c:Int}(hc:D.atKey (.string t) (.lit (.int .i64 0))=.lit (.int .i64 c)):0<=c/\c<=N/\(c=0↔t∉ts):=by
 by_cases ht:t∈ts
 ·obtain⟨c',h1,h2,h3⟩:=(h.2.2 t).1 ht
  rw[hc]at h3;injection h3 with h3;injection h3 with _ h3;subst h3;exact⟨by omega,h2,fun h=>by omega,fun h=>absurd ht h⟩
 have h3:=(h.2.2 t).2 ht;rw[hc]at h3;injection h3 with h3;injection h3 with _ h3;subst h3;exact⟨Int.le_refl _,by omega,fun _=>ht,fun _=>rfl⟩
theorem zA.put{w w':World}{b:Nat}{D:DataW Unit}{ts:List (List UInt8)}{N:Nat}(h:zA w b D ts N){t:List UInt8}{c:Int}(hc:0<=c/\c<=N)(ho:w'.ownsMap prog 9 (plainElem prog 3) b (N+1) (D.put (.string t) (.lit (.int .i64 (c+1))))):
  zA w' b (D.put (.string t) (.lit (.int .i64 (c+1)))) (t::ts) (N+1):=by
 refine⟨ho,h.2.1.put _ _,fun s=>?_⟩;by_cases hs:s=t
 ·subst hs
  refine⟨fun _=>⟨c+1,by omega,by push_cast;omega,atKey_put_same h.2.1 (show WideAt.IsKeyLit (Lit.string s)from trivial) _ _⟩,fun hh=>absurd jg hh⟩
 have e:∀z,(D.put (.string t) (.lit (.int .i64 (c+1)))).atKey (.string s) z=D.atKey (.string s) z:=fun z=>atKey_put_other (fun e=>hs (by injection e)) _ z;refine⟨fun hm=>?_,fun hm=>?_⟩
 ·obtain⟨c',h1,h2,h3⟩:=(h.2.2 s).1 ((List.mem_cons.1 hm).resolve_left hs)
  exact⟨c',h1,by push_cast;omega,(e _).trans h3⟩
 exact(e _).trans ((h.2.2 s).2 (fun q=>hm (qX _ q)))
structure q4r(A1:Nat->Prop)(w w1:World)(g0 m0:Nat):Prop where
 wg:w.heap.size<=g0
 gm:g0<m0
 m1:m0<w1.heap.size
 nA:¬A1 m0
 lt:∀b,A1 b->b<w1.heap.size
structure K4(A1:Nat->Prop)(w w1 W:World)(g0 m0:Nat)(D:DataW Unit)(ts:List (List UInt8))(N:Nat)(ov:Value)(acc:Fo):Prop where
 stay:K3 m0 w1 W
 bel:Below w.heap.size w W
 own:kM A1 W w1.heap.size 56 ov acc
 box:fB W g0 (tmC ⟨0,0,0,0,0,0,0,0⟩ (.slice none 0 0))
 map:zA W m0 D ts N
section
variable {A1 : Nat → Prop} {w w1 W W' : World} {g0 m0 N : Nat} {D : DataW Unit} {ts : List (List UInt8)} {ov : Value} {acc : Fo}
theorem K4.up(h:K4 A1 w w1 W g0 m0 D ts N ov acc)(hb:Below W.heap.size W W'):K4 A1 w w1 W' g0 m0 D ts N ov acc:=
 ⟨h.stay.up hb,h.bel.trans (hb.mono h.bel.size),h.own.up hb,h.box.up hb,h.map.up hb⟩
theorem K4.put(h:K4 A1 w w1 W g0 m0 D ts N ov acc)(K:q4r A1 w w1 g0 m0){t:List UInt8}{c:Int}(hc:0<=c/\c<=N)(ho:W'.ownsMap prog 9 (plainElem prog 3) m0 (N+1) (D.put (.string t) (.lit (.int .i64 (c+1)))))
  (hg:W.grownBy W' (some m0)):K4 A1 w w1 W' g0 m0 (D.put (.string t) (.lit (.int .i64 (c+1)))) (t::ts) (N+1) ov acc:=by
 have h1:=K.wg;have h2:=K.gm;have h3:=K.m1;refine⟨h.stay.grown hg (by rintro k ⟨⟩;exact .inl rfl),h.bel.grown hg h.bel.size (by rintro k ⟨⟩;omega),h.own.keep hg (fun q e=>?_),h.box.keep hg (.inr (fun e=>?_)),h.map.put hc ho⟩
 ·injection e with e
  subst e;refine⟨fun e=>?_,fun e=>?_⟩
  ·have:=(h.own.lt m0 e).1;omega
  rcases e with e|e
  ·exact K.nA e
  omega
 have:=qp (show some g0=some m0 from e);omega
theorem K4.app(h:K4 A1 w w1 W g0 m0 D ts N ov acc)(K:q4r A1 w w1 g0 m0){v':Value}{acc':Fo}(ho:kM A1 W' w1.heap.size 56 v' acc')(hg:W.grownBy W' ov.ownBlock):K4 A1 w w1 W' g0 m0 D ts N v' acc':=by
 have h1:=K.wg;have h2:=K.gm;have h3:=K.m1;refine⟨h.stay.grown hg (fun k e=>.inr (h.own.lt k e).1),h.bel.grown hg h.bel.size (fun k e=>by have:=(h.own.lt k e).1;omega),ho,h.box.keep hg (.inr (fun e=>?_)),h.map.keep hg (fun e=>?_)⟩
 ·have:=(h.own.lt g0 e.symm).1;omega
 have:=(h.own.lt m0 e.symm).1;omega
theorem K4.tms(h:K4 A1 w w1 W g0 m0 D ts N ov acc)(K:q4r A1 w w1 g0 m0){v:Value}{j:Fo}(ht:aM A1 w1 v j):aM A1 W v j:=ht.stay h.stay K.nA
end
theorem xJ{D:DataW Unit}{t:List UInt8}{z c:Int}{d:DataW Unit}(hD:IsMap D)(h:(D.put (.string t) (.lit (.int .i64 z))).atKey (.string t) d=.lit (.int .i64 c)):c=z:=by
 rw[atKey_put_same hD (show WideAt.IsKeyLit (Lit.string t)from trivial)]at h;injection h with h;injection h with _ h;exact h.symm
abbrev cvN(l:List Nat):List UInt8:=(kZ l).data.toList
theorem q5e{A:Nat->Prop}{w:World}{v:Value}{f:Fo}(h:aM A w v f)(hok:gT OkT f)(hs:szF f<=1000000):Calls prog 51 #[v] w (iC A (J3 f) w):=by
 obtain⟨A0,hA0⟩:∃A0,A0=fun b=>A b/\b<w.heap.size:=⟨_,rfl⟩;have h0:=h.lt;rw[<-hA0]at h0;have HA1:Hid (∀b,A0 b->A b/\b<w.heap.size):=qa (fun b hb=>by rw[hA0]at hb;exact hb);have q68:=aB w (.cells tm0 56);have q80:=aB (w.alloc (.cells tm0 56)) (.map #[] 0);have hbw:=q68.trans (q80.mono q68.size);have HFL:=qa (q1F 4 (h0.up hbw) (by omega));have HBW:=qa hbw;have HBG:=qa ((cM w ⟨0,0,0,0,0,0,0,0⟩ (.slice none 0 0)).up q80);have HMP:=qa (zA.made (w.alloc (.cells tm0 56)));have q6z:(w.alloc (.cells tm0 56)).heap.size=w.heap.size+1:=by simp
 have q6L:((w.alloc (.cells tm0 56)).alloc (.map #[] 0)).heap.size=w.heap.size+2:=by simp
 rw[q6z]at HMP;have HNO:Hid (∀W,Calls prog 40 #[] W (iC A0 eS W)):=qa (fun W=>K0 A0);have HDD:Hid (∀W y u,Calls prog 32 #[.agg (tmA y u)] W fun e w'=>e=.returned (.bool (fA y))/\∃x,w'=ext W x):=qa (fun W y u=>tU y u);have hmm:=@run_makeMap prog;obtain⟨R,hR⟩:∃R,R=J3 f:=⟨_,rfl⟩;rw[<-hR];have HR:Hid (R=mZ 4 eS (r6 [] (eH 4 f))):=qa hR;have hsz:=qc (nI 4 f) hs;have q9V:=nE OkT 4 f hok;generalize eH 4 f=F at*;obtain⟨C,hC⟩:∃C,C=r6 [] F:=⟨_,rfl⟩;have HC:Hid (eQ .nil (r6 [] F)=C):=qa hC.symm;rw[<-hC]at HR;have HSZ:Hid (cnt .nil+szF F<=1000000):=qa (by rw[show cnt .nil=0 from rfl];omega);have qaH:=qa q9V;clear hR hC hA0 h h0 hbw q68 q80 hs hsz hok q9V;go_enter func51,ntmps51
 go_wp2_with((with_reducible refine HFL.o.mono ?_);rintro e w1 ⟨u7,rfl,hT,hb⟩;obtain⟨rs,oa,cap,b,off,rfl,hd,hw⟩:=hT.lt.walk;have HIX:=qa (dL hd);have HIN:=qa (fun hn=>hT.lt.ina hd hn);have HW:=qa hw;have hm:=hd.len;have HB1:=qa (HBW.o.trans (hb.mono HBW.o.size));have HG1:=qa (HBG.o.up hb);have HM1:=qa (HMP.o.up hb);have HS1:Hid (w.heap.size+2<=w1.heap.size):=qa (by have:=hb.size;rwa [q6L]at this);clear hT hd hw hb)
 obtain⟨A1,hA1⟩:∃A1,A1=fun b=>upA A0 ((w.alloc (.cells tm0 56)).alloc (.map #[] 0)).heap.size b/\b<w1.heap.size:=⟨_,rfl⟩;rw[<-hA1]at HW;have HIN:Hid (0<cnt F->A1 b):=qa (fun h=>by rw[hA1];exact HIN.o h);have HA2:Hid (∀b,A1 b->upA A0 (w.heap.size+2) b/\b<w1.heap.size):=qa (fun b hb=>by rw[hA1]at hb;rwa [q6L]at hb);have HR0:Hid (bC A1 w1 (rs.drop 0) F):=qa HW.o.rows;generalize cnt F=m at*;obtain⟨g0,hg0⟩:∃g0,g0=w.heap.size:=⟨_,rfl⟩;obtain⟨m0,hm0⟩:∃m0,m0=w.heap.size+1:=⟨_,rfl⟩
 have HK:Hid (q4r A1 w w1 g0 m0):=qa ⟨by omega,by omega,by have:=HS1.o;omega,fun hh=>by
  rcases(HA2.o m0 hh).1 with h|h
  ·have:=(HA1.o m0 h).2;omega
  omega,fun b hb=>(HA2.o b hb).2⟩
 rw[<-hg0]at HG1;rw[<-hm0]at HM1;have HGE:Hid (∀b,upA A0 (w.heap.size+2) b->upA A0 (g0+1) b):=qa (fun b hb=>hb.imp id (fun h=>by omega));have HS0:Hid (K4 A1 w w1 w1 g0 m0 (.map []) [] 0 (.slice none 0 0) .nil):=qa ⟨K3.refl _ _,HB1.o,kM.nil _ _ _ _,HG1.o,HM1.o⟩;have HG0:Hid (w.heap.size<=g0/\g0+1<=w1.heap.size):=qa (by have:=HS1.o;omega);rw[<-hm0,<-hg0];clear hA1 HFL HBW HBG HMP hg0 hm0 q6z q6L hmm HB1 HG1 HM1 HS1
 go_loopg [5,12] m (fun gk ov iv wr=>∃(i N:Nat) (D:DataW Unit) (ts:List (List UInt8)) (met:List (List Nat)) (acc r:Fo),iv=.int .i64 i/\i<=m/\K4 A1 w w1 wr g0 m0 D ts N ov acc/\Hid (eQ acc (r6 met r)=C)/\Hid (∀s,s∈ts↔s∈met.map cvN)/\Hid (∀l∈met,By8 l)/\cnt acc+N+2*szF r<=2000000/\szF r<=1000000/\gT OkT r/\bC A1 w1 (rs.drop i) r/\gk=m-i)
 case atStart=>exact⟨0,0,.map [],[],[],.nil,F,rfl,qd _,HS0.o,HC,qa (fun s=>Iff.rfl),qa (fun l hl=>(by cases hl)),by have h1:=HSZ.o;rw[show cnt .nil=0 from rfl]at*;omega,by have:=HSZ.o;omega,qaH.o,HR0.o,rfl⟩
 case round=>
  obtain⟨i,N,D,ts,met,acc,r,rfl,hi,hS,HV,HTM,H8M,hsz,q6L,hok,hrr,hgk⟩:=hrel;have HS:=qa hS;have HGK:=qa hgk;have HRR:=qa hrr;have q66:=qa hsz;have q6l:=qa q6L;have q7r:=qa hok;clear hS hgk hrr HR0 hsz q6L hok HC HSZ qaH HS0;by_cases hlt:i<m
  ·have q64:=fun W=>HIX.o W i hlt
   obtain⟨y,oj,nj,cj,j,r',hre,ht,hrr,hcc⟩:=HW.o.nextS HRR.o hlt HS.o.stay (fun e=>HK.o.nA (e▸HIN.o (by omega)));subst hre;have HCW:=qa hcc;have q5Y:=qa hrr;have HBX:=qa (cM wr y (.slice oj nj cj));have hbn:=aB wr (.cells (tmA y (.slice oj nj cj)) 56);have HSA:=qa (HS.o.up hbn);have HT:=qa ht;have HWR:Hid (wr.heap.size≠m0):=qa (by have:=HS.o.stay.size;have:=HK.o.m1;omega);have HDY:=qa (HDD.o (wr.alloc (.cells (tmA y (.slice oj nj cj)) 56)) y (.slice oj nj cj));obtain⟨o1,o2,o3⟩:=q7r.o;have q7g:=qa o3;have hz1:=q66.o;have hz2:=q6l.o;rw[szF]at hz1 hz2;have HZ1:=qa hz1;have HZ2:=qa hz2;have HTX:Hid (∀W,aM A1 W (.slice oj nj cj) j->Calls prog 42 #[.agg (tmA y (.slice oj nj cj))] W (U2 (txT y j) W)):=qa (fun W hW=>q1H 10000000 (by omega) (qb _) o1 o2 hW);have H8J:Hid (By8 (txT y j)):=qa (sI (.cons y j .nil) ⟨o1,o2,trivial⟩);have HKY:Hid (keyOf prog 9 (.string (kZ (txT y j)))=some (.string (cvN (txT y j)))):=qa (vG _ (by have h1:(txT y j).length<=37*(1+szF j):=xG (.cons y j .nil);omega));have hNb:N<=2000000:=by omega
   clear hrr hcc HIX HRR HS hbn ht HDD q7r hz1 hz2 o1 o2 o3 q66 q6l;rcases hdd:fA y with _|_
   ·rw[hdd]at HDY
    have q8k:Hid (cvN (txT y j)∈ts↔txT y j∈met):=qa (by
     rw[HTM.o]
     constructor
     ·intro hh
      obtain⟨l,hl,e⟩:=List.mem_map.1 hh
      have:kZ l=kZ (txT y j):=by
       have e2:(kZ l).data=(kZ (txT y j)).data:=Array.ext' e;cases h1:kZ l;cases h2:kZ (txT y j);rw[h1,h2]at e2;exact qZ ByteArray.mk e2
      rwa [<-vD (H8M.o l hl) H8J.o this]
     exact fun hh=>jd hh)
    by_cases q62:txT y j∈met
    ·have HV2:Hid (eQ acc (r6 met r')=C):=qa (by rw[<-HV.o,r6,qu (by rw[hdd];decide),qv q62])
     have q6b:Hid (∀s,s∈cvN (txT y j)::ts↔s∈met.map cvN):=qa (fun s=>by
      rw[jK,<-HTM.o];exact⟨fun h=>h.elim (fun e=>e▸q8k.o.2 q62) id,.inr⟩)
     have qcj:=qa (q8k.o.2 q62);clear HV HTM HR HNO hdd q8k;generalize txT y j=tx at*;obtain⟨ykd,yn,ya,yb,yc,yd,ylo,yhi⟩:=y
     go_wp2_with(first
      |(refine cR rfl (.tmp 14) rfl b (off+i*8) rfl ykd yn ya yb yc yd ylo yhi (.slice oj nj cj) HCW.o ?_)
      |(refine bY rfl (.tmp 7) rfl wr.heap.size rfl ykd yn ya yb yc yd ylo yhi (.slice oj nj cj) HBX.o ?_)
      |((with_reducible refine HDY.o.mono ?_);rintro e w5 ⟨rfl,hx⟩;have HSA:=qa (HSA.o.up (aE hx));have HBX:=qa (HBX.o.up (aE hx));clear hx)
      |((with_reducible refine(HTX.o _ (HSA.o.tms HK.o HT.o)).mono ?_);rintro e w6 ⟨rfl,hb⟩;have HSA:=qa (HSA.o.up hb);have HBX:=qa (HBX.o.up hb);clear hb)
      |(at_lookup;refine wpList_lookup_own_int _ rfl (.tmp 18) (.tmp 21) 66 rfl 9 3 .i64 dA underlying66 underlying3 (iR _) m0 _ _ rfl HSA.o.map.1 _ _ rfl HKY.o ?_;intro c hat hwc;have hcv:=HSA.o.map.val hat;have hc1:c≠0:=fun e=>hcv.2.2.1 e qcj.o;have q:(c+1==1)=false:=beq_eq_false_iff_ne.2 (by omega);have HID:=qa HSA.o.map.2.1;have HCV:=qa (show 0<=c/\c<=N from⟨hcv.1,hcv.2.1⟩);have hcb:=hcv.2.1;have hcb0:=hcv.1;clear hat hwc hcv)
      |(at_lookup;refine wpList_lookup_own_int _ rfl (.tmp 24) (.tmp 27) 66 rfl 9 3 .i64 dA underlying66 underlying3 (iR _) m0 _ _ rfl HSA.o.map.1 _ _ rfl HKY.o ?_;intro c2 hat hwc;have hc2:=xJ HID.o hat;subst hc2;clear hat hwc)
      |(at_mapUpdate;refine wpList_mapUpdate_own _ rfl _ _ _ 66 rfl 9 3 dA underlying66 _ m0 _ _ rfl HSA.o.map.1 (by unfold maxLen;omega) _ _ _ rfl rfl HKY.o _ [] (plainElem_int underlying3 (by first|(simp[Lit.wf,IntKind.min,IntKind.max,IntKind.signed,IntKind.bits];done)|(simp[Lit.wf,IntKind.min,IntKind.max,IntKind.signed,IntKind.bits];omega))) ?_;intro w7 hown hgr;have HSA:=qa (HSA.o.put HK.o HCV.o hown hgr);have HBX:=qa (HBX.o.keep hgr (.inr (fun e=>HWR.o (qp (show some wr.heap.size=some m0 from e)))));clear hown hgr))
     go_roundg (m-(i+1))
     case measure=>have:=HGK.o;omega
     case rel=>exact⟨i+1,N+1,_,_,met,acc,r',by go_num,by omega,HSA.o,HV2,q6b,H8M,by have:=HZ1.o;omega,by have:=HZ2.o;omega,q7g.o,q5Y.o,rfl⟩
    have HV2:Hid (eQ (eQ acc (.cons y j .nil)) (r6 (txT y j::met) r')=C):=qa (by rw[<-HV.o,r6,qu (by rw[hdd];decide),qu q62,eO];rfl);have q6b:Hid (∀s,s∈cvN (txT y j)::ts↔s∈(txT y j::met).map cvN):=qa (fun s=>by rw[qI,jK,jK,HTM.o]);have qcx:Hid (∀l∈txT y j::met,By8 l):=qa (fun l hl=>(List.mem_cons.1 hl).elim (fun e=>e▸H8J.o) (H8M.o l));have qce:Hid (cvN (txT y j)∉ts):=qa (fun hh=>q62 (q8k.o.1 hh));have HZ4:Hid (cnt acc+cnt (.cons y j .nil)<=1000000000):=qa (by have:=HZ1.o;simp only[cnt];omega);have HZ5:Hid (cnt (eQ acc (.cons y j .nil))+(N+1)+2*szF r'<=2000000):=qa (by have:=HZ1.o;rw[eJ];simp only[cnt];omega);clear HV HTM HR HNO hdd q8k H8M q62;generalize txT y j=tx at*;obtain⟨ykd,yn,ya,yb,yc,yd,ylo,yhi⟩:=y
    go_wp2_with(first
     |(refine cR rfl (.tmp 14) rfl b (off+i*8) rfl ykd yn ya yb yc yd ylo yhi (.slice oj nj cj) HCW.o ?_)
     |(refine bY rfl (.tmp 7) rfl wr.heap.size rfl ykd yn ya yb yc yd ylo yhi (.slice oj nj cj) HBX.o ?_)
     |((with_reducible refine HDY.o.mono ?_);rintro e w5 ⟨rfl,hx⟩;have HSA:=qa (HSA.o.up (aE hx));have HBX:=qa (HBX.o.up (aE hx));clear hx)
     |((with_reducible refine(HTX.o _ (HSA.o.tms HK.o HT.o)).mono ?_);rintro e w6 ⟨rfl,hb⟩;have HSA:=qa (HSA.o.up hb);have HBX:=qa (HBX.o.up hb);clear hb)
     |(at_lookup;refine wpList_lookup_own_int _ rfl (.tmp 18) (.tmp 21) 66 rfl 9 3 .i64 dA underlying66 underlying3 (iR _) m0 _ _ rfl HSA.o.map.1 _ _ rfl HKY.o ?_;intro c hat hwc;have hcv:=HSA.o.map.val hat;have hc0:c=0:=hcv.2.2.2 qce.o;subst hc0;have HID:=qa HSA.o.map.2.1;have HCV:Hid ((0:Int)<=0/\(0:Int)<=N):=qa ⟨Int.le_refl _,hcv.2.1⟩;clear hat hwc hcv)
     |(at_lookup;refine wpList_lookup_own_int _ rfl (.tmp 24) (.tmp 27) 66 rfl 9 3 .i64 dA underlying66 underlying3 (iR _) m0 _ _ rfl HSA.o.map.1 _ _ rfl HKY.o ?_;intro c2 hat hwc;have hc2:c2=1:=xJ HID.o hat;subst hc2;have hb2:=aB w6 (.cells (tmA ⟨ykd,yn,ya,yb,yc,yd,ylo,yhi⟩ (.slice oj nj cj)) 56);have HSB:=qa (HSA.o.up hb2);have HX:=qa (pD w6 ⟨ykd,yn,ya,yb,yc,yd,ylo,yhi⟩ (.slice oj nj cj));have HN:=qa (bC.single (x:=⟨ykd,yn,ya,yb,yc,yd,ylo,yhi⟩) ((HSA.o.own.away HK.o.lt (HSA.o.tms HK.o HT.o)).up hb2));clear hat hwc hb2)
     |(at_mapUpdate;refine wpList_mapUpdate_own _ rfl _ _ _ 66 rfl 9 3 dA underlying66 _ m0 _ _ rfl HSA.o.map.1 (by unfold maxLen;omega) _ _ _ rfl rfl HKY.o _ [] (plainElem_int underlying3 (by first|(simp[Lit.wf,IntKind.min,IntKind.max,IntKind.signed,IntKind.bits];done)|(simp[Lit.wf,IntKind.min,IntKind.max,IntKind.signed,IntKind.bits];omega))) ?_;intro w7 hown hgr;have HSA:=qa (HSA.o.put HK.o HCV.o hown hgr);have HBX:=qa (HBX.o.keep hgr (.inr (fun e=>HWR.o (qp (show some wr.heap.size=some m0 from e)))));clear hown hgr)
     |(at_builtin;refine dT rfl (.tmp 30) (.tmp 32) rfl A1 w1.heap.size _ acc rfl HSB.o.own _ rfl _ _ HX.o HN.o HZ4.o HSB.o.stay.size ?_;intro v9 w9 hO hg hq hk5;have HS9:=qa (HSB.o.app HK.o hO hg);clear hO hg hq hk5))
    go_roundg (m-(i+1))
    case measure=>have:=HGK.o;omega
    case rel=>exact⟨i+1,N+1,_,_,_,_,r',by go_num,by omega,HS9.o,HV2,q6b,qcx,HZ5.o,by have:=HZ2.o;omega,q7g.o,q5Y.o,rfl⟩
   rw[hdd]at HDY;have HV2:Hid (eQ acc (r6 met r')=C):=qa (by rw[<-HV.o,r6,qv hdd]);clear HV HR HNO hdd HTX H8J HKY;obtain⟨ykd,yn,ya,yb,yc,yd,ylo,yhi⟩:=y
   go_wp2_with(first
     |(refine cR rfl (.tmp 14) rfl b (off+i*8) rfl ykd yn ya yb yc yd ylo yhi (.slice oj nj cj) HCW.o ?_)
     |(refine bY rfl (.tmp 7) rfl wr.heap.size rfl ykd yn ya yb yc yd ylo yhi (.slice oj nj cj) HBX.o ?_)
     |((with_reducible refine HDY.o.mono ?_);rintro e w5 ⟨rfl,hx⟩;have HSA:=qa (HSA.o.up (aE hx));have HBX:=qa (HBX.o.up (aE hx));clear hx))
   go_roundg (m-(i+1))
   case measure=>have:=HGK.o;omega
   case rel=>exact⟨i+1,N,_,_,met,acc,r',by go_num,by omega,HSA.o,HV2,HTM,H8M,by have:=HZ1.o;omega,by have:=HZ2.o;omega,q7g.o,q5Y.o,rfl⟩
  have hr0:=HRR.o.done (by rw[HW.o.len];omega);subst hr0;have HRA:Hid (R=mZ 4 eS acc):=qa (by rw[HR.o,<-HV.o,r6,i7]);have HTA:=qa (HS.o.own.tms.mono (A':=upA A0 (g0+1)) (fun b hb=>hb.elim (fun h=>HGE.o b (HA2.o b h).1) (fun h=>.inr (qc HG0.o.2 h))));have HBR:=qa HS.o.bel;have HGR:=qa HS.o.box;have HSR:Hid (g0+1<=wr.heap.size):=qa (qc HG0.o.2 HS.o.stay.size);clear HV HR HDD HS q66 q6l HRR HIX q7r HTM H8M
  match acc,HRA,HTA with
  |.nil,HRA,HTA=>
   obtain⟨rs2,oa2,cap2,b2,off2,rfl,-,-⟩:=HTA.o.walk;simp only[cnt]at*
   go_wp2_with(first
    |((with_reducible refine(HNO.o _).mono ?_);rintro e w6 ⟨u6,rfl,hT6,hb⟩;have HB6:=qa (HBR.o.trans (hb.mono HBR.o.size));have HG6:=qa (HGR.o.up hb);have HT6:Hid (aM (upA A0 (g0+1)) w6 u6 .nil):=qa (hT6.mono (fun b hb=>hb.imp id (qc HSR.o)));clear hb hT6)
    |(refine b6 rfl (.tmp 2) (.tmp 39) rfl g0 rfl noT u6 HT6.o.one rfl _ HG6.o (show(8:Nat)=8 from rfl) ?_;intro w7 hbx hg;have HX7:=qa hbx;have q5R:=qa hg;clear hbx hg))
   rw[HRA.o];exact eZ rfl rfl rfl HA1.o HG0.o.1 HT6.o HB6.o q5R.o HX7.o
  |.cons x k .nil,HRA,HTA=>
   obtain⟨rs2,oa2,cap2,b2,off2,rfl,hd2,hw2⟩:=HTA.o.walk;simp only[cnt]at*;obtain⟨y,oj,nj,cj,j,r',hre,ht,-,hcc⟩:=hw2.next (i:=0) hw2.rows (Nat.one_pos) (qn _ _);injection hre with e1 e2 e3;subst e1;subst e2;have q6Q:∀W,(Instr.indexAt 51 (.slice oa2 1 cap2) (.int .i64 0)).run prog W=.ok (.pointer (some ⟨b2,off2,none⟩)) W:=fun W=>by simpa using dL hd2 W 0 Nat.one_pos
   have HCW:Hid (∀q,q<8->wr.cell? ⟨b2,off2+q,none⟩=some ((tmA x (.slice oj nj cj)).getD q undef)):=qa (by simpa using hcc);have HT6:=qa ht;clear hd2 hw2 ht hcc e3;obtain⟨ykd,yn,ya,yb,yc,yd,ylo,yhi⟩:=x
   go_wp2_with(first
    |(refine cR rfl (.tmp 43) rfl b2 off2 rfl ykd yn ya yb yc yd ylo yhi (.slice oj nj cj) HCW.o ?_)
    |(refine b6 rfl (.tmp 2) (.tmp 44) rfl g0 rfl ⟨ykd,yn,ya,yb,yc,yd,ylo,yhi⟩ (.slice oj nj cj) HT6.o.one rfl _ HGR.o (show(8:Nat)=8 from rfl) ?_;intro w7 hbx hg;have HX7:=qa hbx;have q5R:=qa hg;clear hbx hg))
   rw[HRA.o];exact eZ rfl rfl rfl HA1.o HG0.o.1 HT6.o HBR.o q5R.o HX7.o
  |.cons x k (.cons y j r),HRA,HTA=>
   have HRK:=qa (HRA.o.trans (xE (by simp only[cnt];omega)));obtain⟨M,hM⟩:∃M,M=Fo.cons x k (.cons y j r):=⟨_,rfl⟩;have hc2:2<=cnt M:=by rw[hM];simp only[cnt];omega
   rw[<-hM]at HTA HRK;have HO1:=qa HTA.o.one;obtain⟨rs2,oa2,cap2,b2,off2,rfl,-,-⟩:=HTA.o.walk;have HKT:Hid (J2 4 M=(⟨4,cnt M,0,0,0,0,0,0⟩,M)):=qa rfl;generalize cnt M=c at*;clear hM HRA;have q0:((c:Int)==0)=false:=by simp;omega
   have q1:((c:Int)==1)=false:=by simp;omega
   go_wp2_with(first|(refine b6 rfl (.tmp 2) (.tmp 46) rfl g0 rfl ⟨4,c,0,0,0,0,0,0⟩ _ HO1.o rfl _ HGR.o (show(8:Nat)=8 from rfl) ?_;intro w7 hbx hg;have HX7:=qa hbx;have q5R:=qa hg;clear hbx hg))
   rw[HRK.o,HKT.o];exact eZ rfl rfl rfl HA1.o HG0.o.1 HTA.o HBR.o q5R.o HX7.o
end Go.Cm
namespace Go.Cm
open Go.RowKit Go.Proofs
structure RpS(A0:Nat->Prop)(w W:World)(x:Nd)(u:Value)(k:Fo):Prop where
 bel:Below w.heap.size w W
 box:fB W (w.heap.size+1) (tmC ⟨0,0,0,0,0,0,0,0⟩ (.slice none 0 0))
 tb:fB W w.heap.size (tmC x u)
 tm:aM A0 W u k
 sz:w.heap.size+1+1<=W.heap.size
theorem RpS.up{A0:Nat->Prop}{w W W':World}{x:Nd}{u:Value}{k:Fo}(h:RpS A0 w W x u k)(hb:Below W.heap.size W W'):RpS A0 w W' x u k:=
 ⟨h.bel.trans (hb.mono h.bel.size),h.box.up hb,h.tb.up hb,h.tm.up hb,qc h.sz hb.size⟩
theorem RpS.new{A0:Nat->Prop}{w:World}{x:Nd}{u:Value}{k:Fo}(h:aM A0 w u k):RpS A0 w ((w.alloc (.cells (tmA x u) 56)).alloc (.cells tm0 56)) x u k:=by
 have hb1:=aB w (.cells (tmA x u) 56);have hb2:=aB (w.alloc (.cells (tmA x u) 56)) (.cells tm0 56);have hb:=hb1.trans (hb2.mono hb1.size);have hs1:(w.alloc (.cells (tmA x u) 56)).heap.size=w.heap.size+1:=by simp
 have hg:=cM (w.alloc (.cells (tmA x u) 56)) ⟨0,0,0,0,0,0,0,0⟩ (.slice none 0 0);rw[hs1]at hg;exact⟨hb,hg,(cM w x u).up hb2,h.up hb,by simp⟩
structure RpR(A0:Nat->Prop)(w W:World)(t:Tm)(u:Value):Prop where
 bel:Below w.heap.size w W
 box:fB W (w.heap.size+1) (tmC ⟨0,0,0,0,0,0,0,0⟩ (.slice none 0 0))
 tm:aM (upA A0 (w.heap.size+1+1)) W u t.2
theorem RpS.call{A0:Nat->Prop}{w W W':World}{x:Nd}{u u':Value}{k:Fo}{t:Tm}(h:RpS A0 w W x u k)(hT:aM (upA A0 W.heap.size) W' u' t.2)(hb:Below W.heap.size W W'):RpR A0 w W' t u':=
 ⟨(h.up hb).bel,(h.up hb).box,hT.mono fun _b hb=>hb.imp id (qc h.sz)⟩
theorem RpS.own{A0:Nat->Prop}{w W:World}{x:Nd}{u:Value}{k:Fo}(h:RpS A0 w W x u k):RpR A0 w W (x,k) u:=⟨h.bel,h.box,h.tm.mono fun _ hb=>.inl hb⟩
theorem RpS.lit{A0:Nat->Prop}{w W:World}{x y:Nd}{u:Value}{k:Fo}(h:RpS A0 w W x u k)(hA:∀b,A0 b->b<w.heap.size):RpR A0 w (W.alloc (.cells (tmA x u) 56)) (y,.cons x k .nil) (.slice (some ⟨W.heap.size,0,none⟩) 1 1):=
 ⟨(h.up (aB _ _)).bel,(h.up (aB _ _)).box,(q1G h.tm (fun b hb=>qe (hA b hb) h.bel.size)).mono fun _b hb=>hb.imp id (qc h.sz)⟩
theorem RpR.ret{A A0:Nat->Prop}{fn:Func}{tmps:Array Value}{w W W':World}{ds:List Deferred}{s:Nat}{t R:Tm}{z:Nd}{u:Value}(h:RpR A0 w W t u)(hA:∀b,A0 b->A b/\b<w.heap.size)(hg:W.grownBy W' (some (w.heap.size+1)))(hB:fB W' (w.heap.size+1) (tmC z u))(hR:R=(z,t.2))
  (hf:fn.results=#[.cell s 56]) (ha:tmps.getD s undef=.pointer (some ⟨w.heap.size+1,0,none⟩)) (hd:ds=[]):bodyPost prog fn (iC A R w) .ret ⟨tmps,ds⟩ W':=by
 subst hR;exact eZ hf ha hd hA (jc _) h.tm h.bel hg hB
theorem q5w{A:Nat->Prop}{w:World}{x:Nd}{u:Value}{k:Fo}(lo hi:Int)(h:aM A w u k):Calls prog 54 #[.agg (tmA x u),.int .i64 lo,.int .i64 hi] w (iC A (uW (x,k) lo hi) w):=by
 obtain⟨A0,hA0⟩:∃A0,A0=fun b=>A b/\b<w.heap.size:=⟨_,rfl⟩;have h0:=h.lt;rw[<-hA0]at h0;have HA1:Hid (∀b,A0 b->A b/\b<w.heap.size):=qa (fun b hb=>by rw[hA0]at hb;exact hb);obtain⟨o,n,c,rfl,-⟩:=h.form;have HS:=qa (RpS.new (x:=x) h0);have HEM:Hid (∀W,Calls prog 49 #[] W (iC A0 eE W)):=qa (fun W=>D5 A0);have HNO:Hid (∀W,Calls prog 40 #[] W (iC A0 eS W)):=qa (fun W=>K0 A0);have HST:Hid (∀W,aM A0 W (.slice o n c) k->Calls prog 53 #[.agg (tmA x (.slice o n c))] W (iC A0 (iL (x,k)) W)):=qa (fun W hW=>q3x hW);have HDD:Hid (∀W,Calls prog 32 #[.agg (tmA x (.slice o n c))] W fun e w'=>e=.returned (.bool (fA x))/\∃x,w'=ext W x):=qa (fun W=>tU x (.slice o n c));obtain⟨R,hR⟩:∃R,R=uW (x,k) lo hi:=⟨_,rfl⟩;rw[<-hR];unfold uW at hR;simp only at hR;have HR:=qa hR;clear h h0 hA0 hR;generalize hq:fA x=q at*;generalize iL (x,k)=st at*;obtain⟨⟨skd,sn,sa,sb,sc,sd,slo,shi⟩,sk⟩:=st;obtain⟨kd,nn,a,b,c',d,lo',hi'⟩:=x;clear hq;cases q
 all_goals
  go_enter func54,ntmps54
  go_wp2_with(first
   |((with_reducible refine(HDD.o _).mono ?_);rintro e w5 ⟨rfl,hx⟩;have HS:=qa (HS.o.up (aE hx));have c0:=HS.o.tb.cell (i:=0) (show(0:Nat)<8 by decide);simp only[tmC,j9]at c0;clear hx)
   |((with_reducible refine(HEM.o _).mono ?_);rintro e w6 ⟨u6,rfl,hT6,hb⟩;have HC:=qa (HS.o.call (t:=eE) hT6 hb);clear hb hT6)
   |((with_reducible refine(HNO.o _).mono ?_);rintro e w6 ⟨u6,rfl,hT6,hb⟩;have HC:=qa (HS.o.call (t:=eS) hT6 hb);clear hb hT6)
   |((with_reducible refine(HST.o _ HS.o.tm).mono ?_);rintro e w6 ⟨u6,rfl,hT6,hb⟩;have HC:=qa (HS.o.call (t:=(⟨skd,sn,sa,sb,sc,sd,slo,shi⟩,sk)) hT6 hb);clear hb hT6)
   |(refine bY rfl _ rfl w.heap.size rfl kd nn a b c' d lo' hi' (.slice o n c) HS.o.tb ?_)
   |(refine b6 rfl (.tmp 6) (.tmp 49) rfl (w.heap.size+1) rfl ⟨8,1,0,0,0,0,_,_⟩ _ rfl rfl _ (HS.o.lit (y:=noT) (fun b hb=>(HA1.o b hb).2)).box (show(8:Nat)=8 from rfl) ?_;intro w7 hbx hg;have HX7:=qa hbx;have q5R:=qa hg;have HC:=qa (HS.o.lit (y:=noT) (fun b hb=>(HA1.o b hb).2));clear hbx hg)
   |(refine b6 rfl (.tmp 6) (.tmp 27) rfl (w.heap.size+1) rfl ⟨kd,nn,a,b,c',d,lo',hi'⟩ _ rfl rfl _ HS.o.box (show(8:Nat)=8 from rfl) ?_;intro w7 hbx hg;have HX7:=qa hbx;have q5R:=qa hg;have HC:=qa HS.o.own;clear hbx hg)
   |(refine b6 rfl (.tmp 6) _ rfl (w.heap.size+1) rfl _ u6 HC.o.tm.one rfl _ HC.o.box (show(8:Nat)=8 from rfl) ?_;intro w7 hbx hg;have HX7:=qa hbx;have q5R:=qa hg;clear hbx hg))
  all_goals(refine HC.o.ret HA1.o q5R.o HX7.o ?_ rfl rfl rfl;rw[HR.o];simp only[jZ,beq_eq_false_iff_ne]at*;first|(simp[*,one];done)|(simp[*,one];omega)|omega)
theorem q2m{A:Nat->Prop}:∀(n:Nat) {w:World} {x:Nd} {u:Value} {k:Fo},szF k<n->aM A w u k->
  Calls prog 34 #[.agg (tmA x u)] w fun e w'=>e=.returned (.bool (tJ x (mL k)))/\∃x,w'=ext w x:=by
 intro n
 induction n with
 |zero=>intro w x u k h;omega
 |succ n ih=>
  intro w x u k hn h;obtain⟨rs,oa,cap,b,off,rfl,hd,hw⟩:=h.walk;have HIX:=qa (dL hd);have HW:=qa hw;have hm:=hd.len;obtain⟨S,hS⟩:∃S,S=tJ x (mL k):=⟨_,rfl⟩;have HS:=qa hS;rw[<-hS];have HR0:Hid (bC A w (rs.drop 0) k):=qa hw.rows;have IH:Hid (∀(W:World) (y:Nd) (v:Value) (j:Fo),szF j<n->aM A W v j->Calls prog 34 #[.agg (tmA y v)] W fun e w'=>e=.returned (.bool (tJ y (mL j)))/\∃x,w'=ext W x):=qa (fun W y v j hj hT=>ih hj hT);have HP:Hid (szF k<=n):=qa (by omega);generalize cnt k=m at*;rcases hp:mL k with⟨p,q⟩;rw[hp]at HS;have HPQ:=qa hp;clear hd hw h hS ih hp;obtain⟨kd,nn,a,b',c,d,lo,hi⟩:=x;go_enter func34,ntmps34;go_wp2;have HB0:=qa (aB w (.cells (tmA ⟨kd,nn,a,b',c,d,lo,hi⟩ (.slice oa m cap)) 56))
  go_loopg [3,4,11] m (fun gk av sv iv wr=>∃(i:Nat) (al so:Bool) (r:Fo),iv=.int .i64 i/\i<=m/\av=.bool al/\sv=.bool so/\Hid ((al&&(mL r).1)=p/\(so||(mL r).2)=q)/\szF r<=n/\bC A w (rs.drop i) r/\Below (w.heap.size+1) (w.alloc (.cells (tmA ⟨kd,nn,a,b',c,d,lo,hi⟩ (.slice oa m cap)) 56)) wr/\gk=m-i)
  case atStart=>exact⟨0,true,false,k,rfl,qd _,rfl,rfl,qa (by rw[HPQ.o];exact⟨j5 _,Bool.false_or _⟩),HP.o,HR0.o,by simpa using qn _ _,rfl⟩
  case round=>
   obtain⟨i,al,so,r,rfl,hi,rfl,rfl,HV,hsz,hrr,hB,hgk⟩:=hrel;have HB:=qa hB;have HBW:=qa (HB0.o.trans (hB.mono (jc _)));have HGK:=qa hgk;have HRR:=qa hrr;have HSZ:=qa hsz;clear hB hgk hrr HR0 hsz;by_cases hlt:i<m
   ·have q64:=fun W=>HIX.o W i hlt
    obtain⟨y,oj,nj,cj,j,r',hre,ht,hrr,hcc⟩:=HW.o.next HRR.o hlt HBW.o;subst hre;have HCW:=qa hcc;have q5Y:=qa hrr;have HBX:=qa (cM wr y (.slice oj nj cj));have hbn:=aB wr (.cells (tmA y (.slice oj nj cj)) 56);have HBA:=qa (HBW.o.trans (hbn.mono HBW.o.size));have qaZ:=qa (HB.o.trans (hbn.mono (by have:=HB.o.size;simpa using this)));have HNL:=qa (IH.o _ y _ j (by have:=HSZ.o;rw[szF]at this;omega) (ht.up HBA.o));have q66:Hid (szF r'<=n):=qa (by have:=HSZ.o;rw[szF]at this;omega);have HV2:Hid ((al&&(tJ y (mL j)&&(mL r').1))=p/\(so||(tJ y (mL j)||(mL r').2))=q):=HV;clear ht hrr hcc HIX HRR HSZ IH HB HV hbn;generalize tJ y (mL j)=t at*;obtain⟨ykd,yn,ya,yb,yc,yd,ylo,yhi⟩:=y
    go_upto_region 6 with(first
     |(refine cR rfl (.tmp 13) rfl b (off+i*8) rfl ykd yn ya yb yc yd ylo yhi (.slice oj nj cj) HCW.o ?_)
     |(refine bY rfl (.tmp 6) rfl wr.heap.size rfl ykd yn ya yb yc yd ylo yhi (.slice oj nj cj) HBX.o ?_)
     |((with_reducible refine HNL.o.mono ?_);rintro e w5 ⟨rfl,hx⟩;have HB5:=qa (qaZ.o.trans ((aE hx).mono (by have:=qaZ.o.size;simpa using this)));clear hx))
    all_goals(cases al<;>cases so<;>cases t<;>go_wp2<;>go_roundg (m-(i+1)))
    all_goals first
     |(have:=HGK.o;omega)
     |exact⟨i+1,_,_,r',by go_num,by omega,rfl,rfl,qa (by have h1:=HV2.o.1;have h2:=HV2.o.2;simp at h1 h2;simp[h1,h2]),q66.o,q5Y.o,HB5.o,rfl⟩
   have hr0:=HRR.o.done (by rw[HW.o.len];omega);subst hr0;obtain⟨h1,h2⟩:=HV.o;have e1:al=p:=by simpa[mL]using h1
   have e2:so=q:=by simpa[mL]using h2
   subst e1;subst e2;clear h1 h2;have HC0:Hid (wr.cell? ⟨w.heap.size,0,none⟩=some (.int .i64 kd)):=qa (by rw[HB.o.cell (p:=⟨w.heap.size,0,none⟩) (qU _),World.cell?_alloc_new];rfl);have HC5:Hid (wr.cell? ⟨w.heap.size,5,none⟩=some (.int .i64 lo)):=qa (by rw[HB.o.cell (p:=⟨w.heap.size,5,none⟩) (qU _),World.cell?_alloc_new];rfl);have c0:=HC0.o;have c5:=HC5.o;unfold tJ at HS;simp only at HS;cases al<;>go_wp2
   all_goals(go_ret;refine⟨qZ (fun b=>Ending.returned (Value.bool b)) ?_,aF HBW.o⟩;rw[HS.o];simp only[jZ,beq_eq_false_iff_ne]at*;first|(simp[*];done)|(simp[*];rw[jj];simp))
end Go.Cm
namespace Go.Cm
open Go.RowKit Go.Proofs
theorem cU.okT{f:Fo}(h:cU f):gT OkT f:=(eW f).2 fun x hx=>((eW f).1 h.1 x hx).1
theorem aM.tail{A:Nat->Prop}{w:World}{oa:Option Addr}{n cap:Nat}{x:Nd}{k r:Fo}(h:aM A w (.slice oa n cap) (.cons x k r)):
  ∃o c,(∀W:World,(Instr.sliceAt 51 (.slice oa n cap) (some (.int .i64 1)) none none).run prog W=.ok (.slice o (cnt r) c) W)/\aM A w (.slice o (cnt r) c) r:=by
 obtain⟨rs,⟨oa',cap',b,off,e,hd,hc⟩,hin,hr⟩:=h;have hl:=hr.len;rw[show cnt (.cons x k r)=cnt r+1 from rfl]at hl;injection e with e1 e2 e3;subst e1;subst e3;have hn:n=cnt r+1:=by omega
 subst hn;rw[<-e2]at hd hc;obtain⟨h1,h2⟩:=mS (P:=prog) 51 56 (k:=8) underlying51 (by kernel_rfl);have hcap:=hd.hcap;obtain⟨u,ks,rest,er,⟨hs1,hs2⟩,hk,hrr⟩:=hr;have hrl:=hrr.len;refine⟨if cap=1 then oa else oa.map (·.add (1*8)),cap-1,fun W=>?_,rest,?_,?_,hrr⟩
 ·rw[run_sliceAt_slice (P:=prog) (t:=51) (h:=h1),show((1:Int))=((1:Nat):Int)from rfl,run_slice_l (t:=51) (ht:=h1) (h0:=by omega) (h1:=by omega),h2]
  simp[Result.andThen,sliced]
 ·refine⟨if cap=1 then oa else oa.map (·.add (1*8)),cap-1,b,off+8,by rw[hrl],⟨fun h0=>?_,by rw[hrl];omega,by have:=hd.hmax;omega,by have:=hd.hsml;rw[hrl];omega,fun _=>hd.hblk (by omega)⟩,fun i hi q hq=>?_⟩
  ·rw[hrl]at h0
   rw[qu (by omega),hd.hat (by omega)];simp[gH]
  have h3:=hc (i+1) (by omega) q hq;rw[jL,Nat.one_mul]at h3;rw[show off+8+i*8+q=off+(i*8+8)+q by omega,h3,er]
  rfl
 intro b' off' o' n' cap' e4 hn';injection e4 with e5 e6 e7;by_cases hc1:cap=1
 ·rw[qv hc1]at e5
  omega
 rw[qu hc1,hd.hat (by omega)]at e5;simp only[jN,jA]at e5;rw[gH]at e5;injection e5 with e8;rw[<-e8];exact hin b off none (cnt r+1) cap (by rw[hd.hat (by omega)]) (by omega)
abbrev UA(A0:Nat->Prop)(g0:Nat)(gb:Option Nat):Nat->Prop:=fun b=>(A0 b\/g0+1<=b)/\gb≠some b
structure RwS(w1 W:World)(g0:Nat)(gb:Option Nat):Prop where
 bel:Below w1.heap.size w1 W
 box:fB W g0 (tmC ⟨0,0,0,0,0,0,0,0⟩ (.slice none 0 0))
 sz:g0+1<=w1.heap.size
 gb:∀q,gb=some q->w1.heap.size<=q/\q<W.heap.size/\fB W q (tmC ⟨0,0,0,0,0,0,0,0⟩ (.slice none 0 0))
section
variable {A0 : Nat → Prop} {w1 W W' : World} {g0 : Nat} {gb : Option Nat} {u : Value} {f : Fo}
theorem RwS.up(h:RwS w1 W g0 gb)(hb:Below W.heap.size W W'):RwS w1 W' g0 gb:=
 ⟨h.bel.trans (hb.mono h.bel.size),h.box.up hb,h.sz,fun q e=>by obtain⟨a,b,c⟩:=h.gb q e;exact⟨a,qe b hb.size,c.up hb⟩⟩
theorem RwS.alloc(h:RwS w1 W g0 none):RwS w1 (W.alloc (.cells tm0 56)) g0 (some W.heap.size):=by
 have hb:=aB W (.cells tm0 56);refine⟨h.bel.trans (hb.mono h.bel.size),h.box.up hb,h.sz,fun q e=>?_⟩;injection e with e;subst e;exact⟨h.bel.size,by simp,cM W ⟨0,0,0,0,0,0,0,0⟩ (.slice none 0 0)⟩
theorem RwS.res(h:RwS w1 W g0 gb)(ht:aM (upA (UA A0 g0 gb) W.heap.size) W' u f):aM (UA A0 g0 gb) W' u f:=
 ht.mono fun b hb=>hb.elim id fun hb=>⟨.inr (qc (qc h.sz h.bel.size) hb),fun e=>by have:=(h.gb b e).2.1;omega⟩
theorem RwS.old(h:RwS w1 W g0 gb)(hA:∀b,A0 b->b<w1.heap.size)(ht:aM A0 w1 u f):aM (UA A0 g0 gb) W u f:=
 (ht.up h.bel).mono fun b hb=>⟨.inl hb,fun e=>by have h1:=(h.gb b e).1;have h2:=hA b hb;omega⟩
theorem UA.alloc{o:Obj}(h:aM (UA A0 g0 none) W u f):aM (UA A0 g0 (some W.heap.size)) (W.alloc o) u f:=
 ((h.lt).up (aB _ _)).mono fun b hb=>⟨hb.1.1,fun e=>by injection e with e;have:=hb.2;omega⟩
theorem RwS.two(h:RwS w1 W g0 gb){x y:Nd}{v:Value}{j:Fo}(h1:aM (UA A0 g0 gb) W u f)(h2:aM (UA A0 g0 gb) W v j):
  aM (UA A0 g0 gb) (W.alloc (.cells (tmA x u++tmA y v) 56)) (.slice (some ⟨W.heap.size,0,none⟩) 2 2) (.cons x f (.cons y j .nil)):=by
 have hb:=aB W (.cells (tmA x u++tmA y v) 56);obtain⟨r1,a1,a2,a3⟩:=h1.up hb;obtain⟨r2,b1,b2,b3⟩:=h2.up hb;refine⟨[tmC x u,tmC y v],oI 8 W (tmA x u++tmA y v) 56 [tmC x u,tmC y v] rfl (by intro z hz;simp only[jK,List.not_mem_nil,or_false]at hz;rcases hz with rfl|rfl<;>rfl) (show(2:Nat)<=4294967296 by decide),?_,u,r1,[tmC y v],rfl,⟨a1,a2⟩,a3,v,r2,[],rfl,⟨b1,b2⟩,b3,rfl⟩;intro b off o n cap e hn;injection e with e;injection e with e;injection e with e;subst e;exact⟨.inr (qc h.sz h.bel.size),fun e=>by have:=(h.gb _ e).2.1;omega⟩
theorem xK{gb':Nat}{z:Nd}(h:RwS w1 W g0 (some gb'))(ht:aM (UA A0 g0 (some gb')) W u f)(hg:W.grownBy W' (some gb'))(_hx:fB W' gb' (tmC z u)):
  Below w1.heap.size w1 W'/\aM (UA A0 g0 (some gb')) W' u f/\fB W' g0 (tmC ⟨0,0,0,0,0,0,0,0⟩ (.slice none 0 0))/\Below w1.heap.size w1 W':=by
 obtain⟨h1,h2,h3⟩:=h.gb gb' rfl;have hb:=h.bel.grown hg h.bel.size (by rintro k ⟨⟩;exact h1);refine⟨hb,ht.keep hg.size (fun b hb hlt=>hg.block b hlt (fun e=>hb.2 e.symm)),h.box.keep hg (.inr (fun e=>?_)),hb⟩;have:=h.sz;have:=qp (show some g0=some gb' from e);omega
theorem pE{P:Program}{C:World->Prop}{o:Oper}{a:Act}{K:Act->Prop}(t:TypeId)(x:Operand)(lo hi mx:Option Operand)(ho:o.op=.slice t x lo hi mx)(v:Value)(hr:∀w',C w'->(Instr.sliceAt t (a.eval x) (lo.map a.eval) (hi.map a.eval) (mx.map a.eval)).run P w'=.ok v w')(h:K (a.put o.dst v)):o.quiet P a C K:=by
 refine⟨v,fun w' hw'=>?_,h⟩;unfold Oper.quietAt execOp;simp only[ho,Sem.run_bind,Sem.run_pure,Result.andThen_ok,hr w' hw',Oper.quietUpon];exact⟨trivial,trivial⟩
end
end Go.Cm
namespace Go.Cm
open Go.RowKit Go.Proofs
def q5f(c N:Nat):Prop:=∀(A:Nat->Prop) (W:World) (y:Nd) (v:Value) (j:Fo),1+szF j<=N->gZ (y,j)->aM A W v j->Calls prog 31 #[.agg (tmA y v),.int .u8 (c:Int)] W (iC A (iB c y j (cV c j)) W)
theorem q3y(c N:Nat)(hby:q5f c N)(hN:N<=400):∀(k:Fo) {A:Nat->Prop} {w:World} {v:Value},szF k<=N->cU k->aM A w v k->Calls prog 50 #[v,.int .u8 (c:Int)] w (iC A (tL k (cV c k)) w)
 |.nil,A,w,v,_,_,h=>by
  obtain⟨rs,oa,cap,b,off,rfl,-,-⟩:=h.walk;obtain⟨A0,hA0⟩:∃A0,A0=fun b=>A b/\b<w.heap.size:=⟨_,rfl⟩;have HA1:Hid (∀b,A0 b->A b/\b<w.heap.size):=qa (fun b hb=>by rw[hA0]at hb;exact hb);have HB1:=qa (aB w (.cells tm0 56));have HG1:=qa (cM w ⟨0,0,0,0,0,0,0,0⟩ (.slice none 0 0));have HS1:Hid (w.heap.size+1<=(w.alloc (.cells tm0 56)).heap.size):=qa (by simp);have HNO:Hid (∀W,Calls prog 40 #[] W (iC A0 eS W)):=qa (fun W=>K0 A0);simp only[cnt];clear h hA0;go_enter func50,ntmps50
  go_wp2_with(first
   |((with_reducible refine(HNO.o _).mono ?_);rintro e w6 ⟨u6,rfl,hT6,hb⟩;have HB6:=qa (HB1.o.trans (hb.mono HB1.o.size));have HG6:=qa (HG1.o.up hb);have HT6:Hid (aM (upA A0 (w.heap.size+1)) w6 u6 .nil):=qa (hT6.mono (fun b hb=>hb.imp id (qc HS1.o)));clear hb hT6)
   |(refine b6 rfl (.tmp 4) (.tmp 9) rfl w.heap.size rfl noT u6 HT6.o.one rfl _ HG6.o (show(8:Nat)=8 from rfl) ?_;intro w7 hbx hg;have HX7:=qa hbx;have q5R:=qa hg;clear hbx hg))
  exact eZ rfl rfl rfl HA1.o (qb _) HT6.o HB6.o q5R.o HX7.o
 |.cons x k r,A,w,v,hs,hg,h=>by
  have q6I:=qa (fun(A':Nat->Prop) (W:World) (v':Value) (hT:aM A' W v' r)=>q3y c N hby hN r (by rw[szF]at hs;omega) (bF hg).2 hT);obtain⟨A0,hA0⟩:∃A0,A0=fun b=>A b/\b<w.heap.size:=⟨_,rfl⟩;have h0:=h.lt;rw[<-hA0]at h0;have HA1:Hid (∀b,A0 b->A b/\b<w.heap.size):=qa (fun b hb=>by rw[hA0]at hb;exact hb);obtain⟨rs,oa,cap,b,off,rfl,hd,hw⟩:=h0.walk;obtain⟨o1,c1,hsl,htl⟩:=h0.tail;obtain⟨y,oj,nj,cj,j,r',hre,ht,-,hcc⟩:=hw.next (i:=0) hw.rows (Nat.succ_pos _) (qn _ _);injection hre with e1 e2 e3;subst e1;subst e2;have HJ:Hid (cnt (.cons x k r)=cnt r+1):=qa rfl;rw[HJ.o]at hd hw hsl h h0⊢;have hm:=hd.len;have hgt:=bF hg;have q7C:1+szF k+szF r<=400:=by rw[szF]at hs;omega
  have HTJ:=qa ht;have HTR:=qa htl;have HCW:Hid (∀q,q<8->w.cell? ⟨b,off+q,none⟩=some ((tmA x (.slice oj nj cj)).getD q undef)):=qa (by simpa using hcc);have HBK:=qa (hd.hblk (Nat.succ_pos _));have q6Q:∀W,(Instr.indexAt 51 (.slice oa (cnt r+1) cap) (.int .i64 0)).run prog W=.ok (.pointer (some ⟨b,off,none⟩)) W:=fun W=>by simpa using dL hd W 0 (Nat.succ_pos _)
  obtain⟨R,hR⟩:∃R,R=tL (.cons x k r) (cV c (.cons x k r)):=⟨_,rfl⟩;rw[<-hR];have gd:=nH (c:=c) hgt.1.1 hgt.1.2.2 (dZ c k hgt.1.2.2);have gr:=rA r (cV c r) hgt.2 (dZ c r hgt.2);have gc:=i6 hgt.2;have ge:=i6 (cH gd (cH gc eF));have sd:=sC c x k (by omega);have sc:=tO r;have se:=tO (one (iB c x k (cV c k)) (one (iH r) .nil));have sr:=Q8 r (cV c r);have sq:=Q9 c r (by omega);rw[gC,gC,szF]at se;have hcr:=tN r;have qbk:cnt r*(szF r+4)<=400*404:=Nat.mul_le_mul (by omega) (by omega);have HNL:=qa (fun(A':Nat->Prop) (W:World) (hT:aM A' W (.slice oj nj cj) k)=>q2m (A:=A') 401 (w:=W) (x:=x) (by omega) hT);have HBY:=qa (fun(A':Nat->Prop) (W:World) (hT:aM A' W (.slice oj nj cj) k)=>hby A' W x (.slice oj nj cj) k (by rw[szF]at hs;omega) hgt.1 hT);have HCR:=qa (fun(A':Nat->Prop) (W:World) (hT:aM A' W (.slice o1 (cnt r) c1) r)=>q4E hT (by omega));have HCC:=qa (fun(A':Nat->Prop) (W:World) (v':Value) (hT:aM A' W v' (one (iB c x k (cV c k)) (one (iH r) .nil)))=>q4E hT (by rw[gC,gC,szF];omega));have HAL:=qa (fun(A':Nat->Prop) (W:World) (v':Value) (hT:aM A' W v' (one (iH (one (iB c x k (cV c k)) (one (iH r) .nil))) (one (tL r (cV c r)) .nil)))=>q5e hT (cH ge (cH gr eF)).okT (by rw[gC,gC,szF];omega));have HR:Hid (R=if tJ x (mL k)=true then J3 (one (iH (one (iB c x k (cV c k)) (one (iH r) .nil))) (one (tL r (cV c r)) .nil))else iH (one (iB c x k (cV c k)) (one (iH r) .nil))):=qa hR;generalize J3 (one (iH (one (iB c x k (cV c k)) (one (iH r) .nil))) (one (tL r (cV c r)) .nil))=at4 at*;generalize iH (one (iB c x k (cV c k)) (one (iH r) .nil))=ct3 at*;generalize iB c x k (cV c k)=d1 at*;generalize iH r=c2 at*;generalize tL r (cV c r)=t2 at*;generalize tJ x (mL k)=nb at*;obtain⟨⟨dk,dn,da,db,dc,dd,dl,dh⟩,df⟩:=d1;obtain⟨⟨ek,en,ea,eb,ec,ed,el,eh⟩,ef⟩:=c2;obtain⟨⟨fk,fn,fa,fb,fc,fd,fl,fh⟩,ff⟩:=ct3;obtain⟨⟨tk,tn,ta,tb,tc,td,tl,th⟩,tf⟩:=t2;obtain⟨⟨ak,an,aa,ab,ac,ad,al,ah⟩,af⟩:=at4;generalize cnt r=n at*;have HSL:=qa hsl;have hb1:=aB w (.cells tm0 56);have HB1:=qa hb1;have HS1:Hid (RwS ((w.alloc (.cells tm0 56)).drew) ((w.alloc (.cells tm0 56)).drew) w.heap.size none):=qa ⟨qn _ _,(cM w ⟨0,0,0,0,0,0,0,0⟩ (.slice none 0 0)).up (fR (qn _ _)),by show w.heap.size+1<=(w.alloc (.cells tm0 56)).heap.size;simp,fun q e=>by cases e⟩;clear h h0 hd hw hcc ht htl hgt q7C gd gr gc ge sd sc se sr sq hcr qbk hR hA0 e3 HJ hb1 hs hg;have q0:(((n:Int)+1)==0)=false:=by simp;omega
  obtain⟨kd,nn,a,b',c',d,lo,hi⟩:=x;go_enter func50,ntmps50
  go_upto_region 3 with(fail)
  have HAW:Hid (∀b,A0 b->b<(w.alloc (.cells tm0 56)).drew.heap.size):=qa (fun b hb=>by have h1:=(HA1.o b hb).2;have h2:=HB1.o.size;show b<(w.alloc (.cells tm0 56)).heap.size;omega);have HBD:Hid (Below w.heap.size w (w.alloc (.cells tm0 56)).drew):=qa (fR HB1.o);have HTJ:=qa (HTJ.o.up HBD.o);have HTR:=qa (HTR.o.up HBD.o)
  go_cut [5] (fun x5 wx=>∃(gb:Nat) (u3:Value),x5=.pointer (some ⟨gb,0,none⟩)/\w.heap.size<gb/\fB wx gb (tmC ⟨fk,fn,fa,fb,fc,fd,fl,fh⟩ u3)/\aM (UA A0 w.heap.size (some gb)) wx u3 ff/\fB wx w.heap.size (tmC ⟨0,0,0,0,0,0,0,0⟩ (.slice none 0 0))/\Below (w.alloc (.cells tm0 56)).drew.heap.size (w.alloc (.cells tm0 56)).drew wx)
  case first=>
   refine fD (C:=fun w'=>∃x,w'=ext (w.alloc (.cells tm0 56)).drew x) (.q 0 (.q 1 (.q 2 (.q 3 (.q 5 (.q 6 (.br 4 (.br 7 (.br 8 (.br 9 (.br 10 (.br 11 .done .no) .no) (.br 10 (.br 9 (.br 11 .done .no) .no) .no)) (.br 10 (.br 8 (.br 9 (.br 11 .done .no) .no) .no) .no)) (.br 10 (.br 7 (.br 8 (.br 9 (.br 11 .done .no) .no) .no) .no) .no)) (.br 10 (.br 4 (.br 7 (.br 8 (.br 9 (.br 11 .done .no) .no) .no) .no) .no) .no)))))))) (by kernel_rfl) (by kernel_rfl) (aF (qn _ _)) ?_;generalize (w.alloc (.cells tm0 56)).drew=w1 at*
   repeat((unfold aN;simp only[pk]);first
    |(go_big_quiet_want;(with_reducible show Oper.quiet _ (Oper.mk _ (.slice _ _ _ _ _) _ _ _ _) _ _ _);refine pE 51 (.tmp 15) (some _) none none rfl (.slice o1 n c1) (fun w' _=>HSL.o w') ?_;go_simp;go_big_quiet_on;refine wpQuiet_nil ?_)
    |(go_big_quiet_want;refine bP 56 8 _ rfl b off rfl (tmA ⟨kd,nn,a,b',c',d,lo,hi⟩ (.slice oj nj cj)) rfl (fun w' hw' q hq=>by obtain⟨y,rfl⟩:=hw';rw[(aC w1 y).cell (p:=⟨b,off+q,none⟩) (qe HBK.o HBD.o.size),HBD.o.cell (p:=⟨b,off+q,none⟩) HBK.o];exact HCW.o q hq) _ underlying56 rfl (by kernel_rfl) ?_;go_simp;go_big_quiet_on;refine wpQuiet_nil ?_)
    |(go_big_quiet_step (fail);refine wpQuiet_nil ?_))
   have HS:=HS1
   (unfold aN;simp only[pk])
   refine⟨?_,?_⟩
   ·unfold aD
    go_wp2_with(first|((with_reducible refine(HBY.o _ _ (HS.o.old HAW.o HTJ.o)).mono ?_);rintro e w4 ⟨u1,rfl,hT,hb⟩;have HD1:=qa (HS.o.res hT);have HS:=qa (HS.o.up hb);clear hT hb))
    refine⟨aF HS.o.bel,?_⟩;unfold aD
    (unfold aN;simp only[pk])
    refine⟨?_,?_⟩
    ·unfold aD
     go_wp2_with(first|((with_reducible refine(HCR.o _ _ (HS.o.old HAW.o HTR.o)).mono ?_);rintro e w5 ⟨u2,rfl,hT,hb⟩;have HD2:=qa (HS.o.res hT);have HD1:=qa (HD1.o.up hb);have HS:=qa (HS.o.up hb);clear hT hb))
     refine⟨aF HS.o.bel,?_⟩;unfold aD
     (unfold aN;simp only[pk])
     refine⟨?_,?_⟩
     ·unfold aD
      obtain⟨p1,n1,q1,hu1,-⟩:=HD1.o.form;obtain⟨p2,n2,q2,hu2,-⟩:=HD2.o.form;subst hu1;subst hu2;have HTW:Hid (aM (UA A0 w.heap.size none) (w5.alloc (.cells #[.int .i64 dk,.int .u64 da,.int .u64 db,.int .u64 dc,.int .u64 dd,.int .i64 dl,.int .i64 dh,.slice p1 n1 q1,.int .i64 ek,.int .u64 ea,.int .u64 eb,.int .u64 ec,.int .u64 ed,.int .i64 el,.int .i64 eh,.slice p2 n2 q2] 56)) (.slice (some ⟨w5.heap.size,0,none⟩) 2 2) (one (⟨dk,dn,da,db,dc,dd,dl,dh⟩,df) (one (⟨ek,en,ea,eb,ec,ed,el,eh⟩,ef) .nil))):=qa (HS.o.two (x:=⟨dk,dn,da,db,dc,dd,dl,dh⟩) (y:=⟨ek,en,ea,eb,ec,ed,el,eh⟩) HD1.o HD2.o);have HS:Hid (RwS w1 (w5.alloc (.cells #[.int .i64 dk,.int .u64 da,.int .u64 db,.int .u64 dc,.int .u64 dd,.int .i64 dl,.int .i64 dh,.slice p1 n1 q1,.int .i64 ek,.int .u64 ea,.int .u64 eb,.int .u64 ec,.int .u64 ed,.int .i64 el,.int .i64 eh,.slice p2 n2 q2] 56)) w.heap.size none):=qa (HS.o.up (aB _ _));go_wp2;refine⟨aF HS.o.bel,?_⟩;generalize w5.alloc (.cells #[.int .i64 dk,.int .u64 da,.int .u64 db,.int .u64 dc,.int .u64 dd,.int .i64 dl,.int .i64 dh,.slice p1 n1 q1,.int .i64 ek,.int .u64 ea,.int .u64 eb,.int .u64 ec,.int .u64 ed,.int .i64 el,.int .i64 eh,.slice p2 n2 q2] 56)=w8 at*;unfold aD
      (unfold aN;simp only[pk])
      refine⟨?_,?_⟩
      ·unfold aD
       go_wp2_with(first|((with_reducible refine(HCC.o _ _ _ HTW.o).mono ?_);rintro e w6 ⟨u3,rfl,hT,hb⟩;have HE:=qa (HS.o.res hT);have HS:=qa (HS.o.up hb);clear hT hb))
       refine⟨aF HS.o.bel,?_⟩;unfold aD
       (unfold aN;simp only[pk])
       refine⟨?_,by exact True.intro⟩;unfold aD;have HS:Hid (RwS w1 (w6.alloc (.cells #[.int .i64 0,.int .u64 0,.int .u64 0,.int .u64 0,.int .u64 0,.int .i64 0,.int .i64 0,.slice none 0 0] 56)) w.heap.size (some w6.heap.size)):=qa HS.o.alloc;have HE:=qa (UA.alloc (o:=.cells #[.int .i64 0,.int .u64 0,.int .u64 0,.int .u64 0,.int .u64 0,.int .i64 0,.int .i64 0,.slice none 0 0] 56) HE.o);have HGL:Hid (w.heap.size<w6.heap.size):=qa (by have h1:=(HS.o.gb _ rfl).1;have h2:=HS.o.sz;omega);go_wp2;refine⟨aF HS.o.bel,?_⟩;generalize w6.alloc (.cells #[.int .i64 0,.int .u64 0,.int .u64 0,.int .u64 0,.int .u64 0,.int .i64 0,.int .i64 0,.slice none 0 0] 56)=w7 at*;obtain⟨gb,hgb⟩:∃gb,gb=w6.heap.size:=⟨_,rfl⟩;rw[<-hgb]at HS HGL HE⊢;clear hgb;unfold aD
       (unfold aN;simp only[pk])
       refine⟨?_,by exact True.intro⟩;unfold aD
       go_wp2_with(first|(refine b6 rfl (.tmp 5) (.tmp 19) rfl gb rfl ⟨fk,fn,fa,fb,fc,fd,fl,fh⟩ u3 HE.o.one rfl _ (HS.o.gb gb rfl).2.2 (show(8:Nat)=8 from rfl) ?_;intro w9 hbx hg;have HX9:=qa hbx;have HG9:=qa hg;clear hbx hg))
       have hend:=xK HS.o HE.o HG9.o HX9.o;refine⟨aF hend.1,?_⟩;unfold aD;unfold aN;intro hz1 hz2;go_wp2
       go_meet
       case rel=>exact⟨gb,u3,rfl,HGL.o,HX9.o,hend.2.1,hend.2.2.1,hend.2.2.2⟩
      (unfold aN;simp only[pk])
      refine⟨?_,by exact True.intro⟩;unfold aD;have HS:Hid (RwS w1 (w8.alloc (.cells #[.int .i64 0,.int .u64 0,.int .u64 0,.int .u64 0,.int .u64 0,.int .i64 0,.int .i64 0,.slice none 0 0] 56)) w.heap.size (some w8.heap.size)):=qa HS.o.alloc;have HTW:=qa (UA.alloc (o:=.cells #[.int .i64 0,.int .u64 0,.int .u64 0,.int .u64 0,.int .u64 0,.int .i64 0,.int .i64 0,.slice none 0 0] 56) HTW.o);have HGL:Hid (w.heap.size<w8.heap.size):=qa (by have h1:=(HS.o.gb _ rfl).1;have h2:=HS.o.sz;omega);go_wp2;refine⟨aF HS.o.bel,?_⟩;generalize w8.alloc (.cells #[.int .i64 0,.int .u64 0,.int .u64 0,.int .u64 0,.int .u64 0,.int .i64 0,.int .i64 0,.slice none 0 0] 56)=w7 at*;obtain⟨gb,hgb⟩:∃gb,gb=w8.heap.size:=⟨_,rfl⟩;rw[<-hgb]at HS HGL HTW⊢;clear hgb;unfold aD
      exact ZmL1
     (unfold aN;simp only[pk])
     refine⟨?_,by exact True.intro⟩;unfold aD;have HS:Hid (RwS w1 (w5.alloc (.cells #[.int .i64 0,.int .u64 0,.int .u64 0,.int .u64 0,.int .u64 0,.int .i64 0,.int .i64 0,.slice none 0 0] 56)) w.heap.size (some w5.heap.size)):=qa HS.o.alloc;have HD1:=qa (UA.alloc (o:=.cells #[.int .i64 0,.int .u64 0,.int .u64 0,.int .u64 0,.int .u64 0,.int .i64 0,.int .i64 0,.slice none 0 0] 56) HD1.o);have HD2:=qa (UA.alloc (o:=.cells #[.int .i64 0,.int .u64 0,.int .u64 0,.int .u64 0,.int .u64 0,.int .i64 0,.int .i64 0,.slice none 0 0] 56) HD2.o);have HGL:Hid (w.heap.size<w5.heap.size):=qa (by have h1:=(HS.o.gb _ rfl).1;have h2:=HS.o.sz;omega);go_wp2;refine⟨aF HS.o.bel,?_⟩;generalize w5.alloc (.cells #[.int .i64 0,.int .u64 0,.int .u64 0,.int .u64 0,.int .u64 0,.int .i64 0,.int .i64 0,.slice none 0 0] 56)=w7 at*;obtain⟨gb,hgb⟩:∃gb,gb=w5.heap.size:=⟨_,rfl⟩;rw[<-hgb]at HS HGL HD1 HD2⊢;clear hgb;unfold aD
     (unfold aN;simp only[pk])
     refine⟨?_,by exact True.intro⟩;unfold aD;obtain⟨p1,n1,q1,hu1,-⟩:=HD1.o.form;obtain⟨p2,n2,q2,hu2,-⟩:=HD2.o.form;subst hu1;subst hu2;have HTW:Hid (aM (UA A0 w.heap.size (some gb)) (w7.alloc (.cells #[.int .i64 dk,.int .u64 da,.int .u64 db,.int .u64 dc,.int .u64 dd,.int .i64 dl,.int .i64 dh,.slice p1 n1 q1,.int .i64 ek,.int .u64 ea,.int .u64 eb,.int .u64 ec,.int .u64 ed,.int .i64 el,.int .i64 eh,.slice p2 n2 q2] 56)) (.slice (some ⟨w7.heap.size,0,none⟩) 2 2) (one (⟨dk,dn,da,db,dc,dd,dl,dh⟩,df) (one (⟨ek,en,ea,eb,ec,ed,el,eh⟩,ef) .nil))):=qa (HS.o.two (x:=⟨dk,dn,da,db,dc,dd,dl,dh⟩) (y:=⟨ek,en,ea,eb,ec,ed,el,eh⟩) HD1.o HD2.o);have HS:Hid (RwS w1 (w7.alloc (.cells #[.int .i64 dk,.int .u64 da,.int .u64 db,.int .u64 dc,.int .u64 dd,.int .i64 dl,.int .i64 dh,.slice p1 n1 q1,.int .i64 ek,.int .u64 ea,.int .u64 eb,.int .u64 ec,.int .u64 ed,.int .i64 el,.int .i64 eh,.slice p2 n2 q2] 56)) w.heap.size (some gb)):=qa (HS.o.up (aB _ _));go_wp2;refine⟨aF HS.o.bel,?_⟩;generalize w7.alloc (.cells #[.int .i64 dk,.int .u64 da,.int .u64 db,.int .u64 dc,.int .u64 dd,.int .i64 dl,.int .i64 dh,.slice p1 n1 q1,.int .i64 ek,.int .u64 ea,.int .u64 eb,.int .u64 ec,.int .u64 ed,.int .i64 el,.int .i64 eh,.slice p2 n2 q2] 56)=w8 at*;unfold aD
     exact ZmL1
    (unfold aN;simp only[pk])
    refine⟨?_,by exact True.intro⟩;unfold aD;have HS:Hid (RwS w1 (w4.alloc (.cells #[.int .i64 0,.int .u64 0,.int .u64 0,.int .u64 0,.int .u64 0,.int .i64 0,.int .i64 0,.slice none 0 0] 56)) w.heap.size (some w4.heap.size)):=qa HS.o.alloc;have HD1:=qa (UA.alloc (o:=.cells #[.int .i64 0,.int .u64 0,.int .u64 0,.int .u64 0,.int .u64 0,.int .i64 0,.int .i64 0,.slice none 0 0] 56) HD1.o);have HGL:Hid (w.heap.size<w4.heap.size):=qa (by have h1:=(HS.o.gb _ rfl).1;have h2:=HS.o.sz;omega);go_wp2;refine⟨aF HS.o.bel,?_⟩;generalize w4.alloc (.cells #[.int .i64 0,.int .u64 0,.int .u64 0,.int .u64 0,.int .u64 0,.int .i64 0,.int .i64 0,.slice none 0 0] 56)=w7 at*;obtain⟨gb,hgb⟩:∃gb,gb=w4.heap.size:=⟨_,rfl⟩;rw[<-hgb]at HS HGL HD1⊢;clear hgb;unfold aD
    exact ZmL0
   (unfold aN;simp only[pk])
   refine⟨?_,by exact True.intro⟩;unfold aD;have HS:Hid (RwS w1 (w1.alloc (.cells #[.int .i64 0,.int .u64 0,.int .u64 0,.int .u64 0,.int .u64 0,.int .i64 0,.int .i64 0,.slice none 0 0] 56)) w.heap.size (some w1.heap.size)):=qa HS.o.alloc;have HGL:Hid (w.heap.size<w1.heap.size):=qa (by have h1:=(HS.o.gb _ rfl).1;have h2:=HS.o.sz;omega);go_wp2;refine⟨aF HS.o.bel,?_⟩;generalize w1.alloc (.cells #[.int .i64 0,.int .u64 0,.int .u64 0,.int .u64 0,.int .u64 0,.int .i64 0,.int .i64 0,.slice none 0 0] 56)=w7 at*;obtain⟨gb,hgb⟩:∃gb,gb=w1.heap.size:=⟨_,rfl⟩;rw[<-hgb]at HS HGL⊢;clear hgb;unfold aD
   (unfold aN;simp only[pk])
   refine⟨?_,by exact True.intro⟩;unfold aD
   go_wp2_with(first|((with_reducible refine(HBY.o _ _ (HS.o.old HAW.o HTJ.o)).mono ?_);rintro e w4 ⟨u1,rfl,hT,hb⟩;have HD1:=qa (HS.o.res hT);have HS:=qa (HS.o.up hb);clear hT hb))
   refine⟨aF HS.o.bel,?_⟩;unfold aD
   exact ZmL0
  case rest=>
   obtain⟨gb,u3,hx5,hgl,hbx,hT,qag,hbl⟩:=hcut;subst hx5;have HX:=qa hbx;have HE:Hid (aM (UA A0 w.heap.size none) wc u3 ff):=qa (hT.mono fun b hb=>⟨hb.1,fun e=>by cases e⟩);have qbX:Hid (w.heap.size+1<=(w.alloc (.cells tm0 56)).drew.heap.size):=qa (by show w.heap.size+1<=(w.alloc (.cells tm0 56)).heap.size;simp);have HS:Hid (RwS (w.alloc (.cells tm0 56)).drew wc w.heap.size none):=qa ⟨hbl,qag,qbX.o,fun q e=>by cases e⟩;have HBC:=qa (HBD.o.trans (hbl.mono HBD.o.size));have q9c:=qa (HTJ.o.up hbl);have qav:=qa (HTR.o.up hbl);have q9u:Hid (∀q,q<8->wc.cell? ⟨b,off+q,none⟩=some ((tmA ⟨kd,nn,a,b',c',d,lo,hi⟩ (.slice oj nj cj)).getD q undef)):=qa (fun q hq=>by rw[HBC.o.cell (p:=⟨b,off+q,none⟩) HBK.o];exact HCW.o q hq);have HGT:Hid (w.heap.size<gb):=qa hgl;clear hbx hT qag hbl hgl HBY HCR HCC HS1 HTJ HTR;obtain⟨o3,n3,c3,hu3,-⟩:=HE.o.form;subst hu3;cases nb
   ·have HRF:Hid (R=(⟨fk,fn,fa,fb,fc,fd,fl,fh⟩,ff)):=qa (by rw[HR.o];rfl)
    clear HR HAL q6I
    go_wp2_with(first
     |(refine cR rfl (.tmp 21) rfl b off rfl kd nn a b' c' d lo hi (.slice oj nj cj) q9u.o ?_)
     |((with_reducible refine(HNL.o _ _ q9c.o).mono ?_);rintro e w5 ⟨rfl,hx⟩;have HS5:=qa (HS.o.up (aE hx));have HX5:=qa (HX.o.up (aE hx));have HE5:=qa (HE.o.up (aE hx));have HB5:=qa (HBC.o.trans ((aE hx).mono HBC.o.size));clear hx)
     |(refine bY rfl (.tmp 5) rfl gb rfl fk fn fa fb fc fd fl fh (.slice o3 n3 c3) HX5.o ?_)
     |(refine b6 rfl (.tmp 4) (.tmp 31) rfl w.heap.size rfl ⟨fk,fn,fa,fb,fc,fd,fl,fh⟩ (.slice o3 n3 c3) rfl rfl _ HS5.o.box (show(8:Nat)=8 from rfl) ?_;intro w7 hbx hg;have HX7:=qa hbx;have q5R:=qa hg;clear hbx hg))
    rw[HRF.o];exact eZ rfl rfl rfl HA1.o (qb _) (HE5.o.mono fun b hb=>hb.1) HB5.o q5R.o HX7.o
   have HRF:Hid (R=(⟨ak,an,aa,ab,ac,ad,al,ah⟩,af)):=qa (by rw[HR.o];rfl);clear HR
   go_upto_region 5 with(first
    |(refine cR rfl (.tmp 21) rfl b off rfl kd nn a b' c' d lo hi (.slice oj nj cj) q9u.o ?_)
    |((with_reducible refine(HNL.o _ _ q9c.o).mono ?_);rintro e w5 ⟨rfl,hx⟩;have HS5:=qa (HS.o.up (aE hx));have HX5:=qa (HX.o.up (aE hx));have HE5:=qa (HE.o.up (aE hx));have qaw:=qa (qav.o.up (aE hx));have HB5:=qa (HBC.o.trans ((aE hx).mono HBC.o.size));clear hx))
   have hdr:=fR (qn w5.heap.size w5);have HS6:=qa (HS5.o.up hdr);have HX6:=qa (HX5.o.up hdr);have HE6:=qa (HE5.o.up hdr);have qbU:=qa (qaw.o.up hdr);have HB6:=qa (HB5.o.trans (hdr.mono HB5.o.size));refine bQ (C:=fun w'=>∃x,w'=ext w5.drew x) [0,1,2,3] [4,5,6] [7] (by kernel_rfl) (by kernel_rfl) (aF (qn _ _)) ?_;clear hdr HS HX HE qav HS5 HX5 HE5 qaw HB5 q9c q9u HBC;generalize w5.drew=w6 at*;have HGB:Hid (gb<w6.heap.size):=qa (HX6.o.lt gb rfl).2;simp only[pk]
   repeat(first
    |(go_big_quiet_want;(with_reducible show Oper.quiet _ (Oper.mk _ (.slice _ _ _ _ _) _ _ _ _) _ _ _);refine pE 51 (.tmp 25) (some _) none none rfl (.slice o1 n c1) (fun w' _=>HSL.o w') ?_;go_simp;go_big_quiet_on)
    |(go_big_quiet_want;refine bP 56 8 _ rfl gb 0 rfl (tmA ⟨fk,fn,fa,fb,fc,fd,fl,fh⟩ (.slice o3 n3 c3)) rfl (fun w' hw' q hq=>by obtain⟨y,rfl⟩:=hw';rw[qH,(aC w6 y).cell (p:=⟨gb,q,none⟩) HGB.o,HX6.o.cell (show q<8 from hq),q0L]) _ underlying56 rfl (by kernel_rfl) ?_;go_simp;go_big_quiet_on)
    |go_big_quiet_step (fail))
   refine wpQuiet_nil ?_;unfold aD
   go_wp2_with(first|((with_reducible refine(q6I.o _ _ _ qbU.o).mono ?_);rintro e w7 ⟨u4,rfl,hT,hb⟩;have HT7:Hid (aM (UA A0 w.heap.size none) w7 u4 tf):=qa (hT.mono fun b hb'=>⟨hb'.imp id (qc (qc HS6.o.sz HS6.o.bel.size)),fun e=>by cases e⟩);have HS7:=qa (HS6.o.up hb);have HE7:=qa (HE6.o.up hb);have HB7:=qa (HB6.o.trans (hb.mono HB6.o.size));have HC7:=qa (hb);clear hT hb))
   refine⟨aF HC7.o,?_⟩;unfold aD;obtain⟨o4,n4,c4,hu4,-⟩:=HT7.o.form;subst hu4;have HTW:Hid (aM (UA A0 w.heap.size none) (w7.alloc (.cells #[.int .i64 fk,.int .u64 fa,.int .u64 fb,.int .u64 fc,.int .u64 fd,.int .i64 fl,.int .i64 fh,.slice o3 n3 c3,.int .i64 tk,.int .u64 ta,.int .u64 tb,.int .u64 tc,.int .u64 td,.int .i64 tl,.int .i64 th,.slice o4 n4 c4] 56)) (.slice (some ⟨w7.heap.size,0,none⟩) 2 2) (one (⟨fk,fn,fa,fb,fc,fd,fl,fh⟩,ff) (one (⟨tk,tn,ta,tb,tc,td,tl,th⟩,tf) .nil))):=qa (HS7.o.two (x:=⟨fk,fn,fa,fb,fc,fd,fl,fh⟩) (y:=⟨tk,tn,ta,tb,tc,td,tl,th⟩) HE7.o HT7.o);have hb8:=aB w7 (.cells #[.int .i64 fk,.int .u64 fa,.int .u64 fb,.int .u64 fc,.int .u64 fd,.int .i64 fl,.int .i64 fh,.slice o3 n3 c3,.int .i64 tk,.int .u64 ta,.int .u64 tb,.int .u64 tc,.int .u64 td,.int .i64 tl,.int .i64 th,.slice o4 n4 c4] 56);have HS8:=qa (HS7.o.up hb8);have HB8:=qa (HB7.o.trans (hb8.mono HB7.o.size));have HC8:=qa (HC7.o.trans (hb8.mono HC7.o.size));clear hb8;go_wp2;refine⟨aF HC8.o,?_⟩;unfold aD
   go_wp2_with(first|((with_reducible refine(HAL.o _ _ _ HTW.o).mono ?_);rintro e w9 ⟨u5,rfl,hT,hb⟩;have HT9:Hid (aM (upA A0 (w.heap.size+1)) w9 u5 af):=qa (hT.mono fun b hb'=>hb'.elim (fun h=>h.1) (fun h=>.inr (qc (qc HS8.o.sz HS8.o.bel.size) h)));have HS9:=qa (HS8.o.up hb);have HB9:=qa (HB8.o.trans (hb.mono HB8.o.size));have HC9:=qa (HC8.o.trans (hb.mono HC8.o.size));clear hT hb))
   refine⟨aF HC9.o,?_⟩;unfold aD;unfold aD
   go_wp2_with(first|(refine b6 rfl (.tmp 4) (.tmp 30) rfl w.heap.size rfl ⟨ak,an,aa,ab,ac,ad,al,ah⟩ u5 HT9.o.one rfl _ HS9.o.box (show(8:Nat)=8 from rfl) ?_;intro w10 hbx hg;have q8b:=qa hbx;have q9o:=qa hg;clear hbx hg))
   refine⟨trivial,?_⟩;unfold aD;go_wp2;rw[HRF.o];exact eZ rfl rfl rfl HA1.o (qb _) HT9.o HB9.o q9o.o q8b.o
inductive Sta(A:Nat->Nat->Bool)(N p:Nat):Nat->Prop
 |refl:Sta A N p p
 |step {q r:Nat}:Sta A N p q->q<N->r<N->A q r=true->Sta A N p r
theorem Sta.trans{A:Nat->Nat->Bool}{N p q r:Nat}(h:Sta A N p q)(k:Sta A N q r):Sta A N p r:=by
 induction k with
 |refl=>exact h
 |step _ h1 h2 h3 ih=>exact .step ih h1 h2 h3
theorem Sta.lt{A:Nat->Nat->Bool}{N p q:Nat}(h:Sta A N p q)(hp:p<N):q<N:=by
 cases h with
 |refl=>exact hp
 |step _ _ h _=>exact h
structure WaO(A G:Nat->Nat->Bool)(N k:Nat):Prop where
 base:∀p r,p<N->r<N->A p r=true->G p r=true
 refl:∀p,p<N->G p p=true
 sound:∀p r,p<N->r<N->G p r=true->Sta A N p r
 tr:∀m,m<k->∀p r,p<N->m<N->r<N->G p m=true->G m r=true->G p r=true
def WaI(G0 G:Nat->Nat->Bool)(N q p r:Nat):Prop:=∀p' r',p'<N->r'<N->(G p' r'=true↔G0 p' r'=true\/((p'<p\/(p'=p/\r'<r))/\G0 p' q=true/\G0 q r'=true))
theorem q0Z{A G:Nat->Nat->Bool}{N:Nat}(h:∀p q,p<N->q<N->(G p q=true↔A p q=true\/p=q)):WaO A G N 0:=
 ⟨fun p r hp hr ha=>(h p r hp hr).2 (.inl ha),fun p hp=>(h p p hp hp).2 (.inr rfl),fun p r hp hr hg=>((h p r hp hr).1 hg).elim (fun ha=>.step .refl hp hr ha) (fun e=>e▸.refl),fun m hm=>absurd hm (qB m)⟩
theorem q4J(G:Nat->Nat->Bool)(N q:Nat):WaI G G N q 0 0:=fun p' r' _ _=>⟨.inl,fun h=>h.elim id (fun h=>by omega)⟩
theorem q1P{G0 G:Nat->Nat->Bool}{N q p r:Nat}(h:WaI G0 G N q p r)(hq:q<N)(hp:p<N):G p q=true↔G0 p q=true:=
 (h p q hp hq).trans ⟨fun h=>h.elim id (fun h=>h.2.1),.inl⟩
theorem q3O{G0 G:Nat->Nat->Bool}{N q p r:Nat}(h:WaI G0 G N q p r)(hq:q<N){r':Nat}(hr:r'<N):G q r'=true↔G0 q r'=true:=
 (h q r' hq hr).trans ⟨fun h=>h.elim id (fun h=>h.2.2),.inl⟩
theorem q3P{G0 G:Nat->Nat->Bool}{N q p r:Nat}(h:WaI G0 G N q p r)(hq:q<N)(hp:p<N)(hr:r<N)(hg:G p q=true)(b:Bool)(hb:b=true↔G p r=true\/G q r=true):WaI G0 (upd G p r b) N q p (r+1):=fun p' r' hp' hr'=>by
 unfold upd;by_cases hpr:p'=p/\r'=r
 ·obtain⟨rfl,rfl⟩:=hpr
  rw[qv ⟨rfl,rfl⟩,hb,q3O h hq hr,h p' r' hp hr];have h0:=(q1P h hq hp).1 hg
  constructor
  ·rintro((h1|h1)|h1)
   ·exact .inl h1
   ·omega
   exact .inr ⟨.inr ⟨rfl,by omega⟩,h0,h1⟩
  rintro(h1|h1)
  ·exact .inl (.inl h1)
  exact .inr h1.2.2
 rw[qu hpr,h p' r' hp' hr']
 constructor
 ·exact ZmL6
 exact ZmL6
theorem q1Q{G0 G:Nat->Nat->Bool}{N q p r:Nat}(h:WaI G0 G N q p r)(hq:q<N)(hp:p<N)(hr:r=N\/G p q=false):WaI G0 G N q (p+1) 0:=fun p' r' hp' hr'=>by
 rw[h p' r' hp' hr']
 constructor
 ·rintro(h1|⟨h1,h2⟩)
  ·exact .inl h1
  exact .inr ⟨.inl (by omega),h2⟩
 rintro(h1|⟨h1,h2⟩)
 ·exact .inl h1
 by_cases hpp:p'=p
 ·subst hpp
  rcases hr with hr|hr
  ·exact .inr ⟨.inr ⟨rfl,by omega⟩,h2⟩
  have:=(q1P h hq hp).2 h2.1;rw[hr]at this;cases this
 exact .inr ⟨.inl (by omega),h2⟩
theorem q2x{A G0 G:Nat->Nat->Bool}{N q:Nat}(h0:WaO A G0 N q)(hq:q<N)(h:WaI G0 G N q N 0):WaO A G N (q+1):=by
 have h':∀p r,p<N->r<N->(G p r=true↔G0 p r=true\/(G0 p q=true/\G0 q r=true)):=fun p r hp hr=>(h p r hp hr).trans (or_congr Iff.rfl ⟨fun h=>h.2,fun h=>⟨.inl hp,h⟩⟩);refine⟨fun p r hp hr ha=>(h' p r hp hr).2 (.inl (h0.base p r hp hr ha)),fun p hp=>(h' p p hp hp).2 (.inl (h0.refl p hp)),fun p r hp hr hg=>?_,fun m hm p r hp hmN hr h1 h2=>?_⟩
 ·rcases(h' p r hp hr).1 hg with h1|⟨h1,h2⟩
  ·exact h0.sound p r hp hr h1
  exact(h0.sound p q hp hq h1).trans (h0.sound q r hq hr h2)
 rw[h' p r hp hr];by_cases hmq:m=q
 ·subst hmq
  refine .inr ⟨?_,?_⟩
  ·rcases(h' p m hp hq).1 h1 with h3|h3
   ·exact h3
   exact h3.1
  rcases(h' m r hq hr).1 h2 with h3|h3
  ·exact h3
  exact h3.2
 have hmk:m<q:=by omega
 rcases(h' p m hp hmN).1 h1 with h3|⟨h3,h4⟩<;>rcases(h' m r hmN hr).1 h2 with h5|⟨h5,h6⟩
 ·exact .inl (h0.tr m hmk p r hp hmN hr h3 h5)
 ·exact .inr ⟨h0.tr m hmk p q hp hmN hq h3 h5,h6⟩
 ·exact .inr ⟨h3,h0.tr m hmk q r hq hmN hr h4 h5⟩
 exact .inr ⟨h3,h6⟩
theorem q3Q{A G:Nat->Nat->Bool}{N:Nat}(h:WaO A G N N){p r:Nat}(hp:p<N)(hr:r<N):G p r=true↔Sta A N p r:=by
 refine⟨h.sound p r hp hr,fun hs=>?_⟩
 induction hs with
 |refl=>exact h.refl p hp
 |step h1 h2 h3 h4 ih=>exact h.tr _ h2 p _ hp h2 h3 (ih h2) (h.base _ _ h2 h3 h4)
theorem q3R{w:World}{va:Value}{N:Nat}{A:Nat->Nat->Bool}(ha:fW w va N A)(h0:0<N)(hN:N<=100000):
  Calls prog 83 #[va] w fun e w'=>∃u,e=.returned u/\(∃G,fW w' u N G/\∀p r,p<N->r<N->(G p r=true↔Sta A N p r))/\Below w.heap.size w w':=by
 have HG:=qa (q0X (w:=w) h0 hN);have HEI:=qa (fun(x:World) (hx:Below w.heap.size w x) (u:Value) (I:Nat->Nat->Bool) (hu:fW x u N I)=>zL (ha.up hx) hu h0 hN);obtain⟨oa,ca,ba,fa,rfl,hda,hra⟩:=ha.open;clear ha hda hra;go_enter func83,ntmps83
 go_upto_region 2 with(first
  |((with_reducible go_at_call 77);refine HG.o.mono ?_;rintro en w1 ⟨u,rfl,⟨I,hI,hIs⟩,hb⟩;have HI:=qa hI;have HIS:=qa hIs;have HB1:=qa hb;clear hI hIs hb)
  |((with_reducible go_at_call 79);refine(HEI.o _ HB1.o _ _ HI.o).mono ?_;rintro en w2 ⟨u2,rfl,⟨G0,ho,hGs⟩,hb⟩;obtain⟨g,cap,rfl,hgb,hd⟩:=ho.form h0;have HO1:=qa ho;have HB2:=qa (HB1.o.trans (hb.mono HB1.o.size));have HD:=qa hd;have HWS:=qa (q0Z (A:=A) (G:=G0) (N:=N) (fun p q hp hq=>(hGs p q hp hq).trans (or_congr Iff.rfl (HIS.o p q hp hq))));clear ho hb hd hGs))
 have q9C:=qa HB1.o.size;have q6P:=eP HD.o;simp only[qH]at q6P
 have HO2:Hid (gR w2 w.heap.size (.slice (some ⟨g,0,none⟩) N cap) N G0):=qa (by
  obtain⟨vs,h⟩:=HO1.o;exact⟨vs,⟨h.outer.mono q9C.o,h.len,fun i hi=>(h.rows i hi).mono q9C.o,h.apart,h.off⟩⟩)
 clear HO1 HG HI HIS HB1 HEI q9C;go_wp2
 go_loopg [4] N (fun gk iv wr=>∃(i:Nat) (G:Nat->Nat->Bool),iv=.int .i64 i/\i<=N/\gR wr w.heap.size (.slice (some ⟨g,0,none⟩) N cap) N G/\WaO A G N i/\Below w.heap.size w wr/\gk=N-i)
 case atStart=>exact⟨0,_,rfl,qd _,HO2.o,HWS.o,HB2.o,rfl⟩
 case round=>
  obtain⟨i,G0,rfl,hi,ho,hg,hbl,rfl⟩:=hrel;have HO:=qa ho;have HW:=qa hbl;have qat:=qa hg;clear hbl hg ho HO2 HB2 HWS;by_cases hlt:i<N
  ·have HWI:=qa (q4J G0 N i)
   go_wp2;have HOO:=HO;have HWO:=HW;clear HO HW;generalize wr=wo at*
   go_loopg [5] N (fun gk jv wr=>∃(j:Nat) (G:Nat->Nat->Bool),jv=.int .i64 j/\j<=N/\gR wr w.heap.size (.slice (some ⟨g,0,none⟩) N cap) N G/\WaI G0 G N i j 0/\Below w.heap.size w wr/\gk=N-j)
   case atStart=>exact⟨0,G0,rfl,qd _,HOO.o,HWI.o,HWO.o,rfl⟩
   case round=>
    obtain⟨j,G,rfl,hj,ho,hg,hbl,rfl⟩:=hrel;have HO:=qa ho;have HW:=qa hbl;have HGS:=qa hg;clear hg hbl HOO HWO ho HWI;by_cases q6d:j<N
    ·go_wp2
     have HOO:=HO;have HWO:=HW;clear HO HW;generalize wr=wo2 at*
     go_loopg [6] N (fun gk kv wr=>∃(k:Nat) (G:Nat->Nat->Bool),kv=.int .i64 k/\k<=N/\gR wr w.heap.size (.slice (some ⟨g,0,none⟩) N cap) N G/\WaI G0 G N i j k/\Below w.heap.size w wr/\gk=N-k)
     case atStart=>exact⟨0,G,rfl,qd _,HOO.o,HGS.o,HWO.o,rfl⟩
     case round=>
      obtain⟨k,G,rfl,hk,ho,hg,hbl,rfl⟩:=hrel;have HO:=qa ho;have HW:=qa hbl;have HGS:=qa hg;clear hg hbl HOO HWO;have hws:=HW.o.size;by_cases q71:k<N
      ·obtain⟨bp,cp,hcr,hdp,hgw,hbp,hq⟩:=ho.at q6d
       obtain⟨hcz,-,-⟩:=hq i hlt;have hbw:=hdp.hblk h0;have q6M:=eB hdp;simp only[qH]at q6M;obtain⟨z,hz⟩:∃z,z=G j i:=⟨_,rfl⟩;have HZ:=qa hz;rw[<-hz]at hcz;clear hz;cases z with
       |false=>
        have HTN:=qa (q1Q HGS.o hlt q6d (.inr HZ.o.symm));clear ho hq hdp;go_wp2
        go_roundg (N-(j+1))
        case measure=>omega
        case rel=>exact⟨j+1,G,by go_num,by omega,HO.o,HTN.o,HW.o,rfl⟩
       |true=>
        obtain⟨hcq,hfq,hst⟩:=hq k q71;obtain⟨bq,cq,qcX,hdq,-,hbq,hq2⟩:=ho.at hlt;obtain⟨hcy,-,-⟩:=hq2 k q71;have q80:=hdq.hblk h0;have qbn:=eB hdq;simp only[qH]at qbn;have HST:=qa hst;have q6u:w.heap.size<=bp:=hbp;have q6r:=qa (fun(b:Bool) (hb:b=true↔G j k=true\/G i k=true)=>q3P HGS.o hlt q6d q71 HZ.o.symm b hb);obtain⟨x,hx⟩:∃x,x=G j k:=⟨_,rfl⟩;obtain⟨y,hy⟩:∃y,y=G i k:=⟨_,rfl⟩;rw[<-hx]at hcq;rw[<-hy]at hcy;rw[<-hx,<-hy]at q6r;clear ho hq hq2 hdp hdq hst hx hy;cases x with
        |true=>
         exact ZmL2
        |false=>
         cases y with
         |true=>
          exact ZmL2
         |false=>
          go_wp2;refine aH [0,1,2,3,4,5,6,7,8,9,10,11,12,13,14,15,16,17,18,19,20] [] [21,22] (by kernel_rfl) (by kernel_rfl) ?_;simp only[pk]
          repeat(go_big_quiet_step (fail))
          refine wpQuiet_nil ?_;unfold aD;unfold aD;go_wp2;refine⟨trivial,?_⟩;unfold aD;go_wp2;refine⟨trivial,?_⟩;unfold aD;go_wp2
          go_roundg (N-(k+1))
          case measure=>omega
          case rel=>
           have h1:=HST.o false;exact⟨k+1,upd G j k false,by go_num,by omega,h1.1.up (aG _),q6r.o false (by simp),(HW.o.grown h1.2 HW.o.size (fun k hk=>by cases hk;exact q6u)).trans ((aG _).mono (by simpa using HW.o.size)),rfl⟩
      have hke:k=N:=by omega
      subst hke;have HTN:=qa (q1Q HGS.o hlt q6d (.inl rfl));clear ho;go_wp2
      go_roundg (k-(j+1))
      case measure=>omega
      case rel=>exact⟨j+1,G,by go_num,by omega,HO.o,HTN.o,HW.o,rfl⟩
    have hje:j=N:=by omega
    subst hje;have HTN:=qa (q2x qat.o hlt HGS.o);go_wp2
    go_roundg (j-(i+1))
    case measure=>omega
    case rel=>exact⟨i+1,G,by go_num,by omega,HO.o,HTN.o,HW.o,rfl⟩
  have hie:i=N:=by omega
  subst hie;go_wp2;go_ret;exact⟨_,rfl,⟨G0,HO.o.read,fun p r hp hr=>q3Q qat.o hp hr⟩,HW.o⟩
def GL(L:Lng)(t:List Nat)(N:Nat)(G:Nat->Nat->Bool):Prop:=∀p r,p<N->r<N->(G p r=true↔p<=r/\L ((t.drop p).take (r-p)))
theorem GL.congr{L L':Lng}{t:List Nat}{N:Nat}{G:Nat->Nat->Bool}(h:GL L t N G)(hl:∀w,L w↔L' w):GL L' t N G:=fun p r hp hr=>(h p r hp hr).trans (and_congr_right fun _=>hl _)
theorem mN{t:List Nat}{p r:Nat}(hr:r<=t.length)(hpr:p<=r):((t.drop p).take (r-p)).length=r-p:=by rw[qW,j3];omega
theorem nU(t:List Nat){p q r:Nat}(h1:p<=q)(h2:q<=r):(t.drop p).take (r-p)=(t.drop p).take (q-p)++(t.drop q).take (r-q):=by
 have e:r-p=(q-p)+(r-q):=by omega
 rw[e,List.take_add,List.drop_drop]
 congr 3
 omega
theorem vM{A B:Lng}{t:List Nat}{N:Nat}(hN:N=t.length+1){Ga Gb G:Nat->Nat->Bool}(ha:GL A t N Ga)(hb:GL B t N Gb)(h:∀p r,p<N->r<N->(G p r=true↔∃q,q<N/\Ga p q=true/\Gb q r=true)):GL (cat A B) t N G:=fun p r hp hr=>by
 rw[h p r hp hr]
 constructor
 ·rintro⟨q,hq,h1,h2⟩
  have h3:=(ha p q hp hq).1 h1;have h4:=(hb q r hq hr).1 h2;exact⟨by omega,_,_,nU t h3.1 h4.1,h3.2,h4.2⟩
 rintro⟨hpr,u,v,e,hu,hv⟩;have hl:=mN (t:=t) (p:=p) (r:=r) (by omega) hpr;rw[e,qj]at hl;have hs:=nU t (show p<=p+u.length by omega) (show p+u.length<=r by omega);rw[e]at hs;have hlu:((t.drop p).take (p+u.length-p)).length=u.length:=by rw[mN (by omega) (by omega)];omega
 obtain⟨e1,e2⟩:=List.append_inj hs hlu.symm;exact⟨p+u.length,by omega,(ha _ _ hp (by omega)).2 ⟨by omega,e1▸hu⟩,(hb _ _ (by omega) hr).2 ⟨by omega,e2▸hv⟩⟩
theorem vN{t:List Nat}{N:Nat}(hN:N=t.length+1){G:Nat->Nat->Bool}(h:∀p q,p<N->q<N->(G p q=true↔p=q)):GL eps t N G:=fun p r hp hr=>by
 rw[h p r hp hr]
 constructor
 ·rintro rfl;exact⟨qb _,by simp[eps]⟩
 rintro⟨h1,h2⟩;have hl:=mN (t:=t) (p:=p) (r:=r) (by omega) h1;rw[show(t.drop p).take (r-p)=[]from h2]at hl;simp at hl;omega
theorem xT{A B:Lng}{t:List Nat}{N:Nat}{Ga Gb G:Nat->Nat->Bool}(ha:GL A t N Ga)(hb:GL B t N Gb)(h:∀p q,p<N->q<N->(G p q=true↔Ga p q=true\/Gb p q=true)):GL (fun w=>A w\/B w) t N G:=fun p r hp hr=>by
 rw[h p r hp hr,ha p r hp hr,hb p r hp hr]
 constructor
 ·rintro(⟨h1,h2⟩|⟨h1,h2⟩)
  ·exact⟨h1,.inl h2⟩
  exact⟨h1,.inr h2⟩
 rintro⟨h1,h2|h2⟩
 ·exact .inl ⟨h1,h2⟩
 exact .inr ⟨h1,h2⟩
def q2y(A:Lng):Lng:=fun w=>∃k,mW A k w
theorem q10{A:Lng}{t:List Nat}{N:Nat}(hN:N=t.length+1){Ga G:Nat->Nat->Bool}(ha:GL A t N Ga)(h:∀p r,p<N->r<N->(G p r=true↔Sta Ga N p r)):GL (q2y A) t N G:=fun p r hp hr=>by
 rw[h p r hp hr]
 constructor
 ·intro hs
  induction hs with
  |refl=>exact⟨qb _,0,by simp[mW,eps]⟩
  |step h1 h2 h3 h4 ih=>
   rename_i q r;obtain⟨h5,k,h6⟩:=ih h2;have h7:=(ha q r h2 h3).1 h4;exact⟨by omega,k+1,_,_,nU t h5 h7.1,h6,h7.2⟩
 rintro⟨hpr,k,hk⟩
 have key:∀(k r:Nat),r<N->p<=r->mW A k ((t.drop p).take (r-p))->Sta Ga N p r:=by
  intro k
  induction k with
  |zero=>
   intro r hr hpr hk;have hl:=mN (t:=t) (p:=p) (r:=r) (by omega) hpr;rw[show(t.drop p).take (r-p)=[]from hk]at hl;have:r=p:=by simp at hl;omega
   rw[this];exact .refl
  |succ k ih=>
   intro r hr hpr hk;obtain⟨u,v,e,hu,hv⟩:=hk;have hl:=mN (t:=t) (p:=p) (r:=r) (by omega) hpr;rw[e,qj]at hl;have hs:=nU t (show p<=p+u.length by omega) (show p+u.length<=r by omega);rw[e]at hs;have hlu:((t.drop p).take (p+u.length-p)).length=u.length:=by rw[mN (by omega) (by omega)];omega
   obtain⟨e1,e2⟩:=List.append_inj hs hlu.symm;exact .step (ih (p+u.length) (by omega) (by omega) (e1▸hu)) (by omega) hr ((ha _ _ (by omega) hr).2 ⟨by omega,e2▸hv⟩)
 exact key k r hr hpr hk
theorem q11(A:Lng)(lo:Nat)(hi:Int)(hh:hi<0)(w:List Nat):cat (mW A lo) (q2y A) w↔bM lo hi A w:=by
 unfold bM q2y
 constructor
 ·rintro⟨u,v,rfl,hu,k,hk⟩
  exact⟨lo+k,by omega,.inl hh,(mX A lo k _).2 ⟨u,v,rfl,hu,hk⟩⟩
 rintro⟨k,h1,-,hk⟩;have e:k=lo+(k-lo):=by omega
 rw[e]at hk;obtain⟨u,v,e2,hu,hv⟩:=(mX A lo (k-lo) w).1 hk;exact⟨u,v,e2,hu,k-lo,hv⟩
theorem q2z(A:Lng)(lo:Nat)(w:List Nat):mW A lo w↔bM lo lo A w:=by
 unfold bM
 constructor
 ·intro h;exact⟨lo,Int.le_refl _,.inr (Int.le_refl _),h⟩
 rintro⟨k,h1,h2,h3⟩;obtain rfl:k=lo:=by omega
 exact h3
theorem q3S(A:Lng)(lo j:Nat)(hj:lo<=j)(w:List Nat):cat (bM lo j A) (fun w=>A w\/eps w) w↔bM lo ((j:Int)+1) A w:=by
 unfold bM
 constructor
 ·rintro⟨u,v,rfl,⟨k,h1,h2,h3⟩,h4|h4⟩
  ·exact⟨k+1,by omega,.inr (by omega),u,v,rfl,h3,h4⟩
  obtain rfl:v=[]:=h4;exact⟨k,h1,.inr (by omega),by simpa using h3⟩
 rintro⟨k,h1,h2,h3⟩;by_cases hk:k<=j
 ·exact⟨w,[],by simp,⟨k,h1,.inr (by omega),h3⟩,.inr rfl⟩
 obtain rfl:k=j+1:=by omega
 obtain⟨u,v,rfl,h4,h5⟩:=h3;exact⟨u,v,rfl,⟨j,by omega,.inr (by omega),h4⟩,.inl h5⟩
theorem F4{w:World}{va:Value}{N:Nat}{Ga:Nat->Nat->Bool}{A:Lng}{t:List Nat}(ha:fW w va N Ga)(hA:GL A t N Ga)(hN0:N=t.length+1)(hN:N<=100000)(lo:Nat)(hlo:lo<=1000)(hi:Int)(hhi:hi= -1\/((lo:Int)<=hi/\hi<=1000)):
  Calls prog 80 #[va,.int .i64 lo,.int .i64 hi] w fun e w'=>∃u,e=.returned u/\(∃G,fW w' u N G/\GL (bM lo hi A) t N G)/\Below w.heap.size w w':=by
 have h0:0<N:=by omega
 have HSM:=qa (fun(x:World)=>q0X (w:=x) h0 hN);have HA:=qa ha;have HAL:=qa hA;have HN0:=qa hN0;have HTH:=qa (fun(x:World) (u1 u2:Value) (G1 G2:Nat->Nat->Bool) (h1:fW x u1 N G1) (h2:fW x u2 N G2)=>q3N h1 h2 h0 hN);have HEI:=qa (fun(x:World) (u1 u2:Value) (G1 G2:Nat->Nat->Bool) (h1:fW x u1 N G1) (h2:fW x u2 N G2)=>zL h1 h2 h0 hN);have HOF:=qa (fun(x:World) (hx:Below w.heap.size w x)=>q3R (ha.up hx) h0 hN);obtain⟨oa,ca,ba,fa,rfl,-,-⟩:=ha.open;clear ha hA hN0;go_enter func80,ntmps80
 go_upto_region 2 with((with_reducible go_at_call 77);refine(HSM.o _).mono ?_;rintro en w1 ⟨u,rfl,⟨I,hI,hIs⟩,hb⟩;have HI:=qa hI;have HIS:=qa (vN HN0.o hIs);have HB1:=qa hb;clear hI hIs hb)
 go_wp2
 go_loopg [7,8] lo (fun gk ov jv wr=>∃(j:Nat) (G:Nat->Nat->Bool),jv=.int .i64 j/\j<=lo/\fW wr ov N G/\GL (mW A j) t N G/\Below w.heap.size w wr/\gk=lo-j)
 case atStart=>exact⟨0,I,rfl,qd _,HI.o,HIS.o,HB1.o,rfl⟩
 case round=>
  obtain⟨j,G,rfl,hj,hg,hgl,hbl,rfl⟩:=hrel;have HG:=qa hg;have HGL:=qa hgl;have HW:=qa hbl;clear hg hgl hbl HI HIS HB1;by_cases hlt:j<lo
  ·go_wp2_with((with_reducible go_at_call 78);refine(HTH.o _ _ _ _ _ HG.o (HA.o.up HW.o)).mono ?_;rintro en w3 ⟨u3,rfl,⟨G3,hg3,hs3⟩,hb⟩;have HG3:=qa hg3;have HL3:=qa (vM HN0.o HGL.o HAL.o hs3);have HB3:=qa (HW.o.trans (hb.mono HW.o.size));clear hg3 hs3 hb)
   go_roundg (lo-(j+1))
   case measure=>omega
   case rel=>exact⟨j+1,G3,by go_num,by omega,HG3.o,HL3.o,HB3.o,rfl⟩
  have hje:j=lo:=by omega
  subst hje;by_cases q7n:hi<0
  ·go_wp2_with(first
    |((with_reducible go_at_call 83);refine(HOF.o _ HW.o).mono ?_;rintro en w3 ⟨u3,rfl,⟨G3,hg3,hs3⟩,hb⟩;have HG3:=qa hg3;have HL3:=qa (q10 HN0.o HAL.o hs3);have HB3:=qa hb;clear hg3 hs3 hb)
    |((with_reducible go_at_call 78);refine(HTH.o _ _ _ _ _ (HG.o.up HB3.o) HG3.o).mono ?_;rintro en w4 ⟨u4,rfl,⟨G4,hg4,hs4⟩,hb⟩;have HG4:=qa hg4;have HL4:=qa (vM HN0.o HGL.o HL3.o hs4);have HB4:=qa (HW.o.trans ((HB3.o.trans (hb.mono HB3.o.size)).mono HW.o.size));clear hg4 hs4 hb))
   go_ret;exact⟨_,rfl,⟨G4,HG4.o,HL4.o.congr (q11 A j hi q7n)⟩,HB4.o⟩
  obtain⟨hn,rfl⟩:=jF (show 0<=hi by omega);have hhn:j<=hn/\hn<=1000:=by omega
  have qaM:=qa (HGL.o.congr (q2z A j));clear HGL;go_wp2;have HGO:=HG;have HWO:=HW;clear HG HW;generalize wr=wo at*
  go_loopg [7,9] (hn-j) (fun gk ov kv wr=>∃(k:Nat) (G:Nat->Nat->Bool),kv=.int .i64 k/\j<=k/\k<=hn/\fW wr ov N G/\GL (bM j k A) t N G/\Below w.heap.size w wr/\gk=hn-k)
  case atStart=>exact⟨j,G,rfl,qb _,hhn.1,HGO.o,qaM.o,HWO.o,rfl⟩
  case round=>
   obtain⟨k,G,rfl,hjk,hk,hg,hgl,hbl,rfl⟩:=hrel;have HG:=qa hg;have HGL:=qa hgl;have HW:=qa hbl;clear hg hgl hbl HGO HWO qaM;by_cases q71:k<hn
   ·go_wp2_with(first
     |((with_reducible go_at_call 77);refine(HSM.o _).mono ?_;rintro en w3 ⟨u3,rfl,⟨G3,hg3,hs3⟩,hb⟩;have HG3:=qa hg3;have HL3:=qa (vN HN0.o hs3);have HB3:=qa hb;clear hg3 hs3 hb)
     |((with_reducible go_at_call 79);refine(HEI.o _ _ _ _ _ ((HA.o.up HW.o).up HB3.o) HG3.o).mono ?_;rintro en w4 ⟨u4,rfl,⟨G4,hg4,hs4⟩,hb⟩;have HG4:=qa hg4.read;have HL4:=qa (xT HAL.o HL3.o hs4);have HB4:=qa (HB3.o.trans (hb.mono HB3.o.size));clear hg4 hs4 hb)
     |((with_reducible go_at_call 78);refine(HTH.o _ _ _ _ _ (HG.o.up HB4.o) HG4.o).mono ?_;rintro en w5 ⟨u5,rfl,⟨G5,hg5,hs5⟩,hb⟩;have HG5:=qa hg5;have HL5:=qa (vM HN0.o HGL.o HL4.o hs5);have HB5:=qa (HW.o.trans ((HB4.o.trans (hb.mono HB4.o.size)).mono HW.o.size));clear hg5 hs5 hb))
    go_roundg (hn-(k+1))
    case measure=>omega
    case rel=>exact⟨k+1,G5,by go_num,by omega,by omega,HG5.o,HL5.o.congr (fun w=>by rw[q3S A j k hjk];rfl),HB5.o,rfl⟩
   have hke:k=hn:=by omega
   subst hke;go_wp2;go_ret;exact⟨_,rfl,⟨G,HG.o,HGL.o⟩,HW.o⟩
def kP(w:World)(v:Value)(s:ByteArray)(y:Nd)(ky:Fo)(at_:Nat):Prop:=∀x',Below w.heap.size w x'->
 Calls prog 67 #[v,.int .i64 at_,.string s] x' fun e w'=>∃u,e=.returned u/\(∃G,fW w' u (s.size+1) G/\GL (cQ y (aX ky)) (txt s) (s.size+1) G)/\Below x'.heap.size x' w'
def xU(w:World)(v:Value)(s:ByteArray):Fo->Nat->Prop
 |.nil,_=>True
 |.cons y ky r,at_=>kP w v s y ky at_/\xU w v s r (at_+1+(aT ky).length)
structure fQ(w:World)(v:Value)(l:List Nd)(i:Nat)(x:Nd)(k:Fo):Prop where
 at_:aO w v l
 len:l.length<=400
 drop:∃post,l.drop i=x::(aT k++post)
 n:x.n=cnt k
 wf:wf k
theorem fQ.up{w w':World}{v:Value}{l:List Nd}{i:Nat}{x:Nd}{k:Fo}(h:fQ w v l i x k)(hb:Below w.heap.size w w'):fQ w' v l i x k:=⟨h.at_.up hb,h.len,h.drop,h.n,h.wf⟩
theorem fQ.kids{w:World}{v:Value}{l:List Nd}{i:Nat}{x:Nd}{k:Fo}(h:fQ w v l i x k):
  Calls prog 28 #[v,.int .i64 i] w fun e w'=>∃u,e=.returned u/\fN w' u (nz (dX k (i+1)))/\∃x,w'=ext w x:=by
 obtain⟨post,hd⟩:=h.drop;exact q26 h.at_ h.len hd h.n h.wf
theorem fQ.open{w:World}{v:Value}{l:List Nd}{i:Nat}{x:Nd}{k:Fo}(h:fQ w v l i x k):
  ∃oa cap b off,v=.slice oa l.length cap/\(∀W:World,(Instr.indexAt 39 v (.int .i64 i)).run prog W=.ok (.pointer (some ⟨b,off+i*8,none⟩)) W)/\b<w.heap.size/\∀c,c<8->w.cell? ⟨b,off+i*8+c,none⟩=some ((ndC x).getD c undef):=by
 obtain⟨post,hd0⟩:=h.drop;obtain⟨oa,cap,b,off,rfl,hd,hc⟩:=h.at_.open;obtain⟨hi,hx,-⟩:=cZ (d:=zN) hd0;refine⟨oa,cap,b,off,rfl,fun W=>?_,hd.hblk (by omega),fun c hcl=>by rw[hc i hi c hcl,hx]⟩;have:=d8 hd W .i64 i (by omega) (by omega);simpa using this
theorem X0(t:List Nat){p:Nat}(h:p<t.length):(t.drop p).take 1=[t.getD p 0]:=by
 rw[jC h,List.take_succ_cons,List.take_zero];simp[List.getD,h]
theorem q3T{x:Nd}{t:List Nat}{N:Nat}(hN:N=t.length+1){G:Nat->Nat->Bool}(h:∀p r,p<N->r<N->(G p r=true↔p<t.length/\r=p+1/\kV (bW x 0) (t.getD p 0)=true)):GL (q29 x) t N G:=fun p r hp hr=>by
 rw[h p r hp hr]
 constructor
 ·rintro⟨h1,rfl,h2⟩
  refine⟨jc _,t.getD p 0,?_,h2⟩;rw[Nat.add_sub_cancel_left];exact X0 t h1
 rintro⟨hpr,c,h1,h2⟩;have hl:=mN (t:=t) (p:=p) (r:=r) (by omega) hpr;rw[h1]at hl;have hr1:r=p+1:=by simp at hl;omega
 subst hr1;rw[Nat.add_sub_cancel_left,X0 t (by omega)]at h1;simp only[List.cons.injEq,and_true]at h1;exact⟨by omega,rfl,by rw[h1];exact h2⟩
theorem q2A{x:Nd}(h:NdQ x):q4q (bW x 0):=fun q=>by
 obtain⟨h1,h2,h3,h4⟩:=h;unfold kF bW
 exact ZmL9
theorem q3U{w:World}{v:Value}{l:List Nd}{i:Nat}{x:Nd}{k:Fo}(h:fQ w v l i x k)(hk:x.kd=2)(s:ByteArray)(hs:s.size<=1000):kP w v s x k i:=by
 intro x' hx';have HKI:=qa (h.up hx').kids;obtain⟨oa,cap,b,off,rfl,hix,hb,hc⟩:=(h.up hx').open;have hc0:=hc 0 (by decide);change x'.cell? ⟨b,off+i*8,none⟩=some (.int .i64 x.kd)at hc0;rw[hk]at hc0;have HLN:Hid (∀w,eps w↔cQ x (aX k) w):=qa (fun w=>by unfold cQ;rw[qu (by omega),qv hk]);have HT:=qa (kG s);clear hk hc h hx';go_enter func67,ntmps67
 go_upto_region 2 with((with_reducible go_at_call 28);refine HKI.o.mono ?_;rintro en w1 ⟨u,rfl,-,x1,rfl⟩)
 have HW1:=qa (aC x' x1);have HCX:=qa (((aC x' x1).cell (p:=⟨b,off+i*8,none⟩) hb).trans hc0);have hs1:=(aC x' x1).size;clear hc0 HKI;generalize ext x' x1=w1 at*;have HG:=qa (sQ (w:=w1) (N:=s.size+1) (by omega));have HSM:=qa (fun(W:World)=>q0X (w:=W) (N:=s.size+1) (by omega) (by omega));rw[show((s.size+1:Nat):Int)=(s.size:Int)+1 by push_cast;rfl]at HG HSM
 go_upto_region 3 with((with_reducible go_at_call 75);refine HG.o.mono ?_;rintro en w2 ⟨u2,rfl,-,hb2⟩;have HB2:=qa hb2;clear hb2)
 have q68:b<w1.heap.size:=by omega
 have hc0:=(HB2.o.cell (p:=⟨b,off+i*8,none⟩) q68).trans HCX.o;have hbw:b<w2.heap.size:=by have:=HB2.o.size;omega
 go_wp2_with((with_reducible go_at_call 77);refine(HSM.o _).mono ?_;rintro en w3 ⟨u3,rfl,⟨G,hg,hgs⟩,hb3⟩;have HG3:=qa hg;have HL3:=qa (vN (by rw[HT.o]) hgs);have HB3:=qa hb3;clear hg hgs hb3)
 go_ret;exact⟨_,rfl,⟨G,HG3.o,HL3.o.congr HLN.o⟩,HW1.o.trans ((HB2.o.trans (HB3.o.mono HB2.o.size)).mono HW1.o.size)⟩
theorem xV(x:Nd):∀c,c<4->(ndC x).getD (2+c) undef=(#[.int .u64 (bW x 0).a,.int .u64 (bW x 0).b,.int .u64 (bW x 0).c,.int .u64 (bW x 0).d]:Array Value).getD c undef:=fun c hc=>by
 rcases(show c=0\/c=1\/c=2\/c=3 by omega)with rfl|rfl|rfl|rfl<;>rfl
theorem q3V{w:World}{v:Value}{l:List Nd}{i:Nat}{x:Nd}{k:Fo}(h:fQ w v l i x k)(hk:x.kd=1)(hq:NdQ x)(s:ByteArray)(hs:s.size<=1000):kP w v s x k i:=by
 intro x' hx';have HKI:=qa (h.up hx').kids;obtain⟨oa,cap,b,off,rfl,hix,hb,hc⟩:=(h.up hx').open;have hc0:=hc 0 (by decide);change x'.cell? ⟨b,off+i*8,none⟩=some (.int .i64 x.kd)at hc0;rw[hk]at hc0;have HC:=qa hc;have HLN:Hid (∀w,q29 x w↔cQ x (aX k) w):=qa (fun w=>by unfold cQ;rw[qv hk]);have HT:=qa (kG s);have HSW:=qa (q2A hq);have HIX:=qa (fun(j:Nat) (hj:j<s.size) (W:World)=>P1 (s:=s) hj W);clear hk hc h hx' hq;go_enter func67,ntmps67
 go_upto_region 2 with((with_reducible go_at_call 28);refine HKI.o.mono ?_;rintro en w1 ⟨u,rfl,-,x1,rfl⟩)
 have HW1:=qa (aC x' x1);have HCX:=qa (((aC x' x1).cell (p:=⟨b,off+i*8,none⟩) hb).trans hc0);have hs1:=(aC x' x1).size;clear hc0 HKI;generalize ext x' x1=w1 at*;have HG:=qa (sQ (w:=w1) (N:=s.size+1) (by omega));rw[show((s.size+1:Nat):Int)=(s.size:Int)+1 by push_cast;rfl]at HG
 go_upto_region 3 with((with_reducible go_at_call 75);refine HG.o.mono ?_;rintro en w2 ⟨u2,rfl,ho,hb2⟩;obtain⟨g,cp0,rfl,hgb,hd⟩:=ho.form (by omega);have HO:=qa ho;have HD:=qa hd;have HB2:=qa hb2;clear hb2 ho hd)
 have q68:b<w1.heap.size:=by omega
 have hc0:=(HB2.o.cell (p:=⟨b,off+i*8,none⟩) q68).trans HCX.o;have hbw:b<w2.heap.size:=by have:=HB2.o.size;omega
 have q6P:=eP HD.o;simp only[qH]at q6P;have q6N:=qa (HW1.o.trans (HB2.o.mono HW1.o.size));have hg1:w1.heap.size<=g:=hgb;clear HD;go_wp2;clear hc0 HCX HG HB2
 go_loopg [9] s.size (fun gk jv wr=>∃(j:Nat) (G:Nat->Nat->Bool),jv=.int .i64 j/\j<=s.size/\gR wr w1.heap.size (.slice (some ⟨g,0,none⟩) (s.size+1) cp0) (s.size+1) G/\(∀p r,p<s.size+1->r<s.size+1->(G p r=true↔p<j/\r=p+1/\kV (bW x 0) ((txt s).getD p 0)=true))/\Below x'.heap.size x' wr/\gk=s.size-j)
 case atStart=>exact⟨0,_,rfl,qd _,HO.o,fun p r _ _=>by simp,q6N.o,rfl⟩
 case round=>
  obtain⟨j,G,rfl,hj,ho,hg,hbl,rfl⟩:=hrel;have HGO:=qa ho;have HGS:=qa hg;have HW:=qa hbl;clear hg hbl HO q6N;by_cases hlt:j<s.size
  ·obtain⟨bp,cp,hcr,hdp,hgw,hbp,hqq⟩:=ho.at (show j<s.size+1 by omega)
   obtain⟨hcq,hfq,hst⟩:=hqq (j+1) (by omega);have qbC:=hdp.hblk (by omega);have q6M:=fun W=>eB hdp W (j+1) (by omega);simp only[qH]at q6M;rw[show((j+1:Nat):Int)=(j:Int)+1 by push_cast;rfl]at q6M;have qcL:=HIX.o j hlt;have hc8:=q3o s j;have hws:=HW.o.size
   have HCS:Hid (∀w',(∃y,w'=ext wr y)->∀c,c<4->w'.cell? ⟨b,off+i*8+2+c,none⟩=some ((#[.int .u64 (bW x 0).a,.int .u64 (bW x 0).b,.int .u64 (bW x 0).c,.int .u64 (bW x 0).d]:Array Value).getD c undef)):=qa (by
    rintro w' ⟨y,rfl⟩ c hcl;rw[(HW.o.trans ((aC wr y).mono hws)).cell (p:=⟨b,off+i*8+2+c,none⟩) hb,jJ,HC.o (2+c) (by omega),xV x c hcl])
   have HST:=qa hst;have HHS:=qa (fun(W:World)=>q5c (w:=W) (bW x 0) HSW.o _ hc8);obtain⟨z,hz⟩:∃z,z=kV (bW x 0) ((txt s).getD j 0):=⟨_,rfl⟩;have HZ:=qa hz;rw[<-hz]at HHS;have q6u:w1.heap.size<=bp:=hbp;have HGA:=qa (fun(W:World) (hW:Below wr.heap.size wr W)=>(gR.at (HGO.o.up hW) (show j<s.size+1 by omega)));clear ho hqq hdp hst hz;go_wp2;refine aH [0,1,2,3,4,5,6,7,8,9,10,11,12,13] [14] [15,16] (by kernel_rfl) (by kernel_rfl) ?_;simp only[pk]
   repeat(first|(go_big_quiet_want;refine bP 54 4 _ rfl b (off+i*8+2) rfl #[.int .u64 (bW x 0).a,.int .u64 (bW x 0).b,.int .u64 (bW x 0).c,.int .u64 (bW x 0).d] rfl HCS.o _ underlying54 rfl (by kernel_rfl) ?_;go_simp;go_big_quiet_on)|go_big_quiet_step (fail))
   refine wpQuiet_nil ?_;unfold aD
   go_wp2_with((with_reducible go_at_call 76);refine(HHS.o _).mono ?_;rintro en w7 ⟨rfl,x7,rfl⟩)
   refine⟨aF (dW (aG wr) x7),?_⟩;have hW7:Below wr.heap.size wr (ext wr.drew x7):=dW (aG wr) x7;generalize ext wr.drew x7=w7 at*;obtain⟨bp7,cp7,qad,-,-,-,q9S⟩:=HGA.o w7 hW7
   have qbD:bp7=bp:=by
    have h1:=(hW7.cell (p:=⟨g,j,none⟩) hgw).trans hcr;rw[qad]at h1;simp at h1;exact h1.1
   subst qbD;obtain⟨qcY,qcS,q9N⟩:=q9S (j+1) (by omega);have qbZ:=qa q9N;have HW7:=qa (HW.o.trans (hW7.mono HW.o.size));have qd0:bp7<w7.heap.size:=qe qbC hW7.size
   have qc0:Hid (∀p r,p<s.size+1->r<s.size+1->(upd G j (j+1) z p r=true↔p<j+1/\r=p+1/\kV (bW x 0) ((txt s).getD p 0)=true)):=qa (fun p r hp hr=>by
    unfold upd;by_cases hpr:p=j/\r=j+1
    ·rw[qv hpr,HZ.o]
     obtain⟨rfl,rfl⟩:=hpr;exact⟨fun h=>⟨by omega,rfl,h⟩,fun h=>h.2.2⟩
    rw[qu hpr,HGS.o p r hp hr];exact⟨fun h=>⟨by omega,h.2⟩,fun h=>⟨by omega,h.2⟩⟩)
   clear HGA q9S q9N qad HST hW7 hcq hfq hcr;unfold aD;unfold aD;go_wp2;refine⟨trivial,?_⟩;unfold aD;go_wp2;refine⟨trivial,?_⟩;unfold aD;go_wp2
   go_roundg (s.size-(j+1))
   case measure=>omega
   case rel=>
    have h1:=qbZ.o z;exact⟨j+1,upd G j (j+1) z,by go_num,by omega,h1.1,qc0.o,HW7.o.grown h1.2 HW7.o.size (fun k hk=>by cases hk;omega),rfl⟩
  have hje:j=s.size:=by omega
  subst hje;go_wp2;go_ret;exact⟨_,rfl,⟨G,HGO.o.read,(q3T (by rw[HT.o]) (fun p r hp hr=>by rw[HGS.o p r hp hr,HT.o])).congr HLN.o⟩,HW.o⟩
def X1(w:World)(s:ByteArray)(v:Value)(k:Fo)(i:Nat):Prop:=∀(j:Nat) (x':World),j<cnt k->Below w.heap.size w x'->
 Calls prog 67 #[v,.int .i64 ((dX k i).getD j 0:Nat),.string s] x' fun e w'=>∃u,e=.returned u/\(∃G,fW w' u (s.size+1) G/\GL ((aX k).getD j lV) (txt s) (s.size+1) G)/\Below x'.heap.size x' w'
theorem xU.tgt{w:World}{v:Value}{s:ByteArray}:∀{f:Fo} {at_:Nat},xU w v s f at_->X1 w s v f at_
 |.nil,_,_,_,_,h,_=>absurd h (qB _)
 |.cons y ky r,at_,h,0,x',_,hb=>h.1 x' hb
 |.cons y ky r,at_,h,j+1,x',hj,hb=>xU.tgt h.2 j x' (by simpa[cnt]using hj) hb
theorem X1.up{w w':World}{v:Value}{s:ByteArray}{f:Fo}{at_:Nat}(h:X1 w s v f at_)(hb:Below w.heap.size w w'):X1 w' s v f at_:=fun j y hj hy=>h j y hj (hb.trans (hy.mono hb.size))
theorem q12(Ls:List Lng)(t:List Nat)(N:Nat):GL (uP Ls 0) t N (fun _ _=>false):=fun p r _ _=>by
 simp[uP]
theorem q13(Ls:List Lng)(j:Nat)(w:List Nat):(uP Ls j w\/Ls.getD j lV w)↔uP Ls (j+1) w:=by
 unfold uP
 constructor
 ·rintro(⟨i,hi,h⟩|h)
  ·exact⟨i,by omega,h⟩
  exact⟨j,by omega,h⟩
 rintro⟨i,hi,h⟩;rcases jP i j with h1|h1
 ·exact .inl ⟨i,h1,h⟩
 have:i=j:=by omega
 exact .inr (this▸h)
theorem fQ.cnt_le{w:World}{v:Value}{l:List Nd}{i:Nat}{x:Nd}{k:Fo}(h:fQ w v l i x k):cnt k<=400:=by
 obtain⟨post,hd⟩:=h.drop;have h1:=qZ List.length hd;simp only[j3,qz,qj]at h1;have h2:=Cm.cnt_le k;have:=h.len;omega
theorem q3W{w:World}{v:Value}{l:List Nd}{i:Nat}{x:Nd}{k:Fo}(h:fQ w v l i x k)(hk:x.kd=3)(s:ByteArray)(hs:s.size<=1000)(hko:X1 w s v k (i+1)):kP w v s x k i:=by
 intro x' hx';have HKI:=qa (h.up hx').kids;have HKC:=qa (hko.up hx');have hcn:=h.cnt_le;obtain⟨oa,cap,b,off,rfl,hix,hb,hc⟩:=(h.up hx').open;have hc0:=hc 0 (by decide);change x'.cell? ⟨b,off+i*8,none⟩=some (.int .i64 x.kd)at hc0;rw[hk]at hc0;have HLN:Hid (∀w,I9 (aX k) (cnt k) w↔cQ x (aX k) w):=qa (fun w=>by unfold cQ;simp[hk,lG]);have HT:=qa (kG s);clear hk hc h hx' hko;go_enter func67,ntmps67
 go_upto_region 2 with((with_reducible go_at_call 28);refine HKI.o.mono ?_;rintro en w1 ⟨u,rfl,hu,x1,rfl⟩;obtain⟨ok,ck,bk,fk,rfl,hdk,q5V⟩:=hu.open;(rw[show(nz (dX k (i+1))).length=cnt k by rw[mU,cD]]at hdk q5V⊢))
 have HW1:=qa (aC x' x1);have HCX:=qa (((aC x' x1).cell (p:=⟨b,off+i*8,none⟩) hb).trans hc0);have hs1:=(aC x' x1).size;clear hc0 HKI hu;generalize ext x' x1=w1 at*;have q67:=aZ (P:=prog) 27 3 underlying27 (by kernel_rfl) hdk;have HCK:=qa q5V;have HBK:=qa hdk.hblk;clear hdk q5V;have HG:=qa (sQ (w:=w1) (N:=s.size+1) (by omega));have HSM:=qa (fun(W:World)=>q0X (w:=W) (N:=s.size+1) (by omega) (by omega));rw[show((s.size+1:Nat):Int)=(s.size:Int)+1 by push_cast;rfl]at HG HSM
 go_upto_region 3 with((with_reducible go_at_call 75);refine HG.o.mono ?_;rintro en w2 ⟨u2,rfl,-,hb2⟩;have HB2:=qa hb2;clear hb2)
 have q68:b<w1.heap.size:=by omega
 have hc0:=(HB2.o.cell (p:=⟨b,off+i*8,none⟩) q68).trans HCX.o;have hbw:b<w2.heap.size:=by have:=HB2.o.size;omega
 go_wp2_with((with_reducible go_at_call 77);refine(HSM.o _).mono ?_;rintro en w3 ⟨u3,rfl,⟨G,hg,hgs⟩,hb3⟩;have HG3:=qa hg;have HL3:=qa (vN (by rw[HT.o]) hgs);have HB3:=qa (HB2.o.trans (hb3.mono HB2.o.size));clear hg hgs hb3)
 clear HG HSM HCX hc0 HB2
 go_loopg [8,10] (cnt k) (fun gk ov jv wr=>∃(j:Nat) (G:Nat->Nat->Bool),jv=.int .i64 j/\j<=cnt k/\fW wr ov (s.size+1) G/\GL (I9 (aX k) j) (txt s) (s.size+1) G/\Below w1.heap.size w1 wr/\gk=cnt k-j)
 case atStart=>exact⟨0,G,rfl,qd _,HG3.o,HL3.o,HB3.o,rfl⟩
 case round=>
  obtain⟨j,G,rfl,hj,hg,hgl,hbl,rfl⟩:=hrel;have HGR:=qa hg;have HGL:=qa hgl;have HW:=qa hbl;clear hg hgl hbl HG3 HL3 HB3;by_cases hlt:j<cnt k
  ·have hcj:=HCK.o j hlt
   rw[uM _ _ (by rw[cD];exact hlt)]at hcj;have hbk:=HBK.o (by omega);have q91:=(HW.o.cell (p:=⟨bk,fk+j,none⟩) hbk).trans hcj;have q7a:bk<wr.heap.size:=by have:=HW.o.size;omega
   have HP:=qa (HKC.o j wr hlt (HW1.o.trans (HW.o.mono HW1.o.size)));generalize (dX k (i+1)).getD j 0=kj at*;clear hcj
   go_wp2_with(first
    |((with_reducible go_at_call 67);refine HP.o.mono ?_;rintro en w4 ⟨u4,rfl,⟨G4,hg4,hl4⟩,hb⟩;have HG4:=qa hg4;have HL4:=qa hl4;have HB4:=qa hb;clear hg4 hl4 hb)
    |((with_reducible go_at_call 78);refine(q3N (HGR.o.up HB4.o) HG4.o (Nat.succ_pos _) (by omega)).mono ?_;rintro en w5 ⟨u5,rfl,⟨G5,hg5,hs5⟩,hb⟩;have HG5:=qa hg5;have HL5:=qa (vM (by rw[HT.o]) HGL.o HL4.o hs5);have HB5:=qa (HW.o.trans ((HB4.o.trans (hb.mono HB4.o.size)).mono HW.o.size));clear hg5 hs5 hb))
   exact ZmL8
  exact ZmL3
theorem q3X{w:World}{v:Value}{l:List Nd}{i:Nat}{x:Nd}{k:Fo}(h:fQ w v l i x k)(hk:x.kd=4)(s:ByteArray)(hs:s.size<=1000)(hko:X1 w s v k (i+1)):kP w v s x k i:=by
 intro x' hx';have HKI:=qa (h.up hx').kids;have HKC:=qa (hko.up hx');have hcn:=h.cnt_le;obtain⟨oa,cap,b,off,rfl,hix,hb,hc⟩:=(h.up hx').open;have hc0:=hc 0 (by decide);change x'.cell? ⟨b,off+i*8,none⟩=some (.int .i64 x.kd)at hc0;rw[hk]at hc0;have HLN:Hid (∀w,uP (aX k) (cnt k) w↔cQ x (aX k) w):=qa (fun w=>by unfold cQ;simp[hk,lG]);have HT:=qa (kG s);clear hk hc h hx' hko;go_enter func67,ntmps67
 go_upto_region 2 with((with_reducible go_at_call 28);refine HKI.o.mono ?_;rintro en w1 ⟨u,rfl,hu,x1,rfl⟩;obtain⟨ok,ck,bk,fk,rfl,hdk,q5V⟩:=hu.open;(rw[show(nz (dX k (i+1))).length=cnt k by rw[mU,cD]]at hdk q5V⊢))
 have HW1:=qa (aC x' x1);have HCX:=qa (((aC x' x1).cell (p:=⟨b,off+i*8,none⟩) hb).trans hc0);have hs1:=(aC x' x1).size;clear hc0 HKI hu;generalize ext x' x1=w1 at*;have q67:=aZ (P:=prog) 27 3 underlying27 (by kernel_rfl) hdk;have HCK:=qa q5V;have HBK:=qa hdk.hblk;clear hdk q5V;have HG:=qa (sQ (w:=w1) (N:=s.size+1) (by omega));rw[show((s.size+1:Nat):Int)=(s.size:Int)+1 by push_cast;rfl]at HG
 go_upto_region 3 with((with_reducible go_at_call 75);refine HG.o.mono ?_;rintro en w2 ⟨u2,rfl,ho,hb2⟩;have HO:=qa ho.read;have HB2:=qa hb2;clear hb2 ho)
 have q68:b<w1.heap.size:=by omega
 have hc0:=(HB2.o.cell (p:=⟨b,off+i*8,none⟩) q68).trans HCX.o;have hbw:b<w2.heap.size:=by have:=HB2.o.size;omega
 go_wp2;clear HG HCX hc0
 go_loopg [8,11] (cnt k) (fun gk ov jv wr=>∃(j:Nat) (G:Nat->Nat->Bool),jv=.int .i64 j/\j<=cnt k/\fW wr ov (s.size+1) G/\GL (uP (aX k) j) (txt s) (s.size+1) G/\Below w1.heap.size w1 wr/\gk=cnt k-j)
 case atStart=>exact⟨0,_,rfl,qd _,HO.o,q12 _ _ _,HB2.o,rfl⟩
 case round=>
  obtain⟨j,G,rfl,hj,hg,hgl,hbl,rfl⟩:=hrel;have HGR:=qa hg;have HGL:=qa hgl;have HW:=qa hbl;clear hg hgl hbl HO HB2;by_cases hlt:j<cnt k
  ·have hcj:=HCK.o j hlt
   rw[uM _ _ (by rw[cD];exact hlt)]at hcj;have hbk:=HBK.o (by omega);have q91:=(HW.o.cell (p:=⟨bk,fk+j,none⟩) hbk).trans hcj;have q7a:bk<wr.heap.size:=by have:=HW.o.size;omega
   have HP:=qa (HKC.o j wr hlt (HW1.o.trans (HW.o.mono HW1.o.size)));generalize (dX k (i+1)).getD j 0=kj at*;clear hcj
   go_wp2_with(first
    |((with_reducible go_at_call 67);refine HP.o.mono ?_;rintro en w4 ⟨u4,rfl,⟨G4,hg4,hl4⟩,hb⟩;have HG4:=qa hg4;have HL4:=qa hl4;have HB4:=qa hb;clear hg4 hl4 hb)
    |((with_reducible go_at_call 79);refine(zL (HGR.o.up HB4.o) HG4.o (Nat.succ_pos _) (by omega)).mono ?_;rintro en w5 ⟨u5,rfl,⟨G5,hg5,hs5⟩,hb⟩;have HG5:=qa hg5.read;have HL5:=qa ((xT HGL.o HL4.o hs5).congr (q13 _ _));have HB5:=qa (HW.o.trans ((HB4.o.trans (hb.mono HB4.o.size)).mono HW.o.size));clear hg5 hs5 hb))
   exact ZmL8
  exact ZmL3
theorem vO{k:Fo}(h:cnt k=1)(i:Nat):(dX k i).getD 0 0=i/\dX k i=[i]:=by
 cases k with
 |nil=>cases h
 |cons y ky r=>
  have:r=.nil:=fY r (by simpa[cnt]using h);subst this;exact⟨rfl,rfl⟩
theorem q3Y{w:World}{v:Value}{l:List Nd}{i:Nat}{x:Nd}{k:Fo}(h:fQ w v l i x k)(hk:x.kd=5)(hk1:cnt k=1)(s:ByteArray)(hs:s.size<=1000)(hko:X1 w s v k (i+1)):kP w v s x k i:=by
 intro x' hx';have HKI:=qa (h.up hx').kids;have HKC:=qa (hko.up hx');obtain⟨oa,cap,b,off,rfl,hix,hb,hc⟩:=(h.up hx').open;have hc0:=hc 0 (by decide);change x'.cell? ⟨b,off+i*8,none⟩=some (.int .i64 x.kd)at hc0;rw[hk]at hc0;have HLN:Hid (∀w,bM 0 (-1) ((aX k).getD 0 lV) w↔cQ x (aX k) w):=qa (fun w=>by unfold cQ;simp[hk]);have HT:=qa (kG s);obtain⟨hk0,hkl⟩:=vO hk1 (i+1);have HK0:=qa hk0;have HKL:=qa hkl;have HK1:=qa hk1;clear hk hc h hx' hko hk0 hkl hk1;go_enter func67,ntmps67
 go_upto_region 2 with((with_reducible go_at_call 28);refine HKI.o.mono ?_;rintro en w1 ⟨u,rfl,hu,x1,rfl⟩;obtain⟨ok,ck,bk,fk,rfl,hdk,q5V⟩:=hu.open;rw[HKL.o]at hdk q5V⊢;rw[show(nz [i+1]).length=1 from rfl]at hdk q5V⊢)
 have HW1:=qa (aC x' x1);have HCX:=qa (((aC x' x1).cell (p:=⟨b,off+i*8,none⟩) hb).trans hc0);have hs1:=(aC x' x1).size;have q65:=q5V 0 (by decide);change(ext x' x1).cell? ⟨bk,fk+0,none⟩=some (.int .i64 ((i+1:Nat):Int))at q65;rw[jD]at q65;clear hc0 HKI hu q5V HKL;generalize ext x' x1=w1 at*;have q67:=aZ (P:=prog) 27 3 underlying27 (by kernel_rfl) hdk;have q7b:=hdk.hblk (by decide)
 have q77:∀W:World,(Instr.indexAt 27 (.slice ok 1 ck) (.int .i64 0)).run prog W=.ok (.pointer (some ⟨bk,fk,none⟩)) W:=fun W=>by
  have:=q67 W .i64 0 (by decide) (by decide);simpa using this
 clear hdk q67;have HG:=qa (sQ (w:=w1) (N:=s.size+1) (by omega));rw[show((s.size+1:Nat):Int)=(s.size:Int)+1 by push_cast;rfl]at HG;obtain⟨kj,hkj⟩:∃kj,kj=((i+1:Nat):Int):=⟨_,rfl⟩;rw[<-hkj]at q65;have HKJ:=qa hkj;clear hkj
 go_upto_region 3 with((with_reducible go_at_call 75);refine HG.o.mono ?_;rintro en w2 ⟨u2,rfl,-,hb2⟩;have HB2:=qa hb2;clear hb2)
 have q68:b<w1.heap.size:=by omega
 have hc0:=(HB2.o.cell (p:=⟨b,off+i*8,none⟩) q68).trans HCX.o;have hbw:b<w2.heap.size:=by have:=HB2.o.size;omega
 have q7W:=(HB2.o.cell (p:=⟨bk,fk,none⟩) q7b).trans q65;have q7a:bk<w2.heap.size:=by have:=HB2.o.size;omega
 have HP:=qa (HKC.o 0 w2 (by rw[HK1.o];exact Nat.zero_lt_one) (HW1.o.trans (HB2.o.mono HW1.o.size)));rw[HK0.o,<-HKJ.o]at HP;clear q65 HKC
 go_wp2_with(first
  |((with_reducible go_at_call 67);refine HP.o.mono ?_;rintro en w4 ⟨u4,rfl,⟨G4,hg4,hl4⟩,hb⟩;have HG4:=qa hg4;have HL4:=qa hl4;have HB4:=qa hb;have HTI:=qa (F4 (w:=w4) hg4 hl4 (by rw[HT.o]) (by omega) 0 (by decide) (-1) (by decide));clear hg4 hl4 hb)
  |((with_reducible go_at_call 80);refine HTI.o.mono ?_;rintro en w5 ⟨u5,rfl,⟨G5,hg5,hs5⟩,hb⟩;have HG5:=qa hg5;have HL5:=qa (hs5.congr HLN.o);have HB5:=qa (HW1.o.trans ((HB2.o.trans ((HB4.o.trans (hb.mono HB4.o.size)).mono HB2.o.size)).mono HW1.o.size));clear hg5 hs5 hb))
 go_ret;exact⟨_,rfl,⟨G5,HG5.o,HL5.o⟩,HB5.o⟩
theorem q3Z{w:World}{v:Value}{l:List Nd}{i:Nat}{x:Nd}{k:Fo}(h:fQ w v l i x k)(hk:x.kd=6)(hk1:cnt k=1)(s:ByteArray)(hs:s.size<=1000)(hko:X1 w s v k (i+1)):kP w v s x k i:=by
 intro x' hx';have HKI:=qa (h.up hx').kids;have HKC:=qa (hko.up hx');obtain⟨oa,cap,b,off,rfl,hix,hb,hc⟩:=(h.up hx').open;have hc0:=hc 0 (by decide);change x'.cell? ⟨b,off+i*8,none⟩=some (.int .i64 x.kd)at hc0;rw[hk]at hc0;have HLN:Hid (∀w,bM 1 (-1) ((aX k).getD 0 lV) w↔cQ x (aX k) w):=qa (fun w=>by unfold cQ;simp[hk]);have HT:=qa (kG s);obtain⟨hk0,hkl⟩:=vO hk1 (i+1);have HK0:=qa hk0;have HKL:=qa hkl;have HK1:=qa hk1;clear hk hc h hx' hko hk0 hkl hk1;go_enter func67,ntmps67
 go_upto_region 2 with((with_reducible go_at_call 28);refine HKI.o.mono ?_;rintro en w1 ⟨u,rfl,hu,x1,rfl⟩;obtain⟨ok,ck,bk,fk,rfl,hdk,q5V⟩:=hu.open;rw[HKL.o]at hdk q5V⊢;rw[show(nz [i+1]).length=1 from rfl]at hdk q5V⊢)
 have HW1:=qa (aC x' x1);have HCX:=qa (((aC x' x1).cell (p:=⟨b,off+i*8,none⟩) hb).trans hc0);have hs1:=(aC x' x1).size;have q65:=q5V 0 (by decide);change(ext x' x1).cell? ⟨bk,fk+0,none⟩=some (.int .i64 ((i+1:Nat):Int))at q65;rw[jD]at q65;clear hc0 HKI hu q5V HKL;generalize ext x' x1=w1 at*;have q67:=aZ (P:=prog) 27 3 underlying27 (by kernel_rfl) hdk;have q7b:=hdk.hblk (by decide)
 have q77:∀W:World,(Instr.indexAt 27 (.slice ok 1 ck) (.int .i64 0)).run prog W=.ok (.pointer (some ⟨bk,fk,none⟩)) W:=fun W=>by
  have:=q67 W .i64 0 (by decide) (by decide);simpa using this
 clear hdk q67;have HG:=qa (sQ (w:=w1) (N:=s.size+1) (by omega));rw[show((s.size+1:Nat):Int)=(s.size:Int)+1 by push_cast;rfl]at HG;obtain⟨kj,hkj⟩:∃kj,kj=((i+1:Nat):Int):=⟨_,rfl⟩;rw[<-hkj]at q65;have HKJ:=qa hkj;clear hkj
 go_upto_region 3 with((with_reducible go_at_call 75);refine HG.o.mono ?_;rintro en w2 ⟨u2,rfl,-,hb2⟩;have HB2:=qa hb2;clear hb2)
 have q68:b<w1.heap.size:=by omega
 have hc0:=(HB2.o.cell (p:=⟨b,off+i*8,none⟩) q68).trans HCX.o;have hbw:b<w2.heap.size:=by have:=HB2.o.size;omega
 have q7W:=(HB2.o.cell (p:=⟨bk,fk,none⟩) q7b).trans q65;have q7a:bk<w2.heap.size:=by have:=HB2.o.size;omega
 have HP:=qa (HKC.o 0 w2 (by rw[HK1.o];exact Nat.zero_lt_one) (HW1.o.trans (HB2.o.mono HW1.o.size)));rw[HK0.o,<-HKJ.o]at HP;clear q65 HKC
 go_wp2_with(first
  |((with_reducible go_at_call 67);refine HP.o.mono ?_;rintro en w4 ⟨u4,rfl,⟨G4,hg4,hl4⟩,hb⟩;have HG4:=qa hg4;have HL4:=qa hl4;have HB4:=qa hb;have HTI:=qa (F4 (w:=w4) hg4 hl4 (by rw[HT.o]) (by omega) 1 (by decide) (-1) (by decide));clear hg4 hl4 hb)
  |((with_reducible go_at_call 80);refine HTI.o.mono ?_;rintro en w5 ⟨u5,rfl,⟨G5,hg5,hs5⟩,hb⟩;have HG5:=qa hg5;have HL5:=qa (hs5.congr HLN.o);have HB5:=qa (HW1.o.trans ((HB2.o.trans ((HB4.o.trans (hb.mono HB4.o.size)).mono HB2.o.size)).mono HW1.o.size));clear hg5 hs5 hb))
 go_ret;exact⟨_,rfl,⟨G5,HG5.o,HL5.o⟩,HB5.o⟩
theorem q40{w:World}{v:Value}{l:List Nd}{i:Nat}{x:Nd}{k:Fo}(h:fQ w v l i x k)(hk:x.kd=7)(hk1:cnt k=1)(s:ByteArray)(hs:s.size<=1000)(hko:X1 w s v k (i+1)):kP w v s x k i:=by
 intro x' hx';have HKI:=qa (h.up hx').kids;have HKC:=qa (hko.up hx');obtain⟨oa,cap,b,off,rfl,hix,hb,hc⟩:=(h.up hx').open;have hc0:=hc 0 (by decide);change x'.cell? ⟨b,off+i*8,none⟩=some (.int .i64 x.kd)at hc0;rw[hk]at hc0;have HLN:Hid (∀w,bM 0 1 ((aX k).getD 0 lV) w↔cQ x (aX k) w):=qa (fun w=>by unfold cQ;simp[hk]);have HT:=qa (kG s);obtain⟨hk0,hkl⟩:=vO hk1 (i+1);have HK0:=qa hk0;have HKL:=qa hkl;have HK1:=qa hk1;clear hk hc h hx' hko hk0 hkl hk1;go_enter func67,ntmps67
 go_upto_region 2 with((with_reducible go_at_call 28);refine HKI.o.mono ?_;rintro en w1 ⟨u,rfl,hu,x1,rfl⟩;obtain⟨ok,ck,bk,fk,rfl,hdk,q5V⟩:=hu.open;rw[HKL.o]at hdk q5V⊢;rw[show(nz [i+1]).length=1 from rfl]at hdk q5V⊢)
 have HW1:=qa (aC x' x1);have HCX:=qa (((aC x' x1).cell (p:=⟨b,off+i*8,none⟩) hb).trans hc0);have hs1:=(aC x' x1).size;have q65:=q5V 0 (by decide);change(ext x' x1).cell? ⟨bk,fk+0,none⟩=some (.int .i64 ((i+1:Nat):Int))at q65;rw[jD]at q65;clear hc0 HKI hu q5V HKL;generalize ext x' x1=w1 at*;have q67:=aZ (P:=prog) 27 3 underlying27 (by kernel_rfl) hdk;have q7b:=hdk.hblk (by decide)
 have q77:∀W:World,(Instr.indexAt 27 (.slice ok 1 ck) (.int .i64 0)).run prog W=.ok (.pointer (some ⟨bk,fk,none⟩)) W:=fun W=>by
  have:=q67 W .i64 0 (by decide) (by decide);simpa using this
 clear hdk q67;have HG:=qa (sQ (w:=w1) (N:=s.size+1) (by omega));rw[show((s.size+1:Nat):Int)=(s.size:Int)+1 by push_cast;rfl]at HG;obtain⟨kj,hkj⟩:∃kj,kj=((i+1:Nat):Int):=⟨_,rfl⟩;rw[<-hkj]at q65;have HKJ:=qa hkj;clear hkj
 go_upto_region 3 with((with_reducible go_at_call 75);refine HG.o.mono ?_;rintro en w2 ⟨u2,rfl,-,hb2⟩;have HB2:=qa hb2;clear hb2)
 have q68:b<w1.heap.size:=by omega
 have hc0:=(HB2.o.cell (p:=⟨b,off+i*8,none⟩) q68).trans HCX.o;have hbw:b<w2.heap.size:=by have:=HB2.o.size;omega
 have q7W:=(HB2.o.cell (p:=⟨bk,fk,none⟩) q7b).trans q65;have q7a:bk<w2.heap.size:=by have:=HB2.o.size;omega
 have HP:=qa (HKC.o 0 w2 (by rw[HK1.o];exact Nat.zero_lt_one) (HW1.o.trans (HB2.o.mono HW1.o.size)));rw[HK0.o,<-HKJ.o]at HP;clear q65 HKC
 go_wp2_with(first
  |((with_reducible go_at_call 67);refine HP.o.mono ?_;rintro en w4 ⟨u4,rfl,⟨G4,hg4,hl4⟩,hb⟩;have HG4:=qa hg4;have HL4:=qa hl4;have HB4:=qa hb;have HTI:=qa (F4 (w:=w4) hg4 hl4 (by rw[HT.o]) (by omega) 0 (by decide) (1) (by decide));clear hg4 hl4 hb)
  |((with_reducible go_at_call 80);refine HTI.o.mono ?_;rintro en w5 ⟨u5,rfl,⟨G5,hg5,hs5⟩,hb⟩;have HG5:=qa hg5;have HL5:=qa (hs5.congr HLN.o);have HB5:=qa (HW1.o.trans ((HB2.o.trans ((HB4.o.trans (hb.mono HB4.o.size)).mono HB2.o.size)).mono HW1.o.size));clear hg5 hs5 hb))
 go_ret;exact⟨_,rfl,⟨G5,HG5.o,HL5.o⟩,HB5.o⟩
theorem q41{w:World}{v:Value}{l:List Nd}{i:Nat}{x:Nd}{k:Fo}(h:fQ w v l i x k)(hk:x.kd=8)(hk1:cnt k=1)(hlo:0<=x.lo/\x.lo<=30/\(x.hi= -1\/(x.lo<=x.hi/\x.hi<=30)))(s:ByteArray)(hs:s.size<=1000)(hko:X1 w s v k (i+1)):kP w v s x k i:=by
 intro x' hx';have HKI:=qa (h.up hx').kids;have HKC:=qa (hko.up hx');obtain⟨oa,cap,b,off,rfl,hix,hb,hc⟩:=(h.up hx').open;have hc0:=hc 0 (by decide);change x'.cell? ⟨b,off+i*8,none⟩=some (.int .i64 x.kd)at hc0;rw[hk]at hc0;have hc6:=hc 6 (by decide);change x'.cell? ⟨b,off+i*8+6,none⟩=some (.int .i64 x.lo)at hc6;have hc7:=hc 7 (by decide);change x'.cell? ⟨b,off+i*8+7,none⟩=some (.int .i64 x.hi)at hc7;have HLN:Hid (∀w,bM x.lo x.hi ((aX k).getD 0 lV) w↔cQ x (aX k) w):=qa (fun w=>by unfold cQ;simp[hk]);have HT:=qa (kG s);obtain⟨hk0,hkl⟩:=vO hk1 (i+1);have HK0:=qa hk0;have HKL:=qa hkl;have HK1:=qa hk1;clear hk hc h hx' hko hk0 hkl hk1;obtain⟨lo,qa2⟩:=jF hlo.1;have HLO:Hid (lo<=1000/\(x.hi= -1\/((lo:Int)<=x.hi/\x.hi<=1000))):=qa (by omega);rw[qa2]at hc6 HLN;generalize x.hi=hi at*;clear hlo qa2;go_enter func67,ntmps67
 go_upto_region 2 with((with_reducible go_at_call 28);refine HKI.o.mono ?_;rintro en w1 ⟨u,rfl,hu,x1,rfl⟩;obtain⟨ok,ck,bk,fk,rfl,hdk,q5V⟩:=hu.open;rw[HKL.o]at hdk q5V⊢;rw[show(nz [i+1]).length=1 from rfl]at hdk q5V⊢)
 have HW1:=qa (aC x' x1);have HCX:=qa (((aC x' x1).cell (p:=⟨b,off+i*8,none⟩) hb).trans hc0);have hs1:=(aC x' x1).size;have q65:=q5V 0 (by decide);change(ext x' x1).cell? ⟨bk,fk+0,none⟩=some (.int .i64 ((i+1:Nat):Int))at q65;rw[jD]at q65;clear hc0 HKI hu q5V HKL;generalize ext x' x1=w1 at*;have q67:=aZ (P:=prog) 27 3 underlying27 (by kernel_rfl) hdk;have q7b:=hdk.hblk (by decide)
 have q77:∀W:World,(Instr.indexAt 27 (.slice ok 1 ck) (.int .i64 0)).run prog W=.ok (.pointer (some ⟨bk,fk,none⟩)) W:=fun W=>by
  have:=q67 W .i64 0 (by decide) (by decide);simpa using this
 clear hdk q67;have HG:=qa (sQ (w:=w1) (N:=s.size+1) (by omega));rw[show((s.size+1:Nat):Int)=(s.size:Int)+1 by push_cast;rfl]at HG;obtain⟨kj,hkj⟩:∃kj,kj=((i+1:Nat):Int):=⟨_,rfl⟩;rw[<-hkj]at q65;have HKJ:=qa hkj;clear hkj
 go_upto_region 3 with((with_reducible go_at_call 75);refine HG.o.mono ?_;rintro en w2 ⟨u2,rfl,-,hb2⟩;have HB2:=qa hb2;clear hb2)
 have q68:b<w1.heap.size:=by omega
 have hc0:=(HB2.o.cell (p:=⟨b,off+i*8,none⟩) q68).trans HCX.o;have hbw:b<w2.heap.size:=by have:=HB2.o.size;omega
 have q7W:=(HB2.o.cell (p:=⟨bk,fk,none⟩) q7b).trans q65;have q7a:bk<w2.heap.size:=by have:=HB2.o.size;omega
 have HW2:=qa (HW1.o.trans (HB2.o.mono HW1.o.size));have HP:=qa (HKC.o 0 w2.drew (by rw[HK1.o];exact Nat.zero_lt_one) (HW2.o.trans ((aG w2).mono HW2.o.size)));rw[HK0.o,<-HKJ.o]at HP;clear q65 HKC;have HC6:=qa ((HW1.o.trans (HB2.o.mono HW1.o.size)).cell (p:=⟨b,off+i*8+6,none⟩) hb |>.trans hc6);have HC7:=qa ((HW1.o.trans (HB2.o.mono HW1.o.size)).cell (p:=⟨b,off+i*8+7,none⟩) hb |>.trans hc7);have h6:=HC6.o;have h7:=HC7.o;clear hc6 hc7;go_wp2;refine uT [([0,1,2,3,4,6,7,8,9,10,11,12,13,14,15],[5,16]),([17],[])] (by kernel_rfl) (by kernel_rfl) ?_
 (unfold hU;simp only[pk])
 repeat(go_big_quiet_step (fail))
 refine wpQuiet_nil ?_;unfold aD
 go_wp2_with((with_reducible go_at_call 67);refine HP.o.mono ?_;rintro en w4 ⟨u4,rfl,⟨G4,hg4,hl4⟩,hb⟩;have HG4:=qa hg4;have HL4:=qa hl4;have HB4:=qa ((aG w2).trans (hb.mono (aG w2).size));have HTI:=qa (F4 (w:=w4) hg4 hl4 (by rw[HT.o]) (by omega) lo HLO.o.1 hi HLO.o.2);clear hg4 hl4 hb)
 refine⟨aF HB4.o,?_⟩;unfold aD
 go_wp2_with((with_reducible go_at_call 80);refine HTI.o.mono ?_;rintro en w5 ⟨u5,rfl,⟨G5,hg5,hs5⟩,hb⟩;have HG5:=qa hg5;have HL5:=qa (hs5.congr HLN.o);have HB5:=qa (HB4.o.trans (hb.mono HB4.o.size));clear hg5 hs5 hb)
 refine⟨aF HB5.o,?_⟩;unfold aD
 (unfold hU;simp only[pk])
 repeat(go_big_quiet_step (fail))
 refine wpQuiet_nil ?_;unfold aD;unfold hU;intro hz;clear hz;go_wp2;go_ret;exact⟨_,rfl,⟨G5,HG5.o,HL5.o⟩,HW2.o.trans (HB5.o.mono HW2.o.size)⟩
theorem X2{w:World}{v:Value}{l:List Nd}(hat:aO w v l)(hl:l.length<=400)(s:ByteArray)(hs:s.size<=1000):∀(f:Fo) (at_:Nat) (post:List Nd),l.drop at_=aT f++post->wf f->gT okN f->gT NdQ f->xU w v s f at_
 |.nil,_,_,_,_,_,_=>trivial
 |.cons x k r,at_,post,hd,hw,ho,hq=>by
  obtain⟨hn,hwk,hwr⟩:=hw;obtain⟨hox,hok,hor⟩:=ho;obtain⟨hqx,hqk,hqr⟩:=hq;simp only[aT,jl,qk]at hd;obtain⟨-,-,hd1⟩:=cZ (d:=zN) hd;have hN:fQ w v l at_ x k:=⟨hat,hl,⟨aT r++post,hd⟩,hn,hwk⟩;have hK:X1 w s v k (at_+1):=(X2 hat hl s hs k (at_+1) (aT r++post) hd1 hwk hok hqk).tgt;refine⟨?_,X2 hat hl s hs r (at_+1+(aT k).length) post (kD hd1) hwr hor hqr⟩;rcases hox with⟨h,-⟩|⟨h,-⟩|⟨h|h,-⟩|⟨h|h|h,h1,-⟩|⟨h,h1,-,h2,h3,h4⟩
  ·exact q3V hN h hqx s hs
  ·exact q3U hN h s hs
  ·exact q3W hN h s hs hK
  ·exact q3X hN h s hs hK
  ·exact q3Y hN h (by omega) s hs hK
  ·exact q3Z hN h (by omega) s hs hK
  ·exact q40 hN h (by omega) s hs hK
  exact q41 hN h (by omega) ⟨h2,h3,h4⟩ s hs hK
theorem q42{w:World}{v:Value}{l:List Nd}(h:aO w v l)(hc:Chk l)(hq:∀x∈l,NdQ x)(s:ByteArray)(hs:s.size<=1000):
  Calls prog 44 #[v,.string s] w fun e w'=>∃b:Bool,e=.returned (.bool b)/\(b=true↔kX l (txt s))/\∃x,w'=ext w x:=by
 obtain⟨x,k,h1,h2,h3,h4,h5,h6,h7,-⟩:=iI hc
 have q7S:kX l=cQ x (aX k):=by
  unfold kX q2e;rw[h1,j6,dR x k h2 h3]
  rfl
 have hd0:l.drop 0=aT (.cons x k .nil)++[]:=by rw[List.drop_zero,h1];simp[aT]
 have hP:=(X2 h h6 s hs (.cons x k .nil) 0 [] hd0 ⟨h2,h3,trivial⟩ ⟨h4,h5,trivial⟩ ⟨hq x (by rw[h1];simp),(eW k).2 fun z hz=>hq z (by rw[h1];simp[hz]),trivial⟩).1 w (qn _ _);rw[<-q7S]at hP;have HP:=qa hP;rw[show((0:Nat):Int)=0 from rfl]at HP;have HT:=qa (kG s);clear h hc hq h1 h2 h3 h4 h5 h7 hd0 hP q7S;go_enter func44,ntmps44
 go_wp2_with((with_reducible go_at_call 67);refine HP.o.mono ?_;rintro en w1 ⟨u,rfl,⟨G,hg,hl⟩,hb⟩;have HB:=qa hb;(have HG:=qa (hl 0 s.size (by omega) (by omega)));obtain⟨oa,cap,b,off,rfl,hd,hr⟩:=hg.open;obtain⟨op,cp,bp,fp,hcr,hdp,hcp⟩:=hr 0 (by omega);(have hcc:=hcp s.size (by omega));(have q6Q:=fun W=>eP hd W 0 (by omega));(have qa6:=fun W=>eB hdp W s.size (by omega));(rw[jD]at q6Q hcr);(rw[show((0:Nat):Int)=0 from rfl]at q6Q);(have qd2:=hd.hblk (by omega));(have qd1:=hdp.hblk (by omega));generalize G 0 s.size=g at*;clear hg hl hb hr hcp hd hdp)
 go_ret;refine⟨g,rfl,?_,aF HB.o⟩;rw[HG.o,List.drop_zero,Nat.sub_zero,<-HT.o,j0];simp
theorem X3{w:World}{v:Value}{ll:List (List Nd)}(h:dO w v ll)(hc:∀l∈ll,Chk l)(hq:mD ll)(h32:ll.length<=32)(s:ByteArray)(hs:s.size<=1000):
  Calls prog 25 #[v,.string s] w fun e w'=>∃u,e=.returned u/\fN w' u (nz (mK ll.length (fun k=>kX (ll.getD k []) (txt s))))/\∃x,w'=ext w x:=by
 obtain⟨P,hP⟩:∃P:Nat->Prop,P=fun k=>kX (ll.getD k []) (txt s):=⟨_,rfl⟩
 have HMA:Hid (∀(W:World) (i:Nat) (u:Value),Below w.heap.size w W->i<ll.length->aO w u (ll.getD i [])->Calls prog 44 #[u,.string s] W fun e w'=>∃b:Bool,e=.returned (.bool b)/\(b=true↔P i)/\∃x,w'=ext W x):=qa (fun W i u hb hi hn=>by
  have hm:ll.getD i []∈ll:=by simp[List.getD,hi]
  rw[hP];exact q42 (hn.up hb) (hc _ hm) (hq _ hm) s hs)
 rw[<-hP];obtain⟨oa,cap,b,off,rfl,hd,hcl⟩:=h.open;have HC:=qa hcl;have hix:=d9 hd;have hbk:=hd.hblk;clear h hc hq hP hcl hd;obtain⟨n,hn⟩:∃n,n=ll.length:=⟨_,rfl⟩;rw[<-hn]at hix hbk HC HMA h32⊢;clear hn;go_enter func25,ntmps25;go_wp2
 go_loopg [5,6] n (fun gk ov iv wr=>∃i:Nat,iv=.int .i64 i/\i<=n/\Own wr w.heap.size 3 ov (ints (nz (mK i P)))/\Below w.heap.size w wr/\gk=n-i)
 case atStart=>exact⟨0,rfl,qd _,Own.nil _ _ _,qn _ _,rfl⟩
 case round=>
  obtain⟨i,rfl,hi,hown,hbl,rfl⟩:=hrel;have HO:=qa hown;have HW:=qa hbl;clear hown hbl;by_cases hlt:i<n
  ·obtain⟨u,hcu,hnu⟩:=HC.o i hlt
   have hb:=hbk (by omega);have hcw:=(HW.o.cell (p:=⟨b,off+i,none⟩) hb).trans hcu;have hbw:b<wr.heap.size:=by have:=HW.o.size;omega
   have q64:=fun W=>hix W .i64 (i:Int) (by omega) (by omega);simp only[qC]at q64;have HM:=qa (HMA.o wr i u HW.o hlt hnu);have HSU:Hid ((P i->mK (i+1) P=mK i P++[i])/\(¬P i->mK (i+1) P=mK i P)):=qa ⟨fun hp=>by rw[wZ,@qy _ (Classical.propDecidable _) hp];simp,fun hp=>by rw[wZ,@qw _ (Classical.propDecidable _) hp];simp⟩;have HLE:Hid ((mK i P).length<=32):=qa (qc (J1 _ _) (by omega));clear hcu hnu
   go_upto_region 6 with((with_reducible go_at_call 44);refine HM.o.mono ?_;rintro en w1 ⟨bm,rfl,hbm,x1,rfl⟩;have HBM:=qa hbm;have HB1:=qa (aC wr x1);have HO1:=qa (HO.o.up (aC wr x1));generalize ext wr x1=w1 at*;clear hbm;cases bm)
   ·go_roundg (n-(i+1))
    case measure=>omega
    case rel=>exact⟨i+1,by go_num,by omega,by rw[HSU.o.2 (fun hp=>by have:=HBM.o.2 hp;cases this)];exact HO1.o,HW.o.trans (HB1.o.mono HW.o.size),rfl⟩
   have HS1:=qa (HW.o.trans (HB1.o.mono HW.o.size));have hlW:=qa (aB w1 (.cells #[.int .i64 (i:Int)] 3));have HX:Hid (Sl (w1.alloc (.cells #[.int .i64 (i:Int)] 3)) (.slice (some ⟨w1.heap.size,0,none⟩) 1 1) (ints (nz [i]))):=qa (by simpa[ints,nz]using fZ w1 #[.int .i64 (i:Int)] 3 (by simp));have HT1:=qa (HO1.o.up hlW.out);have HT3:Hid ((ints (nz (mK i P))).length+(ints (nz [i])).length<=4294967296):=qa (by have:=HLE.o;simp[nz];omega);have HT4:Hid (w.heap.size<=(w1.alloc (.cells #[.int .i64 (i:Int)] 3)).heap.size):=qa (qc HS1.o.size hlW.out.size)
   go_wp2_with(at_builtin;refine bU rfl (.tmp 19) (.tmp 21) 27 rfl w.heap.size 3 (.int .i64 0) 8 underlying27 (by kernel_rfl) rfl (by decide) u5 (ints (nz (mK i P))) rfl HT1.o (.slice (some ⟨w1.heap.size,0,none⟩) 1 1) (ints (nz [i])) rfl HX.o (wI _) HT3.o HT4.o ?_;intro v' w5 hown1 hg1 hk1;have HO5:=qa hown1;have HG1:=qa hg1;clear hown1 hg1 hk1;have HB5:=qa (iW (HS1.o.trans (hlW.out.mono HS1.o.size)) HT4.o HT1.o HG1.o))
   go_roundg (n-(i+1))
   case measure=>omega
   case rel=>
    refine⟨i+1,by go_num,by omega,?_,HB5.o,rfl⟩;rw[HSU.o.1 (HBM.o.1 trivial),wH,pY];exact HO5.o
  have hie:i=n:=by omega
  subst hie;go_wp2;go_ret;exact⟨_,rfl,HO.o.sl,aF HW.o⟩
theorem q2B{x:Ed}(h:WQ x.a/\WQ x.b/\WQ x.c/\WQ x.d):q4q x:=fun q=>by
 obtain⟨h1,h2,h3,h4⟩:=h;unfold kF
 exact ZmL9
def q34:Array Value:=(ints (List.replicate 256 0)).toArray
theorem F8(W:World):(zeroValue 25).run prog W=.ok (.agg q34) W:=by kernel_rfl
theorem X5:q34.toList=ints (List.replicate 256 0):=rfl
theorem q4L(w:World)(A:Array Value)(hA:A=q34):oG (w.alloc (.cells A 25)) 25 256 w.heap.size (List.replicate 256 0):=by
 subst hA;exact q0f w 25 q34 (List.replicate 256 0) X5 (by rw[qO];decide)
theorem nV{P:Program}{ops:Array Oper}{rest:List Oper}{o:Oper}{a:Act}{w:World}{Q:Exit->Act->World->Prop}(hgd:o.guard=none)(T n:Nat)(x y:Operand)(ho:o.op=.store T x y)
  (g:Nat) (hx:a.eval x=.pointer (some ⟨g,0,none⟩)) (cl c2:List Int) (hy:a.eval y=.agg (ints c2).toArray) (h2:c2.length=n) (hi:(P.info? T).map (·.size)=some n) (hown:oG w T n g cl)
  (h:∀w',oG w' T n g c2->w.grownBy w' (some g)->wpList P ops Q rest (a.put o.dst undef) w'):wpList P ops Q (o::rest) a w:=by
 have hs:(ints c2).toArray.size=n:=by simp[h2]
 have hl:(ints cl).length=n:=by rw[bE,hown.len]
 refine bD hgd T x y ho g T g n n hx (ints c2).toArray hy (by rw[hs];exact hi) (ints cl) hown.own (by omega) (fun u hu=>?_) fun w' hw hg=>h w' ⟨?_,h2⟩ hg
 ·simp only[ints,jz]at hu
  obtain⟨z,-,rfl⟩:=hu;rfl
 rw[jo (by omega),j6]at hw;exact hw
end Go.Cm
namespace Go.Cm
open Go.RowKit Go.Proofs Go.WideShapes Go.ChangeShapes Go.Deep
def EdW(x:Ed):Prop:=WQ x.a/\WQ x.b/\WQ x.c/\WQ x.d
theorem EdW.set{x:Ed}(h:EdW x):q4q x:=q2B h
instance :Inhabited Ed:=⟨⟨0,false,0,0,0,0⟩⟩
end Go.Cm
namespace Go.Cm
open Go.RowKit Go.Proofs Go.Maps
def rE(x:Ed):List Value:=[.int .u64 x.a,.int .u64 x.b,.int .u64 x.c,.int .u64 x.d]
def kv(x:Ed):Value:=.agg #[.int .u64 x.a,.int .u64 x.b,.int .u64 x.c,.int .u64 x.d]
theorem q1R{x y:Ed}:kv x=kv y↔gY x=gY y:=by
 unfold kv gY;simp
theorem q16:laidOutB prog=true:=by kernel_rfl
theorem xW:Keyed prog 54:=Keyed.of_law (deep_law_laid q16 (m:=2) (by omega) (jb (by kernel_rfl)) (by kernel_rfl) (by kernel_rfl))
theorem q43{a:Int}(h:WQ a):(Lit.int .u64 a).wf=true:=by
 unfold WQ at h;simp[Lit.wf,IntKind.min,IntKind.max,IntKind.signed,IntKind.bits];omega
theorem rF(d:Nat){a:Int}(h:WQ a):prog.keyLits (d+1) 52 [.int .u64 a]=some [.int .u64 a]:=by
 unfold Program.keyLits;simp[underlying52,q43 h]
theorem q2D{x:Ed}(h:EdW x):∃l,keyOf prog 54 (kv x)=some l:=by
 obtain⟨ha,hb,hc,hd⟩:=h;obtain⟨d,hd1⟩:∃d,prog.types.size=d+1:=Nat.exists_eq_succ_of_ne_zero (jb (by kernel_rfl));have c4:prog.cellsOf 54=4:=by kernel_rfl
 have c1:prog.cellsOf 52=1:=by kernel_rfl
 have hk:prog.keyType 54=true:=by kernel_rfl
 have hl:prog.keyLits (d+1+1) 54 [.int .u64 x.a,.int .u64 x.b,.int .u64 x.c,.int .u64 x.d]=some [.int .u64 x.a,.int .u64 x.b,.int .u64 x.c,.int .u64 x.d]:=by
  unfold Program.keyLits;rw[underlying54];simp only[c4,c1,qz,qN];rw[qv trivial];have h0:=rF d ha;have h1:=rF d hb;have h2:=rF d hc;have h3:=rF d hd;simp[List.range,List.range.loop,h0,h1,h2,h3]
 unfold keyOf;rw[underlying54];simp only[kv,hk,j5];rw[hd1]
 have hf:(Value.agg #[.int .u64 x.a,.int .u64 x.b,.int .u64 x.c,.int .u64 x.d]).formed prog 54=true:=by
  unfold Value.formed;rw[underlying54];simp[c4]
 rw[qv hf];have hv:(Value.agg #[.int .u64 x.a,.int .u64 x.b,.int .u64 x.c,.int .u64 x.d]).cells.toList=[.int .u64 x.a,.int .u64 x.b,.int .u64 x.c,.int .u64 x.d]:=rfl;rw[hv,hl];exact⟨_,rfl⟩
theorem L1{P:Program}{C:World->Prop}{o:Oper}{a:Act}{K:Act->Prop}(T:TypeId)(m x:Operand)(ho:o.op=.lookup T m x false)(mv xv v:Value)(hm:a.eval m=mv)(hx:a.eval x=xv)
  (h:∀w',C w'->(Instr.lookup T mv xv false).run P w'=.ok v w') (hk:K (a.put o.dst v)):o.quiet P a C K:=by
 refine⟨v,fun w' hw'=>?_,hk⟩;unfold Oper.quietAt execOp;simp only[ho,hm,hx,Sem.run_bind,h w' hw',Result.andThen_ok,Sem.run_pure,Oper.quietUpon];exact⟨trivial,trivial⟩
theorem nX(l:List Ed):∀x∈l.map rE,x.length=4:=by
 intro x hx;obtain⟨e,-,rfl⟩:=List.mem_map.1 hx
 rfl
theorem q1S{l:List Ed}{x:Ed}:kv x∈l.map kv↔gY x∈l.map gY:=by
 simp only[jz];exact⟨fun⟨a,ha,h⟩=>⟨a,ha,q1R.1 h⟩,fun⟨a,ha,h⟩=>⟨a,ha,q1R.2 h⟩⟩
def M1(x:Ed)(c:Nat):Int:=kF x (c/64)/2^(c%64)%2
theorem q17(x:Ed)(c:Nat):kV x c=(M1 x c==1):=by
 unfold kV M1 kF
 have h2:(if c<64 then x.a else if c<128 then x.b else if c<192 then x.c else x.d)=(if c/64=0 then x.a else if c/64=1 then x.b else if c/64=2 then x.c else x.d):=by
  (repeat' split)<;>first|rfl|omega
 rw[h2]
theorem q2E(x:Ed)(c:Nat):M1 x c=0\/M1 x c=1:=by unfold M1;omega
theorem gW{α:Type} [DecidableEq α]{l ks:List α}{x:α}(h:x∈l):x∈l.foldl bG ks:=by
 induction l generalizing ks with
 |nil=>cases h
 |cons a l ih=>
  rw[qK];rcases List.mem_cons.1 h with rfl|h
  ·obtain⟨k,hk⟩:=bK l (bG ks x)
   rw[hk];exact j4 _ (lY.2 (.inr rfl))
  exact ih h
def OkL(n:Nat)(L:List Nat):Prop:=L.length<=n/\∀s∈L,s<n
theorem q19(n:Nat)(P:Nat->Prop):OkL n (mK n P):=⟨q0v n P,fun _ hs=>(r0.1 hs).1⟩
theorem q1a(e:List (List Ed))(F:Int)(r st:List Int)(c:Nat):OkL e.length (q2g e F r st c):=by
 unfold q2g q3n;split
 ·exact q19 _ _
 exact⟨qd _,fun _ hs=>by cases hs⟩
theorem q2I(e:List (List Ed))(F:Int)(r:List Int)(L:List Nat):∀x∈gP e F r L,OkL e.length x:=by
 intro x hx;obtain⟨c,-,rfl⟩:=List.mem_map.1 hx;exact q1a _ _ _ _ _
theorem q1b{n:Nat}{l R:List (List Nat)}(hR:∀x∈R,OkL n x)(hl:∀x∈l,OkL n x):∀x∈l.foldl bG R,OkL n x:=by
 induction l generalizing R with
 |nil=>exact hR
 |cons a l ih=>
  exact ZmL7
structure q2J(e:List (List Ed))(F:Int)(r:List Int)(i:Nat)(R:List (List Nat)):Prop where
 le:i<=R.length
 len:R.length<=1000
 go:goS (gP e F r) [] (1001-i) i R=R9 e F r
 ok:∀x∈R,OkL e.length x
 mem:∀k,k<i->∀x∈gP e F r (R.getD k []),x∈R
noncomputable def y6(e:List (List Ed))(F:Int)(r:List Int)(R:List (List Nat))(i:Nat):List (List Int):=(R.take i).map (nL e F r R)
def sR(r:List Int)(R:List (List Nat))(i:Nat):List Int:=(R.take i).map (S0 r)
noncomputable def pT(e:List (List Ed))(F:Int)(r:List Int)(i:Nat)(R:List (List Nat)):List (List Nat):=(gP e F r (R.getD i [])).foldl bG R
theorem q2J.big{e:List (List Ed)}{F:Int}{r:List Int}{i:Nat}{R:List (List Nat)}(h:q2J e F r i R)(hi:i<R.length)(hb:1000<(pT e F r i R).length):R9 e F r=none:=by
 have h1:=h.go;have h2:=h.len;rw[show 1001-i=(1000-i)+1 by omega]at h1;unfold goS at h1;rw[qv hi]at h1;have h3:1000<((gP e F r (R.getD i [])).foldl bG R).length:=hb;rw[qv h3]at h1;exact h1.symm
theorem q2J.next{e:List (List Ed)}{F:Int}{r:List Int}{i:Nat}{R:List (List Nat)}(h:q2J e F r i R)(hi:i<R.length)(hb:(pT e F r i R).length<=1000):
  q2J e F r (i+1) (pT e F r i R)/\y6 e F r (pT e F r i R) (i+1)=y6 e F r R i++[nL e F r (pT e F r i R) (R.getD i [])]/\sR r (pT e F r i R) (i+1)=sR r R i++[S0 r (R.getD i [])]:=by
 obtain⟨k,hk⟩:=bK (gP e F r (R.getD i [])) R;have hk':pT e F r i R=R++k:=hk;have q8Y:∀j,j<R.length->(pT e F r i R).getD j []=R.getD j []:=fun j hj=>by rw[hk',aV hj]
 have htk:(pT e F r i R).take (i+1)=R.take i++[R.getD i []]:=by
  rw[hk',List.take_append_of_le_length (by omega)];exact cK R i [] hi
 refine⟨⟨by rw[hk',qj];omega,hb,?_,q1b h.ok (q2I _ _ _ _),fun j hj x hx=>?_⟩,?_,?_⟩
 ·have h1:=h.go
  have h2:=h.len;rw[show 1001-i=(1000-i)+1 by omega]at h1;unfold goS at h1;have h3:¬1000<((gP e F r (R.getD i [])).foldl bG R).length:=by have:(pT e F r i R).length<=1000:=hb;unfold pT at this;omega
  rw[qv hi,qu h3]at h1;rw[show 1001-(i+1)=1000-i by omega];exact h1
 ·exact ZmL5
 ·unfold y6
  rw[htk,qG,qI,js];refine qZ (· ++[nL e F r (pT e F r i R) (R.getD i [])]) (List.map_congr_left fun L hL=>?_);obtain⟨j,hj,rfl⟩:=List.mem_iff_getElem.1 hL;rw[qW]at hj;unfold nL;refine List.map_congr_left fun x hx=>?_
  have hxR:x∈R:=h.mem j (by omega) x (by
   have:R.getD j []=(R.take i)[j]:=by simp[List.getD,show j<R.length by omega]
   rw[this];exact hx)
  rw[hk',cI hxR]
 unfold sR;rw[htk,qG,qI,js]
theorem q2J.done{e:List (List Ed)}{F:Int}{r:List Int}{i:Nat}{R:List (List Nat)}(h:q2J e F r i R)(hi:¬i<R.length):R9 e F r=some R/\y6 e F r R i=(q5d e F r R).next/\sR r R i=(q5d e F r R).rules:=by
 have h1:=h.go;have h2:=h.len;have h3:=h.le;rw[show 1001-i=(1000-i)+1 by omega]at h1;unfold goS at h1;rw[qu hi]at h1;have htk:R.take i=R:=qE (by omega);exact⟨h1.symm,by unfold y6;rw[htk];rfl,by unfold sR;rw[htk];rfl⟩
end Go.Cm
namespace Go.Cm
open Go.RowKit Go.Proofs
def OkF(n:Nat)(f:Fo):Prop:=cU f/\dP f=true/\cnt f=n
structure oA(f0:Fo)(i:Nat)(R:List Fo):Prop where
 le:i<=R.length
 len:R.length<=1000
 go:goD f0 (1001-i) i R=gD f0
 ok:∀x∈R,OkF (cnt f0) x
 mem:∀k,k<i->∀x∈nxD f0 (R.getD k .nil),x∈R
def gK(f0:Fo)(R:List Fo)(i:Nat):List (List Int):=(R.take i).map (z8 f0 R)
def d6(R:List Fo)(i:Nat):List Int:=(R.take i).map (pC 0)
theorem L4{f0:Fo}(h:OkF (cnt f0) f0):oA f0 0 [f0]:=
 ⟨qd _,by simp,rfl,fun x hx=>by rw[List.mem_singleton.1 hx];exact h,fun k hk=>absurd hk (qB k)⟩
section
variable {f0 : Fo} {i : Nat} {R : List Fo}
theorem oA.unf(h:oA f0 i R)(hi:i<R.length):(if q0b f0 (R.getD i .nil)=true/\(iQ f0 (R.getD i .nil) R).length<=1000 then goD f0 (1000-i) (i+1) (iQ f0 (R.getD i .nil) R)else none)=gD f0:=by
 have h1:=h.go;have h2:=h.len;rw[show 1001-i=(1000-i)+1 by omega,goD,qv hi]at h1;exact h1
theorem oA.small(h:oA f0 i R)(hi:i<R.length)(hb:q0b f0 (R.getD i .nil)=false):gD f0=none:=by
 have h1:=h.unf hi;rw[qu (by rw[hb];simp)]at h1;exact h1.symm
theorem oA.big(h:oA f0 i R)(hi:i<R.length)(hb:1000<(iQ f0 (R.getD i .nil) R).length):gD f0=none:=by
 have h1:=h.unf hi;rw[qu (by omega)]at h1;exact h1.symm
theorem q1c{n:Nat}{l R:List Fo}(hR:∀x∈R,OkF n x)(hl:∀x∈l,OkF n x):∀x∈l.foldl bG R,OkF n x:=by
 induction l generalizing R with
 |nil=>exact hR
 |cons a l ih=>
  exact ZmL7
theorem oA.next(h:oA f0 i R)(hi:i<R.length)(ho:q0b f0 (R.getD i .nil)=true)(hb:(iQ f0 (R.getD i .nil) R).length<=1000):
  oA f0 (i+1) (iQ f0 (R.getD i .nil) R)/\gK f0 (iQ f0 (R.getD i .nil) R) (i+1)=gK f0 R i++[z8 f0 (iQ f0 (R.getD i .nil) R) (R.getD i .nil)]/\d6 (iQ f0 (R.getD i .nil) R) (i+1)=d6 R i++[pC 0 (R.getD i .nil)]:=by
 obtain⟨k,hk⟩:=bK (nxD f0 (R.getD i .nil)) R;have hk':iQ f0 (R.getD i .nil) R=R++k:=hk;have q8Y:∀j,j<R.length->(iQ f0 (R.getD i .nil) R).getD j .nil=R.getD j .nil:=fun j hj=>by rw[hk',aV hj]
 have htk:(iQ f0 (R.getD i .nil) R).take (i+1)=R.take i++[R.getD i .nil]:=by
  rw[hk',List.take_append_of_le_length (by omega)];exact cK R i .nil hi
 have hgi:=h.ok _ (gN R i .nil hi);refine⟨⟨by rw[hk',qj];omega,hb,?_,q1c h.ok (fun x hx=>?_),fun j hj x hx=>?_⟩,?_,?_⟩
 ·have h1:=h.unf hi
  rw[qv ⟨ho,hb⟩]at h1;rw[show 1001-(i+1)=1000-i by omega];exact h1
 ·have hs:=List.all_eq_true.1 ho x hx
  obtain⟨c,-,rfl⟩:=List.mem_map.1 hx;exact⟨dZ c _ hgi.1,hs,by rw[lW];exact hgi.2.2⟩
 ·exact ZmL5
 ·unfold gK
  rw[htk,qG,qI,js];refine qZ (· ++[z8 f0 (iQ f0 (R.getD i .nil) R) (R.getD i .nil)]) (List.map_congr_left fun L hL=>?_);obtain⟨j,hj,rfl⟩:=List.mem_iff_getElem.1 hL;rw[qW]at hj;unfold z8;refine List.map_congr_left fun x hx=>?_
  have hxR:x∈R:=h.mem j (by omega) x (by
   have:R.getD j .nil=(R.take i)[j]:=by simp[List.getD,show j<R.length by omega]
   rw[this];exact hx)
  rw[hk',cI hxR]
 unfold d6;rw[htk,qG,qI,js]
theorem oA.done(h:oA f0 i R)(hi:¬i<R.length):gD f0=some R/\gK f0 R i=(m9 f0 R).next/\d6 R i=(m9 f0 R).rules:=by
 have h1:=h.go;have h2:=h.len;have h3:=h.le;rw[show 1001-i=(1000-i)+1 by omega,goD,qu hi]at h1;have htk:R.take i=R:=qE (by omega);exact⟨h1.symm,by unfold gK;rw[htk];rfl,by unfold d6;rw[htk];rfl⟩
end
def tZ(f0 g:Fo)(R:List Fo)(j:Nat):List Fo:=((nxD f0 g).take j).foldl bG R
def sS(f0 g:Fo)(R:List Fo)(j:Nat):List Int:=((nxD f0 g).take j).map fun x=>(idx (tZ f0 g R j) x:Int)
theorem Y4(f0 g:Fo)(R:List Fo):tZ f0 g R 0=R/\sS f0 g R 0=[]:=⟨rfl,rfl⟩
theorem q1e(f0 g:Fo)(R:List Fo):tZ f0 g R (cP (eA f0)).length=iQ f0 g R/\sS f0 g R (cP (eA f0)).length=z8 f0 (iQ f0 g R) g:=by
 have h:(nxD f0 g).take (cP (eA f0)).length=nxD f0 g:=qE (by rw[mM];exact qb _);unfold sS tZ z8 iQ;rw[h];exact⟨rfl,rfl⟩
theorem zT{f0 g:Fo}{j:Nat}(hj:j<(cP (eA f0)).length):(nxD f0 g).getD j .nil=cV ((cP (eA f0)).getD j 0) g:=by
 unfold nxD;generalize cP (eA f0)=l at*;simp[List.getD,hj]
theorem Y5{f0 g:Fo}{R:List Fo}{j:Nat}(hj:j<(cP (eA f0)).length):
  tZ f0 g R (j+1)=bG (tZ f0 g R j) (cV ((cP (eA f0)).getD j 0) g)/\sS f0 g R (j+1)=sS f0 g R j++[(idx (tZ f0 g R (j+1)) (cV ((cP (eA f0)).getD j 0) g):Int)]:=by
 have hl:j<(nxD f0 g).length:=by rw[mM];exact hj
 have ht:=cK (nxD f0 g) j .nil hl;rw[zT hj]at ht
 have h1:tZ f0 g R (j+1)=bG (tZ f0 g R j) (cV ((cP (eA f0)).getD j 0) g):=by
  unfold tZ;rw[ht,qY]
  rfl
 refine⟨h1,?_⟩;unfold sS;rw[ht,qG];refine qZ (· ++_) (List.map_congr_left fun x hx=>?_);have hm:x∈tZ f0 g R j:=gW hx;rw[h1];unfold bG;split
 ·rfl
 rw[cI hm]
def SmD(f0 g:Fo)(j:Nat):Prop:=∀x∈(nxD f0 g).take j,dP x=true
theorem q1f(f0 g:Fo):SmD f0 g 0:=fun x hx=>by cases hx
theorem q1g{f0 g:Fo}{j:Nat}(h:SmD f0 g j)(hj:j<(cP (eA f0)).length)(hs:dP (cV ((cP (eA f0)).getD j 0) g)=true):SmD f0 g (j+1):=by
 have ht:=cK (nxD f0 g) j .nil (by rw[mM];exact hj);rw[zT hj]at ht;intro x hx;rw[ht]at hx;rcases List.mem_append.1 hx with h1|h1
 ·exact h x h1
 rw[List.mem_singleton.1 h1];exact hs
theorem q2K{f0 g:Fo}(h:SmD f0 g (cP (eA f0)).length):q0b f0 g=true:=by
 unfold SmD at h;rw[qE (by rw[mM];exact qb _)]at h;exact List.all_eq_true.2 h
theorem q2L{f0 g:Fo}{j:Nat}(hj:j<(cP (eA f0)).length)(hs:dP (cV ((cP (eA f0)).getD j 0) g)=false):q0b f0 g=false:=by
 have hm:cV ((cP (eA f0)).getD j 0) g∈nxD f0 g:=by
  rw[<-zT hj];exact gN _ _ _ (by rw[mM];exact hj)
 cases h:q0b f0 g with
 |false=>rfl
 |true=>have:=List.all_eq_true.1 h _ hm;rw[hs]at this;exact this.symm
theorem q1h(f0 g:Fo)(R:List Fo)(j:Nat):(tZ f0 g R j).length<=R.length+j:=by
 have:∀(l K:List Fo),(l.foldl bG K).length<=K.length+l.length:=by
  intro l
  induction l with
  |nil=>intro K;exact qb _
  |cons a l ih=>
   intro K;rw[qK];have h1:=ih (bG K a);have h2:(bG K a).length<=K.length+1:=by unfold bG;split<;>simp
   rw[qz];omega
 have h1:=this ((nxD f0 g).take j) R;unfold tZ;rw[qW]at h1;omega
theorem q1i(f0 g:Fo)(R:List Fo)(j:Nat):∃k,tZ f0 g R j=R++k:=bK _ R
theorem oB:∀{f:Fo},dP f=true->szF f<=400*cnt f
 |.nil,_=>qb _
 |.cons x k r,h=>by
  rw[dP,qJ,jm]at h;have:=oB h.2;rw[szF,cnt];omega
end Go.Cm
namespace Go.Cm
open Go.RowKit Go.Proofs Go.Maps
def DbF(g:Nat)(nv:Value)(nvs:List Value)(rv:Value)(k:Nat):Prop:=k=g\/rv.ownBlock=some k\/¬f8.free nv nvs (some k)
section
variable {S S' : Nat → Prop} {w w1 : World} {B E E' : Nat} {v : Value} {vs : List Value} {ll : List (List Value)}
theorem f8.gw(h:f8 w B E E' v vs ll)(hg:Gw S w S' w1)(hs:∀k,S k->f8.free v vs (some k)):f8 w1 B E E' v vs ll:=
 ⟨hg.own h.outer (fun k hk hS=>(hs k hS).1 k hk rfl),h.len,fun i hi=>hg.own (h.rows i hi) (fun k hk hS=>(hs k hS).2 i (by rw[h.len];exact hi) k hk rfl),h.apart,h.off⟩
theorem f8.blkF(h:f8 w B E E' v vs ll){k:Nat}(hk:¬f8.free v vs (some k)):B<=k/\k<w.heap.size:=by
 refine⟨qi fun h1=>hk (h.free_below (by omega)),qi fun h1=>hk (h.free_new (by omega))⟩
theorem iT.gw{α:Type} [DecidableEq α]{P:Program}{K T:TypeId}{lit:α->Lit}{b:Nat}{ks:List α}(h:iT P K T lit w b ks)(hg:Gw S w S' w1)(hn:¬S b):iT P K T lit w1 b ks:=by
 obtain⟨D,h1,h2⟩:=h;have hlt:=h1.lt;obtain⟨es,clock,hb,rest⟩:=h1;exact⟨D,⟨es,clock,(hg.blk hlt hn).trans hb,rest⟩,h2⟩
theorem sT{k:Nat}{P:Prop}(h:P->False)(hf:¬f8.free v vs (some k)->P):f8.free v vs (some k):=qi fun h1=>h (hf h1)
end
structure DbN(w:World)(B g:Nat)(nv:Value)(nvs:List Value)(rv:Value)(cl:List Int)(rows:List (List Int))(rules:List Int):Prop where
 box:lQ w g nv rv cl
 gB:B<=g
 rows:f8 w B 27 3 nv nvs (rows.map ints)
 rls:Own w B 3 rv (ints rules)
 fg:f8.free nv nvs (some g)
 rg:rv.ownBlock≠some g
 fr:f8.free nv nvs rv.ownBlock
section
variable {S S' : Nat → Prop} {w w1 w2 : World} {B g : Nat} {nv rv v' : Value} {nvs : List Value} {cl : List Int} {rows : List (List Int)} {rules : List Int}
theorem DbN.gw(h:DbN w B g nv nvs rv cl rows rules)(hg:Gw S w S' w1)(hs:∀k,S k->¬DbF g nv nvs rv k):DbN w1 B g nv nvs rv cl rows rules:=
 ⟨⟨hg.own h.box.own (fun k hk hS=>hs k hS (.inl (by injection hk with hk;exact hk.symm))),h.box.len⟩,h.gB,h.rows.gw hg (fun k hS=>sT (hs k hS) fun hf=>.inr (.inr hf)),hg.own h.rls (fun k hk hS=>hs k hS (.inr (.inl hk))),h.fg,h.rg,h.fr⟩
theorem DbN.up(h:DbN w B g nv nvs rv cl rows rules)(hb:Below w.heap.size w w1):DbN w1 B g nv nvs rv cl rows rules:=h.gw (bZ (fun _=>False) hb) (fun _ hf=>hf.elim)
theorem DbN.ltF(h:DbN w B g nv nvs rv cl rows rules):∀k,DbF g nv nvs rv k->B<=k/\k<w.heap.size:=fun k hk=>by
 rcases hk with rfl|hk|hk
 ·exact⟨h.gB,h.box.lt⟩
 ·exact h.rls.lt k hk
 exact h.rows.blkF hk
theorem sU{x:Value}{k n:Nat}(h:f8.free nv nvs (some k))(hx:x.ownBlock≠some k)(hk:∀j,v'.ownBlock=some j->nv.ownBlock=some j\/n<=j)(hn:k<n):f8.free v' (nvs++[x]) (some k):=X4 h hx hk hn
theorem DbN.pushRow(h:DbN w B g nv nvs rv cl rows rules){row:Value}{x:List Int}(hr:Own w B 3 row (ints x))(hf:∀k,row.ownBlock=some k->¬DbF g nv nvs rv k)(hb:Below w.heap.size w w1)(ho:Own w2 B 27 v' (nvs++[row]))(hg:w1.grownBy w2 nv.ownBlock)(hk:∀k,v'.ownBlock=some k->nv.ownBlock=some k\/w1.heap.size<=k):
  DbN (w2.setCell ⟨g,256,none⟩ v') B g v' (nvs++[row]) rv cl (rows++[x]) rules/\Gw (fun k=>DbF g nv nvs rv k\/row.ownBlock=some k) w (DbF g v' (nvs++[row]) rv) (w2.setCell ⟨g,256,none⟩ v'):=by
 have hgl:=h.box.lt;have hs1:=hb.size
 have hrow:f8.free nv nvs row.ownBlock:=by
  cases hro:row.ownBlock with
  |none=>exact f8.free_none
  |some k=>exact sT (hf k hro) fun hf=>.inr (.inr hf)
 have hp:=h.rows.push hr hrow (aI hb none) ho hg hk;have hrg:row.ownBlock≠some g:=fun e=>hf g e (.inl rfl);have hng:nv.ownBlock≠some g:=fun e=>h.fg.1 g e rfl;have hgf:=sU h.fg hrg hk (by omega);have hbx:=(h.box.up hb).keep hg hng;have hst:=hbx.setN v'
 have qb9:=(h.rls.up hb).keep hg (by
  cases hro:rv.ownBlock with
  |none=>exact .inl rfl
  |some k=>exact .inr (fun e=>by have:=h.fr.1 k e.symm;exact this hro))
 have qb7:∀k,rv.ownBlock=some k->k<w.heap.size:=fun k hk=>(h.rls.lt k hk).2
 refine⟨⟨hst.1,h.gB,?_,qb9.keep hst.2 (by
  cases hro:rv.ownBlock with
  |none=>exact .inl rfl
  |some k=>exact .inr (fun e=>h.rg (by rw[hro];exact e))),hgf,h.rg,?_⟩,?_⟩
 ·rw[qG]
  exact hp.keep' hst.2 hgf
 ·cases hro:rv.ownBlock with
  |none=>exact f8.free_none
  |some k=>
   have h1:=h.fr;rw[hro]at h1;exact sU h1 (fun e=>hf k e (.inr (.inl hro))) hk (by have:=qb7 k hro;omega)
 have g1:Gw (fun k=>DbF g nv nvs rv k\/row.ownBlock=some k) w (fun k=>DbF g nv nvs rv k\/row.ownBlock=some k) w1:=bZ _ hb
 have g2:Gw (fun k=>DbF g nv nvs rv k\/row.ownBlock=some k) w1 (DbF g v' (nvs++[row]) rv) w2:=dB hg (fun k hk=>.inl (.inr (.inr (fun e=>e.1 k hk rfl)))) (fun k hk2=>by
  rcases hk2 with h2|h2|h2
  ·exact .inl (.inl (.inl h2))
  ·exact .inl (.inl (.inr (.inl h2)))
  by_cases hlt:k<w1.heap.size
  ·refine .inl (qi fun h3=>h2 (sU ?_ (fun e=>h3 (.inr e)) hk hlt))
   exact qi fun h4=>h3 (.inl (.inr (.inr h4)))
  exact .inr (by omega))
 exact(g1.trans g2).trans (dB hst.2 (fun k hk=>.inl (by injection hk with hk;exact hk.symm)) (fun k hk=>.inl hk))
theorem DbN.pushRule(h:DbN w B g nv nvs rv cl rows rules){x:Int}(hb:Below w.heap.size w w1)(ho:Own w2 B 3 v' (ints (rules++[x])))(hg:w1.grownBy w2 rv.ownBlock)(hk:∀k,v'.ownBlock=some k->rv.ownBlock=some k\/w1.heap.size<=k):
  DbN (w2.setCell ⟨g,257,none⟩ v') B g nv nvs v' cl rows (rules++[x])/\Gw (DbF g nv nvs rv) w (DbF g nv nvs v') (w2.setCell ⟨g,257,none⟩ v'):=by
 have hgl:=h.box.lt;have hs1:=hb.size
 have hvg:v'.ownBlock≠some g:=fun e=>by
  rcases hk g e with h1|h1
  ·exact h.rg h1
  omega
 have hbx:=(h.box.up hb).keep hg h.rg;have hst:=hbx.setR v'
 have hfv:f8.free nv nvs v'.ownBlock:=by
  cases hro:v'.ownBlock with
  |none=>exact f8.free_none
  |some k=>
   rcases hk k hro with h1|h1
   ·have:=h.fr;rwa [h1]at this
   exact h.rows.free_new (by omega)
 refine⟨⟨hst.1,h.gB,((h.rows.up hb).keep' hg h.fr).keep' hst.2 h.fg,ho.keep hst.2 (by
  cases hro:v'.ownBlock with
  |none=>exact .inl rfl
  |some k=>exact .inr (fun e=>hvg (by rw[hro];exact e))),h.fg,hvg,hfv⟩,?_⟩
 have g1:Gw (DbF g nv nvs rv) w (DbF g nv nvs rv) w1:=bZ _ hb
 have g2:Gw (DbF g nv nvs rv) w1 (DbF g nv nvs v') w2:=dB hg (fun k hk=>.inr (.inl hk)) (fun k hk2=>by
  rcases hk2 with h2|h2|h2
  ·exact .inl (.inl h2)
  ·rcases hk k h2 with h3|h3
   ·exact .inl (.inr (.inl h3))
   exact .inr h3
  exact .inl (.inr (.inr h2)))
 exact(g1.trans g2).trans (dB hst.2 (fun k hk=>.inl (by injection hk with hk;exact hk.symm)) (fun k hk=>.inl hk))
end
end Go.Cm
namespace Go.Cm
open Go.RowKit Go.Proofs Go.Maps
theorem q1j(c:List Value):∀(k:Nat) (A:Array Value),k+c.length<=A.size->((c.zipIdx k).foldl (fun cs x=>cs.setIfInBounds (0+x.2) x.1) A).toList=A.toList.take k++c++A.toList.drop (k+c.length):=by
 induction c with
 |nil=>intro k A _;simp
 |cons a c ih=>
  intro k A h;rw[qz]at h;rw[List.zipIdx_cons,qK,ih (k+1) _ (by simp;omega)];rw[qH,Array.toList_setIfInBounds];have hk:k<A.toList.length:=by simp;omega
  have h1:(A.toList.set k a).take (k+1)=A.toList.take k++[a]:=by
   rw[qL (by simpa using hk),List.take_set_of_le (qb _)];simp
  have h2:(A.toList.set k a).drop (k+1+c.length)=A.toList.drop (k+(a::c).length):=by
   rw[List.drop_set_of_lt (by omega),qz,show k+1+c.length=k+(c.length+1) by omega]
  rw[h1,h2];simp
theorem Y6(v:Value):prog.built 29 [(0,v)]=Instr.fill (fun i=>#[(0,256),(256,1),(257,1)][i]?) yH [(0,v)]:=by kernel_rfl
theorem Y7(cl:List Int)(hl:cl.length=256):∃D:Array Value,(∀W:World,(Instr.build 29 #[(0,.agg (ints cl).toArray)]).run prog W=.ok (.agg D) W)/\D.toList=ints cl++[.slice none 0 0,.slice none 0 0]:=by
 obtain⟨D,hD⟩:∃D,D=(((ints cl).toArray.zipIdx).foldl (fun cs x=>cs.setIfInBounds (0+x.2) x.1) yH):=⟨_,rfl⟩;have hs:(ints cl).toArray.size=256:=by simp[hl]
 refine⟨D,fun W=>run_build W 29 _ D ?_,?_⟩
 ·show prog.built 29 [(0,.agg (ints cl).toArray)]=some D
  rw[Y6];have hz:=o8;generalize yH=Z at*;unfold Instr.fill;have hc:(Value.agg (ints cl).toArray).cells=(ints cl).toArray:=rfl;simp only[hc,hs,hz,hD]
  rfl
 have h1:=q1j (ints cl) 0 yH (by rw[o8,bE,hl];decide);rw[hD]
 have e1:(((ints cl).toArray.zipIdx).foldl (fun cs x=>cs.setIfInBounds (0+x.2) x.1) yH)=((ints cl).zipIdx 0).foldl (fun cs x=>cs.setIfInBounds (0+x.2) x.1) yH:=by
  generalize yH=Z;simp
 rw[e1,h1,o6,qH,bE,hl];have h3:(ints (List.replicate 256 0)).length=256:=by rw[bE,qO]
 rw[List.drop_append_of_le_length (by rw[h3];exact qb _),jo (by rw[h3];exact qb _)]
 rfl
theorem oW{P:Program}{ops:Array Oper}{rest:List Oper}{o:Oper}{a:Act}{w:World}{Q:Exit->Act->World->Prop}(hgd:o.guard=none)(t:TypeId)(F:Array (Nat×Operand))(ho:o.op=.build t F)
  (G:Array (Nat×Value)) (hG:(F.map fun(i,x)=>(i,a.eval x))=G) (C:Array Value) (hb:∀W,(Instr.build t G).run P W=.ok (.agg C) W)
  (h:wpList P ops Q rest (a.put o.dst (.agg C)) w):wpList P ops Q (o::rest) a w:=by
 subst hG;refine wpList_plain hgd fun K hK=>?_;unfold Oper.wp execOp;simp only[ho,Sem.run_bind,hb,Result.andThen_ok];exact hK _ _ h
end Go.Cm
namespace Go.Cm
open Go.RowKit Go.Proofs
theorem yC{w:World}{A:Array Value}{d:Dfa}(h:zQ w A d):∃vn vr,A.toList=ints d.cls++[vn,vr]/\vn.oneCell'=true/\vr.oneCell'=true:=by
 obtain⟨hs,hl,hc,⟨vn,hn,hrw⟩,⟨vr,hr,hru⟩⟩:=h;obtain⟨oa,cap,b,off,rfl,-,-⟩:=hrw.open;obtain⟨oq,capq,bq,offq,rfl,-,-⟩:=hru.open;refine⟨.slice oa d.next.length cap,.slice oq d.rules.length capq,?_,rfl,rfl⟩;apply List.ext_getElem?;intro i;have qbP:(ints d.cls).length=256:=by rw[bE,hl]
 rw[j8];rcases jP i 256 with h|h
 ·rw[hc i h,qV (by omega)]
  simp[ints,List.getD,hl,h]
 rw[jh (by omega),qbP];rcases jP i 258 with h2|h2
 ·obtain rfl|rfl:i=256\/i=257:=by omega
  ·rw[hn];rfl
  rw[hr];rfl
 rw[qP (by simp;omega),jt (by omega)]
theorem lS{ops:Array Oper}{rest:List Oper}{o:Oper}{a:Act}{w w0:World}{Q:Exit->Act->World->Prop}(hgd:o.guard=none)(x y:Operand)(ho:o.op=.store 29 x y)
  (g:Nat) (hx:a.eval x=.pointer (some ⟨g,0,none⟩)) (C:Array Value) (hy:a.eval y=.agg C) {d:Dfa} (hC:zQ w0 C d) {nv rv:Value} {cl:List Int} (hB:lQ w g nv rv cl)
  (h:∀w',w'.heap[g]? =some (.cells C 29 (0,0))->w.grownBy w' (some g)->wpList prog ops Q rest (a.put o.dst undef) w'):wpList prog ops Q (o::rest) a w:=by
 obtain⟨vn,vr,hl,h1,h2⟩:=yC hC;refine iU hgd x y ho g hx C hy hl hC.hlen h1 h2 hB fun w' hb hg=>h w' ?_ hg;obtain⟨A,hA,-,hAl⟩:=hb.open;rw[hA]
 have:A=C:=by
  cases A;cases C;simp only at hAl hl;rw[hAl,hl]
 rw[this]
theorem q08{w:World}{A:Array Value}{d:Dfa}(h:zQ w A d):∃oa cap,A[256]? =some (.slice oa d.next.length cap):=by
 obtain⟨hs,hl,hc,⟨vn,hn,hrw⟩,-⟩:=h;obtain⟨oa,cap,b,off,rfl,-,-⟩:=hrw.open;exact⟨oa,cap,hn⟩
theorem gX{o:Oper}{a:Act}{w:World}{K:Act->World->Prop}{Q:Exit->Act->World->Prop}(x:Operand)(ho:o.op=.load 29 x)(g:Nat)(hx:a.eval x=.pointer (some ⟨g,0,none⟩))(A:Array Value)(hs:A.size=258)
  (hg:w.heap[g]? =some (.cells A 29 (0,0))) (h:K (a.put o.dst (.agg A)) w):o.wp prog a w K Q:=by
 have hl:=cW (P:=prog) w g 0 258 29 29 A (0,0) _ hg underlying29 rfl (by kernel_rfl) (by rw[hs];decide);have e:A.extract 0 (0+258)=A:=by rw[qH,<-hs];simp
 rw[e]at hl;unfold Oper.wp execOp;simp only[ho,hx,Instr.loadAt,Instr.sureAddr,Sem.run_bind,Sem.run_pure,Result.andThen_ok,hl];exact h
theorem lQ.at{w:World}{g g':Nat}{nv rv:Value}{cl:List Int}(h:lQ w g nv rv cl)(e:g=g'):lQ w g' nv rv cl:=e▸h
def pU(w:World)(g:Nat)(A:Array Value)(d:Dfa):Prop:=w.heap[g]? =some (.cells A 29 (0,0))/\zQ w A d
theorem pU.up{w w':World}{g:Nat}{A:Array Value}{d:Dfa}(h:pU w g A d)(hb:Below w.heap.size w w'):pU w' g A d:=⟨(hb.block g (lt_of_block h.1)).trans h.1,h.2.up hb⟩
theorem pU.lt{w:World}{g:Nat}{A:Array Value}{d:Dfa}(h:pU w g A d):g<w.heap.size:=lt_of_block h.1
theorem pU.new{w w':World}{A Z:Array Value}{d:Dfa}(h:zQ w A d)(hg:w'.heap[w.heap.size]? =some (.cells A 29 (0,0)))(hgr:(w.alloc (.cells Z 29)).grownBy w' (some w.heap.size)):pU w' w.heap.size A d/\Below w.heap.size w w':=by
 have hb:Below w.heap.size w w':=(aB w (.cells Z 29)).grown hgr (by simp) (fun j hj=>by cases hj;exact qb _);exact⟨⟨hg,h.up hb⟩,hb⟩
end Go.Cm
