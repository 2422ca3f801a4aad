/- Walks of functions and plain facts, joined and squeezed by a program. Conditions: as each says. -/
import Derived.Test.YtdffpnabpoogbaaGreatDoorCTXJ
set_option maxHeartbeats 8000000
set_option maxRecDepth 100000
set_option linter.unusedSimpArgs false
open Go.Proofs.Tryz
namespace Go.Cm
open Go.RowKit Go.Proofs
theorem ZmM0{P:Prop}(h:P:=by
 have hpi:¬(y1.p:Int)≥(s.size:Int):=by omega
 have qex:Hid (nP (bys s) frm f (af|||(mQ (bys s) frm y1).1) (mQ (bys s) frm y1).2=L):=qa (by rw[qbL.o];simp only[qP,jp];rw[qr hp]);have HI:Hid (∀W,dJ W g s y1->iZ W->Calls prog 129 #[.pointer (some ⟨g,0,none⟩),.int .i64 frm] W (mR (cD (mQ (bys s) frm y1).1) g s (mQ (bys s) frm y1).2 W)):=qa (fun W h hT=>HIT.o W y1 h hT);have HIS:=qa (X5 (s:=bys s) (frm:=frm) (by rw[aP];exact hfs) (z:=y1) (by rw[aP];omega));have HIL:=qa (q67 (s:=bys s) (frm:=frm) (z:=y1) (by rw[aP];omega));have HIA:=qa (q3y (bys s) frm y1);clear qbL hp HIT HT2 HY1 qbP qcS HCM HR;generalize mQ (bys s) frm y1=I at*;obtain⟨ia,iz⟩:=I;simp only at qex HI HIS HIL HIA;have HOR:Hid (∀W,Calls prog 128 #[cD af,cD ia] W (cI (af|||ia) W)):=qa (fun W=>orP HAL.o HIA.o W);have qcU:=qa (eP HAL.o HIA.o)
 have HPL:Hid (iz.p<=s.size):=qa (by
  have:=HIS.o.len (by rw[aP];exact HYP.o);rwa [aP]at this)
 generalize af|||ia=oa at*
 go_wp2_with((with_reducible refine(HTK.o _ HE.o.box).mono ?_);rintro e v1 ⟨rfl,hB,hg⟩;have HV1:=qa (HE.o.act hB hg);have qcy:=qa (HA.o.keepP hg (by omega));have cp:=HV1.o.box.c1;have cs:=HV1.o.box.c0;clear hB hg)
 go_simp
 go_quiet (fail)
 have HV2:=qa (HV1.o.below (aN v1 nq));have qcg:=qa (qcy.o.up (aN v1 nq));generalize v1.drewN nq=v2 at*;go_wp2;refine cU (fun w'=>∃x,w'=chg v2 (some g) x) [0,1,2] [3,4] [5] (by kernel_rfl) (by kernel_rfl) (bX (cJ _ _)) ?_;simp only[pk];go_simp
 repeat(first
  |(go_big_quiet_want;refine bH _ rfl w1.heap.size rfl af (fun w' hw=>by obtain⟨y,rfl⟩:=hw;exact qcg.o.keepP (fT _ _ _) (by omega)) ?_;go_simp;go_big_quiet_on)
  |go_big_quiet_step (fail))
 refine wpQuiet_nil ?_;have hbd:=gH (qk v2.heap.size v2);have HV3:=qa (HV2.o.below hbd);have qfO:=qa (qcg.o.up hbd);have HG3:Hid (v2.grownBy v2.drew (some g)):=qa (aE hbd _);have HT3:=qa (iZ.fx HT.o HV3.o.gr (fun e=>hgt (by injection e)));clear hbd;generalize v2.drew=v3 at*;unfold aG
 go_wp2_with((with_reducible refine(HI.o _ HV3.o.box HT3.o).mono ?_);rintro e v4 ⟨rfl,hB,hg⟩;have HV4:=qa (HV3.o.act hB hg);have qfN:=qa (qfO.o.keepP hg (by omega));have HG4:=qa (aC HG3.o hg);clear hB hg)
 refine⟨bX HG4.o,?_⟩;unfold aG
 go_wp2_with((with_reducible refine(HOR.o _).mono ?_);rintro e v5 ⟨rfl,hx⟩;have HV5:=qa (HV4.o.ext hx);have qfM:=qa (qfN.o.up (aB hx));have HG5:=qa (aC HG4.o (aE (aB hx) (some g)));clear hx)
 refine⟨bX HG5.o,?_⟩;unfold aG;unfold aG
 go_wp2_with(refine aF rfl _ _ rfl w1.heap.size rfl _ oa rfl qfM.o ?_;intro v6 hB2 hg2;have HV6:=qa (HV5.o.far hg2 (by omega) (by omega));have qfL:=qa hB2;clear hB2 hg2)
 refine⟨trivial,?_⟩;unfold aG;go_wp2
 go_roundg f
 case measure=>omega
 case rel=>exact⟨f,oa,iz,rfl,HV6.o,qfL.o,qcU,qex,HPL,by have h1:=HIL.o;have h2:=HYP.o;have h3:=HEE.o;rcases h1 with h1|h1<;>omega⟩):P:=h
theorem ZmM1{P:Prop}(h:P:=by
 rw[qt h0]at HRR
 rw[qw h0]at hcm;clear h0 HCM
 go_wp2_with(first
  |(refine aQ rfl _ rfl w1.heap.size rfl _ HXA.o ?_)
  |((with_reducible refine(HNO.o _).mono ?_);rintro e u1 ⟨rfl,hx⟩;have HY1:=qa (HX.o.ext hx);have qcf:=qa (HXA.o.up (aB hx));clear hx)
  |(refine aF rfl _ _ rfl w1.heap.size rfl _ xx rfl qcf.o ?_;intro u2 hB2 hg2;have HY2:=qa (HY1.o.far hg2 (by omega) (by omega));have qbT:=qa hB2;clear hB2 hg2)
  |(refine aQ rfl _ rfl w1.heap.size rfl _ qbT.o ?_)
  |((with_reducible refine(qcS.o _ _ HY2.o.box).mono ?_);rintro e u3 ⟨rfl,hB,hg⟩;have HY3:=qa (HY2.o.act hB hg);have qce:=qa (qbT.o.keepP hg (by omega));clear hB hg)
  |(refine aQ rfl _ rfl w1.heap.size rfl _ qce.o ?_)
  |(refine aF rfl _ _ rfl w.heap.size rfl _ xx rfl HY3.o.set ?_;intro u4 hB2 hg2;have HY4:=qa (HY3.o.store hB2 hg2);clear hB2 hg2))
 refine bG (s:=4) (ad:=⟨w.heap.size,0,none⟩) (x:=cD xx) rfl rfl rfl HY4.o.set.load ?_;rw[HRR.o];exact⟨rfl,HY4.o.box,HY4.o.gr⟩):P:=h
theorem ZmM2{P:Prop}(h:P:=by
 rw[qr h0]at HRR;rw[qu h0]at hcm;clear h0 HCM
 go_wp2_with(first
  |(refine aQ rfl _ rfl w1.heap.size rfl _ HXA.o ?_)
  |((with_reducible refine(HNO.o _).mono ?_);rintro e u1 ⟨rfl,hx⟩;have HY1:=qa (HX.o.ext hx);have qcf:=qa (HXA.o.up (aB hx));clear hx)
  |(refine aF rfl _ _ rfl w1.heap.size rfl _ xx rfl qcf.o ?_;intro u2 hB2 hg2;have HY2:=qa (HY1.o.far hg2 (by omega) (by omega));have qbT:=qa hB2;clear hB2 hg2)
  |(refine aQ rfl _ rfl w1.heap.size rfl _ qbT.o ?_)
  |(refine aF rfl _ _ rfl w.heap.size rfl _ xx rfl HY2.o.set ?_;intro u4 hB2 hg2;have HY4:=qa (HY2.o.store hB2 hg2);clear hB2 hg2))
 refine bG (s:=4) (ad:=⟨w.heap.size,0,none⟩) (x:=cD xx) rfl rfl rfl HY4.o.set.load ?_;rw[HRR.o];exact⟨rfl,HY4.o.box,HY4.o.gr⟩):P:=h
theorem ZmM3{P:Prop}(h:P:=by
 go_wp2_with(first
  |((with_reducible refine(HC1.o _ HE0.o.box).mono ?_);rintro e w1 ⟨rfl,hB,hg⟩;have HE1:=qa (HE0.o.act hB hg);have hba:=aA w1 (.cells Z 63);have HE2:=qa (HE1.o.below hba);have HN2:=qa (HNW.o w1);have hs2:=HE1.o.set.lt;clear hB hg hba)
  |(refine aF rfl _ _ rfl w1.heap.size rfl _ a rfl HN2.o ?_;intro w3 hB2 hg2;have HE3:=qa (HE2.o.far hg2 (by omega) (by omega));have HN3:=qa hB2;have c1:=HE3.o.box.c1;clear hB2 hg2)
  |((with_reducible refine(HT1.o _ HE3.o.box).mono ?_);rintro e w4 ⟨rfl,hB,hg⟩;have HE4:=qa (HE3.o.act hB hg);have HN4:=qa (HN3.o.keepP hg (by omega));clear hB hg)
  |((with_reducible refine(HX1.o _ HE4.o.box).mono ?_);rintro e w5 ⟨rfl,hx⟩;have HE5:=qa (HE4.o.ext hx);have HN5:=qa (HN4.o.up (aB hx));have c15:=HE5.o.box.c1;clear hx)
  |((with_reducible refine(HF.o _ HE5.o.box).mono ?_);rintro e w6 ⟨rfl,hB,hg⟩;have HE6:=qa (HE5.o.act hB hg);have HN6:=qa (HN5.o.keepP hg (by omega));clear hB hg)
  |(refine aQ rfl _ rfl w1.heap.size rfl _ HN6.o ?_)
  |(refine aF rfl _ _ rfl w.heap.size rfl _ _ rfl HE6.o.set ?_;intro w7 hB2 hg2;have HE7:=qa (HE6.o.store hB2 hg2);clear hB2 hg2))
 refine bG (s:=4) (ad:=⟨w.heap.size,0,none⟩) (x:=cD a) rfl rfl rfl HE7.o.set.load ?_;rw[HR.o];exact⟨rfl,HE7.o.box,HE7.o.gr⟩):P:=h
theorem ZmM4{P:Prop}(h:P:=by
 rw[qt h0]at HRR
 rw[qw h0]at hcm;clear h0 HCM
 go_wp2_with(first
  |(refine aQ rfl _ rfl w1.heap.size rfl _ HXA.o ?_)
  |((with_reducible refine(qcS.o _ _ HX.o.box).mono ?_);rintro e u3 ⟨rfl,hB,hg⟩;have HY3:=qa (HX.o.act hB hg);have qce:=qa (HXA.o.keepP hg (by omega));clear hB hg)
  |(refine aQ rfl _ rfl w1.heap.size rfl _ qce.o ?_)
  |(refine aF rfl _ _ rfl w.heap.size rfl _ af rfl HY3.o.set ?_;intro u4 hB2 hg2;have HY4:=qa (HY3.o.store hB2 hg2);clear hB2 hg2))
 refine bG (s:=4) (ad:=⟨w.heap.size,0,none⟩) (x:=cD af) rfl rfl rfl HY4.o.set.load ?_;rw[HRR.o];exact⟨rfl,HY4.o.box,HY4.o.gr⟩):P:=h
theorem ZmM5{P:Prop}(h:P:=by
 rw[qr h0]at HRR;rw[qu h0]at hcm;clear h0 HCM
 go_wp2_with(first
  |(refine aQ rfl _ rfl w1.heap.size rfl _ HXA.o ?_)
  |(refine aF rfl _ _ rfl w.heap.size rfl _ af rfl HX.o.set ?_;intro u4 hB2 hg2;have HY4:=qa (HX.o.store hB2 hg2);clear hB2 hg2))
 refine bG (s:=4) (ad:=⟨w.heap.size,0,none⟩) (x:=cD af) rfl rfl rfl HY4.o.set.load ?_;rw[HRR.o];exact⟨rfl,HY4.o.box,HY4.o.gr⟩):P:=h
theorem ZmM6{P:Prop}(h:P:=by
 clear HR HRR;go_enter func85,ntmps85
 go_wp2_with((with_reducible refine(HX.o).mono ?_);rintro e w1 ⟨rfl,hx⟩;have HB1:=qa hx;clear hx)
 go_ret;rw[HE.o];exact⟨rfl,HB1.o⟩):P:=h
theorem iZ.ne{w:World}{g:Nat}{s:ByteArray}{z:PS}(h:iZ w)(hB:dJ w g s z):g≠6:=by
 intro e;have h0:=h 0 (by decide);have h1:=hB.c0;rw[e,h0]at h1;cases h1
theorem q7h:(0:Nat)<2^256:=Nat.two_pow_pos 256
theorem q8Q:q8E<2^256:=eP (mN _) (eP B7 (eP Q0 q3w))
theorem q7i{c:UInt8}{a:Nat}(h:X2 c=some a):a<2^256:=by
 have hd:=B7;have hw:=q8Q;unfold X2 at h;generalize y8=d at*;generalize q8E=w at*;generalize 2^256=M at*;split at h
 ·rw[<-qo h];exact hd
 split at h
 ·rw[<-qo h];exact hw
 cases h
theorem q8R(s:cX)(z:PS):(pG s z).1.1<2^256:=by
 have hk:=fun c a=>@q7i c a;have ho:=mN;have hz:=q7h;unfold pG;generalize 2^256=M at*;cases nxR s (bI z)with
 |none=>exact hz
 |some c=>
  simp only;cases hk2:X2 c with
  |some a=>exact hk c a hk2
  |none=>
   simp only;cases q1G c with
   |some b=>have h1:=ho b;dsimp only;exact h1
   |none=>
    simp only;split
    ·split
     ·rename_i b _;have h1:=ho b;generalize eZ b=x at*;exact h1
     exact hz
    exact hz
theorem q3x(s:cX)(z:PS):(eQ s z).1.1<2^256:=by
 have he:=q8R s z;have ho:=mN;have hz:=q7h;unfold eQ;generalize 2^256=M at*;cases nxR s z with
 |none=>exact hz
 |some c=>
  simp only;split
  ·exact he
  split
  ·exact hz
  have h1:=ho c;generalize eZ c=x at*;exact h1
theorem q7j{s:cX}{z:PS}(h:(pG s z).2.e=0)(hk:(pG s z).1.2=false):∃c,(pG s z).1.1=eZ c:=by
 unfold pG at h hk⊢;cases hn:nxR s (bI z)with
 |none=>rw[hn]at h;exact absurd h (cH _ (by decide))
 |some c=>
  rw[hn]at h hk;simp only at h hk⊢;cases hk2:X2 c with
  |some a=>rw[hk2]at hk;cases hk
  |none=>
   rw[hk2]at h;simp only at h⊢;cases hm:q1G c with
   |some b=>exact⟨b,by dsimp only⟩
   |none=>
    rw[hm]at h;simp only at h⊢;by_cases hx:c=120
    ·rw[qt hx]at h⊢
     cases hq:q1H s (z.p+1)with
     |some b=>exact⟨b,by dsimp only⟩
     |none=>rw[hq]at h;exact absurd h (cH _ (by decide))
    rw[qr hx]at h;exact absurd h (cH _ (by decide))
theorem J3{s:cX}{z:PS}(h:(eQ s z).2.e=0)(hk:(eQ s z).1.2=false):∃c,(eQ s z).1.1=eZ c:=by
 unfold eQ at h hk⊢;cases hn:nxR s z with
 |none=>rw[hn]at h;exact absurd h (cH _ (by decide))
 |some c=>
  rw[hn]at h hk;simp only at h hk⊢;by_cases hc:c=92
  ·rw[qt hc]at h hk⊢
   exact q7j h hk
  rw[qr hc]at h⊢;by_cases hd:c=45
  ·rw[qt hd]at h;exact absurd h (cH _ (by decide))
  rw[qr hd];refine⟨c,?_⟩;generalize eZ c=x;rfl
theorem J4(c:UInt8):Nat.log2 (eZ c)=c.toNat:=by
 rw[q3r];exact Nat.log2_two_pow
theorem sX(a:UInt8)(W:World):(Instr.index 9 (.string ⟨#[a]⟩) (.int .i64 0)).run prog W=.ok (.int .u8 (a.toNat:Nat)) W:=
 e6 (P:=prog) 9 underlying9 (s:=⟨#[a]⟩) (i:=0) (by decide:0<1) W
theorem qaQ{w:World}{g frm:Nat}{s:ByteArray}{z:PS}(h:dJ w g s z)(hs:s.size<=1000000)(hT:iZ w):
  Calls prog 129 #[.pointer (some ⟨g,0,none⟩),.int .i64 frm] w (mR (cD (mQ (bys s) frm z).1) g s (mQ (bys s) frm z).2 w):=by
 have hgt:=hT.ne h;have HT:=qa hT;have hz:=gZ;obtain⟨Z,hZ⟩:∃Z,Z=z4:=⟨_,rfl⟩;rw[<-hZ]at hz;have HNW:Hid (∀W:World,eX (W.alloc (.cells Z 63)) W.heap.size 0):=qa (fun W=>cL W Z hZ);have HE0:Hid (Esc w (w.alloc (.cells Z 63)) g s z w.heap.size 0):=qa ⟨h.up (aA _ _),cL w Z hZ,aE (aA _ _) _,qb _,h.lt⟩;have hgl:=h.lt;have HC1:Hid (∀W,dJ W g s z->Calls prog 141 #[.pointer (some ⟨g,0,none⟩)] W (mR (q4w (eQ (bys s) z)) g s (eQ (bys s) z).2 W)):=qa (fun W h=>qay h hs);have HO1:=qa (@J3 (bys s) z);have HL1:=qa (q3x (bys s) z);obtain⟨R,hR⟩:∃R,R=mQ (bys s) frm z:=⟨_,rfl⟩;rw[<-hR];unfold mQ at hR;unfold q4w at HC1;clear h hZ hT;generalize eQ (bys s) z=A at*;obtain⟨⟨a,k⟩,za⟩:=A;simp only at hR HC1 HO1 HL1;have HT1:Hid (∀W,dJ W g s za->Calls prog 64 #[.pointer (some ⟨g,0,none⟩),.int .u8 45] W (mR (.bool (b7 (bys s) 45 za).1) g s (b7 (bys s) 45 za).2 W)):=qa (fun W h=>Y0 h hs 45);have HTT:=qa (fun h=>(sV (s:=bys s) (c:=45) (z:=za) h).2);have HTE:=qa (fun h=>dE (sV (s:=bys s) (c:=45) (z:=za) h).1);generalize b7 (bys s) 45 za=T1 at*;obtain⟨bt,zt⟩:=T1;simp only at hR HT1 HTT HTE;cases bt
 ·have HR:Hid (R=(a,zt)):=qa hR
  clear hR;go_enter func129,ntmps129
  go_wp2_with(first
   |((with_reducible refine(HC1.o _ HE0.o.box).mono ?_);rintro e w1 ⟨rfl,hB,hg⟩;have HE1:=qa (HE0.o.act hB hg);have hba:=aA w1 (.cells Z 63);have HE2:=qa (HE1.o.below hba);have HN2:=qa (HNW.o w1);have hs2:=HE1.o.set.lt;clear hB hg hba)
   |(refine aF rfl _ _ rfl w1.heap.size rfl _ a rfl HN2.o ?_;intro w3 hB2 hg2;have HE3:=qa (HE2.o.far hg2 (by omega) (by omega));have HN3:=qa hB2;have c1:=HE3.o.box.c1;clear hB2 hg2)
   |((with_reducible refine(HT1.o _ HE3.o.box).mono ?_);rintro e w4 ⟨rfl,hB,hg⟩;have HE4:=qa (HE3.o.act hB hg);have HN4:=qa (HN3.o.keepP hg (by omega));clear hB hg)
   |(refine aQ rfl _ rfl w1.heap.size rfl _ HN4.o ?_)
   |(refine aF rfl _ _ rfl w.heap.size rfl _ _ rfl HE4.o.set ?_;intro w5 hB2 hg2;have HE5:=qa (HE4.o.store hB2 hg2);clear hB2 hg2))
  refine bG (s:=4) (ad:=⟨w.heap.size,0,none⟩) (x:=cD a) rfl rfl rfl HE5.o.set.load ?_;rw[HR.o];exact⟨rfl,HE5.o.box,HE5.o.gr⟩
 obtain⟨hae,-,-⟩:=HTE.o rfl;rw[qt rfl]at hR;have HX1:Hid (∀W,dJ W g s zt->Calls prog 40 #[.pointer (some ⟨g,0,none⟩)] W fun e w'=>e=.returned (nxV (nxR (bys s) zt))/\∃x,w'=ext W x):=qa (fun W h=>nxP h);unfold nxV at HX1;cases hn:nxR (bys s) zt with
 |none=>
  rw[hn]at hR HX1;have HR:Hid (R=(a,bB 16 frm zt)):=qa hR;have HF:Hid (∀W,dJ W g s zt->Calls prog 41 #[.pointer (some ⟨g,0,none⟩),.int .i64 16,.int .i64 frm] W (mR (.tuple #[]) g s (bB 16 frm zt) W)):=qa (fun W h=>uR h 16 frm);clear hR hn;go_enter func129,ntmps129
  exact ZmM3
 |some c=>
  rw[hn]at hR HX1;simp only[qJ,jV]at hR HX1;by_cases hc:c=93
  ·rw[qt hc]at hR
   have HR:Hid (R=(a,bB 15 zt.p zt)):=qa hR;have hcb:((c.toNat:Int)==93)=true:=by rw[hc];rfl
   have HF:Hid (∀W,dJ W g s zt->Calls prog 41 #[.pointer (some ⟨g,0,none⟩),.int .i64 15,.int .i64 zt.p] W (mR (.tuple #[]) g s (bB 15 zt.p zt) W)):=qa (fun W h=>uR h 15 zt.p);clear hR hn hc;go_enter func129,ntmps129
   exact ZmM3
  rw[qr hc]at hR;have k1:¬c.toNat=93:=fun e=>hc (UInt8.toNat_inj.1 e);have HC2:Hid (∀W,dJ W g s zt->Calls prog 141 #[.pointer (some ⟨g,0,none⟩)] W (mR (q4w (eQ (bys s) zt)) g s (eQ (bys s) zt).2 W)):=qa (fun W h=>qay h hs);have HO2:=qa (@J3 (bys s) zt);have HL2:=qa (q3x (bys s) zt);clear hn hc;unfold q4w at HC2;generalize eQ (bys s) zt=B at*;obtain⟨⟨b,k2⟩,zb⟩:=B;simp only at hR HC2 HO2 HL2;by_cases he:zb.e=0
  ·rw[qr (fun h=>h he)]at hR
   have hcb:((zb.e:Int) != 0)=false:=by rw[he];rfl
   have HAO:=qa (HO1.o hae);have HBO:=qa (HO2.o he);have HBA:Hid (∀W,iZ W->Calls prog 142 #[cD a] W fun e w'=>e=.returned (.string ⟨(q21 a).toArray⟩)/\∃y,w'=ext W y):=qa (fun W h=>q6h HL1.o h);have HBB:Hid (∀W,iZ W->Calls prog 142 #[cD b] W fun e w'=>e=.returned (.string ⟨(q21 b).toArray⟩)/\∃y,w'=ext W y):=qa (fun W h=>q6h HL2.o h);have HF:Hid (∀W,dJ W g s zb->Calls prog 41 #[.pointer (some ⟨g,0,none⟩),.int .i64 18,.int .i64 za.p] W (mR (.tuple #[]) g s (bB 18 za.p zb) W)):=qa (fun W h=>uR h 18 za.p);clear he;by_cases hkk:k=true\/k2=true
   ·have HR:Hid (R=(a,bB 18 za.p zb)):=qa (by
     rw[hR,qt (by rcases hkk with rfl|rfl<;>simp)])
    have hk3:k=true\/k=false/\k2=true:=by
     cases k
     ·exact .inr ⟨rfl,by simpa using hkk⟩
     exact .inl rfl
    clear hR hkk HAO HBO HO1 HO2 HTT HTE;generalize q21 a=sa at*;generalize q21 b=sb at*;rcases hk3 with rfl|⟨rfl,rfl⟩
    all_goals
     go_enter func129,ntmps129
     go_wp2_with(first
      |((with_reducible refine(HC1.o _ HE0.o.box).mono ?_);rintro e w1 ⟨rfl,hB,hg⟩;have HE1:=qa (HE0.o.act hB hg);have hba:=aA w1 (.cells Z 63);have HE2:=qa (HE1.o.below hba);have HN2:=qa (HNW.o w1);have hs2:=HE1.o.set.lt;clear hB hg hba)
      |(refine aF rfl _ _ rfl w1.heap.size rfl _ a rfl HN2.o ?_;intro w3 hB2 hg2;have HE3:=qa (HE2.o.far hg2 (by omega) (by omega));have HN3:=qa hB2;have c1:=HE3.o.box.c1;clear hB2 hg2)
      |((with_reducible refine(HT1.o _ HE3.o.box).mono ?_);rintro e w4 ⟨rfl,hB,hg⟩;have HE4:=qa (HE3.o.act hB hg);have HN4:=qa (HN3.o.keepP hg (by omega));clear hB hg)
      |((with_reducible refine(HX1.o _ HE4.o.box).mono ?_);rintro e w5 ⟨rfl,hx⟩;have HE5:=qa (HE4.o.ext hx);have HN5:=qa (HN4.o.up (aB hx));have c15:=HE5.o.box.c1;clear hx)
      |((with_reducible refine(HC2.o _ HE5.o.box).mono ?_);rintro e w6 ⟨rfl,hB,hg⟩;have HE6:=qa (HE5.o.act hB hg);have HN6:=qa (HN5.o.keepP hg (by omega));have hba:=aA w6 (.cells Z 63);have HE7:=qa (HE6.o.below hba);have HN7:=qa (HN6.o.up hba);have HM7:=qa (HNW.o w6);have hs6:=HE6.o.set.lt;have hn6:=HN6.o.lt;clear hB hg hba)
      |(refine aF rfl _ _ rfl w6.heap.size rfl _ b rfl HM7.o ?_;intro w8 hB2 hg2;have HE8:=qa (HE7.o.far hg2 (by omega) (by omega));have HN8:=qa (HN7.o.keepP hg2 (by omega));have HM8:=qa hB2;have c28:=HE8.o.box.c2;clear hB2 hg2))
     have HT8:=qa (iZ.fx HT.o HE8.o.gr (fun e=>hgt (by injection e)));refine bO (by kernel_rfl) (by kernel_rfl) ?_;go_simp
     repeat(first
      |(go_big_quiet_want;refine bH _ rfl w1.heap.size rfl a (fun w' hw=>by obtain⟨y,rfl⟩:=hw;exact HN8.o.up (aD _ _)) ?_;go_simp;go_big_quiet_on)
      |(go_big_quiet_want;refine bH _ rfl w6.heap.size rfl b (fun w' hw=>by obtain⟨y,rfl⟩:=hw;exact HM8.o.up (aD _ _)) ?_;go_simp;go_big_quiet_on)
      |go_big_quiet_step (first|(go_at_call 142;(with_reducible exact bY (HBA.o _ (HT8.o.up (aD _ _)))))|(go_at_call 142;(with_reducible exact bY (HBB.o _ (HT8.o.up (aD _ _)))))))
     refine wpQuiet_nil ?_;intro y9;obtain⟨w9,hw⟩:∃v,v=ext w8 y9:=⟨_,rfl⟩;rw[<-hw];have hw9:∃x,w9=ext w8 x:=⟨_,hw⟩;clear hw;have HE9:=qa (HE8.o.ext hw9);have HN9:=qa (HN8.o.up (aB hw9));clear hw9
     go_wp2_with(first
      |((with_reducible refine(HF.o _ HE9.o.box).mono ?_);rintro e w10 ⟨rfl,hB,hg⟩;have qev:=qa (HE9.o.act hB hg);have qcB:=qa (HN9.o.keepP hg (by omega));clear hB hg)
      |(refine aQ rfl _ rfl w1.heap.size rfl _ qcB.o ?_)
      |(refine aF rfl _ _ rfl w.heap.size rfl _ _ rfl qev.o.set ?_;intro w11 hB2 hg2;have qck:=qa (qev.o.store hB2 hg2);clear hB2 hg2))
     refine bG (s:=4) (ad:=⟨w.heap.size,0,none⟩) (x:=cD a) rfl rfl rfl qck.o.set.load ?_;rw[HR.o];exact⟨rfl,qck.o.box,qck.o.gr⟩
   have hkf:k=false:=by cases k;rfl;exact absurd (.inl rfl) hkk
   have qiL:k2=false:=by cases k2;rfl;exact absurd (.inr rfl) hkk
   subst hkf qiL;obtain⟨ca,hca⟩:=HAO.o rfl;obtain⟨cb,qfD⟩:=HBO.o rfl;have hba:q21 a=[ca]:=by rw[hca,q0K]
   have hbb:q21 b=[cb]:=by rw[qfD,q0K]
   rw[hba]at HBA;rw[hbb]at HBB;rw[show(⟨[ca].toArray⟩:ByteArray)=⟨#[ca]⟩from rfl]at HBA;rw[show(⟨[cb].toArray⟩:ByteArray)=⟨#[cb]⟩from rfl]at HBB;have hla:Nat.log2 a=ca.toNat:=by rw[hca,J4]
   have hlb:Nat.log2 b=cb.toNat:=by rw[qfD,J4]
   rw[hla,hlb]at hR;have hbl:Op.bytesLess [ca] [cb]=decide (ca.toNat<cb.toNat):=by simp[Op.bytesLess,UInt8.lt_iff_toNat_lt]
   have hbq:(ca==cb)=decide (ca.toNat=cb.toNat):=by rw[jh];simp[UInt8.toNat_inj]
   clear hkk HAO HBO HO1 HO2 HTT HTE hba hbb hca qfD hla hlb;by_cases hlt:cb.toNat<ca.toNat
   ·have HR:Hid (R=(a,bB 18 za.p zb)):=qa (by
     rw[hR,qt (by simp[hlt])])
    rw[qu (by omega)]at hbl hbq;clear hR hlt;go_enter func129,ntmps129
    go_wp2_with(first
     |((with_reducible refine(HC1.o _ HE0.o.box).mono ?_);rintro e w1 ⟨rfl,hB,hg⟩;have HE1:=qa (HE0.o.act hB hg);have hba:=aA w1 (.cells Z 63);have HE2:=qa (HE1.o.below hba);have HN2:=qa (HNW.o w1);have hs2:=HE1.o.set.lt;clear hB hg hba)
     |(refine aF rfl _ _ rfl w1.heap.size rfl _ a rfl HN2.o ?_;intro w3 hB2 hg2;have HE3:=qa (HE2.o.far hg2 (by omega) (by omega));have HN3:=qa hB2;have c1:=HE3.o.box.c1;clear hB2 hg2)
     |((with_reducible refine(HT1.o _ HE3.o.box).mono ?_);rintro e w4 ⟨rfl,hB,hg⟩;have HE4:=qa (HE3.o.act hB hg);have HN4:=qa (HN3.o.keepP hg (by omega));clear hB hg)
     |((with_reducible refine(HX1.o _ HE4.o.box).mono ?_);rintro e w5 ⟨rfl,hx⟩;have HE5:=qa (HE4.o.ext hx);have HN5:=qa (HN4.o.up (aB hx));have c15:=HE5.o.box.c1;clear hx)
     |((with_reducible refine(HC2.o _ HE5.o.box).mono ?_);rintro e w6 ⟨rfl,hB,hg⟩;have HE6:=qa (HE5.o.act hB hg);have HN6:=qa (HN5.o.keepP hg (by omega));have hba:=aA w6 (.cells Z 63);have HE7:=qa (HE6.o.below hba);have HN7:=qa (HN6.o.up hba);have HM7:=qa (HNW.o w6);have hs6:=HE6.o.set.lt;have hn6:=HN6.o.lt;clear hB hg hba)
     |(refine aF rfl _ _ rfl w6.heap.size rfl _ b rfl HM7.o ?_;intro w8 hB2 hg2;have HE8:=qa (HE7.o.far hg2 (by omega) (by omega));have HN8:=qa (HN7.o.keepP hg2 (by omega));have HM8:=qa hB2;have c28:=HE8.o.box.c2;clear hB2 hg2))
    have HT8:=qa (iZ.fx HT.o HE8.o.gr (fun e=>hgt (by injection e)));refine bO (by kernel_rfl) (by kernel_rfl) ?_;go_simp
    repeat(first
     |(go_big_quiet_want;refine bH _ rfl w1.heap.size rfl a (fun w' hw=>by obtain⟨y,rfl⟩:=hw;exact HN8.o.up (aD _ _)) ?_;go_simp;go_big_quiet_on)
     |(go_big_quiet_want;refine bH _ rfl w6.heap.size rfl b (fun w' hw=>by obtain⟨y,rfl⟩:=hw;exact HM8.o.up (aD _ _)) ?_;go_simp;go_big_quiet_on)
     |go_big_quiet_step (first|(go_at_call 142;(with_reducible exact bY (HBA.o _ (HT8.o.up (aD _ _)))))|(go_at_call 142;(with_reducible exact bY (HBB.o _ (HT8.o.up (aD _ _)))))))
    refine wpQuiet_nil ?_;intro y9;obtain⟨w9,hw⟩:∃v,v=ext w8 y9:=⟨_,rfl⟩;rw[<-hw];have hw9:∃x,w9=ext w8 x:=⟨_,hw⟩;clear hw;have HE9:=qa (HE8.o.ext hw9);have HN9:=qa (HN8.o.up (aB hw9));clear hw9
    go_wp2_with(first
     |((with_reducible refine(HF.o _ HE9.o.box).mono ?_);rintro e w10 ⟨rfl,hB,hg⟩;have qev:=qa (HE9.o.act hB hg);have qcB:=qa (HN9.o.keepP hg (by omega));clear hB hg)
     |(refine aQ rfl _ rfl w1.heap.size rfl _ qcB.o ?_)
     |(refine aF rfl _ _ rfl w.heap.size rfl _ _ rfl qev.o.set ?_;intro w11 hB2 hg2;have qck:=qa (qev.o.store hB2 hg2);clear hB2 hg2))
    refine bG (s:=4) (ad:=⟨w.heap.size,0,none⟩) (x:=cD a) rfl rfl rfl qck.o.set.load ?_;rw[HR.o];exact⟨rfl,qck.o.box,qck.o.gr⟩
   have HR:Hid (R=(gS ca.toNat cb.toNat,zb)):=qa (by
    rw[hR,qr (by simp;omega)])
   have hbb:Op.bytesLess [ca] [cb]=true/\(ca==cb)=false\/Op.bytesLess [ca] [cb]=false/\(ca==cb)=true:=by
    rw[hbl,hbq];simp;omega
   clear hbl hbq;have hi1:=sX ca;have hi2:=sX cb;have HRG:Hid (∀W,Calls prog 132 #[.int .u8 (ca.toNat:Nat),.int .u8 (cb.toNat:Nat)] W (cI (gS ca.toNat cb.toNat) W)):=qa (fun W=>P9 ca cb W);generalize gS ca.toNat cb.toNat=rg at*;clear hR hlt HF;rcases hbb with⟨hbl,hbq⟩|⟨hbl,hbq⟩
   all_goals
    go_enter func129,ntmps129
    go_wp2_with(first
     |((with_reducible refine(HC1.o _ HE0.o.box).mono ?_);rintro e w1 ⟨rfl,hB,hg⟩;have HE1:=qa (HE0.o.act hB hg);have hba:=aA w1 (.cells Z 63);have HE2:=qa (HE1.o.below hba);have HN2:=qa (HNW.o w1);have hs2:=HE1.o.set.lt;clear hB hg hba)
     |(refine aF rfl _ _ rfl w1.heap.size rfl _ a rfl HN2.o ?_;intro w3 hB2 hg2;have HE3:=qa (HE2.o.far hg2 (by omega) (by omega));have HN3:=qa hB2;have c1:=HE3.o.box.c1;clear hB2 hg2)
     |((with_reducible refine(HT1.o _ HE3.o.box).mono ?_);rintro e w4 ⟨rfl,hB,hg⟩;have HE4:=qa (HE3.o.act hB hg);have HN4:=qa (HN3.o.keepP hg (by omega));clear hB hg)
     |((with_reducible refine(HX1.o _ HE4.o.box).mono ?_);rintro e w5 ⟨rfl,hx⟩;have HE5:=qa (HE4.o.ext hx);have HN5:=qa (HN4.o.up (aB hx));have c15:=HE5.o.box.c1;clear hx)
     |((with_reducible refine(HC2.o _ HE5.o.box).mono ?_);rintro e w6 ⟨rfl,hB,hg⟩;have HE6:=qa (HE5.o.act hB hg);have HN6:=qa (HN5.o.keepP hg (by omega));have hba:=aA w6 (.cells Z 63);have HE7:=qa (HE6.o.below hba);have HN7:=qa (HN6.o.up hba);have HM7:=qa (HNW.o w6);have hs6:=HE6.o.set.lt;have hn6:=HN6.o.lt;clear hB hg hba)
     |(refine aF rfl _ _ rfl w6.heap.size rfl _ b rfl HM7.o ?_;intro w8 hB2 hg2;have HE8:=qa (HE7.o.far hg2 (by omega) (by omega));have HN8:=qa (HN7.o.keepP hg2 (by omega));have HM8:=qa hB2;have c28:=HE8.o.box.c2;clear hB2 hg2))
    have HT8:=qa (iZ.fx HT.o HE8.o.gr (fun e=>hgt (by injection e)));refine bO (by kernel_rfl) (by kernel_rfl) ?_;go_simp
    repeat(first
     |(go_big_quiet_want;refine bH _ rfl w1.heap.size rfl a (fun w' hw=>by obtain⟨y,rfl⟩:=hw;exact HN8.o.up (aD _ _)) ?_;go_simp;go_big_quiet_on)
     |(go_big_quiet_want;refine bH _ rfl w6.heap.size rfl b (fun w' hw=>by obtain⟨y,rfl⟩:=hw;exact HM8.o.up (aD _ _)) ?_;go_simp;go_big_quiet_on)
     |go_big_quiet_step (first|(go_at_call 142;(with_reducible exact bY (HBA.o _ (HT8.o.up (aD _ _)))))|(go_at_call 142;(with_reducible exact bY (HBB.o _ (HT8.o.up (aD _ _)))))))
    refine wpQuiet_nil ?_;intro y9;obtain⟨w9,hw⟩:∃v,v=ext w8 y9:=⟨_,rfl⟩;rw[<-hw];have hw9:∃x,w9=ext w8 x:=⟨_,hw⟩;clear hw;have HE9:=qa (HE8.o.ext hw9);have HN9:=qa (HN8.o.up (aB hw9));clear hw9;go_wp2;refine aT [0,1,2,3] [4] [5] (by kernel_rfl) (by kernel_rfl) ?_;simp only[pk];go_simp
    repeat(go_big_quiet_step (fail))
    refine wpQuiet_nil ?_;have qk0:=qa (HE9.o.below (gH (qk _ w9)));have HBd:Hid (Below w9.heap.size w9 w9.drew):=qa (gH (qk _ _));generalize w9.drew=w10 at*;unfold aG
    go_wp2_with((with_reducible refine(HRG.o _).mono ?_);rintro e w11 ⟨rfl,hx⟩;have hb:=aB hx;have qck:=qa (qk0.o.ext hx);have qc2:=qa (cP HBd.o hb);clear hx hb)
    refine⟨aI qc2.o,?_⟩;unfold aG;unfold aG
    go_wp2_with(refine aF rfl _ _ rfl w.heap.size rfl _ _ rfl qck.o.set ?_;intro w12 hB2 hg2;have qgf:=qa (qck.o.store hB2 hg2);clear hB2 hg2)
    refine⟨trivial,?_⟩;unfold aG;go_wp2;refine bG (s:=4) (ad:=⟨w.heap.size,0,none⟩) (x:=cD rg) rfl rfl rfl qgf.o.set.load ?_;rw[HR.o];exact⟨rfl,qgf.o.box,qgf.o.gr⟩
  rw[qt he]at hR;have HR:Hid (R=(a,zb)):=qa hR;have hcb:((zb.e:Int) != 0)=true:=by simp;omega
  clear hR he;go_enter func129,ntmps129
  go_wp2_with(first
   |((with_reducible refine(HC1.o _ HE0.o.box).mono ?_);rintro e w1 ⟨rfl,hB,hg⟩;have HE1:=qa (HE0.o.act hB hg);have hba:=aA w1 (.cells Z 63);have HE2:=qa (HE1.o.below hba);have HN2:=qa (HNW.o w1);have hs2:=HE1.o.set.lt;clear hB hg hba)
   |(refine aF rfl _ _ rfl w1.heap.size rfl _ a rfl HN2.o ?_;intro w3 hB2 hg2;have HE3:=qa (HE2.o.far hg2 (by omega) (by omega));have HN3:=qa hB2;have c1:=HE3.o.box.c1;clear hB2 hg2)
   |((with_reducible refine(HT1.o _ HE3.o.box).mono ?_);rintro e w4 ⟨rfl,hB,hg⟩;have HE4:=qa (HE3.o.act hB hg);have HN4:=qa (HN3.o.keepP hg (by omega));clear hB hg)
   |((with_reducible refine(HX1.o _ HE4.o.box).mono ?_);rintro e w5 ⟨rfl,hx⟩;have HE5:=qa (HE4.o.ext hx);have HN5:=qa (HN4.o.up (aB hx));have c15:=HE5.o.box.c1;clear hx)
   |((with_reducible refine(HC2.o _ HE5.o.box).mono ?_);rintro e w6 ⟨rfl,hB,hg⟩;have HE6:=qa (HE5.o.act hB hg);have HN6:=qa (HN5.o.keepP hg (by omega));have hba:=aA w6 (.cells Z 63);have HE7:=qa (HE6.o.below hba);have HN7:=qa (HN6.o.up hba);have HM7:=qa (HNW.o w6);have hs6:=HE6.o.set.lt;have hn6:=HN6.o.lt;clear hB hg hba)
   |(refine aF rfl _ _ rfl w6.heap.size rfl _ b rfl HM7.o ?_;intro w8 hB2 hg2;have HE8:=qa (HE7.o.far hg2 (by omega) (by omega));have HN8:=qa (HN7.o.keepP hg2 (by omega));have HM8:=qa hB2;have c28:=HE8.o.box.c2;clear hB2 hg2)
   |(refine aQ rfl _ rfl w1.heap.size rfl _ HN8.o ?_)
   |(refine aF rfl _ _ rfl w.heap.size rfl _ _ rfl HE8.o.set ?_;intro w9 hB2 hg2;have HE9:=qa (HE8.o.store hB2 hg2);clear hB2 hg2))
  refine bG (s:=4) (ad:=⟨w.heap.size,0,none⟩) (x:=cD a) rfl rfl rfl HE9.o.set.load ?_;rw[HR.o];exact⟨rfl,HE9.o.box,HE9.o.gr⟩
theorem q3y(s:cX)(frm:Nat)(z:PS):(mQ s frm z).1<2^256:=by
 have hc:=q3x s z;have hr:=yH;unfold mQ;generalize 2^256=M at*;simp only;split
 ·cases nxR s (b7 s 45 (eQ s z).2).2 with
  |none=>exact hc
  |some c=>
   simp only;split
   ·exact hc
   split
   ·exact hc
   split
   ·exact hc
   have h1:=hr (Nat.log2 (eQ s z).1.1) (Nat.log2 (eQ s (b7 s 45 (eQ s z).2).2).1.1)
   dsimp only
   exact h1
 exact hc
theorem q0M{x:Nat}(hx:x<2^256)(Z:Array Value)(hZ:Z=z4)(W:World):(binOp .eql 63 (cD x) (.agg Z)).run prog W=.ok (.bool (decide (x=0))) W:=by
 have:=q2q W (wdR x 0:Nat) (wdR x 1:Nat) (wdR x 2:Nat) (wdR x 3:Nat) 0 0 0 0;rw[hZ];refine Eq.trans this ?_
 congr 2
 refine decide_eq_decide.2 ⟨fun h=>?_,fun h=>by subst h;simp[yF]⟩;refine q6c hx (by decide) fun i hi=>?_;rw[yF];obtain rfl|rfl|rfl|rfl:i=0\/i=1\/i=2\/i=3:=by omega
 all_goals omega
theorem Q4(W:World)(o:BinOp)(x y:Operand)(a:Nat)(Z:Array Value):(eqGuard o 63 x y (cD a) (.agg Z)).run prog W=.ok () W:=mW W o x y _ _
theorem qaR{w:World}{g frm:Nat}{s:ByteArray}{z:PS}(h:dJ w g s z)(hs:s.size<=1000000)(hT:iZ w)(hzs:z.p<=s.size)(hfs:frm<=s.size):
  Calls prog 111 #[.pointer (some ⟨g,0,none⟩),.int .i64 frm] w (mR (cD (B1 (bys s) frm z).1) g s (B1 (bys s) frm z).2 w):=by
 have hgt:=hT.ne h;have HT:=qa hT;have hz:=gZ;obtain⟨Z,hZ⟩:∃Z,Z=z4:=⟨_,rfl⟩;rw[<-hZ]at hz;have HNW:Hid (∀W:World,eX (W.alloc (.cells Z 63)) W.heap.size 0):=qa (fun W=>cL W Z hZ);have HCM:Hid (∀x,x<2^256->∀W,(binOp .eql 63 (cD x) (.agg Z)).run prog W=.ok (.bool (decide (x=0))) W):=qa (fun x hx W=>q0M hx Z hZ W);have hgd:=Q4;have HE0:Hid (Esc w (w.alloc (.cells Z 63)) g s z w.heap.size 0):=qa ⟨h.up (aA _ _),cL w Z hZ,aE (aA _ _) _,qb _,h.lt⟩;have hgl:=h.lt;have HT1:Hid (∀W,dJ W g s z->Calls prog 64 #[.pointer (some ⟨g,0,none⟩),.int .u8 94] W (mR (.bool (b7 (bys s) 94 z).1) g s (b7 (bys s) 94 z).2 W)):=qa (fun W h=>Y0 h hs 94);have HT2:Hid (∀W y,dJ W g s y->Calls prog 64 #[.pointer (some ⟨g,0,none⟩),.int .u8 93] W (mR (.bool (b7 (bys s) 93 y).1) g s (b7 (bys s) 93 y).2 W)):=qa (fun W y h=>Y0 h hs 93);have HIT:Hid (∀W y,dJ W g s y->iZ W->Calls prog 129 #[.pointer (some ⟨g,0,none⟩),.int .i64 frm] W (mR (cD (mQ (bys s) frm y).1) g s (mQ (bys s) frm y).2 W)):=qa (fun W y h hT=>qaQ h hs hT);have qbP:Hid (∀W y,dJ W g s y->Calls prog 41 #[.pointer (some ⟨g,0,none⟩),.int .i64 16,.int .i64 frm] W (mR (.tuple #[]) g s (bB 16 frm y) W)):=qa (fun W y h=>uR h 16 frm);have qcS:Hid (∀W y,dJ W g s y->Calls prog 41 #[.pointer (some ⟨g,0,none⟩),.int .i64 17,.int .i64 frm] W (mR (.tuple #[]) g s (bB 17 frm y) W)):=qa (fun W y h=>uR h 17 frm);obtain⟨R,hR⟩:∃R,R=B1 (bys s) frm z:=⟨_,rfl⟩;rw[<-hR];unfold B1 at hR;simp only at hR;have HST:=qa ((eR (bys s) 94 z).len (by rw[aP];exact hzs));generalize b7 (bys s) 94 z=T1 at*;obtain⟨bt,zt⟩:=T1;simp only at hR HT1 HST;have HR:=qa hR;obtain⟨L,hL⟩:∃L,L=nP (bys s) frm ((bys s).length+1) 0 zt:=⟨_,rfl⟩;rw[<-hL]at HR;rw[aP]at HST hL;have HL:=qa hL.symm;clear h hZ hT hR hL hzs;cases bt
 ·go_enter func111,ntmps111
  go_wp2_with(first
   |((with_reducible refine(HT1.o _ HE0.o.box).mono ?_);rintro e w1 ⟨rfl,hB,hg⟩;have HE1:=qa (HE0.o.act hB hg);have hba:=aA w1 (.cells Z 63);have HE2:=qa (HE1.o.below hba);have HN2:=qa (HNW.o w1);have hs2:=HE1.o.set.lt;have hsg:g<w1.heap.size:=HE1.o.box.lt;clear hB hg hba))
  go_loopg [9] (s.size+1) (fun gk _ wr=>∃(f a:Nat) (y:PS),gk=f/\Esc w wr g s y w.heap.size 0/\eX wr w1.heap.size a/\Hid (a<2^256)/\Hid (nP (bys s) frm f a y=L)/\Hid (y.p<=s.size)/\((y.e≠0/\1<=f)\/s.size+1<=f+y.p))
  case atStart=>exact⟨s.size+1,0,zt,rfl,HE2.o,HN2.o,qa q7h,HL,HST,.inr (by omega)⟩
  case round=>
   obtain⟨f0,af,y,hgk,hE,hA,HAL,HCL,HYP,hfu⟩:=hrel;obtain⟨f,hf0⟩:∃f,f0=f+1:=⟨f0-1,by have:=HYP.o;omega⟩;subst hf0;subst hgk;have HE:=qa hE;have HA:=qa hA;have ce:=hE.box.c2;clear hE hA HST HL HE0 HE1 HE2 HN2 HT1;by_cases he:y.e=0
   ·have heb:((y.e:Int)==0)=true:=by rw[he];rfl
    have HTK:=qa (HT2.o);have qdo:=qa (eR (bys s) 93 y);cases htk:b7 (bys s) 93 y with
    |mk b1 y1=>
    have HTK:Hid (∀W,dJ W g s y->Calls prog 64 #[.pointer (some ⟨g,0,none⟩),.int .u8 93] W (mR (.bool b1) g s y1 W)):=qa (fun W h=>by
     have:=HT2.o W y h;rwa [htk]at this)
    have qbL:Hid (L=if b1 then(af,y1)else if s.size<=y1.p then(af,bB 16 frm y1)else nP (bys s) frm f (af|||(mQ (bys s) frm y1).1) (mQ (bys s) frm y1).2):=qa (by
     rw[<-HCL.o];show nP (bys s) frm (f+1) af y=_;rw[nP,qr (fun h=>h he),htk,aP])
    have HY1:Hid (b1=false->y1=y):=qa (fun hb=>by
     have:=uL (s:=bys s) (c:=93) (z:=y) (by rw[htk];exact hb);rw[htk]at this;exact this)
    have HEE:=qa he;clear HCL htk qdo he;cases b1
    ·obtain rfl:=HY1.o rfl
     by_cases hp:s.size<=y1.p
     ·have hpi:(y1.p:Int)≥(s.size:Int):=by omega
      obtain⟨zf,hzf⟩:∃zf,zf=bB 16 frm y1:=⟨_,rfl⟩;have HLR:Hid (L=(af,zf)):=qa (by rw[qbL.o,hzf];simp only[qP,jp];rw[qt hp]);have HFZ:Hid (∀W,dJ W g s y1->Calls prog 41 #[.pointer (some ⟨g,0,none⟩),.int .i64 16,.int .i64 frm] W (mR (.tuple #[]) g s zf W)):=qa (fun W h=>by rw[hzf];exact qbP.o W y1 h);clear qbL qbP hzf hp HIT HT2 HY1
      go_wp2_with((with_reducible refine(HTK.o _ HE.o.box).mono ?_);rintro e v1 ⟨rfl,hB,hg⟩;have HV1:=qa (HE.o.act hB hg);have qcy:=qa (HA.o.keepP hg (by omega));have cp:=HV1.o.box.c1;have cs:=HV1.o.box.c0;clear hB hg)
      go_simp
      go_quiet (fail)
      have HV2:=qa (HV1.o.below (aN v1 nq));have qcg:=qa (qcy.o.up (aN v1 nq));generalize v1.drewN nq=v2 at*
      go_upto_region 7 with((with_reducible refine(HFZ.o _ HV2.o.box).mono ?_);rintro e v3 ⟨rfl,hB,hg⟩;have HX:=qa (HV2.o.act hB hg);have HXA:=qa (qcg.o.keepP hg (by omega));clear hB hg)
      clear HV1 qcy HV2 qcg HE HA HTK HFZ HYP;have HRR:Hid (R=(af,if af=0 then bB 17 frm zf else zf)):=qa (by rw[HR.o,HLR.o];rfl);have hcm:=HCM.o af HAL.o;by_cases h0:af=0
      ·exact ZmM4
      exact ZmM5
     exact ZmM0
    have HLR:Hid (L=(af,y1)):=qa (by rw[qbL.o];rfl);obtain⟨zf,hzf⟩:∃zf,zf=y1:=⟨_,rfl⟩;rw[<-hzf]at HLR;clear qbL qbP HIT HT2 HY1
    go_upto_region 7 with((with_reducible refine(HTK.o _ HE.o.box).mono ?_);rintro e v1 ⟨rfl,hB,hg⟩;have HX:=qa (HE.o.act hB hg);have HXA:=qa (HA.o.keepP hg (by omega));clear hB hg)
    rw[<-hzf]at HX;clear hzf HE HA HTK HYP;have HRR:Hid (R=(af,if af=0 then bB 17 frm zf else zf)):=qa (by rw[HR.o,HLR.o];rfl);have hcm:=HCM.o af HAL.o;by_cases h0:af=0
    ·exact ZmM4
    exact ZmM5
   have heb:((y.e:Int)==0)=false:=by simpa using he
   have HLR:Hid (L=(af,y)):=qa (by rw[<-HCL.o,nP,qt he]);obtain⟨zf,hzf⟩:∃zf,zf=y:=⟨_,rfl⟩;rw[<-hzf]at HLR;clear HCL qbP HIT HT2 he
   go_upto_region 7 with(fail)
   have HX:=HE;have HXA:=HA;rw[<-hzf]at HX;clear hzf HE HA HYP;have HRR:Hid (R=(af,if af=0 then bB 17 frm zf else zf)):=qa (by rw[HR.o,HLR.o];rfl);have hcm:=HCM.o af HAL.o;by_cases h0:af=0
   ·exact ZmM4
   exact ZmM5
 go_enter func111,ntmps111
 go_wp2_with(first
  |((with_reducible refine(HT1.o _ HE0.o.box).mono ?_);rintro e w1 ⟨rfl,hB,hg⟩;have HE1:=qa (HE0.o.act hB hg);have hba:=aA w1 (.cells Z 63);have HE2:=qa (HE1.o.below hba);have HN2:=qa (HNW.o w1);have hs2:=HE1.o.set.lt;have hsg:g<w1.heap.size:=HE1.o.box.lt;clear hB hg hba))
 go_loopg [9] (s.size+1) (fun gk _ wr=>∃(f a:Nat) (y:PS),gk=f/\Esc w wr g s y w.heap.size 0/\eX wr w1.heap.size a/\Hid (a<2^256)/\Hid (nP (bys s) frm f a y=L)/\Hid (y.p<=s.size)/\((y.e≠0/\1<=f)\/s.size+1<=f+y.p))
 case atStart=>exact⟨s.size+1,0,zt,rfl,HE2.o,HN2.o,qa q7h,HL,HST,.inr (by omega)⟩
 case round=>
  obtain⟨f0,af,y,hgk,hE,hA,HAL,HCL,HYP,hfu⟩:=hrel;obtain⟨f,hf0⟩:∃f,f0=f+1:=⟨f0-1,by have:=HYP.o;omega⟩;subst hf0;subst hgk;have HE:=qa hE;have HA:=qa hA;have ce:=hE.box.c2;clear hE hA HST HL HE0 HE1 HE2 HN2 HT1;by_cases he:y.e=0
  ·have heb:((y.e:Int)==0)=true:=by rw[he];rfl
   have HTK:=qa (HT2.o);have qdo:=qa (eR (bys s) 93 y);cases htk:b7 (bys s) 93 y with
   |mk b1 y1=>
   have HTK:Hid (∀W,dJ W g s y->Calls prog 64 #[.pointer (some ⟨g,0,none⟩),.int .u8 93] W (mR (.bool b1) g s y1 W)):=qa (fun W h=>by
    have:=HT2.o W y h;rwa [htk]at this)
   have qbL:Hid (L=if b1 then(af,y1)else if s.size<=y1.p then(af,bB 16 frm y1)else nP (bys s) frm f (af|||(mQ (bys s) frm y1).1) (mQ (bys s) frm y1).2):=qa (by
    rw[<-HCL.o];show nP (bys s) frm (f+1) af y=_;rw[nP,qr (fun h=>h he),htk,aP])
   have HY1:Hid (b1=false->y1=y):=qa (fun hb=>by
    have:=uL (s:=bys s) (c:=93) (z:=y) (by rw[htk];exact hb);rw[htk]at this;exact this)
   have HEE:=qa he;clear HCL htk qdo he;cases b1
   ·obtain rfl:=HY1.o rfl
    by_cases hp:s.size<=y1.p
    ·have hpi:(y1.p:Int)≥(s.size:Int):=by omega
     obtain⟨zf,hzf⟩:∃zf,zf=bB 16 frm y1:=⟨_,rfl⟩;have HLR:Hid (L=(af,zf)):=qa (by rw[qbL.o,hzf];simp only[qP,jp];rw[qt hp]);have HFZ:Hid (∀W,dJ W g s y1->Calls prog 41 #[.pointer (some ⟨g,0,none⟩),.int .i64 16,.int .i64 frm] W (mR (.tuple #[]) g s zf W)):=qa (fun W h=>by rw[hzf];exact qbP.o W y1 h);clear qbL qbP hzf hp HIT HT2 HY1
     go_wp2_with((with_reducible refine(HTK.o _ HE.o.box).mono ?_);rintro e v1 ⟨rfl,hB,hg⟩;have HV1:=qa (HE.o.act hB hg);have qcy:=qa (HA.o.keepP hg (by omega));have cp:=HV1.o.box.c1;have cs:=HV1.o.box.c0;clear hB hg)
     go_simp
     go_quiet (fail)
     have HV2:=qa (HV1.o.below (aN v1 nq));have qcg:=qa (qcy.o.up (aN v1 nq));generalize v1.drewN nq=v2 at*
     go_upto_region 7 with((with_reducible refine(HFZ.o _ HV2.o.box).mono ?_);rintro e v3 ⟨rfl,hB,hg⟩;have HX:=qa (HV2.o.act hB hg);have HXA:=qa (qcg.o.keepP hg (by omega));clear hB hg)
     clear HV1 qcy HV2 qcg HE HA HTK HFZ HYP;have HRR:Hid (R=(mP af,if mP af=0 then bB 17 frm zf else zf)):=qa (by rw[HR.o,HLR.o];rfl);have HNO:Hid (∀W,Calls prog 112 #[cD af] W (cI (mP af) W)):=qa (fun W=>q9H HAL.o W);have hcm:=HCM.o (mP af) (oJ af);generalize mP af=xx at*;by_cases h0:xx=0
     ·exact ZmM1
     exact ZmM2
    exact ZmM0
   have HLR:Hid (L=(af,y1)):=qa (by rw[qbL.o];rfl);obtain⟨zf,hzf⟩:∃zf,zf=y1:=⟨_,rfl⟩;rw[<-hzf]at HLR;clear qbL qbP HIT HT2 HY1
   go_upto_region 7 with((with_reducible refine(HTK.o _ HE.o.box).mono ?_);rintro e v1 ⟨rfl,hB,hg⟩;have HX:=qa (HE.o.act hB hg);have HXA:=qa (HA.o.keepP hg (by omega));clear hB hg)
   rw[<-hzf]at HX;clear hzf HE HA HTK HYP;have HRR:Hid (R=(mP af,if mP af=0 then bB 17 frm zf else zf)):=qa (by rw[HR.o,HLR.o];rfl);have HNO:Hid (∀W,Calls prog 112 #[cD af] W (cI (mP af) W)):=qa (fun W=>q9H HAL.o W);have hcm:=HCM.o (mP af) (oJ af);generalize mP af=xx at*;by_cases h0:xx=0
   ·exact ZmM1
   exact ZmM2
  have heb:((y.e:Int)==0)=false:=by simpa using he
  have HLR:Hid (L=(af,y)):=qa (by rw[<-HCL.o,nP,qt he]);obtain⟨zf,hzf⟩:∃zf,zf=y:=⟨_,rfl⟩;rw[<-hzf]at HLR;clear HCL qbP HIT HT2 he
  go_upto_region 7 with(fail)
  have HX:=HE;have HXA:=HA;rw[<-hzf]at HX;clear hzf HE HA HYP;have HRR:Hid (R=(mP af,if mP af=0 then bB 17 frm zf else zf)):=qa (by rw[HR.o,HLR.o];rfl);have HNO:Hid (∀W,Calls prog 112 #[cD af] W (cI (mP af) W)):=qa (fun W=>q9H HAL.o W);have hcm:=HCM.o (mP af) (oJ af);generalize mP af=xx at*;by_cases h0:xx=0
  ·exact ZmM1
  exact ZmM2
abbrev aO(w:World)(B:Nat)(v:Value)(l:List Nd):Prop:=cA 8 w B 65 v (l.map ndC)
def lM(w:World)(l:List Nd)(e:Ending)(w':World):Prop:=∃v,e=.returned v/\aO w' w.heap.size v l/\Below w.heap.size w w'
theorem aO.at{w:World}{B:Nat}{v:Value}{l:List Nd}(h:aO w B v l):cB w v l:=h.sl
theorem q3z(l:List Nd):∀x∈l.map ndC,x.length=8:=by
 intro x hx;obtain⟨y,-,rfl⟩:=List.mem_map.1 hx
 rfl
theorem q3A(l:List Nd):∀u∈(l.map ndC).flatten,u.oneCell'=true:=by
 intro u hu;obtain⟨c,hc,hu⟩:=List.mem_flatten.1 hu;obtain⟨y,-,rfl⟩:=List.mem_map.1 hc;simp only[ndC,jJ,List.not_mem_nil,or_false]at hu;rcases hu with rfl|rfl|rfl|rfl|rfl|rfl|rfl|rfl<;>rfl
theorem nM.setN{w:World}{b:Nat}{x:Nd}(h:nM w b x)(n:Int):nM (w.setCell ⟨b,1,none⟩ (.int .i64 n)) b {x with n:=n}/\w.grownBy (w.setCell ⟨b,1,none⟩ (.int .i64 n)) (some b):=by
 obtain⟨h1,h2⟩:=h.own.store 1 (.int .i64 n);exact⟨⟨h1⟩,h2⟩
theorem nM.heap{w:World}{b:Nat}{x:Nd}(h:nM w b x):w.heap[b]? =some (.cells (ndA x) 65 (0,0)):=by
 obtain⟨A,hg,-,hA⟩:=h.own.whole;rw[hg,show ndA x=(ndC x).toArray from rfl,<-hA]
theorem oL{ops:Array Oper}{rest:List Oper}{o:Oper}{a:Act}{w:World}{Q:Exit->Act->World->Prop}(hgd:o.guard=none)(y:Operand)(ho:o.op=.load 65 y)
  (b:Nat) (hx:a.eval y=.pointer (some ⟨b,0,none⟩)) (x:Nd) (hown:nM w b x)
  (h:wpList prog ops Q rest (a.put o.dst (.agg (ndA x))) w):wpList prog ops Q (o::rest) a w:=
 oX hgd 65 8 y ho b hx (ndA x) rfl hown.heap _ underlying65 rfl (by kernel_rfl) h
theorem B9{ops:Array Oper}{rest:List Oper}{o:Oper}{a:Act}{w:World}{Q:Exit->Act->World->Prop}(hgd:o.guard=none)(y:Operand)(ho:o.op=.load 65 y)
  (b:Nat) (hx:a.eval y=.pointer (some ⟨b,0,none⟩)) (k n a1 b1 c1 d1 lo hi:Int) (hown:nM w b ⟨k,n,a1,b1,c1,d1,lo,hi⟩)
  (h:wpList prog ops Q rest (a.put o.dst (.agg #[.int .i64 k,.int .i64 n,.int .u64 a1,.int .u64 b1,.int .u64 c1,.int .u64 d1,.int .i64 lo,.int .i64 hi])) w):wpList prog ops Q (o::rest) a w:=
 oL hgd y ho b hx _ hown h
theorem nM.free{w:World}{b:Nat}{x:Nd}(h:nM w b x)(c:Nat):w.frozen? ⟨b,c,none⟩=false:=h.own.free c
theorem nM.c1{w:World}{b:Nat}{x:Nd}(h:nM w b x):w.cell? ⟨b,1,none⟩=some (.int .i64 x.n):=h.own.cell (by simp[ndC])
theorem nM.lt{w:World}{b:Nat}{x:Nd}(h:nM w b x):b<w.heap.size:=(h.own.lt b rfl).2
theorem q1L{w:World}{x:Nd}{kv:Value}{vs:List Value}{ks:List (List Nd)}(hk:Sl w kv vs)(hl:vs.length=ks.length)(hn:∀i,i<ks.length->cB w (vs.getD i undef) (ks.getD i []))(hb:ks.flatten.length<=500000000):
  Calls prog 84 #[.agg (ndA x),kv] w (lM w (dM x ks)):=by
 obtain⟨oa,cap,b,off,rfl,hd,hc⟩:=hk;rw[hl]at hd hc⊢;have hix:=fun(W:World) (i:Nat) (hi:i<ks.length)=>aU (P:=prog) 26 31 underlying26 (by kernel_rfl) hd W .i64 i (by omega) (by omega);simp only[qA]at hix;have HIX:=qa hix;have hm:=hd.len;have hblk:=hd.hblk;have HC:=qa hc;have HN:=qa hn;obtain⟨X,hX⟩:∃X:Array Value,X=ndA x:=⟨_,rfl⟩;have HB0:=qa (nE w x X hX);have c1:=HB0.o.c1;have f1:=HB0.o.free 1;have hl0:=HB0.o.lt;obtain⟨k0,n0,a0,b0,c0,d0,l0,h0⟩:=x;have HN1:Hid (nM (w.alloc (.cells (X.setIfInBounds 1 (.int .i64 (ks.length:Nat))) 65)) w.heap.size ⟨k0,(ks.length:Nat),a0,b0,c0,d0,l0,h0⟩):=qa (nE w _ _ (by rw[hX];rfl));have HR:Hid (dM ⟨k0,n0,a0,b0,c0,d0,l0,h0⟩ ks=⟨k0,(ks.length:Nat),a0,b0,c0,d0,l0,h0⟩::ks.flatten):=qa rfl;rw[HR.o];obtain⟨K,hK⟩:∃K,K=ks.length:=⟨_,rfl⟩;have HK:=qa hK;rw[<-hK]at hd HC HIX HN1 HN hm hblk⊢;obtain⟨w1,hw1⟩:∃w1,w1=w.alloc (.cells (X.setIfInBounds 1 (.int .i64 (K:Nat))) 65):=⟨_,rfl⟩;have hs1:w1.heap.size=w.heap.size+1:=by rw[hw1];simp
 have hb1:Below w.heap.size w w1:=by rw[hw1];exact aA w _
 obtain⟨x1,hx1⟩:∃x1:Nd,x1=⟨k0,(K:Nat),a0,b0,c0,d0,l0,h0⟩:=⟨_,rfl⟩;obtain⟨C,hC⟩:∃C:Array Value,C=#[.int .i64 k0,.int .i64 (K:Nat),.int .u64 a0,.int .u64 b0,.int .u64 c0,.int .u64 d0,.int .i64 l0,.int .i64 h0]:=⟨_,rfl⟩;have hCx:C=ndA x1:=by rw[hC,hx1];rfl
 have HB2:Hid (Below w.heap.size w (w1.alloc (.cells C 65))):=qa (hb1.trans ((aA w1 _).mono (by omega)))
 have HO2:Hid (aO (w1.alloc (.cells C 65)) w.heap.size (.slice (some ⟨w.heap.size+1,0,none⟩) 1 1) [x1]):=qa (by
  have:=oZ 8 w1 w.heap.size C 65 [ndC x1] (by rw[hCx];simp[q0G]) (by intro y hy;simp at hy;subst hy;rfl) (by simp) (by omega);rw[hs1]at this;exact this)
 rw[hw1,hC]at HB2 HO2;rw[<-hX,<-hx1];clear hix hd hc hn hl hX hw1 hs1 hb1 hC hCx;have HX1:=qa hx1;clear hx1 hK;go_enter func84,ntmps84
 go_wp2_with(refine B9 rfl _ rfl w.heap.size rfl k0 (K:Nat) a0 b0 c0 d0 l0 h0 HN1.o ?_)
 generalize (w.alloc (.cells (X.setIfInBounds 1 (.int .i64 (K:Nat))) 65)).alloc (.cells #[.int .i64 k0,.int .i64 (K:Nat),.int .u64 a0,.int .u64 b0,.int .u64 c0,.int .u64 d0,.int .i64 l0,.int .i64 h0] 65)=w2 at*;clear HN1 c1 f1 hl0 HB0 HR
 go_loopg [5,15] (K+1) (fun gk lv iv wr=>∃i:Nat,i<=K/\iv=.int .i64 i/\aO wr w.heap.size lv (x1::(ks.take i).flatten)/\Below w.heap.size w wr/\gk=K+1-i)
 case atStart=>exact⟨0,qd _,rfl,by simpa using HO2.o,HB2.o,rfl⟩
 case round=>
  clear HO2 HB2;obtain⟨i,hi,rfl,hO,hB,hgk⟩:=hrel;subst hgk;have HO:=qa hO;have HB:=qa hB;clear hO hB;by_cases hlt:i<K
  ·have qbi:=fun W=>HIX.o W i hlt
   have hbw:=hblk (by omega);have hcell:=(HB.o.cell (p:=⟨b,off+i,none⟩) hbw).trans (HC.o i hlt);have qjd:b<wr.heap.size:=by have:=HB.o.size;omega
   have HKI:=qa (cB.up (HN.o i hlt) ((HB.o)))
   have HLE:Hid (((x1::(ks.take i).flatten).map ndC).length+((ks.getD i []).map ndC).length<=1000000000):=qa (by
    have h1:((ks.take (i+1)).flatten).length<=ks.flatten.length:=by
     have:=j5 (i+1) ks;rw[<-this,ju,qi];rw[this];omega
    rw[aY ks i [] (by rw[<-HK.o];exact hlt),ju,qi]at h1;simp only[jF]at h1;simp only[qy,qx];omega)
   have HTS:Hid (x1::(ks.take (i+1)).flatten=(x1::(ks.take i).flatten)++ks.getD i []):=qa (by
    rw[aY ks i [] (by rw[<-HK.o];exact hlt),ju];simp)
   generalize vs.getD i undef=kv at*;generalize ks.getD i []=ki at*;generalize x1::(ks.take i).flatten=cur at*;clear HN HC
   go_wp2_with(at_builtin;refine gV 8 rfl (.tmp 19) (.tmp 20) 31 rfl w.heap.size 65 (.agg (ndA zN)) 64 underlying31 (by kernel_rfl) rfl (by decide) (by decide) u5 _ rfl HO.o kv _ rfl HKI.o (q3z ki) (q3A ki) HLE.o HB.o.size ?_;intro v' w5 hown1 hg1 hk1;have HO5:=qa hown1;have HB5:=qa (HB.o.grown hg1 HB.o.size (fun k hk=>(HO.o.lt k hk).1));clear hown1 hg1 hk1)
   go_roundg (K-i)
   case measure=>omega
   case rel=>exact⟨i+1,by omega,by go_num,by rw[HTS.o];unfold aO;rw[qD];exact HO5.o,HB5.o,by omega⟩
  obtain rfl:i=K:=by omega
  rw[HK.o,qX]at HO;go_wp2;go_ret;exact⟨_,rfl,HO.o,HB.o⟩
theorem Q5{ops:Array Oper}{rest:List Oper}{o:Oper}{a:Act}{w:World}{Q:Exit->Act->World->Prop}(hgd:o.guard=none)(x:Operand)(ho:o.op=.load 63 x)
  (g:Nat) (hx:a.eval x=.pointer (some ⟨g,0,none⟩)) (s:Nat) (hown:eX w g s)
  (h:wpList prog ops Q rest (a.put o.dst (.agg #[.int .u64 (wdR s 0:Nat),.int .u64 (wdR s 1:Nat),.int .u64 (wdR s 2:Nat),.int .u64 (wdR s 3:Nat)])) w):wpList prog ops Q (o::rest) a w:=
 aQ hgd x ho g hx s hown h
theorem lM.up{w w1:World}{l:List Nd}{e:Ending}{w':World}(h:lM w1 l e w')(hb:Below w.heap.size w w1):lM w l e w':=by
 obtain⟨v,he,ho,hb2⟩:=h;exact⟨v,he,ho.mono hb.size,hb.trans (hb2.mono hb.size)⟩
theorem qaS(x:Nat)(w:World):Calls prog 109 #[cD x] w (lM w [setN x]):=by
 obtain⟨X,hX⟩:∃X,X=(wsV x).toArray:=⟨_,rfl⟩;have HB0:Hid (eX (w.alloc (.cells X 63)) w.heap.size x):=qa (by rw[hX];exact gF w x);have HBL:Hid (Below w.heap.size w (w.alloc (.cells X 63))):=qa (aA _ _);have HJ:Hid (∀W,Calls prog 84 #[.agg #[.int .i64 1,.int .i64 0,.int .u64 (wdR x 0:Nat),.int .u64 (wdR x 1:Nat),.int .u64 (wdR x 2:Nat),.int .u64 (wdR x 3:Nat),.int .i64 0,.int .i64 0],.slice none 0 0] W (lM W [setN x])):=qa (fun W=>q1L (x:=setN x) (ks:=[]) (Sl.nil W) rfl (fun i hi=>absurd hi (qz i)) (by simp));rw[show cD x=.agg X by rw[hX];rfl];clear hX;generalize setN x=sn at*;go_enter func109,ntmps109
 go_wp2_with(first
  |(refine Q5 rfl _ rfl w.heap.size rfl x HB0.o ?_)
  |((with_reducible refine(HJ.o _).mono ?_);rintro e w2 ⟨v,rfl,ho,hb⟩;have HO:=qa (ho.mono (HBL.o.size));have HB:=qa (HBL.o.trans (hb.mono HBL.o.size));clear ho hb))
 go_ret;exact⟨v,rfl,HO.o,HB.o⟩
structure Prs(w0 w:World)(g:Nat)(s:ByteArray)(z:PS):Prop where
 box:dJ w g s z
 gr:w0.grownBy w (some g)
 gl:g<w0.heap.size
section
variable {w0 w w' : World} {g : Nat} {s : ByteArray} {z : PS}
theorem Prs.ext(h:Prs w0 w g s z)(hx:∃y,w'=ext w y):Prs w0 w' g s z:=
 have hb:=aB hx
 ⟨h.box.up hb,aC h.gr (aE hb _),h.gl⟩
theorem Prs.below(h:Prs w0 w g s z)(hb:Below w.heap.size w w'):Prs w0 w' g s z:=⟨h.box.up hb,aC h.gr (aE hb _),h.gl⟩
theorem Prs.act{z':PS}(h:Prs w0 w g s z)(hB:dJ w' g s z')(hg:w.grownBy w' (some g)):Prs w0 w' g s z':=⟨hB,aC h.gr hg,h.gl⟩
theorem Prs.far{row:Option Nat}(h:Prs w0 w g s z)(hg:w.grownBy w' row)(hq:∀q,row=some q->w0.heap.size<=q):Prs w0 w' g s z:=
 ⟨h.box.keep hg (fun e=>by have:=hq g e;have:=h.gl;omega),fV h.gr hg hq,h.gl⟩
theorem Prs.inc(h:Prs w0 w g s z):Prs w0 (w.setCell ⟨g,1,none⟩ (.int .i64 ((z.p:Int)+1))) g s (bI z):=h.act h.box.inc.1 h.box.inc.2
theorem Prs.tab(h:Prs w0 w g s z)(hT:iZ w0)(hne:g≠6):iZ w:=hT.fx h.gr (fun e=>hne (by injection e))
end
def q1M(l:List Nd)(g:Nat)(s:ByteArray)(z:PS)(w:World)(e:Ending)(w':World):Prop:=∃v,e=.returned v/\aO w' w.heap.size v l/\dJ w' g s z/\w.grownBy w' (some g)
def q7k(g:Nat)(s:ByteArray)(lo:Nat)(alt:PS->List Nd×PS):Prop:=∀W z,dJ W g s z->iZ W->lo<z.p->z.p<=s.size->Calls prog 39 #[.pointer (some ⟨g,0,none⟩)] W (q1M (alt z).1 g s (alt z).2 W)
theorem aO.keepG{w w':World}{B g:Nat}{v:Value}{l:List Nd}(h:aO w B v l)(hg:w.grownBy w' (some g))(hB:g<B):aO w' B v l:=
 cA.keep h hg (by
  cases hv:v.ownBlock with
  |none=>exact .inl rfl
  |some q=>right;intro e;have:=(h.lt q hv).1;have:=qo e;omega)
theorem qaT{alt:PS->List Nd×PS}{w:World}{g lo:Nat}{s:ByteArray}{z:PS}{c:UInt8}(hA:q7k g s lo alt)(hlo:lo<=z.p)(h:dJ w g s z)(hs:s.size<=1000000)(hT:iZ w)(hc:nxR (bys s) z=some c):
  Calls prog 101 #[.pointer (some ⟨g,0,none⟩)] w (q1M (yV (bys s) alt z).1 g s (yV (bys s) alt z).2 w):=by
 have hgt:=hT.ne h;have HT:=qa hT;have hz:=gZ;obtain⟨Z,hZ⟩:∃Z,Z=z4:=⟨_,rfl⟩;rw[<-hZ]at hz;have HNW:Hid (∀W:World,eX (W.alloc (.cells Z 63)) W.heap.size 0):=qa (fun W=>cL W Z hZ);have HP0:Hid (Prs w w g s z):=qa ⟨h,cW _ _,h.lt⟩;have c1:=h.c1;have hgl:=h.lt;have HX:Hid (∀W,dJ W g s z->Calls prog 40 #[.pointer (some ⟨g,0,none⟩)] W fun e w'=>e=.returned (nxV (nxR (bys s) z))/\∃x,w'=ext W x):=qa (fun W h=>nxP h);rw[hc]at HX;unfold nxV at HX;have HES:Hid (∀W,dJ W g s z->Calls prog 108 #[.pointer (some ⟨g,0,none⟩)] W (mR (q4w (pG (bys s) z)) g s (pG (bys s) z).2 W)):=qa (fun W h=>qax h hs hc);have qeR:Hid (∀(x:Nat) W,Calls prog 109 #[cD x] W (lM W [setN x])):=qa (fun x W=>qaS x W);obtain⟨hz0,hzp,-⟩:=dE hc;rw[aP]at hzp;obtain⟨R,hR⟩:∃R,R=yV (bys s) alt z:=⟨_,rfl⟩;rw[<-hR];unfold yV at hR;rw[hc]at hR;simp only[qJ,jV]at hR HX;clear h hZ hT hc hz0;by_cases h1:c=92
 ·rw[qt h1]at hR
  have HR:=qa hR;have hcb:((c.toNat:Int)==92)=true:=by rw[h1];rfl
  unfold q4w at HES;generalize pG (bys s) z=E at*;obtain⟨⟨a,b⟩,z1⟩:=E;simp only at HES HR;clear hR h1 hA;go_enter func101,ntmps101
  go_wp2_with(first
   |((with_reducible refine(HX.o _ HP0.o.box).mono ?_);rintro e w1 ⟨rfl,hx⟩;have HP1:=qa (HP0.o.ext hx);clear hx)
   |((with_reducible refine(HES.o _ HP1.o.box).mono ?_);rintro e w2 ⟨rfl,hB,hg⟩;have HP2:=qa (HP1.o.act hB hg);have hba:=aA w2 (.cells Z 63);have HP3:=qa (HP2.o.below hba);have HN3:=qa (HNW.o w2);have hs2:=HP2.o.gr.size;clear hB hg hba)
   |(refine aF rfl _ _ rfl w2.heap.size rfl _ a rfl HN3.o ?_;intro w4 hB2 hg2;have HP4:=qa (HP3.o.far hg2 (fun q e=>by injection e with e;omega));have HN4:=qa hB2;clear hB2 hg2)
   |(refine aQ rfl _ rfl w2.heap.size rfl _ HN4.o ?_)
   |((with_reducible refine(qeR.o _ _).mono ?_);rintro e w5 ⟨v,rfl,ho,hb⟩;have HP5:=qa (HP4.o.below hb);have HO5:=qa (ho.mono (HP4.o.gr.size));clear ho hb))
  go_ret;rw[HR.o];exact⟨v,rfl,HO5.o,HP5.o.box,HP5.o.gr⟩
 rw[qr h1]at hR;have k1:¬c.toNat=92:=fun e=>h1 (UInt8.toNat_inj.1 e);clear h1 HES;have c1':=c1;have f1:=HP0.o.box.free 1;by_cases h2:c=40
 ·rw[qt h2]at hR
  have hcb:((c.toNat:Int)==40)=true:=by rw[h2];rfl
  have HAL:Hid (∀W,dJ W g s (bI z)->iZ W->Calls prog 39 #[.pointer (some ⟨g,0,none⟩)] W (q1M (alt (bI z)).1 g s (alt (bI z)).2 W)):=qa (fun W h hT=>hA W (bI z) h hT (Nat.lt_succ_of_le hlo) hzp);generalize alt (bI z)=L at*;obtain⟨l,z1⟩:=L;have HTK:Hid (∀W,dJ W g s z1->Calls prog 64 #[.pointer (some ⟨g,0,none⟩),.int .u8 41] W (mR (.bool (b7 (bys s) 41 z1).1) g s (b7 (bys s) 41 z1).2 W)):=qa (fun W h=>Y0 h hs 41);have HF:Hid (∀W y,dJ W g s y->Calls prog 41 #[.pointer (some ⟨g,0,none⟩),.int .i64 16,.int .i64 z.p] W (mR (.tuple #[]) g s (bB 16 z.p y) W)):=qa (fun W y h=>uR h 16 z.p);simp only at hR HAL;generalize b7 (bys s) 41 z1=T1 at*;obtain⟨bt,z2⟩:=T1;have HR:=qa hR;simp only at HR HTK;clear hR h2 hA;cases bt
  all_goals
   go_enter func101,ntmps101
   go_wp2_with(first
    |((with_reducible refine(HX.o _ HP0.o.box).mono ?_);rintro e w1 ⟨rfl,hx⟩;have HP1:=qa (HP0.o.ext hx);have c11:=HP1.o.box.c1;have f11:=HP1.o.box.free 1;have HI:=qa HP1.o.inc;have HTI:=qa (HI.o.tab HT.o hgt);clear hx)
    |((with_reducible refine(HAL.o _ HI.o.box HTI.o).mono ?_);rintro e w2 ⟨v,rfl,ho,hB,hg⟩;have HP2:=qa (HI.o.act hB hg);have HO2:=qa (ho.mono HI.o.gr.size);clear ho hB hg)
    |((with_reducible refine(HTK.o _ HP2.o.box).mono ?_);rintro e w3 ⟨rfl,hB,hg⟩;have HP3:=qa (HP2.o.act hB hg);have HO3:=qa (aO.keepG HO2.o hg hgl);clear hB hg)
    |((with_reducible refine(HF.o _ _ HP3.o.box).mono ?_);rintro e w4 ⟨rfl,hB,hg⟩;have HP4:=qa (HP3.o.act hB hg);have HO4:=qa (aO.keepG HO3.o hg hgl);clear hB hg))
   go_ret;rw[HR.o]
   first
    |exact⟨v,rfl,HO4.o,HP4.o.box,HP4.o.gr⟩
    |exact⟨v,rfl,HO3.o,HP3.o.box,HP3.o.gr⟩
 rw[qr h2]at hR;have k2:¬c.toNat=40:=fun e=>h2 (UInt8.toNat_inj.1 e);clear h2 hA;by_cases h3:c=91
 ·rw[qt h3]at hR
  have hcb:((c.toNat:Int)==91)=true:=by rw[h3];rfl
  have HCL:Hid (∀W,dJ W g s (bI z)->iZ W->Calls prog 111 #[.pointer (some ⟨g,0,none⟩),.int .i64 z.p] W (mR (cD (B1 (bys s) z.p (bI z)).1) g s (B1 (bys s) z.p (bI z)).2 W)):=qa (fun W h hT=>qaR h hs hT hzp (by omega));generalize B1 (bys s) z.p (bI z)=L at*;obtain⟨a,z1⟩:=L;have HR:=qa hR;simp only at HR HCL;clear hR h3;go_enter func101,ntmps101
  go_wp2_with(first
   |((with_reducible refine(HX.o _ HP0.o.box).mono ?_);rintro e w1 ⟨rfl,hx⟩;have HP1:=qa (HP0.o.ext hx);have c11:=HP1.o.box.c1;have f11:=HP1.o.box.free 1;have HI:=qa HP1.o.inc;have HTI:=qa (HI.o.tab HT.o hgt);clear hx)
   |((with_reducible refine(HCL.o _ HI.o.box HTI.o).mono ?_);rintro e w2 ⟨rfl,hB,hg⟩;have HP2:=qa (HI.o.act hB hg);clear hB hg)
   |((with_reducible refine(qeR.o _ _).mono ?_);rintro e w5 ⟨v,rfl,ho,hb⟩;have HP5:=qa (HP2.o.below hb);have HO5:=qa (ho.mono (HP2.o.gr.size));clear ho hb))
  go_ret;rw[HR.o];exact⟨v,rfl,HO5.o,HP5.o.box,HP5.o.gr⟩
 rw[qr h3]at hR;have k3:¬c.toNat=91:=fun e=>h3 (UInt8.toNat_inj.1 e);clear h3;by_cases h4:c=46
 ·rw[qt h4]at hR
  have hcb:((c.toNat:Int)==46)=true:=by rw[h4];rfl
  have HSI:Hid (∀W,Calls prog 113 #[.int .u8 10] W (cI (eZ 10) W)):=qa (fun W=>uS 10 W);have HNO:Hid (∀W,Calls prog 112 #[cD (eZ 10)] W (cI (mP (eZ 10)) W)):=qa (fun W=>q9H (mN 10) W);have HR:=qa hR;generalize mP (eZ 10)=no at*;generalize eZ 10=on at*;clear hR h4;go_enter func101,ntmps101
  go_wp2_with(first
   |((with_reducible refine(HX.o _ HP0.o.box).mono ?_);rintro e w1 ⟨rfl,hx⟩;have HP1:=qa (HP0.o.ext hx);have c11:=HP1.o.box.c1;have f11:=HP1.o.box.free 1;have HI:=qa HP1.o.inc;clear hx)
   |((with_reducible refine(HSI.o _).mono ?_);rintro e w2 ⟨rfl,hx⟩;have HP2:=qa (HI.o.ext hx);clear hx)
   |((with_reducible refine(HNO.o _).mono ?_);rintro e w3 ⟨rfl,hx⟩;have HP3:=qa (HP2.o.ext hx);clear hx)
   |((with_reducible refine(qeR.o _ _).mono ?_);rintro e w5 ⟨v,rfl,ho,hb⟩;have HP5:=qa (HP3.o.below hb);have HO5:=qa (ho.mono (HP3.o.gr.size));clear ho hb))
  go_ret;rw[HR.o];exact⟨v,rfl,HO5.o,HP5.o.box,HP5.o.gr⟩
 rw[qr h4]at hR;have k4:¬c.toNat=46:=fun e=>h4 (UInt8.toNat_inj.1 e);have HW:Hid (∀W,Calls prog 110 #[.string ⟨#[92,91,93,40,41,123,125,42,43,63,124,46]⟩,.int .u8 (c.toNat:Nat)] W fun e w'=>e=.returned (.bool (decide (c∈I2)))/\∃x,w'=ext W x):=qa (fun W=>q3v I2 (by decide) c W);clear h4;have e2:((c.toNat:Int)==40)=false:=by simp;omega
 have e3:((c.toNat:Int)==91)=false:=by simp;omega
 have e4:((c.toNat:Int)==46)=false:=by simp;omega
 by_cases h5:c∈I2
 ·rw[qt h5]at hR
  rw[qw h5]at HW;have HR:=qa hR;have HF:Hid (∀W,dJ W g s z->Calls prog 41 #[.pointer (some ⟨g,0,none⟩),.int .i64 15,.int .i64 z.p] W (mR (.tuple #[]) g s (bB 15 z.p z) W)):=qa (fun W h=>uR h 15 z.p);clear hR h5;go_enter func101,ntmps101
  go_wp2_with(first
   |((with_reducible refine(HX.o _ HP0.o.box).mono ?_);rintro e w1 ⟨rfl,hx⟩;have HP1:=qa (HP0.o.ext hx);clear hx)
   |((with_reducible refine(HW.o _).mono ?_);rintro e w2 ⟨rfl,hx⟩;have HP2:=qa (HP1.o.ext hx);clear hx)
   |((with_reducible refine(HF.o _ HP2.o.box).mono ?_);rintro e w3 ⟨rfl,hB,hg⟩;have HP3:=qa (HP2.o.act hB hg);clear hB hg))
  go_ret;rw[HR.o];exact⟨_,rfl,cA.nil 8 w3 w.heap.size 65,HP3.o.box,HP3.o.gr⟩
 rw[qr h5]at hR;rw[qu h5]at HW;have HR:=qa hR;have HSI:Hid (∀W,Calls prog 113 #[.int .u8 (c.toNat:Nat)] W (cI (eZ c) W)):=qa (fun W=>uS c W);generalize eZ c=on at*;clear hR h5;go_enter func101,ntmps101
 go_wp2_with(first
  |((with_reducible refine(HX.o _ HP0.o.box).mono ?_);rintro e w1 ⟨rfl,hx⟩;have HP1:=qa (HP0.o.ext hx);clear hx)
  |((with_reducible refine(HW.o _).mono ?_);rintro e w2 ⟨rfl,hx⟩;have HP2:=qa (HP1.o.ext hx);have c11:=HP2.o.box.c1;have f11:=HP2.o.box.free 1;have HI:=qa HP2.o.inc;clear hx)
  |((with_reducible refine(HSI.o _).mono ?_);rintro e w3 ⟨rfl,hx⟩;have HP3:=qa (HI.o.ext hx);clear hx)
  |((with_reducible refine(qeR.o _ _).mono ?_);rintro e w5 ⟨v,rfl,ho,hb⟩;have HP5:=qa (HP3.o.below hb);have HO5:=qa (ho.mono (HP3.o.gr.size));clear ho hb))
 go_ret;rw[HR.o];exact⟨v,rfl,HO5.o,HP5.o.box,HP5.o.gr⟩
theorem q7l{w:World}{g:Nat}{s:ByteArray}{z:PS}(h:dJ w g s z):Calls prog 85 #[.pointer (some ⟨g,0,none⟩)] w fun e w'=>e=.returned (.bool (inR (bys s) z))/\∃x,w'=ext w x:=by
 have HX:=qa (nxP h);unfold nxV at HX;unfold inR;clear h;cases hn:nxR (bys s) z with
 |none=>
  rw[hn]at HX;clear hn;go_enter func85,ntmps85
  go_wp2_with((with_reducible refine(HX.o).mono ?_);rintro e w1 ⟨rfl,hx⟩;have HB1:=qa hx;clear hx)
  go_ret;exact⟨rfl,HB1.o⟩
 |some c=>
  rw[hn]at HX;simp only[qJ,jV]at HX
  have HR:Hid (∀b1 b2,((c.toNat:Int)==124)=b1->((c.toNat:Int)==41)=b2->(decide (c≠124)&&decide (c≠41))=(!b1&& !b2)):=qa (fun b1 b2 h1 h2=>by
   subst h1;subst h2;rw[jh];simp only[qG,jk,Bool.not_eq_true',beq_eq_false_iff_ne]
   constructor
   ·rintro⟨a,b⟩;exact⟨fun e=>a (UInt8.toNat_inj.1 (by exact_mod_cast e)),fun e=>b (UInt8.toNat_inj.1 (by exact_mod_cast e))⟩
   rintro⟨a,b⟩;exact⟨fun e=>a (by rw[e];rfl),fun e=>b (by rw[e];rfl)⟩)
  obtain⟨r,hr⟩:∃r,r=(decide (c≠124)&&decide (c≠41)):=⟨_,rfl⟩;have HRR:=qa hr
  dsimp only
  rw[<-hr];clear hn hr;cases hb1:((c.toNat:Int)==124)
  ·cases hb2:((c.toNat:Int)==41)
   ·have HE:Hid (r=true):=qa (by rw[HRR.o,HR.o _ _ hb1 hb2];rfl)
    have hb3:((c.toNat:Int) != 124)=true:=by rw[bne,hb1];rfl
    have hb4:((c.toNat:Int) != 41)=true:=by rw[bne,hb2];rfl
    exact ZmM6
   have HE:Hid (r=false):=qa (by rw[HRR.o,HR.o _ _ hb1 hb2];rfl);have hb3:((c.toNat:Int) != 124)=true:=by rw[bne,hb1];rfl
   have hb4:((c.toNat:Int) != 41)=false:=by rw[bne,hb2];rfl
   exact ZmM6
  have HE:Hid (r=false):=qa (by rw[HRR.o,HR.o _ _ hb1 rfl];rfl);have hb3:((c.toNat:Int) != 124)=false:=by rw[bne,hb1];rfl
  exact ZmM6
theorem aO.slice{w:World}{B:Nat}{v:Value}{l:List Nd}(h:aO w B v l):∃oa cap,v=.slice oa l.length cap:=by
 obtain⟨oa,cap,b,off,hv,-,-⟩:=cA.sl h;exact⟨oa,cap,by rw[hv,qy]⟩
theorem nM.c0{w:World}{b:Nat}{x:Nd}(h:nM w b x):w.cell? ⟨b,0,none⟩=some (.int .i64 x.kd):=h.own.cell (by simp[ndC])
theorem nM.setK{w:World}{b:Nat}{x:Nd}(h:nM w b x)(n:Int):nM (w.setCell ⟨b,0,none⟩ (.int .i64 n)) b {x with kd:=n}/\w.grownBy (w.setCell ⟨b,0,none⟩ (.int .i64 n)) (some b):=by
 obtain⟨h1,h2⟩:=h.own.store 0 (.int .i64 n);exact⟨⟨h1⟩,h2⟩
theorem W5{w0 w3:World}{g b:Nat}{s:ByteArray}{y:PS}{v:Value}{l:List Nd}(hP:Prs w0 w3 g s y)(hN:nM w3 b zN)(hO:aO w3 w0.heap.size v l)(k:Int)(hb:w0.heap.size<=b)(hv:v.ownBlock=none\/v.ownBlock≠some b):
  Prs w0 ((w3.setCell ⟨b,0,none⟩ (.int .i64 k)).setCell ⟨g,1,none⟩ (.int .i64 ((y.p:Int)+1))) g s (bI y)/\
  nM ((w3.setCell ⟨b,0,none⟩ (.int .i64 k)).setCell ⟨g,1,none⟩ (.int .i64 ((y.p:Int)+1))) b (kN k)/\
  aO ((w3.setCell ⟨b,0,none⟩ (.int .i64 k)).setCell ⟨g,1,none⟩ (.int .i64 ((y.p:Int)+1))) w0.heap.size v l:=by
 obtain⟨h1,h2⟩:=hN.setK k;have hgl:=hP.gl;have hP2:=hP.far h2 (fun q e=>by injection e with e;omega);have hi:=hP2.box.inc;exact⟨hP2.inc,h1.keep hi.2 (fun e=>by injection e with e;omega),aO.keepG (cA.keep hO h2 hv) hi.2 hgl⟩
theorem qaU{alt:PS->List Nd×PS}{w:World}{g lo:Nat}{s:ByteArray}{z:PS}{c:UInt8}(hA:q7k g s lo alt)(hlo:lo<=z.p)(hst:∀z,z.p<=(bys s).length->Stp (bys s) z (alt z).2)(hlen:∀z,z.p<=(bys s).length->(alt z).1.length+2*z.p<=2*(alt z).2.p+1)
  (h:dJ w g s z) (hs:s.size<=1000000) (hT:iZ w) (hc:nxR (bys s) z=some c):
  Calls prog 86 #[.pointer (some ⟨g,0,none⟩)] w (q1M (vT (bys s) alt z).1 g s (vT (bys s) alt z).2 w):=by
 have hgt:=hT.ne h;have HT:=qa hT;have HP0:Hid (Prs w w g s z):=qa ⟨h,cW _ _,h.lt⟩;have hgl:=h.lt;have HAT:Hid (∀W,dJ W g s z->iZ W->Calls prog 101 #[.pointer (some ⟨g,0,none⟩)] W (q1M (yV (bys s) alt z).1 g s (yV (bys s) alt z).2 W)):=qa (fun W h hT=>qaT hA hlo h hs hT hc);obtain⟨hz0,hzp,-⟩:=dE hc;have qeE:=(q3i hst hc).1.len (by omega);have hsml:=(X7 hlen hc).lt;rw[aP]at hzp qeE;obtain⟨R,hR⟩:∃R,R=vT (bys s) alt z:=⟨_,rfl⟩;rw[<-hR];unfold vT at hR;rw[aP]at hR;have HR:=qa hR.symm;clear h hT hc hz0 hR hst hlen hA hlo;generalize yV (bys s) alt z=A at*;obtain⟨l0,z0⟩:=A;simp only at HR HAT qeE hsml;have hl0:l0.length<=2*s.size:=by rcases hsml with hsml|hsml<;>omega
 clear hsml;have HX:Hid (∀W y,dJ W g s y->Calls prog 40 #[.pointer (some ⟨g,0,none⟩)] W fun e w'=>e=.returned (nxV (nxR (bys s) y))/\∃x,w'=ext W x):=qa (fun W y h=>nxP h);unfold nxV at HX
 have HJ:Hid (∀(x:Nd) W v (l:List Nd) q,W.heap.size=q->aO W w.heap.size v l->l.length<=4000000->Calls prog 84 #[.agg (ndA x),.slice (some ⟨q,0,none⟩) 1 1] (W.alloc (.cells #[v] 31)) (lM (W.alloc (.cells #[v] 31)) (dM x [l]))):=qa (fun x W v l q hq ho hl=>by
  subst hq;have hsl:=dY W #[v] 31 (by simp)
  exact q1L (vs:=[v]) (ks:=[l]) (by simpa using hsl) rfl (fun i hi=>by
   have:i=0:=by simpa using hi
   subst this;exact(aO.at ho).up (aA W _)) (by simpa using(by omega:l.length<=500000000)))
 go_enter func86,ntmps86
 go_wp2_with((with_reducible refine(HAT.o _ HP0.o.box HT.o).mono ?_);rintro e w1 ⟨v0,rfl,ho,hB,hg⟩;have HP1:=qa (HP0.o.act hB hg);have HO1:=qa ho;clear ho hB hg)
 go_loopg [3] (s.size+1) (fun gk lv wr=>∃(f:Nat) (l:List Nd) (y:PS),gk=f/\Prs w wr g s y/\aO wr w.heap.size lv l/\Hid (rT (bys s) f l y=R)/\y.p<=s.size/\l.length<=2*s.size+y.p/\s.size+1<=f+y.p)
 case atStart=>exact⟨s.size+1,l0,z0,rfl,HP1.o,HO1.o,HR,qeE,by omega,by omega⟩
 case round=>
  clear HP0 HP1 HO1 HR qeE hl0 HAT;obtain⟨f0,l,y,hgk,hP,hO,HRL,hyp,hll,hf⟩:=hrel;obtain⟨f,hf0⟩:∃f,f0=f+1:=⟨f0-1,by omega⟩;subst hf0;subst hgk;obtain⟨oa,cap,hv⟩:=aO.slice hO;subst hv;have HP:=qa hP;have HO:=qa hO;clear hO hP;obtain⟨ch,hch⟩:∃ch,ch=(nxR (bys s) y).getD 0:=⟨_,rfl⟩;have HXY:=qa (HX.o · y);rw[<-hch]at HXY
  have qbu:R=if ch=42 then rT (bys s) f (dM (kN 5) [l]) (bI y)else if ch=43 then rT (bys s) f (dM (kN 6) [l]) (bI y)else if ch=63 then rT (bys s) f (dM (kN 7) [l]) (bI y)else if ch=123 then rT (bys s) f (dM (pF (bys s) y).1 [l]) (pF (bys s) y).2 else(l,y):=by
   rw[<-HRL.o,rT,<-hch]
  have HNX:=qa (fun(d:UInt8) (h:ch=d) (hd:d≠0)=>r9 (s:=bys s) (z:=y) (by rw[<-hch];exact h) hd);generalize (nxR (bys s) y).isSome=cs at*;have HN0:Hid (nM (wr.alloc (.cells #[.int .i64 0,.int .i64 0,.int .u64 0,.int .u64 0,.int .u64 0,.int .u64 0,.int .i64 0,.int .i64 0] 65)) wr.heap.size zN):=qa (nE wr zN _ rfl);have HP1:=qa (HP.o.below (aA wr (.cells #[.int .i64 0,.int .i64 0,.int .u64 0,.int .u64 0,.int .u64 0,.int .u64 0,.int .i64 0,.int .i64 0] 65)));have HO1:Hid (aO (wr.alloc (.cells #[.int .i64 0,.int .i64 0,.int .u64 0,.int .u64 0,.int .u64 0,.int .u64 0,.int .i64 0,.int .i64 0] 65)) w.heap.size (.slice oa l.length cap) l):=qa (cA.up HO.o (aA wr _));have hsw:=HP.o.gr.size;have HO0:=HO;clear HRL hch HX HP HO
  have HNE:Hid ((Value.slice oa l.length cap).ownBlock=none\/(Value.slice oa l.length cap).ownBlock≠some wr.heap.size):=qa (by
   cases hq:(Value.slice oa l.length cap).ownBlock with
   |none=>exact .inl rfl
   |some q=>right;intro e;have h1:=qo e;have h2:=(cA.lt HO0.o q hq).2;omega)
  by_cases h42:ch=42
  ·rw[qt h42]at qbu
   obtain⟨hy0,hyl,-⟩:=dE (HNX.o 42 h42 (by decide));rw[aP]at hyl;have hcb:((ch.toNat:Int)==42)=true:=by rw[h42];rfl
   have HRL:=qa qbu.symm;clear qbu hy0 h42 HNX HO0
   go_wp2_with(first
    |(refine hJ rfl _ _ rfl wr.heap.size rfl _ zN rfl HN0.o ?_;intro w2 hB2 hg2;have HN2:=qa hB2;have HP2:=qa (HP1.o.far hg2 (fun q e=>by injection e with e;omega));have HO2:Hid (aO w2 w.heap.size (.slice oa l.length cap) l):=qa (cA.keep HO1.o hg2 HNE.o);clear hB2 hg2)
    |((with_reducible refine(HXY.o _ HP2.o.box).mono ?_);rintro e w3 ⟨rfl,hx⟩;have HP3:=qa (HP2.o.ext hx);have HN3:=qa (HN2.o.up (aB hx));have HO3:Hid (aO w3 w.heap.size (.slice oa l.length cap) l):=qa (cA.up HO2.o (aB hx));have c1:=HP3.o.box.c1;have f1:=HP3.o.box.free 1;have n0:=HN3.o.c0;have nf0:=HN3.o.free 0;have hl3:=HN3.o.lt;have qdk:=HP3.o.box.lt;have HQ:=qa (W5 HP3.o HN3.o HO3.o 5 (by omega) HNE.o);clear hx)
    |(refine oL rfl _ rfl wr.heap.size rfl (kN 5) HQ.o.2.1 ?_)
    |((with_reducible refine(HJ.o _ _ _ _ _ (by simp) HQ.o.2.2 (by omega)).mono ?_);rintro e w6 ⟨v6,rfl,ho,hb⟩;have hba:=aA ((w3.setCell ⟨wr.heap.size,0,none⟩ (.int .i64 5)).setCell ⟨g,1,none⟩ (.int .i64 ((y.p:Int)+1))) (.cells #[.slice oa l.length cap] 31);have HP6:=qa ((HQ.o.1.below hba).below hb);have HO6:Hid (aO w6 w.heap.size v6 (dM (kN 5) [l])):=qa (cA.mono ho (qc HQ.o.1.gr.size hba.size));clear ho hb hba))
   go_roundg f
   case measure=>omega
   case rel=>exact⟨f,dM (kN 5) [l],bI y,rfl,HP6.o,HO6.o,HRL,hyl,by rw[pH];show iJ [l]+1<=2*s.size+(y.p+1);simp only[iJ,jF];omega,by show s.size+1<=f+(y.p+1);omega⟩
  rw[qr h42]at qbu;have k42:¬ch.toNat=42:=fun e=>h42 (UInt8.toNat_inj.1 e);clear h42;by_cases h43:ch=43
  ·rw[qt h43]at qbu
   obtain⟨hy0,hyl,-⟩:=dE (HNX.o 43 h43 (by decide));rw[aP]at hyl;have hcb:((ch.toNat:Int)==43)=true:=by rw[h43];rfl
   have HRL:=qa qbu.symm;clear qbu hy0 h43 HNX HO0
   go_wp2_with(first
    |(refine hJ rfl _ _ rfl wr.heap.size rfl _ zN rfl HN0.o ?_;intro w2 hB2 hg2;have HN2:=qa hB2;have HP2:=qa (HP1.o.far hg2 (fun q e=>by injection e with e;omega));have HO2:Hid (aO w2 w.heap.size (.slice oa l.length cap) l):=qa (cA.keep HO1.o hg2 HNE.o);clear hB2 hg2)
    |((with_reducible refine(HXY.o _ HP2.o.box).mono ?_);rintro e w3 ⟨rfl,hx⟩;have HP3:=qa (HP2.o.ext hx);have HN3:=qa (HN2.o.up (aB hx));have HO3:Hid (aO w3 w.heap.size (.slice oa l.length cap) l):=qa (cA.up HO2.o (aB hx));have c1:=HP3.o.box.c1;have f1:=HP3.o.box.free 1;have n0:=HN3.o.c0;have nf0:=HN3.o.free 0;have hl3:=HN3.o.lt;have qdk:=HP3.o.box.lt;have HQ:=qa (W5 HP3.o HN3.o HO3.o 6 (by omega) HNE.o);clear hx)
    |(refine oL rfl _ rfl wr.heap.size rfl (kN 6) HQ.o.2.1 ?_)
    |((with_reducible refine(HJ.o _ _ _ _ _ (by simp) HQ.o.2.2 (by omega)).mono ?_);rintro e w6 ⟨v6,rfl,ho,hb⟩;have hba:=aA ((w3.setCell ⟨wr.heap.size,0,none⟩ (.int .i64 6)).setCell ⟨g,1,none⟩ (.int .i64 ((y.p:Int)+1))) (.cells #[.slice oa l.length cap] 31);have HP6:=qa ((HQ.o.1.below hba).below hb);have HO6:Hid (aO w6 w.heap.size v6 (dM (kN 6) [l])):=qa (cA.mono ho (qc HQ.o.1.gr.size hba.size));clear ho hb hba))
   go_roundg f
   case measure=>omega
   case rel=>exact⟨f,dM (kN 6) [l],bI y,rfl,HP6.o,HO6.o,HRL,hyl,by rw[pH];show iJ [l]+1<=2*s.size+(y.p+1);simp only[iJ,jF];omega,by show s.size+1<=f+(y.p+1);omega⟩
  rw[qr h43]at qbu;have k43:¬ch.toNat=43:=fun e=>h43 (UInt8.toNat_inj.1 e);clear h43;by_cases h63:ch=63
  ·rw[qt h63]at qbu
   obtain⟨hy0,hyl,-⟩:=dE (HNX.o 63 h63 (by decide));rw[aP]at hyl;have hcb:((ch.toNat:Int)==63)=true:=by rw[h63];rfl
   have HRL:=qa qbu.symm;clear qbu hy0 h63 HNX HO0
   go_wp2_with(first
    |(refine hJ rfl _ _ rfl wr.heap.size rfl _ zN rfl HN0.o ?_;intro w2 hB2 hg2;have HN2:=qa hB2;have HP2:=qa (HP1.o.far hg2 (fun q e=>by injection e with e;omega));have HO2:Hid (aO w2 w.heap.size (.slice oa l.length cap) l):=qa (cA.keep HO1.o hg2 HNE.o);clear hB2 hg2)
    |((with_reducible refine(HXY.o _ HP2.o.box).mono ?_);rintro e w3 ⟨rfl,hx⟩;have HP3:=qa (HP2.o.ext hx);have HN3:=qa (HN2.o.up (aB hx));have HO3:Hid (aO w3 w.heap.size (.slice oa l.length cap) l):=qa (cA.up HO2.o (aB hx));have c1:=HP3.o.box.c1;have f1:=HP3.o.box.free 1;have n0:=HN3.o.c0;have nf0:=HN3.o.free 0;have hl3:=HN3.o.lt;have qdk:=HP3.o.box.lt;have HQ:=qa (W5 HP3.o HN3.o HO3.o 7 (by omega) HNE.o);clear hx)
    |(refine oL rfl _ rfl wr.heap.size rfl (kN 7) HQ.o.2.1 ?_)
    |((with_reducible refine(HJ.o _ _ _ _ _ (by simp) HQ.o.2.2 (by omega)).mono ?_);rintro e w6 ⟨v6,rfl,ho,hb⟩;have hba:=aA ((w3.setCell ⟨wr.heap.size,0,none⟩ (.int .i64 7)).setCell ⟨g,1,none⟩ (.int .i64 ((y.p:Int)+1))) (.cells #[.slice oa l.length cap] 31);have HP6:=qa ((HQ.o.1.below hba).below hb);have HO6:Hid (aO w6 w.heap.size v6 (dM (kN 7) [l])):=qa (cA.mono ho (qc HQ.o.1.gr.size hba.size));clear ho hb hba))
   go_roundg f
   case measure=>omega
   case rel=>exact⟨f,dM (kN 7) [l],bI y,rfl,HP6.o,HO6.o,HRL,hyl,by rw[pH];show iJ [l]+1<=2*s.size+(y.p+1);simp only[iJ,jF];omega,by show s.size+1<=f+(y.p+1);omega⟩
  rw[qr h63]at qbu;have k63:¬ch.toNat=63:=fun e=>h63 (UInt8.toNat_inj.1 e);clear h63;by_cases qby:ch=123
  ·rw[qt qby]at qbu
   have hnx:=HNX.o 123 qby (by decide);have htl:=q3g hnx;have hts:=(X4 hnx).len (by rw[aP];omega);rw[aP]at hts;have HTM:Hid (∀W,dJ W g s y->Calls prog 102 #[.pointer (some ⟨g,0,none⟩)] W (mR (.agg (ndA (pF (bys s) y).1)) g s (pF (bys s) y).2 W)):=qa (fun W h=>qaP h hs hnx);have hcb:((ch.toNat:Int)==123)=true:=by rw[qby];rfl
   have HRL:=qa qbu.symm;clear qbu qby HNX HO0 hnx;generalize pF (bys s) y=T at*;obtain⟨tn,tz⟩:=T;simp only at HTM HRL htl hts
   go_wp2_with(first
    |(refine hJ rfl _ _ rfl wr.heap.size rfl _ zN rfl HN0.o ?_;intro w2 hB2 hg2;have HN2:=qa hB2;have HP2:=qa (HP1.o.far hg2 (fun q e=>by injection e with e;omega));have HO2:Hid (aO w2 w.heap.size (.slice oa l.length cap) l):=qa (cA.keep HO1.o hg2 HNE.o);clear hB2 hg2)
    |((with_reducible refine(HXY.o _ HP2.o.box).mono ?_);rintro e w3 ⟨rfl,hx⟩;have HP3:=qa (HP2.o.ext hx);have HN3:=qa (HN2.o.up (aB hx));have HO3:Hid (aO w3 w.heap.size (.slice oa l.length cap) l):=qa (cA.up HO2.o (aB hx));have c1:=HP3.o.box.c1;have f1:=HP3.o.box.free 1;have n0:=HN3.o.c0;have nf0:=HN3.o.free 0;have hl3:=HN3.o.lt;have qdk:=HP3.o.box.lt;clear hx)
    |((with_reducible refine(HTM.o _ HP3.o.box).mono ?_);rintro e w4 ⟨rfl,hB,hg⟩;have HP4:=qa (HP3.o.act hB hg);have HN4:=qa (HN3.o.keep hg (fun e=>by injection e with e;omega));have HO4:Hid (aO w4 w.heap.size (.slice oa l.length cap) l):=qa (aO.keepG HO3.o hg hgl);clear hB hg)
    |(refine hJ rfl _ _ rfl wr.heap.size rfl _ tn rfl HN4.o ?_;intro w5 hB2 hg2;have HN5:=qa hB2;have HP5:=qa (HP4.o.far hg2 (fun q e=>by injection e with e;omega));have HO5:Hid (aO w5 w.heap.size (.slice oa l.length cap) l):=qa (cA.keep HO4.o hg2 HNE.o);clear hB2 hg2)
    |(refine oL rfl _ rfl wr.heap.size rfl tn HN5.o ?_)
    |((with_reducible refine(HJ.o _ _ _ _ _ rfl HO5.o (by omega)).mono ?_);rintro e w6 ⟨v6,rfl,ho,hb⟩;have hba:=aA w5 (.cells #[.slice oa l.length cap] 31);have HP6:=qa ((HP5.o.below hba).below hb);have HO6:Hid (aO w6 w.heap.size v6 (dM tn [l])):=qa (cA.mono ho (qc HP5.o.gr.size hba.size));clear ho hb hba))
   go_roundg f
   case measure=>omega
   case rel=>exact⟨f,dM tn [l],tz,rfl,HP6.o,HO6.o,HRL,hts,by rw[pH];simp only[iJ,jF];omega,by omega⟩
  rw[qr qby]at qbu;have k123:¬ch.toNat=123:=fun e=>qby (UInt8.toNat_inj.1 e);have HRR:=qa qbu;clear qbu qby HNX HO0
  go_wp2_with(first
   |(refine hJ rfl _ _ rfl wr.heap.size rfl _ zN rfl HN0.o ?_;intro w2 hB2 hg2;have HN2:=qa hB2;have HP2:=qa (HP1.o.far hg2 (fun q e=>by injection e with e;omega));have HO2:Hid (aO w2 w.heap.size (.slice oa l.length cap) l):=qa (cA.keep HO1.o hg2 HNE.o);clear hB2 hg2)
   |((with_reducible refine(HXY.o _ HP2.o.box).mono ?_);rintro e w3 ⟨rfl,hx⟩;have HP3:=qa (HP2.o.ext hx);have HN3:=qa (HN2.o.up (aB hx));have HO3:Hid (aO w3 w.heap.size (.slice oa l.length cap) l):=qa (cA.up HO2.o (aB hx));have c1:=HP3.o.box.c1;have f1:=HP3.o.box.free 1;have n0:=HN3.o.c0;have nf0:=HN3.o.free 0;have hl3:=HN3.o.lt;have qdk:=HP3.o.box.lt;clear hx))
  go_ret;rw[HRR.o];exact⟨_,rfl,HO3.o,HP3.o.box,HP3.o.gr⟩
end Go.Cm
