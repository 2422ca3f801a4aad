/- Walks of functions and plain facts, joined and squeezed by a program. Conditions: as each says. -/
import Derived.Test.YtdffpnabpoogbaaGreatDoorCTXR
import Derived.Test.YtdffpnabpoogbaaGreatDoorCTXS
set_option maxHeartbeats 8000000
set_option maxRecDepth 100000
set_option linter.unusedSimpArgs false
open Go.Proofs.Tryz
namespace Go.Cm
open Go.RowKit Go.Proofs
theorem ZmV0{P:Prop}(h:P:=by
 repeat(go_big_quiet_step ((go_at_call 87;first|(with_reducible exact bY (qbp.o _ (HP.o.box.up (aD _ _))))|(with_reducible exact bY (qbH.o _ (HP.o.box.up (aD _ _)))))))
 refine wpQuiet_nil ?_;intro w1 hw1;have HP1:=qa (HP.o.ext hw1);have HO1:=qa (HO.o.up (aB hw1));have HR1:Hid (d5 w1 w.heap.size vs ls):=qa (HRW.o.all (fun v l h=>cA.up h (aB hw1)));clear hw1 c0 c1 c2 hgw;have HAL:Hid (Al s.size z (m5 3 L.1,L.2) (m5 3 ls) y):=qa (Al.same (by rw[HLX.o]) hyl hyp);have HBD:=qa (T5 3 ls z.p y.p (by omega) hyl);have HSL:Hid (iJ ls<=4000000):=qa (by omega);clear HLX;by_cases hne:ls=[]
 ·subst hne
  have HNN:=qa (HNW.o w1 HP1.o.gr.size);have HP7:=qa (HP1.o.below (aA w1 (.cells #[.int .i64 2,.int .i64 0,.int .u64 0,.int .u64 0,.int .u64 0,.int .u64 0,.int .i64 0,.int .i64 0] 65)));go_wp2;go_ret;exact⟨_,_,y,rfl,HNN.o,HP7.o,HAL.o,HBD.o⟩
 have hn0:¬ls.length=0:=fun e=>hne (List.length_eq_zero_iff.1 e);have qfm:((ls.length:Int)==0)=false:=by simpa using hn0
 have HMY:=qa (fun W h1 h2 h3=>HM.o W (.slice oa ls.length cap) vs ls h1 h2 h3 hne HSL.o)
 go_wp2_with(first
  |((with_reducible refine(HMY.o _ HP1.o.gr.size HO1.o HR1.o).mono ?_);rintro e w7 ⟨v7,rfl,ho,hb⟩;have HN7:=qa ho;have HP7:=qa (HP1.o.below hb);clear ho hb))
 go_ret;exact⟨v7,_,y,rfl,HN7.o,HP7.o,HAL.o,HBD.o⟩):P:=h
theorem ZmV1{P:Prop}(h:P:=by
 go_wp2_with(first
  |((with_reducible refine(HTY.o _ HP.o.box).mono ?_);rintro e w1 ⟨rfl,hB,hg⟩;have HP1:=qa (HP.o.act hB hg);have HO1:=qa (HO.o.keep hg (q6i hgl HO.o));have HR1:Hid (d5 w1 w.heap.size vs ls):=qa (HRW.o.all (fun v l h=>aO.keepG h hg hgl));clear hB hg)
  |((with_reducible refine(HMY.o _ HP1.o.gr.size HO1.o HR1.o).mono ?_);rintro e w7 ⟨v7,rfl,ho,hb⟩;have HN7:=qa ho;have HP7:=qa (HP1.o.below hb);clear ho hb))
 go_ret;exact⟨v7,_,y,rfl,HN7.o,HP7.o,HAL.o,HBD.o⟩):P:=h
theorem ZmV2{P:Prop}(h:P:=by
 go_roundg (f0+1)
 case measure=>omega
 case rel=>exact⟨f0,_,bI y,rfl,HN7.o,HP7.o,hlt,by show z.p<=y.p+1;omega,qa (.inl ⟨h0,HRL.o,by show s.size+1<=f0+(y.p+1);omega,by show _<=2*(y.p+1);rw[hnk];omega⟩)⟩):P:=h
def q6y(r:List Nd×PS)(g:Nat)(s:ByteArray)(z:PS)(w:World)(e:Ending)(w':World):Prop:=
 ∃v l z',e=.returned v/\aO w' w.heap.size v l/\Qs w w' g s z'/\Al s.size z r l z'/\l.length+2*z.p<=2*z'.p+1
def q9s(g:Nat)(s:ByteArray)(lo:Nat)(alt:PS->List Nd×PS):Prop:=∀W z,dX W g s z->z.e=0->lo<z.p->z.p<=s.size->Calls prog 42 #[.pointer (some ⟨g,0,none⟩)] W (q6y (alt z) g s z W)
theorem lU{s:cX}{c:UInt8}{z:PS}(h:kB s c z=true):b7 s c z=(true,bI z):=by rw[iG,qt h]
theorem oQ{s:cX}{c:UInt8}{z:PS}(h:kB s c z=false):b7 s c z=(false,z):=by rw[iG,h];rfl
theorem qak{s:cX}{d:UInt8}{z:PS}(h:nxR s z=some d)(c:UInt8):kB s c z=decide (d=c):=by unfold kB;rw[h];simp
theorem Al.good{α:Type}{n:Nat}{z:PS}{r:α×PS}{x:α}{z':PS}(h:Al n z r x z')(h0:z'.e=0):z'=r.2/\x=r.1/\r.2.e=0:=by
 by_cases he:r.2.e=0
 ·exact⟨(h.ok he).1,(h.ok he).2,he⟩
 exact absurd h0 (h.bad he)
theorem Al.worse{α:Type}{n:Nat}{z:PS}{r:α×PS}{x:α}{z':PS}(h:Al n z r x z')(h0:z'.e≠0):r.2.e≠0:=fun he=>h0 (by rw[(h.ok he).1];exact he)
theorem qal(s:ByteArray)(a:Nat)(h:a<s.size)(W:World):Calls prog 119 #[.string (s.extract a (a+1))] W (cI (eZ ((bys s).getD a 0)) W):=by rw[q4h s a h];exact q9M _ W
theorem qbc{alt:PS->List Nd×PS}{w:World}{g lo:Nat}{s:ByteArray}{z:PS}{c:UInt8}(hA:q9s g s lo alt)(hlo:lo<=z.p)(h:dX w g s z)(hs:s.size<=1000000)(hc:nxR (bys s) z=some c):
  Calls prog 103 #[.pointer (some ⟨g,0,none⟩)] w (q6y (yV (bys s) alt z) g s z w):=by
 have hz:=gZ;obtain⟨Z,hZ⟩:∃Z,Z=z4:=⟨_,rfl⟩;rw[<-hZ]at hz;have HNW:Hid (∀W:World,eX (W.alloc (.cells Z 63)) W.heap.size 0):=qa (fun W=>cL W Z hZ);obtain⟨hz0,hzp,hcc⟩:=dE hc;rw[aP]at hzp;have HP0:=qa (Qs.start h);have c1:=h.c1;have hgl:=h.lt;have HA:Hid (∀W,dX W g s (bI z)->Calls prog 42 #[.pointer (some ⟨g,0,none⟩)] W (q6y (alt (bI z)) g s (bI z) W)):=qa (fun W h=>hA W (bI z) h hz0 (Nat.lt_succ_of_le hlo) hzp);have qd8:Hid (∀W,dX W g s z->Calls prog 67 #[.pointer (some ⟨g,0,none⟩),.int .u8 40] W (pM (.bool (b7 (bys s) 40 z).1) g s (b7 (bys s) 40 z).2 W)):=qa (fun W h=>uW h hs 40);have qdn:Hid (∀W,dX W g s z->Calls prog 67 #[.pointer (some ⟨g,0,none⟩),.int .u8 91] W (pM (.bool (b7 (bys s) 91 z).1) g s (b7 (bys s) 91 z).2 W)):=qa (fun W h=>uW h hs 91);have qeh:Hid (∀W,dX W g s z->Calls prog 67 #[.pointer (some ⟨g,0,none⟩),.int .u8 46] W (pM (.bool (b7 (bys s) 46 z).1) g s (b7 (bys s) 46 z).2 W)):=qa (fun W h=>uW h hs 46);have qjH:Hid (∀W y,dX W g s y->Calls prog 67 #[.pointer (some ⟨g,0,none⟩),.int .u8 41] W (pM (.bool (b7 (bys s) 41 y).1) g s (b7 (bys s) 41 y).2 W)):=qa (fun W y h=>uW h hs 41);have qcC:Hid (∀W,dX W g s z->Calls prog 87 #[.pointer (some ⟨g,0,none⟩),.int .u8 92] W fun e w'=>e=.returned (.bool (kB (bys s) 92 z))/\∃x,w'=ext W x):=qa (fun W h=>isQ h 92);have qbP:Hid (∀W x,dX W g s x->Calls prog 43 #[.pointer (some ⟨g,0,none⟩),.int .i64 16,.int .i64 z.p] W (pM (.tuple #[]) g s (bB 16 z.p x) W)):=qa (fun W x h=>K2 h 16 z.p);have qge:Hid (∀W x,dX W g s x->Calls prog 43 #[.pointer (some ⟨g,0,none⟩),.int .i64 15,.int .i64 z.p] W (pM (.tuple #[]) g s (bB 15 z.p x) W)):=qa (fun W x h=>K2 h 15 z.p);have HES:Hid (∀W,dX W g s z->Calls prog 120 #[.pointer (some ⟨g,0,none⟩)] W (q9p (pG (bys s) z) g s z W)):=qa (fun W h=>qaG h hs hc);have HCL:Hid (∀W,dX W g s (bI z)->Calls prog 117 #[.pointer (some ⟨g,0,none⟩),.int .i64 z.p] W (qaH (B1 (bys s) z.p (bI z)) g s (bI z) W)):=qa (fun W h=>qbb h hs hz0 hzp);have HON:Hid (∀(x:Nat) W,Calls prog 116 #[cD x] W (lM W [setN x])):=qa (fun x W=>qba x W);have qeo:Hid (∀W,Calls prog 119 #[.string ⟨#[10]⟩] W (cI (eZ 10) W)):=qa (fun W=>q9M 10 W);have qcB:Hid (∀W,Calls prog 118 #[cD (eZ 10)] W (cI (mP (eZ 10)) W)):=qa (fun W=>qaE (mN 10) W);have HOC:=qa (fun W=>qal s z.p hzp W);have HSP:=qa (fun W=>q5R c W);have hix:=fun W=>e6 (P:=prog) 9 underlying9 hzp W;rw[hcc]at hix HOC;obtain⟨R,hR⟩:∃R,R=yV (bys s) alt z:=⟨_,rfl⟩;rw[<-hR];unfold yV at hR;rw[hc]at hR;simp only[qJ]at hR;have hi:=fun d=>qak hc d;clear h hZ hA hcc;go_enter func103,ntmps103;by_cases h40:c=40
 ·rw[lU (by rw[hi,h40];rfl)]at qd8
  have hR2:R=((alt (bI z)).1,if(b7 (bys s) 41 (alt (bI z)).2).1 then(b7 (bys s) 41 (alt (bI z)).2).2 else bB 16 z.p (b7 (bys s) 41 (alt (bI z)).2).2):=by rw[hR,h40];rfl
  clear hR hi HSP hix HOC h40
  go_upto_region 4 with(first
   |((with_reducible refine(qd8.o _ HP0.o.box).mono ?_);rintro e w1 ⟨rfl,hB,hg⟩;have HP1:=qa (HP0.o.act hB hg);clear hB hg)
   |((with_reducible refine(HA.o _ HP1.o.box).mono ?_);rintro e w2 ⟨v,l,z1,rfl,ho,hQ,hAl,hlen⟩;have HN2:Hid (aO w2 w.heap.size v l):=qa (cA.mono ho HP1.o.gr.size);have HP2:=qa (HP1.o.act hQ.box hQ.gr);have HAL:=qa hAl;have HLE:=qa hlen;have c22:=HP2.o.box.c2;clear ho hQ hAl hlen))
  have h1l:=HAL.o.le;have h1p:=HAL.o.top;have h1n:=HLE.o;have hap:(bI z).p=z.p+1:=rfl;rw[hap]at h1l h1n;clear hap;by_cases hz1:z1.e=0
  ·obtain⟨e1,e2,-⟩:=HAL.o.good hz1
   rw[<-e1,<-e2]at hR2;have he':((z1.e:Int)==0)=true:=by rw[hz1];rfl
   have HTZ:=qa (fun W h=>qjH.o W z1 h);clear e1 e2;cases h41:kB (bys s) 41 z1 with
   |true=>
    rw[lU h41]at HTZ hR2;have HR:Hid (R=(l,bI z1)):=qa hR2;have hlt:=(lZ h41).2.1;rw[aP]at hlt;clear hR2 h41
    go_wp2_with((with_reducible refine(HTZ.o _ HP2.o.box).mono ?_);rintro e w3 ⟨rfl,hB,hg⟩;have HP3:=qa (HP2.o.act hB hg);have HN3:=qa (aO.keepG HN2.o hg hgl);clear hB hg)
    go_ret;exact⟨v,l,_,rfl,HN3.o,HP3.o,Al.same HR.o (by show z.p<=z1.p+1;omega) hlt,by show l.length+2*z.p<=2*(z1.p+1)+1;omega⟩
   |false=>
    rw[oQ h41]at HTZ hR2;have HR:Hid (R=(l,bB 16 z.p z1)):=qa hR2;clear hR2 h41
    go_wp2_with(first
     |((with_reducible refine(HTZ.o _ HP2.o.box).mono ?_);rintro e w3 ⟨rfl,hB,hg⟩;have HP3:=qa (HP2.o.act hB hg);have HN3:=qa (aO.keepG HN2.o hg hgl);clear hB hg)
     |((with_reducible refine(qbP.o _ _ HP3.o.box).mono ?_);rintro e w4 ⟨rfl,hB,hg⟩;have HP4:=qa (HP3.o.act hB hg);have HN4:=qa (aO.keepG HN3.o hg hgl);clear hB hg))
    go_ret;exact⟨v,l,_,rfl,HN4.o,HP4.o,Al.same HR.o (by rw[eC];omega) (by rw[eC];omega),by rw[eC];omega⟩
  have hw:=HAL.o.worse hz1;have he':((z1.e:Int)==0)=false:=by simpa using hz1
  have HR:Hid (R.2.e≠0):=qa (by rw[hR2,nC hw];simp only[qP,jp];rw[uK hw];exact hw);clear hR2 hw;go_wp2;go_ret;exact⟨v,l,z1,rfl,HN2.o,HP2.o,Al.fault _ HR.o hz1 (by omega) h1p,by omega⟩
 rw[oQ (by rw[hi];simpa using h40)]at qd8;have k40:¬c.toNat=40:=fun e=>h40 (UInt8.toNat_inj.1 e);by_cases h91:c=91
 ·rw[lU (by rw[hi,h91];rfl)]at qdn
  have HR:Hid (R=([setN (B1 (bys s) z.p (bI z)).1],(B1 (bys s) z.p (bI z)).2)):=qa (by rw[hR,h91];rfl);clear hR hi HSP hix HOC h91 h40 HA
  go_wp2_with(first
   |((with_reducible refine(qd8.o _ HP0.o.box).mono ?_);rintro e w1 ⟨rfl,hB,hg⟩;have HP1:=qa (HP0.o.act hB hg);clear hB hg)
   |((with_reducible refine(qdn.o _ HP1.o.box).mono ?_);rintro e w2 ⟨rfl,hB,hg⟩;have HP2:=qa (HP1.o.act hB hg);clear hB hg)
   |((with_reducible refine(HCL.o _ HP2.o.box).mono ?_);rintro e w3 ⟨x,z1,rfl,hxl,hQ,hAl⟩;have HP3:=qa (HP2.o.act hQ.box hQ.gr);have HAL:=qa hAl;clear hxl hQ hAl)
   |((with_reducible refine(HON.o _ _).mono ?_);rintro e w4 ⟨v,rfl,ho,hb⟩;have HN4:Hid (aO w4 w.heap.size v [setN x]):=qa (cA.mono ho HP3.o.gr.size);have HP4:=qa (HP3.o.below hb);clear ho hb))
  go_ret;refine⟨v,_,z1,rfl,HN4.o,HP4.o,⟨fun e=>?_,fun e=>HAL.o.bad (by rw[HR.o]at e;exact e),?_,HAL.o.top⟩,?_⟩
  ·rw[HR.o]at e⊢
   obtain⟨q1,q2⟩:=HAL.o.ok e;exact⟨q1,by rw[q2]⟩
  ·have:=HAL.o.le
   exact qc (ja _) this
  have:z.p+1<=z1.p:=HAL.o.le;show 1+2*z.p<=_;omega
 rw[oQ (by rw[hi];simpa using h91)]at qdn;by_cases h46:c=46
 ·rw[lU (by rw[hi,h46];rfl)]at qeh
  have HR:Hid (R=([setN (mP (eZ 10))],bI z)):=qa (by rw[hR,h46];rfl);clear hR hi HSP hix HOC h91 h40 h46 HA;generalize mP (eZ 10)=xn at*;generalize eZ 10=xo at*
  go_wp2_with(first
   |((with_reducible refine(qd8.o _ HP0.o.box).mono ?_);rintro e w1 ⟨rfl,hB,hg⟩;have HP1:=qa (HP0.o.act hB hg);clear hB hg)
   |((with_reducible refine(qdn.o _ HP1.o.box).mono ?_);rintro e w2 ⟨rfl,hB,hg⟩;have HP2:=qa (HP1.o.act hB hg);clear hB hg)
   |((with_reducible refine(qeh.o _ HP2.o.box).mono ?_);rintro e w3 ⟨rfl,hB,hg⟩;have HP3:=qa (HP2.o.act hB hg);clear hB hg)
   |((with_reducible refine(qeo.o _).mono ?_);rintro e w4 ⟨rfl,hx⟩;have HP4:=qa (HP3.o.ext hx);clear hx)
   |((with_reducible refine(qcB.o _).mono ?_);rintro e w5 ⟨rfl,hx⟩;have HP5:=qa (HP4.o.ext hx);clear hx)
   |((with_reducible refine(HON.o _ _).mono ?_);rintro e w6 ⟨v,rfl,ho,hb⟩;have HN6:Hid (aO w6 w.heap.size v [setN xn]):=qa (cA.mono ho HP5.o.gr.size);have HP6:=qa (HP5.o.below hb);clear ho hb))
  go_ret;exact⟨v,_,_,rfl,HN6.o,HP6.o,Al.same HR.o (by show z.p<=z.p+1;omega) (by show z.p+1<=s.size;omega),by show 1+2*z.p<=2*(z.p+1)+1;omega⟩
 rw[oQ (by rw[hi];simpa using h46)]at qeh;by_cases h92:c=92
 ·rw[hi,qw h92]at qcC
  have HR:Hid (R=([setN (pG (bys s) z).1.1],(pG (bys s) z).2)):=qa (by rw[hR,h92];rfl);clear hR hi HSP hix HOC h91 h40 h46 HA h92
  go_wp2_with(first
   |((with_reducible refine(qd8.o _ HP0.o.box).mono ?_);rintro e w1 ⟨rfl,hB,hg⟩;have HP1:=qa (HP0.o.act hB hg);clear hB hg)
   |((with_reducible refine(qdn.o _ HP1.o.box).mono ?_);rintro e w2 ⟨rfl,hB,hg⟩;have HP2:=qa (HP1.o.act hB hg);clear hB hg)
   |((with_reducible refine(qeh.o _ HP2.o.box).mono ?_);rintro e w3 ⟨rfl,hB,hg⟩;have HP3:=qa (HP2.o.act hB hg);clear hB hg)
   |((with_reducible refine(qcC.o _ HP3.o.box).mono ?_);rintro e w4 ⟨rfl,hx⟩;have HP4:=qa (HP3.o.ext hx);clear hx)
   |((with_reducible refine(HES.o _ HP4.o.box).mono ?_);rintro e w5 ⟨x,b,z1,rfl,hxl,hQ,hAl⟩;have HP5:=qa (HP4.o.act hQ.box hQ.gr);have HAL:=qa hAl;have HN5:=qa (HNW.o w5);have hba:=aA w5 (.cells Z 63);have qjP:=qa (HP5.o.below hba);clear hxl hQ hAl hba)
   |(refine aF rfl _ _ rfl w5.heap.size rfl _ _ rfl HN5.o ?_;intro w6 hB2 hg2;have HX6:=qa hB2;have HP6:=qa (qjP.o.far hg2 (fun k e=>by injection e with e;have:=HP5.o.gr.size;omega));clear hB2 hg2)
   |(refine aQ rfl _ rfl w5.heap.size rfl _ HX6.o ?_)
   |((with_reducible refine(HON.o _ _).mono ?_);rintro e w7 ⟨v,rfl,ho,hb⟩;have HN7:Hid (aO w7 w.heap.size v [setN x]):=qa (cA.mono ho HP6.o.gr.size);have HP7:=qa (HP6.o.below hb);clear ho hb))
  go_ret;refine⟨v,_,z1,rfl,HN7.o,HP7.o,⟨fun e=>?_,fun e=>HAL.o.bad (by rw[HR.o]at e;exact e),HAL.o.le,HAL.o.top⟩,?_⟩
  ·rw[HR.o]at e⊢
   obtain⟨q1,q2⟩:=HAL.o.ok e;exact⟨q1,by rw[show x=_ from qW Prod.fst q2]⟩
  have:=HAL.o.le;show 1+2*z.p<=_;omega
 rw[hi,qu h92]at qcC;have hR3:R=if c∈I2 then([],bB 15 z.p z)else([setN (eZ c)],bI z):=by rw[hR,qr h92,qr h40,qr h91,qr h46]
 have HR3:=qa hR3;clear hR hR3 hi h92 h40 h91 h46 HA HES HCL
 go_upto_region 14 with(first
  |((with_reducible refine(qd8.o _ HP0.o.box).mono ?_);rintro e w1 ⟨rfl,hB,hg⟩;have HP1:=qa (HP0.o.act hB hg);clear hB hg)
  |((with_reducible refine(qdn.o _ HP1.o.box).mono ?_);rintro e w2 ⟨rfl,hB,hg⟩;have HP2:=qa (HP1.o.act hB hg);clear hB hg)
  |((with_reducible refine(qeh.o _ HP2.o.box).mono ?_);rintro e w3 ⟨rfl,hB,hg⟩;have HP3:=qa (HP2.o.act hB hg);clear hB hg)
  |((with_reducible refine(qcC.o _ HP3.o.box).mono ?_);rintro e w4 ⟨rfl,hx⟩;have HP4:=qa (HP3.o.ext hx);clear hx))
 have c04:=HP4.o.box.c0;have c14:=HP4.o.box.c1;have hg4:=HP4.o.box.lt;refine bO (by kernel_rfl) (by kernel_rfl) ?_
 repeat(go_big_quiet_step ((go_at_call 121;(with_reducible exact bY (HSP.o _)))))
 refine wpQuiet_nil ?_;intro w5 hw5;have HP5:=qa (HP4.o.ext hw5);have c05:=HP5.o.box.c0;have c15:=HP5.o.box.c1;have f15:=HP5.o.box.free 1;clear hw5 c04 c14 hg4;by_cases hm:c∈I2
 ·have HR:Hid (R=([],bB 15 z.p z)):=qa (by rw[HR3.o,qt hm])
  rw[qw hm];clear HR3 hm hix HOC
  go_wp2_with((with_reducible refine(qge.o _ _ HP5.o.box).mono ?_);rintro e w6 ⟨rfl,hB,hg⟩;have HP6:=qa (HP5.o.act hB hg);clear hB hg)
  go_ret;exact⟨_,[],_,rfl,cA.nil 8 w6 w.heap.size 65,HP6.o,Al.same HR.o (by rw[eC];omega) (by rw[eC];omega),by rw[eC];show 0+2*z.p<=_;omega⟩
 have HR:Hid (R=([setN (eZ c)],bI z)):=qa (by rw[HR3.o,qr hm]);rw[qu hm];have HP6:=qa HP5.o.inc;have c06:=HP6.o.box.c0;clear HR3 hm hix;generalize eZ c=xo at*
 go_wp2_with(first
  |((with_reducible refine(HOC.o _).mono ?_);rintro e w7 ⟨rfl,hx⟩;have HP7:=qa (HP6.o.ext hx);clear hx)
  |((with_reducible refine(HON.o _ _).mono ?_);rintro e w8 ⟨v,rfl,ho,hb⟩;have HN8:Hid (aO w8 w.heap.size v [setN xo]):=qa (cA.mono ho HP7.o.gr.size);have HP8:=qa (HP7.o.below hb);clear ho hb))
 go_ret;exact⟨v,_,_,rfl,HN8.o,HP8.o,Al.same HR.o (by show z.p<=z.p+1;omega) (by show z.p+1<=s.size;omega),by show 1+2*z.p<=2*(z.p+1)+1;omega⟩
theorem q1c(s:cX):∀(f:Nat) (l:List Nd) (z:PS),z.e≠0->rT s f l z=(l,z)
 |0,_,_,_=>rfl
 |f+1,l,z,h=>by unfold rT;rw[P6 h];rfl
theorem qbd{alt:PS->List Nd×PS}{w:World}{g lo:Nat}{s:ByteArray}{z:PS}{c:UInt8}(hA:q9s g s lo alt)(hlo:lo<=z.p)(hst:∀z,z.p<=(bys s).length->Stp (bys s) z (alt z).2)(hlen:∀z,z.p<=(bys s).length->(alt z).1.length+2*z.p<=2*(alt z).2.p+1)
  (h:dX w g s z) (hs:s.size<=1000000) (hc:nxR (bys s) z=some c):
  Calls prog 88 #[.pointer (some ⟨g,0,none⟩)] w (q6y (vT (bys s) alt z) g s z w):=by
 have hgl:=h.lt;have HP0:=qa (Qs.start h);have HAT:=qa (qbc hA hlo h hs hc);have qeF:=(yC hst hc).1;have hsm:=(X8 hlen hc).lt;obtain⟨hz0,hzp,-⟩:=dE hc;have hzb:=qeF.len (by omega);have hzl:=qeF.le;rw[aP]at hzp hzb;obtain⟨R,hR⟩:∃R,R=vT (bys s) alt z:=⟨_,rfl⟩;rw[<-hR]at qeF hsm hzb hzl⊢;unfold vT at hR;rw[aP]at hR;have qhC:Hid (∀W y,dX W g s y->Calls prog 67 #[.pointer (some ⟨g,0,none⟩),.int .u8 42] W (pM (.bool (b7 (bys s) 42 y).1) g s (b7 (bys s) 42 y).2 W)):=qa (fun W y h=>uW h hs 42);have qhB:Hid (∀W y,dX W g s y->Calls prog 67 #[.pointer (some ⟨g,0,none⟩),.int .u8 43] W (pM (.bool (b7 (bys s) 43 y).1) g s (b7 (bys s) 43 y).2 W)):=qa (fun W y h=>uW h hs 43);have qhA:Hid (∀W y,dX W g s y->Calls prog 67 #[.pointer (some ⟨g,0,none⟩),.int .u8 63] W (pM (.bool (b7 (bys s) 63 y).1) g s (b7 (bys s) 63 y).2 W)):=qa (fun W y h=>uW h hs 63);have qgc:Hid (∀W y,dX W g s y->Calls prog 87 #[.pointer (some ⟨g,0,none⟩),.int .u8 123] W fun e w'=>e=.returned (.bool (kB (bys s) 123 y))/\∃x,w'=ext W x):=qa (fun W y h=>isQ h 123);have HTM:Hid (∀W y,nxR (bys s) y=some 123->dX W g s y->Calls prog 104 #[.pointer (some ⟨g,0,none⟩)] W (pM (.tuple #[.int .i64 (pF (bys s) y).1.lo,.int .i64 (pF (bys s) y).1.hi]) g s (pF (bys s) y).2 W)):=qa (fun W y hc h=>qb7 h hs hc)
 have HJN:Hid (∀(x:Nd) (l:List Nd) W v,l.length<=100000000->aO W w.heap.size v l->Calls prog 89 #[.agg (ndA x),.slice (some ⟨W.heap.size,0,none⟩) 1 1] (W.alloc (.cells #[v] 31)) (lM (W.alloc (.cells #[v] 31)) (dM x [l]))):=qa (fun x l W v hl h=>q9q (x:=x) (ks:=[l]) (dY W #[v] 31 (by simp)) rfl (fun i hi=>by
  have h0:i=0:=by simp at hi;omega
  subst h0;exact(aO.at h).up (aA W _)) (by simp;omega))
 clear h;go_enter func88,ntmps88
 go_wp2_with((with_reducible refine(HAT.o).mono ?_);rintro e w1 ⟨v1,l1,z1,rfl,ho,hQ,hAl,hle⟩;have HN1:=qa ho;have HP1:=qa hQ;have HAL:=qa hAl;have HLE:=qa hle;clear ho hQ hAl hle)
 have h1l:=HAL.o.le;have h1p:=HAL.o.top
 have qbB:(z1.e=0/\rT (bys s) (s.size+1) l1 z1=R/\s.size+1<=s.size+1+z1.p/\l1.length+2*z.p+1<=2*z1.p)\/(z1.e≠0/\R.2.e≠0/\l1.length+2*z.p<=2*z1.p+1):=by
  by_cases hz1:z1.e=0
  ·obtain⟨e1,e2,e3⟩:=HAL.o.good hz1
   refine .inl ⟨hz1,by rw[e1,e2];exact hR.symm,by omega,?_⟩;rcases(X7 hlen hc).lt with h|h
   ·rw[e1,e2];exact h
   exact absurd e3 h.2
  have h2:=HAL.o.worse hz1;exact .inr ⟨hz1,by rw[hR,q1c _ _ _ _ h2];exact h2,HLE.o⟩
 have HST:=qa qbB;clear qbB hR qeF hsm HAT hzb hzl hc hA hst hlen HAL HLE
 go_loopg [3] (s.size+2) (fun gk xv wr=>∃(f:Nat) (l:List Nd) (y:PS),gk=f+1/\aO wr w.heap.size xv l/\Qs w wr g s y/\y.p<=s.size/\z.p<=y.p/\Hid ((y.e=0/\rT (bys s) f l y=R/\s.size+1<=f+y.p/\l.length+2*z.p+1<=2*y.p)\/(y.e≠0/\R.2.e≠0/\l.length+2*z.p<=2*y.p+1)))
 case atStart=>exact⟨s.size+1,l1,z1,rfl,HN1.o,HP1.o,h1p,h1l,HST⟩
 case round=>
  clear HN1 HP1 HST h1l h1p;obtain⟨f,l,y,hgk,hO,hP,hyp,hyl,HY⟩:=hrel;have HN:=qa hO;have HP:=qa hP;clear hO hP;obtain⟨oa,cap,hv⟩:=aO.slice HN.o;subst hv;have c2:=HP.o.box.c2;rcases HY.o with⟨h0,hRL,hf,hll⟩|⟨h0,hRb,hll⟩;rotate_left 1
  ·have he':((y.e:Int)==0)=false:=by simpa using h0
   go_wp2;go_ret;exact⟨_,l,y,rfl,HN.o,HP.o,Al.fault _ hRb h0 hyl hyp,hll⟩
  have he':((y.e:Int)==0)=true:=by rw[h0];rfl
  obtain⟨f0,rfl⟩:∃f0,f=f0+1:=⟨f-1,by omega⟩;have hnd:∀(x:Nd),(dM x [l]).length=l.length+1:=fun x=>by simp[dM]
  by_cases h42:kB (bys s) 42 y=true
  ·have hcc:(nxR (bys s) y).getD 0=42:=by rw[(lZ h42).2.2];rfl
   have HRL:Hid (rT (bys s) f0 (dM (kN 5) [l]) (bI y)=R):=qa (by rw[<-hRL,rT];simp only[hcc];rfl);have hlt:=(lZ h42).2.1;rw[aP]at hlt;have HJ:Hid (∀W,aO W w.heap.size (.slice oa l.length cap) l->Calls prog 89 #[.agg #[.int .i64 5,.int .i64 0,.int .u64 0,.int .u64 0,.int .u64 0,.int .u64 0,.int .i64 0,.int .i64 0],.slice (some ⟨W.heap.size,0,none⟩) 1 1] (W.alloc (.cells #[.slice oa l.length cap] 31)) (lM (W.alloc (.cells #[.slice oa l.length cap] 31)) (dM (kN 5) [l]))):=qa (fun W h=>HJN.o (kN 5) l W _ (by omega) h);have hnk:=hnd (kN 5);have qej:=qa (fun W h=>qhC.o W y h);rw[lU h42]at qej;clear hcc hRL HY h42 hnd
   go_wp2_with(first
    |((with_reducible refine(qej.o _ HP.o.box).mono ?_);rintro e w6 ⟨rfl,hB,hg⟩;have HP6:=qa (HP.o.act hB hg);have HN6:=qa (aO.keepG HN.o hg hgl);clear hB hg)
    |((with_reducible refine(HJ.o _ HN6.o).mono ?_);rintro e w7 ⟨v7,rfl,ho,hb⟩;have HN7:Hid (aO w7 w.heap.size v7 (dM (kN 5) [l])):=qa (cA.mono ho (qc HP6.o.gr.size (aA w6 _).size));have HP7:=qa ((HP6.o.below (aA w6 _)).below hb);clear ho hb))
   exact ZmV2
  have h42:kB (bys s) 42 y=false:=by simpa using h42
  have qch:=qa (fun W h=>qhC.o W y h);rw[oQ h42]at qch;by_cases h43:kB (bys s) 43 y=true
  ·have hcc:(nxR (bys s) y).getD 0=43:=by rw[(lZ h43).2.2];rfl
   have HRL:Hid (rT (bys s) f0 (dM (kN 6) [l]) (bI y)=R):=qa (by rw[<-hRL,rT];simp only[hcc];rfl);have hlt:=(lZ h43).2.1;rw[aP]at hlt;have HJ:Hid (∀W,aO W w.heap.size (.slice oa l.length cap) l->Calls prog 89 #[.agg #[.int .i64 6,.int .i64 0,.int .u64 0,.int .u64 0,.int .u64 0,.int .u64 0,.int .i64 0,.int .i64 0],.slice (some ⟨W.heap.size,0,none⟩) 1 1] (W.alloc (.cells #[.slice oa l.length cap] 31)) (lM (W.alloc (.cells #[.slice oa l.length cap] 31)) (dM (kN 6) [l]))):=qa (fun W h=>HJN.o (kN 6) l W _ (by omega) h);have hnk:=hnd (kN 6);have qei:=qa (fun W h=>qhB.o W y h);rw[lU h43]at qei;clear hcc hRL HY h43 hnd
   go_wp2_with(first
    |((with_reducible refine(qch.o _ HP.o.box).mono ?_);rintro e w2 ⟨rfl,hB,hg⟩;have HP2:=qa (HP.o.act hB hg);have HN2:=qa (aO.keepG HN.o hg hgl);clear hB hg)
    |((with_reducible refine(qei.o _ HP2.o.box).mono ?_);rintro e w6 ⟨rfl,hB,hg⟩;have HP6:=qa (HP2.o.act hB hg);have HN6:=qa (aO.keepG HN2.o hg hgl);clear hB hg)
    |((with_reducible refine(HJ.o _ HN6.o).mono ?_);rintro e w7 ⟨v7,rfl,ho,hb⟩;have HN7:Hid (aO w7 w.heap.size v7 (dM (kN 6) [l])):=qa (cA.mono ho (qc HP6.o.gr.size (aA w6 _).size));have HP7:=qa ((HP6.o.below (aA w6 _)).below hb);clear ho hb))
   exact ZmV2
  have h43:kB (bys s) 43 y=false:=by simpa using h43
  have qcz:=qa (fun W h=>qhB.o W y h);rw[oQ h43]at qcz;by_cases h63:kB (bys s) 63 y=true
  ·have hcc:(nxR (bys s) y).getD 0=63:=by rw[(lZ h63).2.2];rfl
   have HRL:Hid (rT (bys s) f0 (dM (kN 7) [l]) (bI y)=R):=qa (by rw[<-hRL,rT];simp only[hcc];rfl);have hlt:=(lZ h63).2.1;rw[aP]at hlt;have HJ:Hid (∀W,aO W w.heap.size (.slice oa l.length cap) l->Calls prog 89 #[.agg #[.int .i64 7,.int .i64 0,.int .u64 0,.int .u64 0,.int .u64 0,.int .u64 0,.int .i64 0,.int .i64 0],.slice (some ⟨W.heap.size,0,none⟩) 1 1] (W.alloc (.cells #[.slice oa l.length cap] 31)) (lM (W.alloc (.cells #[.slice oa l.length cap] 31)) (dM (kN 7) [l]))):=qa (fun W h=>HJN.o (kN 7) l W _ (by omega) h);have hnk:=hnd (kN 7);have qeg:=qa (fun W h=>qhA.o W y h);rw[lU h63]at qeg;clear hcc hRL HY h63 hnd
   go_wp2_with(first
    |((with_reducible refine(qch.o _ HP.o.box).mono ?_);rintro e w2 ⟨rfl,hB,hg⟩;have HP2:=qa (HP.o.act hB hg);have HN2:=qa (aO.keepG HN.o hg hgl);clear hB hg)
    |((with_reducible refine(qcz.o _ HP2.o.box).mono ?_);rintro e w3 ⟨rfl,hB,hg⟩;have HP3:=qa (HP2.o.act hB hg);have HN3:=qa (aO.keepG HN2.o hg hgl);clear hB hg)
    |((with_reducible refine(qeg.o _ HP3.o.box).mono ?_);rintro e w6 ⟨rfl,hB,hg⟩;have HP6:=qa (HP3.o.act hB hg);have HN6:=qa (aO.keepG HN3.o hg hgl);clear hB hg)
    |((with_reducible refine(HJ.o _ HN6.o).mono ?_);rintro e w7 ⟨v7,rfl,ho,hb⟩;have HN7:Hid (aO w7 w.heap.size v7 (dM (kN 7) [l])):=qa (cA.mono ho (qc HP6.o.gr.size (aA w6 _).size));have HP7:=qa ((HP6.o.below (aA w6 _)).below hb);clear ho hb))
   exact ZmV2
  have h63:kB (bys s) 63 y=false:=by simpa using h63
  have qd7:=qa (fun W h=>qhA.o W y h);rw[oQ h63]at qd7;have HIY:=qa (fun W h=>qgc.o W y h);by_cases qby:kB (bys s) 123 y=true
  ·have hcc:(nxR (bys s) y).getD 0=123:=by rw[(lZ qby).2.2];rfl
   have qbu:rT (bys s) f0 (dM (pF (bys s) y).1 [l]) (pF (bys s) y).2=R:=by rw[<-hRL,rT];simp only[hcc];rfl
   have qhy:=qa (fun W h=>HTM.o W y (lZ qby).2.2 h);have htl:=q3g (lZ qby).2.2;have htp:=(X4 (lZ qby).2.2).len (by rw[aP];exact hyp);rw[aP]at htp;have htn:(pF (bys s) y).1=⟨8,0,0,0,0,0,(pF (bys s) y).1.lo,(pF (bys s) y).1.hi⟩:=rfl;have hnk:=hnd (pF (bys s) y).1;rw[qby]at HIY;have HJ:Hid (∀W,aO W w.heap.size (.slice oa l.length cap) l->Calls prog 89 #[.agg #[.int .i64 8,.int .i64 0,.int .u64 0,.int .u64 0,.int .u64 0,.int .u64 0,.int .i64 (pF (bys s) y).1.lo,.int .i64 (pF (bys s) y).1.hi],.slice (some ⟨W.heap.size,0,none⟩) 1 1] (W.alloc (.cells #[.slice oa l.length cap] 31)) (lM (W.alloc (.cells #[.slice oa l.length cap] 31)) (dM (pF (bys s) y).1 [l]))):=qa (fun W h=>HJN.o (pF (bys s) y).1 l W _ (by omega) h);clear hcc hRL HY qby hnd htn;generalize pF (bys s) y=T at*;obtain⟨tn,tz⟩:=T;simp only at qhy htl htp qbu HJ hnk;generalize tn.lo=lo' at*;generalize tn.hi=hi' at*
   go_wp2_with(first
    |((with_reducible refine(qch.o _ HP.o.box).mono ?_);rintro e w2 ⟨rfl,hB,hg⟩;have HP2:=qa (HP.o.act hB hg);have HN2:=qa (aO.keepG HN.o hg hgl);clear hB hg)
    |((with_reducible refine(qcz.o _ HP2.o.box).mono ?_);rintro e w3 ⟨rfl,hB,hg⟩;have HP3:=qa (HP2.o.act hB hg);have HN3:=qa (aO.keepG HN2.o hg hgl);clear hB hg)
    |((with_reducible refine(qd7.o _ HP3.o.box).mono ?_);rintro e w4 ⟨rfl,hB,hg⟩;have HP4:=qa (HP3.o.act hB hg);have HN4:=qa (aO.keepG HN3.o hg hgl);clear hB hg)
    |((with_reducible refine(HIY.o _ HP4.o.box).mono ?_);rintro e w5 ⟨rfl,hx⟩;have HP5:=qa (HP4.o.ext hx);have HN5:Hid (aO w5 w.heap.size _ l):=qa (cA.up HN4.o (aB hx));clear hx)
    |((with_reducible refine(qhy.o _ HP5.o.box).mono ?_);rintro e w6 ⟨rfl,hB,hg⟩;have HP6:=qa (HP5.o.act hB hg);have HN6:=qa (aO.keepG HN5.o hg hgl);clear hB hg)
    |((with_reducible refine(HJ.o _ HN6.o).mono ?_);rintro e w7 ⟨v7,rfl,ho,hb⟩;have HN7:Hid (aO w7 w.heap.size v7 (dM tn [l])):=qa (cA.mono ho (qc HP6.o.gr.size (aA w6 _).size));have HP7:=qa ((HP6.o.below (aA w6 _)).below hb);clear ho hb))
   go_roundg (f0+1)
   case measure=>omega
   case rel=>
    refine⟨f0,_,tz,rfl,HN7.o,HP7.o,htp,by omega,qa ?_⟩;by_cases htz:tz.e=0
    ·exact .inl ⟨htz,qbu,by omega,by rw[hnk];omega⟩
    exact .inr ⟨htz,by rw[<-qbu,q1c _ _ _ _ htz];exact htz,by rw[hnk];omega⟩
  have qby:kB (bys s) 123 y=false:=by simpa using qby
  rw[qby]at HIY
  have HRE:Hid (R=(l,y)):=qa (by
   rw[<-hRL];rw[q4g (by decide)]at h42 h43 h63 qby;unfold rT;simp only[of_decide_eq_false h42,of_decide_eq_false h43,of_decide_eq_false h63,of_decide_eq_false qby,jp])
  clear hRL HY h42 h43 h63 qby hnd
  go_wp2_with(first
   |((with_reducible refine(qch.o _ HP.o.box).mono ?_);rintro e w2 ⟨rfl,hB,hg⟩;have HP2:=qa (HP.o.act hB hg);have HN2:=qa (aO.keepG HN.o hg hgl);clear hB hg)
   |((with_reducible refine(qcz.o _ HP2.o.box).mono ?_);rintro e w3 ⟨rfl,hB,hg⟩;have HP3:=qa (HP2.o.act hB hg);have HN3:=qa (aO.keepG HN2.o hg hgl);clear hB hg)
   |((with_reducible refine(qd7.o _ HP3.o.box).mono ?_);rintro e w4 ⟨rfl,hB,hg⟩;have HP4:=qa (HP3.o.act hB hg);have HN4:=qa (aO.keepG HN3.o hg hgl);clear hB hg)
   |((with_reducible refine(HIY.o _ HP4.o.box).mono ?_);rintro e w5 ⟨rfl,hx⟩;have HP5:=qa (HP4.o.ext hx);have HN5:Hid (aO w5 w.heap.size _ l):=qa (cA.up HN4.o (aB hx));clear hx))
  go_ret;exact⟨_,l,y,rfl,HN5.o,HP5.o,Al.same HRE.o hyl hyp,by omega⟩
theorem T5(k:Int)(ls:List (List Nd))(a b:Nat)(h:iJ ls+ls.length+2*a<=2*b+2)(hab:a<=b):(m5 k ls).length+2*a<=2*b+1:=by
 match ls,h with
 |[],_=>simp[m5,dM];omega
 |[l],h=>simp[iJ]at h;simp[m5];omega
 |l1::l2::r,h=>
  have e:(m5 k (l1::l2::r)).length=iJ (l1::l2::r)+1:=pH _ _;rw[e];simp only[qx]at h;omega
theorem q5U(s:cX)(alt:PS->List Nd×PS):∀(f:Nat) (l:List (List Nd)) (z:PS),z.e≠0->yB s alt f l z=(l,z)
 |0,_,_,_=>rfl
 |f+1,l,z,h=>by unfold yB inR;rw[P6 h];rfl
theorem q1e(s:cX)(alt:PS->List Nd×PS):∀(f:Nat) (l:List (List Nd)) (z:PS),z.e≠0->m7 s alt f l z=(l,z)
 |0,_,_,_=>rfl
 |f+1,l,z,h=>by unfold m7;rw[nC h];rfl
theorem qam{s:cX}{z:PS}(h0:z.e=0):inR s z=(decide (z.p<s.length)&&(!kB s 124 z&& !kB s 41 z)):=by
 unfold inR kB nxR;by_cases hp:z.p<s.length
 ·rw[qt ⟨h0,hp⟩,qw hp];simp
 rw[qr (fun h=>hp h.2),qu hp];rfl
theorem qaI{alt:PS->List Nd×PS}{w:World}{g lo:Nat}{s:ByteArray}{z:PS}(hA:q9s g s lo alt)(hlo:lo<=z.p)(hst:∀z,z.p<=(bys s).length->Stp (bys s) z (alt z).2)(hlen:∀z,z.p<=(bys s).length->(alt z).1.length+2*z.p<=2*(alt z).2.p+1)
  (h:dX w g s z) (hs:s.size<=1000000) (hz0:z.e=0) (hzp:z.p<=s.size):
  Calls prog 66 #[.pointer (some ⟨g,0,none⟩)] w (q6y (fJ (bys s) alt z) g s z w):=by
 have hgl:=h.lt;have HP0:=qa (Qs.start h);obtain⟨L,hL⟩:∃L,L=yB (bys s) alt (s.size+1) [] z:=⟨_,rfl⟩;have hR:fJ (bys s) alt z=(m5 3 L.1,L.2):=by unfold fJ;rw[aP,<-hL]
 rw[hR];have HL:=qa hL.symm;have qjN:Hid (∀W y c,lo<=y.p->nxR (bys s) y=some c->dX W g s y->Calls prog 88 #[.pointer (some ⟨g,0,none⟩)] W (q6y (vT (bys s) alt y) g s y W)):=qa (fun W y c hl hc h=>qbd hA hl hst hlen h hs hc);have HRS:=qa (fun(y:PS) (c:UInt8) (hc:nxR (bys s) y=some c)=>(yC hst hc).2);have HRM:=qa (fun(y:PS) (c:UInt8) (hc:nxR (bys s) y=some c)=>(X8 hlen hc).lt);have qet:Hid (∀W y,dX W g s y->Calls prog 87 #[.pointer (some ⟨g,0,none⟩),.int .u8 124] W fun e w'=>e=.returned (.bool (kB (bys s) 124 y))/\∃x,w'=ext W x):=qa (fun W y h=>isQ h 124);have qhU:Hid (∀W y,dX W g s y->Calls prog 87 #[.pointer (some ⟨g,0,none⟩),.int .u8 41] W fun e w'=>e=.returned (.bool (kB (bys s) 41 y))/\∃x,w'=ext W x):=qa (fun W y h=>isQ h 41);have HM:Hid (∀W v (vs:List Value) (ls:List (List Nd)),w.heap.size<=W.heap.size->Own W w.heap.size 31 v vs->d5 W w.heap.size vs ls->ls≠[]->iJ ls<=4000000->Calls prog 68 #[.int .i64 3,v] W (qaj w.heap.size (m5 3 ls) W)):=qa (fun W v vs ls hb ho hr hn hl=>q9r (k:=3) ho hr hb hn hl);have HNW:Hid (∀W:World,w.heap.size<=W.heap.size->aO (W.alloc (.cells #[.int .i64 2,.int .i64 0,.int .u64 0,.int .u64 0,.int .u64 0,.int .u64 0,.int .i64 0,.int .i64 0] 65)) w.heap.size (.slice (some ⟨W.heap.size,0,none⟩) 1 1) (m5 3 [])):=qa (fun W hb=>oZ 8 W w.heap.size #[.int .i64 2,.int .i64 0,.int .u64 0,.int .u64 0,.int .u64 0,.int .u64 0,.int .i64 0,.int .i64 0] 65 [ndC (kN 2)] rfl (by intro y hy;simp at hy;subst hy;rfl) (by simp) hb);clear h hL hR hA;go_enter func66,ntmps66;go_wp2
 go_loopg [3] (s.size+2) (fun gk kv wr=>∃(f:Nat) (vs:List Value) (ls:List (List Nd)) (y:PS),gk=f+1/\Own wr w.heap.size 31 kv vs/\d5 wr w.heap.size vs ls/\Qs w wr g s y/\y.p<=s.size/\z.p<=y.p/\Hid ((y.e=0/\yB (bys s) alt f ls y=L/\s.size+1<=f+y.p/\iJ ls+ls.length+2*z.p<=2*y.p)\/(y.e≠0/\L.2.e≠0/\ls≠[]/\iJ ls+ls.length+2*z.p<=2*y.p+2)))
 case atStart=>exact⟨s.size+1,[],[],z,rfl,Own.nil _ _ _,d5.nil _ _,HP0.o,hzp,qb _,qa (.inl ⟨hz0,HL.o,by omega,by simp[iJ]⟩)⟩
 case round=>
  clear HP0 HL;obtain⟨f,vs,ls,y,hgk,hO,hRW,hP,hyp,hyl,HY⟩:=hrel;have HO:=qa hO;have HP:=qa hP;have HRW:=qa hRW;have qbr:=hRW.1;clear hO hP hRW;obtain⟨oa,cap,b0,off0,hv,-,-⟩:=HO.o.sl;rw[qbr]at hv;subst hv;have c2:=HP.o.box.c2;have c1:=HP.o.box.c1;have c0:=HP.o.box.c0;have hgw:=HP.o.box.lt;rcases HY.o with⟨h0,hCL,hf,hsb⟩|⟨h0,hLb,hne,hsb⟩;rotate_left 1
  ·have he':((y.e:Int)==0)=false:=by simpa using h0
   have qbp:=qa (fun W h=>qet.o W y h);have qbH:=qa (fun W h=>qhU.o W y h);go_wp2;refine bO (by kernel_rfl) (by kernel_rfl) ?_
   repeat(go_big_quiet_step ((go_at_call 87;first|(with_reducible exact bY (qbp.o _ (HP.o.box.up (aD _ _))))|(with_reducible exact bY (qbH.o _ (HP.o.box.up (aD _ _)))))))
   refine wpQuiet_nil ?_;intro w1 hw1;have HP1:=qa (HP.o.ext hw1);have HO1:=qa (HO.o.up (aB hw1));have HR1:Hid (d5 w1 w.heap.size vs ls):=qa (HRW.o.all (fun v l h=>cA.up h (aB hw1)));clear hw1 c0 c1 c2 hgw;have HAL:Hid (Al s.size z (m5 3 L.1,L.2) (m5 3 ls) y):=qa (Al.fault _ hLb h0 hyl hyp);have HBD:=qa (T5 3 ls z.p y.p hsb hyl);have HSL:Hid (iJ ls<=4000000):=qa (by omega);have hn0:¬ls.length=0:=fun e=>hne (List.length_eq_zero_iff.1 e);have qfm:((ls.length:Int)==0)=false:=by simpa using hn0
   have HMY:=qa (fun W h1 h2 h3=>HM.o W (.slice oa ls.length cap) vs ls h1 h2 h3 hne HSL.o)
   go_wp2_with(first
    |((with_reducible refine(HMY.o _ HP1.o.gr.size HO1.o HR1.o).mono ?_);rintro e w7 ⟨v7,rfl,ho,hb⟩;have HN7:=qa ho;have HP7:=qa (HP1.o.below hb);clear ho hb))
   go_ret;exact⟨v7,_,y,rfl,HN7.o,HP7.o,HAL.o,HBD.o⟩
  have he':((y.e:Int)==0)=true:=by rw[h0];rfl
  obtain⟨f0,rfl⟩:∃f0,f=f0+1:=⟨f-1,by omega⟩;have hin:=qam (s:=bys s) h0;rw[aP]at hin;have qhj:(if inR (bys s) y then yB (bys s) alt f0 (ls++[(vT (bys s) alt y).1]) (vT (bys s) alt y).2 else(ls,y))=L:=by rw[<-hCL,yB]
  have HCL:=qa qhj;have qbp:=qa (fun W h=>qet.o W y h);have qbH:=qa (fun W h=>qhU.o W y h);clear hCL qhj;by_cases hp:y.p<s.size;rotate_left 1
  ·have HLX:Hid (L=(ls,y)):=qa (by rw[<-HCL.o,hin,qu hp];rfl)
   have hpd:decide ((y.p:Int)<(s.size:Int))=false:=qu (by omega);clear hin HCL;go_wp2;refine bO (by kernel_rfl) (by kernel_rfl) ?_
   exact ZmV0
  rw[qw hp,j3]at hin;have hpi:(y.p:Int)<(s.size:Int):=by omega
  cases h124:kB (bys s) 124 y with
  |true=>
   have HLX:Hid (L=(ls,y)):=qa (by rw[<-HCL.o,hin,h124];rfl);rw[h124]at qbp;clear hin HCL h124;go_wp2;refine bO (by kernel_rfl) (by kernel_rfl) ?_
   exact ZmV0
  |false=>
   rw[h124]at qbp;cases h41:kB (bys s) 41 y with
   |true=>
    have HLX:Hid (L=(ls,y)):=qa (by rw[<-HCL.o,hin,h41,h124];rfl);rw[h41]at qbH;clear hin HCL h124 h41;go_wp2;refine bO (by kernel_rfl) (by kernel_rfl) ?_
    exact ZmV0
   |false=>
    rw[h41]at qbH;rw[h124,h41]at hin;have hcn:=HCL.o;rw[hin]at hcn;have HCN:Hid (yB (bys s) alt f0 (ls++[(vT (bys s) alt y).1]) (vT (bys s) alt y).2=L):=qa hcn;have hnx:nxR (bys s) y=some ((bys s).getD y.p 0):=by unfold nxR;rw[qt ⟨h0,by rw[aP];exact hp⟩]
    have HRY:=qa (fun W h=>qjN.o W y _ (by omega) hnx h);have qjK:=qa (HRS.o y _ hnx);have qjL:=qa (HRM.o y _ hnx);have hvl:vs.length<=2000000:=by rw[qbr];omega
    clear hin hcn HCL h124 h41 hnx;go_wp2;refine bO (by kernel_rfl) (by kernel_rfl) ?_
    repeat(go_big_quiet_step ((go_at_call 87;first|(with_reducible exact bY (qbp.o _ (HP.o.box.up (aD _ _))))|(with_reducible exact bY (qbH.o _ (HP.o.box.up (aD _ _)))))))
    refine wpQuiet_nil ?_;intro w1 hw1;have HP1:=qa (HP.o.ext hw1);have HO1:=qa (HO.o.up (aB hw1));have HR1:Hid (d5 w1 w.heap.size vs ls):=qa (HRW.o.all (fun v l h=>cA.up h (aB hw1)));clear hw1 c0 c1 c2 hgw
    go_wp2_with(first
     |((with_reducible refine((HRY.o _ HP1.o.box).mono ?_));rintro e w2 ⟨v2,pl,z2,rfl,ho,hQ,hAl,hle⟩;have HN2:Hid (aO w2 w.heap.size v2 pl):=qa (cA.mono ho HP1.o.gr.size);have HP2:=qa (HP1.o.act hQ.box hQ.gr);have HO2:=qa (HO1.o.keep hQ.gr (q6i hgl HO1.o));have HR2:Hid (d5 w2 w.heap.size vs ls):=qa (HR1.o.all (fun v l h=>aO.keepG h hQ.gr hgl));have HAL:=qa hAl;have HLE:=qa hle;clear ho hQ hAl hle;obtain⟨oa2,cap2,hv2⟩:=aO.slice HN2.o;subst hv2;have hba:=aA w2 (.cells #[.slice oa2 pl.length cap2] 31);have HX3:Hid (Sl (w2.alloc (.cells #[.slice oa2 pl.length cap2] 31)) (.slice (some ⟨w2.heap.size,0,none⟩) 1 1) [.slice oa2 pl.length cap2]):=qa (by simpa using dY w2 #[.slice oa2 pl.length cap2] 31 (by simp));have HO3:=qa (HO2.o.up hba);have HP3:=qa (HP2.o.below hba);have HR3:Hid (d5 (w2.alloc (.cells #[.slice oa2 pl.length cap2] 31)) w.heap.size (vs++[.slice oa2 pl.length cap2]) (ls++[pl])):=qa ((HR2.o.snoc HN2.o).all (fun v l h=>cA.up h hba));have HLEN:Hid (vs.length+[Value.slice oa2 pl.length cap2].length<=4294967296):=qa (by simp;omega);clear hba)
     |(at_builtin;refine bM rfl (.tmp 31) (.tmp 34) 26 rfl w.heap.size 31 (.slice none 0 0) 24 underlying26 (by kernel_rfl) rfl (by decide) _ vs rfl HO3.o (.slice (some ⟨w2.heap.size,0,none⟩) 1 1) [.slice oa2 pl.length cap2] rfl HX3.o (by intro u hu;simp only[jd]at hu;subst hu;rfl) HLEN.o HP3.o.gr.size ?_;intro v' w5 hown1 hg1 hk1;have HO5:=qa hown1;have HP5:=qa (HP3.o.far hg1 (fun q e=>(HO3.o.lt q e).1));have HR5:Hid (d5 w5 w.heap.size (vs++[.slice oa2 pl.length cap2]) (ls++[pl])):=qa (HR3.o.all (fun v l h=>cA.keep h hg1 (lK HO3.o h (by decide))));clear hown1 hg1 hk1))
    have h2l:=HAL.o.le;have h2p:=HAL.o.top;have hle:=HLE.o
    go_roundg (f0+1)
    case measure=>omega
    case rel=>
     refine⟨f0,_,_,z2,rfl,HO5.o,HR5.o,HP5.o,h2p,by omega,qa ?_⟩;by_cases hz2:z2.e=0
     ·obtain⟨e1,e2,e3⟩:=HAL.o.good hz2
      have h5:=qjK.o.resolve_left (fun h=>h e3);have h6:=qjL.o.resolve_right (fun h=>h.2 e3);rw[<-e1]at h5;rw[<-e1,<-e2]at h6;exact .inl ⟨hz2,by rw[e1,e2];exact HCN.o,by omega,by rw[oI,qi,qB];omega⟩
     have hw:=HAL.o.worse hz2;exact .inr ⟨hz2,by rw[<-HCN.o,q5U _ _ _ _ _ hw];exact hw,by simp,by rw[oI,qi,qB];omega⟩
theorem q9t{alt:PS->List Nd×PS}{w:World}{g lo:Nat}{s:ByteArray}{z:PS}(hA:q9s g s lo alt)(hlo:lo<=z.p)(hst:∀z,z.p<=(bys s).length->Stp (bys s) z (alt z).2)(hlen:∀z,z.p<=(bys s).length->(alt z).1.length+2*z.p<=2*(alt z).2.p+1)
  (h:dX w g s z) (hs:s.size<=1000000) (hz0:z.e=0) (hzp:z.p<=s.size):
  Calls prog 42 #[.pointer (some ⟨g,0,none⟩)] w (q6y (m5 4 (m7 (bys s) alt ((bys s).length+1) [(fJ (bys s) alt z).1] (fJ (bys s) alt z).2).1,(m7 (bys s) alt ((bys s).length+1) [(fJ (bys s) alt z).1] (fJ (bys s) alt z).2).2) g s z w):=by
 have hgl:=h.lt;have HP0:=qa (Qs.start h);have HCA:=qa (qaI hA hlo hst hlen h hs hz0 hzp);obtain⟨L,hL⟩:∃L,L=m7 (bys s) alt (s.size+1) [(fJ (bys s) alt z).1] (fJ (bys s) alt z).2:=⟨_,rfl⟩;rw[aP,<-hL];have HL:=qa hL.symm;have qk6:Hid (∀W y,lo<=y.p->y.e=0->y.p<=s.size->dX W g s y->Calls prog 66 #[.pointer (some ⟨g,0,none⟩)] W (q6y (fJ (bys s) alt y) g s y W)):=qa (fun W y hl h0 hp h=>qaI hA hl hst hlen h hs h0 hp);have qfR:Hid (∀W y,dX W g s y->Calls prog 67 #[.pointer (some ⟨g,0,none⟩),.int .u8 124] W (pM (.bool (b7 (bys s) 124 y).1) g s (b7 (bys s) 124 y).2 W)):=qa (fun W y h=>uW h hs 124);have HM:Hid (∀W v (vs:List Value) (ls:List (List Nd)),w.heap.size<=W.heap.size->Own W w.heap.size 31 v vs->d5 W w.heap.size vs ls->ls≠[]->iJ ls<=4000000->Calls prog 68 #[.int .i64 4,v] W (qaj w.heap.size (m5 4 ls) W)):=qa (fun W v vs ls hb ho hr hn hl=>q9r (k:=4) ho hr hb hn hl);generalize fJ (bys s) alt z=C0 at*;clear h hL hA;go_enter func42,ntmps42
 go_wp2_with((with_reducible refine(HCA.o).mono ?_);rintro e w1 ⟨v1,l1,z1,rfl,ho,hQ,hAl,hle⟩;have HN1:Hid (aO w1 w.heap.size v1 l1):=qa ho;have HP1:=qa hQ;have HAL:=qa hAl;have HLE:=qa hle;clear ho hQ hAl hle;obtain⟨oa1,cap1,hv1⟩:=aO.slice HN1.o;subst hv1)
 have hba:=aA w1 (.cells #[.slice oa1 l1.length cap1] 31);have HO1:Hid (Own (w1.alloc (.cells #[.slice oa1 l1.length cap1] 31)) w.heap.size 31 (.slice (some ⟨w1.heap.size,0,none⟩) 1 1) [.slice oa1 l1.length cap1]):=qa (by simpa using bU w1 w.heap.size #[.slice oa1 l1.length cap1] 31 (by simp) HP1.o.gr.size);have HP2:=qa (HP1.o.below hba);have HR2:Hid (d5 (w1.alloc (.cells #[.slice oa1 l1.length cap1] 31)) w.heap.size [.slice oa1 l1.length cap1] [l1]):=qa (((d5.nil w1 w.heap.size).snoc HN1.o).all (fun v l h=>cA.up h hba));have h1l:=HAL.o.le;have h1p:=HAL.o.top;have h1n:=HLE.o
 have qbB:(z1.e=0/\m7 (bys s) alt (s.size+1) [l1] z1=L/\s.size+1<=s.size+1+z1.p)\/(z1.e≠0/\L.2.e≠0):=by
  by_cases hz1:z1.e=0
  ·obtain⟨e1,e2,-⟩:=HAL.o.good hz1
   exact .inl ⟨hz1,by rw[e1,e2];exact HL.o,by omega⟩
  have hw:=HAL.o.worse hz1;exact .inr ⟨hz1,by rw[<-HL.o,q1e _ _ _ _ _ hw];exact hw⟩
 have HST:=qa qbB;clear qbB HL HAL HLE HCA HN1 HP1 hba;generalize w1.alloc (.cells #[.slice oa1 l1.length cap1] 31)=w2 at*;generalize Value.slice (some ⟨w1.heap.size,0,none⟩) 1 1=kv1 at*
 go_loopg [3] (s.size+2) (fun gk kv wr=>∃(f:Nat) (vs:List Value) (ls:List (List Nd)) (y:PS),gk=f+1/\Own wr w.heap.size 31 kv vs/\d5 wr w.heap.size vs ls/\Qs w wr g s y/\y.p<=s.size/\z.p<=y.p/\ls≠[]/\iJ ls+ls.length+2*z.p<=2*y.p+2/\Hid ((y.e=0/\m7 (bys s) alt f ls y=L/\s.size+1<=f+y.p)\/(y.e≠0/\L.2.e≠0)))
 case atStart=>exact⟨s.size+1,_,[l1],z1,rfl,HO1.o,HR2.o,HP2.o,h1p,h1l,by simp,by simp[iJ];omega,HST⟩
 case round=>
  clear HP0 HO1 HR2 HP2 HST h1l h1p h1n;obtain⟨f,vs,ls,y,hgk,hO,hRW,hP,hyp,hyl,hne,hsb,HY⟩:=hrel;have HO:=qa hO;have HP:=qa hP;have HRW:=qa hRW;have qbr:=hRW.1;clear hO hP hRW;obtain⟨oa,cap,b0,off0,hv,-,-⟩:=HO.o.sl;rw[qbr]at hv;subst hv;have HTY:=qa (fun W h=>qfR.o W y h);have HBD:=qa (T5 4 ls z.p y.p hsb hyl);have HSL:Hid (iJ ls<=4000000):=qa (by omega);have HMY:=qa (fun W h1 h2 h3=>HM.o W (.slice oa ls.length cap) vs ls h1 h2 h3 hne HSL.o);rcases HY.o with⟨h0,hCL,hf⟩|⟨h0,hLb⟩;rotate_left 1
  ·rw[nC h0]at HTY
   have HAL:Hid (Al s.size z (m5 4 L.1,L.2) (m5 4 ls) y):=qa (Al.fault _ hLb h0 hyl hyp)
   exact ZmV1
  obtain⟨f0,rfl⟩:∃f0,f=f0+1:=⟨f-1,by omega⟩;rw[m7,iG]at hCL;cases hi:kB (bys s) 124 y with
  |false=>
   rw[hi]at hCL;rw[oQ hi]at HTY;have HAL:Hid (Al s.size z (m5 4 L.1,L.2) (m5 4 ls) y):=qa (Al.same (by rw[<-hCL];rfl) hyl hyp);clear hCL hi
   exact ZmV1
  |true=>
   rw[hi]at hCL;rw[lU hi]at HTY;have hlt:=(lZ hi).2.1;rw[aP]at hlt;have HCN:Hid (m7 (bys s) alt f0 (ls++[(fJ (bys s) alt (bI y)).1]) (fJ (bys s) alt (bI y)).2=L):=qa hCL;have HCY:=qa (fun W h=>qk6.o W (bI y) (by show lo<=y.p+1;omega) h0 hlt h);have hvl:vs.length<=2000000:=by rw[qbr];omega
   clear hCL hi
   go_wp2_with(first
    |((with_reducible refine(HTY.o _ HP.o.box).mono ?_);rintro e w1 ⟨rfl,hB,hg⟩;have HP1:=qa (HP.o.act hB hg);have HO1:=qa (HO.o.keep hg (q6i hgl HO.o));have HR1:Hid (d5 w1 w.heap.size vs ls):=qa (HRW.o.all (fun v l h=>aO.keepG h hg hgl));clear hB hg)
    |((with_reducible refine((HCY.o _ HP1.o.box).mono ?_));rintro e w2 ⟨v2,pl,z2,rfl,ho,hQ,hAl,hle⟩;have HN2:Hid (aO w2 w.heap.size v2 pl):=qa (cA.mono ho HP1.o.gr.size);have HP2:=qa (HP1.o.act hQ.box hQ.gr);have HO2:=qa (HO1.o.keep hQ.gr (q6i hgl HO1.o));have HR2:Hid (d5 w2 w.heap.size vs ls):=qa (HR1.o.all (fun v l h=>aO.keepG h hQ.gr hgl));have HAL:=qa hAl;have HLE:=qa hle;clear ho hQ hAl hle;obtain⟨oa2,cap2,hv2⟩:=aO.slice HN2.o;subst hv2;have hba:=aA w2 (.cells #[.slice oa2 pl.length cap2] 31);have HX3:Hid (Sl (w2.alloc (.cells #[.slice oa2 pl.length cap2] 31)) (.slice (some ⟨w2.heap.size,0,none⟩) 1 1) [.slice oa2 pl.length cap2]):=qa (by simpa using dY w2 #[.slice oa2 pl.length cap2] 31 (by simp));have HO3:=qa (HO2.o.up hba);have HP3:=qa (HP2.o.below hba);have HR3:Hid (d5 (w2.alloc (.cells #[.slice oa2 pl.length cap2] 31)) w.heap.size (vs++[.slice oa2 pl.length cap2]) (ls++[pl])):=qa ((HR2.o.snoc HN2.o).all (fun v l h=>cA.up h hba));have HLEN:Hid (vs.length+[Value.slice oa2 pl.length cap2].length<=4294967296):=qa (by simp;omega);clear hba)
    |(at_builtin;refine bM rfl (.tmp 9) (.tmp 12) 26 rfl w.heap.size 31 (.slice none 0 0) 24 underlying26 (by kernel_rfl) rfl (by decide) _ vs rfl HO3.o (.slice (some ⟨w2.heap.size,0,none⟩) 1 1) [.slice oa2 pl.length cap2] rfl HX3.o (by intro u hu;simp only[jd]at hu;subst hu;rfl) HLEN.o HP3.o.gr.size ?_;intro v' w5 hown1 hg1 hk1;have HO5:=qa hown1;have HP5:=qa (HP3.o.far hg1 (fun q e=>(HO3.o.lt q e).1));have HR5:Hid (d5 w5 w.heap.size (vs++[.slice oa2 pl.length cap2]) (ls++[pl])):=qa (HR3.o.all (fun v l h=>cA.keep h hg1 (lK HO3.o h (by decide))));clear hown1 hg1 hk1))
   have h2l:y.p+1<=z2.p:=HAL.o.le;have h2p:=HAL.o.top;have hle:pl.length+2*(y.p+1)<=2*z2.p+1:=HLE.o
   go_roundg (f0+1)
   case measure=>omega
   case rel=>
    refine⟨f0,_,_,z2,rfl,HO5.o,HR5.o,HP5.o,h2p,by omega,by simp,by rw[oI,qi,qB];omega,qa ?_⟩;by_cases hz2:z2.e=0
    ·obtain⟨e1,e2,-⟩:=HAL.o.good hz2
     exact .inl ⟨hz2,by rw[e1,e2];exact HCN.o,by omega⟩
    have hw:=HAL.o.worse hz2;exact .inr ⟨hz2,by rw[<-HCN.o,q1e _ _ _ _ _ hw];exact hw⟩
theorem qaJ(g:Nat)(s:ByteArray)(hs:s.size<=1000000):∀f lo,s.size<=f+lo->q9s g s lo (lB (bys s) f)
 |0,lo,hf=>fun W z h h0 hl hz=>absurd hl (by omega)
 |f+1,lo,hf=>fun W z h h0 hl hz=>q9t (lo:=lo+1) (qaJ g s hs f (lo+1) (by omega)) hl (fun z _=>nD (bys s) f z) (fun z _=>uN (bys s) f z) h hs h0 hz
def q83(y:List Nd×Nat×Nat)(w:World)(e:Ending)(w':World):Prop:=∃(v:Value) (c b:Nat),e=.returned (.tuple #[v,.int .i64 c,.int .i64 b])/\aO w' w.heap.size v y.1/\Below w.heap.size w w'/\(c=0↔y.2.1=0)
theorem q9u{s:ByteArray}{w:World}:Calls prog 22 #[.string s] w (q83 (iY (bys s)) w):=by
 obtain⟨R,hR⟩:∃R,R=iY (bys s):=⟨_,rfl⟩;rw[<-hR];unfold iY at hR;rw[aP]at hR;by_cases qc5:512<s.size
 ·rw[qt qc5]at hR
  have HR:=qa hR;clear hR;have hb:(s.size:Int)>512:=by omega
  go_enter func22,ntmps22;go_wp2;refine bodyPost_ret (v:=.tuple #[.slice none 0 0,.int .i64 3,.int .i64 512]) (by simp[results,results22,go_sem]) rfl ?_;rw[HR.o];exact⟨_,3,512,rfl,cA.nil 8 w w.heap.size 65,qk _ _,by simp⟩
 rw[qr qc5]at hR;have hb:¬(s.size:Int)>512:=by omega
 have hs:s.size<=1000000:=by omega
 obtain⟨w1,hw1⟩:∃w1,w1=w.alloc (.cells #[.string s,.int .i64 0,.int .i64 0,.int .i64 0] 95):=⟨_,rfl⟩;have hb1:Below w.heap.size w w1:=by rw[hw1];exact aA w _
 have hs1:w1.heap.size=w.heap.size+1:=by rw[hw1];simp
 have hB1:dX w1 w.heap.size s ⟨0,0,0⟩:=⟨by
  rw[hw1];simpa using bU w w.heap.size #[.string s,.int .i64 0,.int .i64 0,.int .i64 0] 95 (by simp) (qb _)⟩
 have HA:=q9t (lo:=0) (qaJ w.heap.size s hs s.size 0 (by omega)) (qb _) (fun z _=>nD (bys s) s.size z) (fun z _=>uN (bys s) s.size z) hB1 hs rfl (qd _);rw[show(m5 4 (m7 (bys s) (lB (bys s) s.size) ((bys s).length+1) [(fJ (bys s) (lB (bys s) s.size) ⟨0,0,0⟩).1] (fJ (bys s) (lB (bys s) s.size) ⟨0,0,0⟩).2).1,(m7 (bys s) (lB (bys s) s.size) ((bys s).length+1) [(fJ (bys s) (lB (bys s) s.size) ⟨0,0,0⟩).1] (fJ (bys s) (lB (bys s) s.size) ⟨0,0,0⟩).2).2)=lB (bys s) (s.size+1) ⟨0,0,0⟩from rfl]at HA;have HA:=qa HA;clear hB1;generalize lB (bys s) (s.size+1) ⟨0,0,0⟩=A at*;have HF:Hid (∀W z,dX W w.heap.size s z->Calls prog 43 #[.pointer (some ⟨w.heap.size,0,none⟩),.int .i64 15,.int .i64 z.p] W (pM (.tuple #[]) w.heap.size s (bB 15 z.p z) W)):=qa (fun W z h=>K2 h 15 z.p);have HW1:=qa hw1;rw[hw1]at HA;have HB1:=qa hb1;have HS1:=qa hs1;clear qc5 hw1 hb1 hs1;go_enter func22,ntmps22
 go_upto_region 5 with((with_reducible refine(HA.o).mono ?_);rintro e w2 ⟨v,l,z,rfl,ho,hQ,hAl,hle⟩;rw[<-HW1.o]at ho hQ;have HO2:Hid (aO w2 (w.heap.size+1) v l):=qa (cA.mono ho (by rw[HS1.o];exact qb _));have HP2:=qa hQ.box;have HG2:=qa (HB1.o.grown hQ.gr (HB1.o.size) (fun k e=>by have:=qo e;omega));have HAL:=qa hAl;have HLE:=qa hle;obtain⟨oa,cap,hv⟩:=aO.slice HO2.o;subst hv;clear ho hQ hAl hle)
 have c1:=HP2.o.c1;have c2:=HP2.o.c2;have c3:=HP2.o.c3;have hzt:=HAL.o.top;have hll:=HLE.o;have hl2:l.length<=2000:=by simp at hll;omega
 obtain⟨z2,hz2⟩:∃z2,z2=if z.p<s.size then bB 15 z.p z else z:=⟨_,rfl⟩
 have hRz:R.2.1=0↔(z2.e=0/\l.length<=400):=by
  by_cases he:z.e=0
  ·obtain⟨e1,e2,-⟩:=HAL.o.good he
   have hnx:nxR (bys s) z=if z.p<s.size then some ((bys s).getD z.p 0)else none:=by unfold nxR;rw[aP];simp only[he,true_and]
   have hzz:(if(nxR (bys s) A.2).isSome then bB 15 A.2.p A.2 else A.2)=z2:=by
    rw[<-e1,hnx,hz2];split<;>rfl
   try simp only at hR
   rw[hzz,<-e2]at hR;rw[hR];by_cases h1:z2.e=0
   ·rw[qr (fun h=>h h1)]
    by_cases h2:400<l.length
    ·rw[qt h2];simp;omega
    rw[qr h2];simp;omega
   rw[qt h1];simp[h1]
  have hw:=HAL.o.worse he;have hzz:(if(nxR (bys s) A.2).isSome then bB 15 A.2.p A.2 else A.2)=A.2:=by rw[P6 hw];rfl
  try simp only at hR
  rw[hzz,qt hw]at hR
  have h1:z2.e≠0:=by
   rw[hz2];split
   ·rw[uK he];exact he
   exact he
  rw[hR];simp[hw,h1]
 have hRl:R.1=if z2.e=0/\l.length<=400 then l else []:=by
  by_cases he:z.e=0
  ·obtain⟨e1,e2,-⟩:=HAL.o.good he
   have hnx:nxR (bys s) z=if z.p<s.size then some ((bys s).getD z.p 0)else none:=by unfold nxR;rw[aP];simp only[he,true_and]
   have hzz:(if(nxR (bys s) A.2).isSome then bB 15 A.2.p A.2 else A.2)=z2:=by
    rw[<-e1,hnx,hz2];split<;>rfl
   try simp only at hR
   rw[hzz,<-e2]at hR;rw[hR];by_cases h1:z2.e=0
   ·rw[qr (fun h=>h h1)]
    by_cases h2:400<l.length
    ·rw[qt h2,qr (by omega)]
    rw[qr h2,qt ⟨h1,by omega⟩]
   rw[qt h1,qr (fun h=>h1 h.1)]
  have hw:=HAL.o.worse he;have hzz:(if(nxR (bys s) A.2).isSome then bB 15 A.2.p A.2 else A.2)=A.2:=by rw[P6 hw];rfl
  try simp only at hR
  rw[hzz,qt hw]at hR
  have h1:z2.e≠0:=by
   rw[hz2];split
   ·rw[uK he];exact he
   exact he
  rw[hR,qr (fun h=>h1 h.1)]
 have HRZ:=qa hRz;have HRL:=qa hRl;clear hR hRz hRl
 go_upto_if 21 with(fail)
 go_cut [] (fun wx=>dX wx w.heap.size s z2/\aO wx (w.heap.size+1) (.slice oa l.length cap) l/\Below w.heap.size w wx)
 case first=>
  by_cases hp:z.p<s.size
  ·have hpi:(z.p:Int)<(s.size:Int):=by omega
   rw[qt hp]at hz2;have HZ:=qa hz2;clear hz2
   go_wp2_with((with_reducible refine(HF.o _ _ HP2.o).mono ?_);rintro e w4 ⟨rfl,hB,hg⟩;have HP4:=qa hB;have HG4:=qa (HG2.o.grown hg (HG2.o.size) (fun k e=>by have:=qo e;omega));have HO4:Hid (aO w4 (w.heap.size+1) (.slice oa l.length cap) l):=qa (aO.keepG HO2.o hg (qR _));clear hB hg)
   go_meet
   case rel=>rw[HZ.o];exact⟨HP4.o,HO4.o,HG4.o⟩
  have hpi:¬(z.p:Int)<(s.size:Int):=by omega
  have hpd:decide ((z.p:Int)<(s.size:Int))=false:=qu hpi;rw[qr hp]at hz2;have HZ:=qa hz2;clear hz2;go_wp2
  go_meet
  case rel=>rw[HZ.o];exact⟨HP2.o,HO2.o,HG2.o⟩
 case rest=>
  have HC:=qa hcut;have d2:=HC.o.1.c2;have d3:=HC.o.1.c3;clear hcut hz2 c1 c2 c3;by_cases he:z2.e=0
  ·have heb:((z2.e:Int) != 0)=false:=by rw[he];rfl
   by_cases hl4:400<l.length
   ·have hbi:(l.length:Int)>400:=by omega
    go_wp2;refine bodyPost_ret (v:=.tuple #[.slice none 0 0,.int .i64 3,.int .i64 0]) (by simp[results,results22,go_sem]) rfl ?_;exact⟨_,3,0,rfl,by rw[HRL.o,qr (by omega)];exact cA.nil 8 wc w.heap.size 65,HC.o.2.2,by rw[HRZ.o];simp;omega⟩
   have hbi:¬(l.length:Int)>400:=by omega
   go_wp2;refine bodyPost_ret (v:=.tuple #[.slice oa l.length cap,.int .i64 0,.int .i64 0]) (by simp[results,results22,go_sem]) rfl ?_;exact⟨_,0,0,rfl,by rw[HRL.o,qt ⟨he,by omega⟩];exact cA.mono HC.o.2.1 (ja _),HC.o.2.2,by rw[HRZ.o];simp;omega⟩
  have heb:((z2.e:Int) != 0)=true:=by simpa using he
  go_wp2
  go_quiet (fail)
  go_wp2;refine bodyPost_ret (v:=.tuple #[.slice none 0 0,.int .i64 z2.e,.int .i64 z2.b]) (by simp[results,results22,go_sem]) rfl ?_;exact⟨_,z2.e,z2.b,rfl,by rw[HRL.o,qr (fun h=>he h.1)];exact cA.nil 8 _ w.heap.size 65,HC.o.2.2.trans ((aN _ _).mono HC.o.2.2.size),by rw[HRZ.o];simp[he]⟩
theorem q9v{w:World}{v:Value}{ls:List Rul}(hl:SlK 2 w v (ls.map z9))(hn:ls.length<=1000):
  Calls prog 8 #[v] w (C7 (vI ls) w):=by
 obtain⟨oa,cap,b,off,hv,hd,hc⟩:=hl;rw[qy]at hv hd hc;subst hv;have hix:=fun(W:World) (i:Nat) (hi:i<ls.length)=>gY (P:=prog) 2 22 25 underlying22 (by kernel_rfl) hd W .i64 i (by omega) (by omega);simp only[qA]at hix;have HIX:=qa hix;have HC:Hid (∀i,i<ls.length->∀c,c<2->w.cell? ⟨b,off+i*2+c,none⟩=some ((#[.string ⟨(ls.getD i ([],[])).1.toArray⟩,.string ⟨(ls.getD i ([],[])).2.toArray⟩]:Array Value).getD c undef)):=qa (fun i hi c hcl=>by rw[hc i hi c hcl,q0R ls i c hi]);have HPX:Hid (∀W t,Calls prog 22 #[.string t] W (q83 (iY (bys t)) W)):=qa (fun W t=>q9u);have HNO:Hid (∀W,q96 W w.heap.size (.slice none 0 0) []):=qa (fun W=>⟨[],Own.nil _ _ _,d5.nil _ _⟩);have hbl:=hd.hblk;have hm:=hd.len;obtain⟨R,hR⟩:∃R,R=vI ls:=⟨_,rfl⟩;rw[<-hR];have HR:=qa hR;obtain⟨n,hnn⟩:∃n,n=ls.length:=⟨_,rfl⟩;have HN:=qa hnn;rw[<-hnn]at HIX HC hbl hn hm⊢;clear hd hc hix hnn hR;go_enter func8,ntmps8;go_wp2
 go_loopg [4,5] (n+1) (fun gk ov iv wr=>∃(i:Nat) (vs:List Value),i<=n/\iv=.int .i64 i/\Own wr w.heap.size 31 ov vs/\d5 wr w.heap.size vs ((ls.take i).map fun x=>(iY x.2).1)/\Hid ((ls.take i).any (fun x=>(iY x.2).2.1 != 0)=false)/\Below w.heap.size w wr/\gk=n+1-i)
 case atStart=>exact⟨0,[],qd _,rfl,Own.nil _ _ _,d5.nil _ _,qa rfl,qk _ _,rfl⟩
 case round=>
  obtain⟨i,vs,hi,rfl,hO,hRW,HA,hB,hgk⟩:=hrel;have HO:=qa hO;have HRW:=qa hRW;have HB:=qa hB;have HGK:=qa hgk;have hvl:vs.length<=1000:=by rw[hRW.1,qy,qT];omega
  clear hB hgk hO hRW;by_cases hlt:i<n
  ·have qbi:=fun W=>HIX.o W i hlt
   have hbb:=hbl (by omega);have hbw:b<wr.heap.size:=by have:=HB.o.size;omega
   have HCW:Hid (∀c,c<2->wr.cell? ⟨b,off+i*2+c,none⟩=some ((#[.string ⟨(ls.getD i ([],[])).1.toArray⟩,.string ⟨(ls.getD i ([],[])).2.toArray⟩]:Array Value).getD c undef)):=qa (fun c hc=>by
    rw[HB.o.cell (p:=⟨b,off+i*2+c,none⟩) hbb];exact HC.o i hlt c hc)
   have HTS:Hid ((ls.take (i+1)).map (fun x=>(iY x.2).1)=(ls.take i).map (fun x=>(iY x.2).1)++[(iY (ls.getD i ([],[])).2).1]):=qa (by
    rw[aY ls i ([],[]) (by rw[<-HN.o];exact hlt),qD];rfl)
   have HAS:Hid ((ls.take (i+1)).any (fun x=>(iY x.2).2.1 != 0)=((iY (ls.getD i ([],[])).2).2.1 != 0)):=qa (by
    rw[q0U _ (by rw[<-HN.o];exact hlt),HA.o,Bool.false_or])
   have qc1:Hid (((iY (ls.getD i ([],[])).2).2.1 != 0)=true->R=([],4)):=qa (fun h=>by
    rw[HR.o];unfold vI;rw[qt];rw[List.any_eq_true];exact⟨_,by rw[qq,qv (by rw[<-HN.o];exact hlt)];exact ji _,h⟩)
   generalize ls.getD i ([],[])=x at*;obtain⟨xn,xt⟩:=x;simp only at HCW HTS HAS qc1;obtain⟨st,hst⟩:∃st:ByteArray,st=⟨xt.toArray⟩:=⟨_,rfl⟩;rw[<-hst]at HCW;have hxt:xt=bys st:=by rw[hst,mO]
   rw[hxt]at HTS HAS qc1;have HPI:Hid (∀W,Calls prog 22 #[.string st] W (q83 (iY (bys st)) W)):=qa (fun W=>HPX.o W st);generalize iY (bys st)=P at*;obtain⟨pl,pe,pb⟩:=P;simp only at HTS HAS qc1;clear HIX HC HPX hst hxt HA;have hc1:wr.cell? ⟨b,off+i*2+1,none⟩=some (.string st):=HCW.o 1 (by omega);clear HCW;by_cases hpe:pe=0
   ·subst hpe
    have qgr:=qa (HAS.o.trans rfl);clear HAS qc1 HR
    go_wp2_with(first
     |((with_reducible refine(HPI.o wr).mono ?_);rintro e w3 ⟨v3,c3,b3,rfl,ho,hb,hcc⟩;have HN3:Hid (aO w3 w.heap.size v3 pl):=qa (cA.mono ho HB.o.size);have HO3:=qa (HO.o.up hb);have HR3:Hid (d5 w3 w.heap.size vs _):=qa (HRW.o.all (fun v l h=>cA.up h hb));have HB3:=qa (HB.o.trans (hb.mono HB.o.size));obtain rfl:=hcc.2 rfl;clear ho hb hcc;obtain⟨oa3,cap3,hv3⟩:=aO.slice HN3.o;subst hv3;have hba:=aA w3 (.cells #[.slice oa3 pl.length cap3] 31);have HX4:Hid (Sl (w3.alloc (.cells #[.slice oa3 pl.length cap3] 31)) (.slice (some ⟨w3.heap.size,0,none⟩) 1 1) [.slice oa3 pl.length cap3]):=qa (by simpa using dY w3 #[.slice oa3 pl.length cap3] 31 (by simp));have HO4:=qa (HO3.o.up hba);have HR4:Hid (d5 (w3.alloc (.cells #[.slice oa3 pl.length cap3] 31)) w.heap.size (vs++[.slice oa3 pl.length cap3]) (_++[pl])):=qa ((HR3.o.snoc HN3.o).all (fun v l h=>cA.up h hba));have HB4:=qa (HB3.o.trans (hba.mono HB3.o.size));have HLE:Hid (vs.length+[Value.slice oa3 pl.length cap3].length<=4294967296):=qa (by simp;omega);clear hba)
     |(at_builtin;refine bM rfl (.tmp 27) (.tmp 29) 26 rfl w.heap.size 31 (.slice none 0 0) 24 underlying26 (by kernel_rfl) rfl (by decide) _ vs rfl HO4.o (.slice (some ⟨w3.heap.size,0,none⟩) 1 1) [.slice oa3 pl.length cap3] rfl HX4.o (by intro u hu;simp only[jd]at hu;subst hu;rfl) HLE.o HB4.o.size ?_;intro v5 w5 hown1 hg1 hk1;have HO5:=qa hown1;have HB5:=qa (HB4.o.grown hg1 HB4.o.size (fun q e=>(HO4.o.lt q e).1));have HR5:Hid (d5 w5 w.heap.size (vs++[.slice oa3 pl.length cap3]) (_++[pl])):=qa (HR4.o.all (fun v l h=>cA.keep h hg1 (lK HO4.o h (by decide))));clear hown1 hg1 hk1))
    go_roundg (n-i)
    case measure=>have:=HGK.o;omega
    case rel=>exact⟨i+1,_,by omega,by simp,HO5.o,by rw[HTS.o];exact HR5.o,qgr,HB5.o,by omega⟩
   have HRB:=qa (qc1.o (by simpa using hpe));clear HAS qc1 HR
   go_wp2_with(first
    |((with_reducible refine(HPI.o wr).mono ?_);rintro e w3 ⟨v3,c3,b3,rfl,ho,hb,hcc⟩;have HB3:=qa (HB.o.trans (hb.mono HB.o.size));have hc0:((c3:Int) != 0)=true:=(by have:c3≠0:=fun e=>hpe (hcc.1 e);simp;omega);clear ho hb hcc))
   go_ret2
   rw[HRB.o];exact⟨_,rfl,HNO.o _,HB3.o⟩
  obtain rfl:i=n:=by omega
  have HE:Hid (R=((ls.take i).map (fun x=>(iY x.2).1),0)):=qa (by
   have h1:=HA.o;rw[HN.o,qX]at h1;rw[HR.o,HN.o,qX];unfold vI;rw[h1];rfl)
  go_wp2
  go_ret2
  rw[HE.o];exact⟨_,rfl,⟨vs,HO.o,HRW.o⟩,HB.o⟩
theorem q6z(x:Nd)(c:Nat):(ndC x).getD c undef=(ndA x).getD c undef:=by
 show(ndC x).getD c undef=(ndC x).toArray.getD c undef;simp
theorem q84(W:World)(x:Nd):(binOp .neq 65 (.agg (ndA x)) (.agg (ndA x))).run prog W=.ok (.bool false) W:=by
 rw[run_neq_struct,pZ,qw (show N5 x x from⟨rfl,rfl,rfl,rfl,rfl⟩)];rfl
theorem qan{w:World}{v u:Value}{l:List Nd}(h:cB w v l)(h2:cB w u l):Calls prog 9 #[v,u] w fun e w'=>e=.returned (.bool true)/\∃x,w'=ext w x:=by
 obtain⟨oa,cap,b,off,rfl,hd,hc⟩:=h.open;obtain⟨oa2,cap2,b2,off2,rfl,hd2,hc2⟩:=h2.open;have hix:=fun(W:World) (i:Nat) (hi:i<l.length)=>gA hd W .i64 i (by omega) (by omega);have qca:=fun(W:World) (i:Nat) (hi:i<l.length)=>gA hd2 W .i64 i (by omega) (by omega);simp only[qA]at hix qca;have HIX:=qa hix;have qgb:=qa qca;have HC:=qa hc;have HC2:=qa hc2;have hbl:=hd.hblk;have qbO:=hd2.hblk;have hm:=hd.len;obtain⟨n,hnn⟩:∃n,n=l.length:=⟨_,rfl⟩;rw[<-hnn]at HIX qgb HC HC2 hbl qbO hm⊢;clear h h2 hd hc hix hd2 hc2 qca hnn;go_enter func9,ntmps9;go_wp2
 go_loopg [5] (n+1) (fun gk iv wr=>∃i:Nat,i<=n/\iv=.int .i64 i/\Below w.heap.size w wr/\gk=n+1-i)
 case atStart=>exact⟨0,qd _,rfl,qk _ _,rfl⟩
 case round=>
  obtain⟨i,hi,rfl,hB,hgk⟩:=hrel;have HB:=qa hB;have HGK:=qa hgk;clear hB hgk;by_cases hlt:i<n
  ·have qbi:=fun W=>HIX.o W i hlt
   have qiO:=fun W=>qgb.o W i hlt;have hbb:=hbl (by omega);have qjn:=qbO (by omega)
   have HCW:Hid (∀w',(∃n,w'=wr.drewN n)->∀c,c<8->w'.cell? ⟨b,off+i*8+c,none⟩=some ((ndA (l.getD i zN)).getD c undef)):=qa (fun w' hw c hc=>by
    have hb:=HB.o.trans ((by obtain⟨n,rfl⟩:=hw;exact aN wr n:Below wr.heap.size wr w').mono HB.o.size);rw[hb.cell (p:=⟨b,off+i*8+c,none⟩) hbb];exact(HC.o i hlt c hc).trans (qW some (q6z _ c)))
   have qk2:Hid (∀w',(∃n,w'=wr.drewN n)->∀c,c<8->w'.cell? ⟨b2,off2+i*8+c,none⟩=some ((ndA (l.getD i zN)).getD c undef)):=qa (fun w' hw c hc=>by
    have hb:=HB.o.trans ((by obtain⟨n,rfl⟩:=hw;exact aN wr n:Below wr.heap.size wr w').mono HB.o.size);rw[hb.cell (p:=⟨b2,off2+i*8+c,none⟩) qjn];exact(HC2.o i hlt c hc).trans (qW some (q6z _ c)))
   generalize l.getD i zN=x at*;have g1:=vG;have qlg:=fun W=>q84 W x;have hsz:(ndA x).size=8:=rfl;have HSZ:=qa hsz;generalize ndA x=X at*;clear HIX qgb HC HC2 hsz;go_wp2;go_simp;refine wp_region_quiet_lit (by kernel_rfl) (by kernel_rfl) ?_
   repeat(first
    |(go_big_quiet_want;refine dO 65 8 _ rfl b (off+i*8) rfl X HSZ.o HCW.o _ underlying65 rfl (by kernel_rfl) ?_;go_simp;go_big_quiet_on)
    |(go_big_quiet_want;refine dO 65 8 _ rfl b2 (off2+i*8) rfl X HSZ.o qk2.o _ underlying65 rfl (by kernel_rfl) ?_;go_simp;go_big_quiet_on)
    |go_big_quiet_step (fail))
   refine wpQuiet_nil ?_;rintro _ ⟨nq,rfl⟩;have HBd:=qa (HB.o.trans ((aN wr nq).mono HB.o.size));generalize wr.drewN nq=w5 at*;go_wp2
   go_roundg (n-i)
   case measure=>have:=HGK.o;omega
   case rel=>exact⟨i+1,by omega,by go_num,HBd.o,by omega⟩
  obtain rfl:i=n:=by omega
  go_wp2;go_ret;exact⟨rfl,aI HB.o⟩
end Go.Cm
