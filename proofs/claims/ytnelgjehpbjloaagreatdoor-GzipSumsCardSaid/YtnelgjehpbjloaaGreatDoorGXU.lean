/- Walks of functions and plain facts, joined and squeezed by a program. Conditions: as each says. -/
import Derived.Test.YtnelgjehpbjloaaGreatDoorGXQ
import Derived.Test.YtnelgjehpbjloaaGreatDoorGXP
set_option maxHeartbeats 8000000
set_option maxRecDepth 100000
set_option linter.unusedSimpArgs false
namespace Go.Cm
open Go.RowKit Go.Proofs
theorem I2:∀(l:qK),leB (leN l) l.length=l
 |[]=>rfl
 |b::l=>by
  have hb:=UInt8.toNat_lt b;rw[List.length_cons,leB,leN,show(b.toNat+256*leN l)%256=b.toNat by omega,show(b.toNat+256*leN l)/256=leN l by omega,I2 l,UInt8.ofNat_toNat]
end Go.Cm
namespace Go.Cm
attribute [local irreducible] j8
theorem q77{s s':ByteArray}{k:Nat}{x:UInt8}(hz:(jI s).2=[])(hs':bys s'=(bys s).set k x)(hne:x≠(bys s).getD k 0)(hk:s.size-8<=k)(hk2:k<s.size):8<=s.size/\(jI s).1.q<=8*(s.size-8)/\8*(s.size-8)<(jI s).1.q+8/\(jI s').2=[(if k<s.size-4 then 5 else 6,s.size-8)]:=by
 obtain⟨p0,p1,p2,p3,p4⟩:=tE hz;obtain⟨t1,t2,t3⟩:=tD.1 p3;have hsz':s'.size=s.size:=by rw[<-qF,hs',List.length_set,qF]
 have hhl:=o6 (s:=s);have hen:=Q5 (s:=s) (t:=[]) (p:=8*(qU s).2.2) (by omega) p2
 have hq:(jI s).1.q=enI s [] (8*(qU s).2.2):=by rw[p4]
 have hpe:8*(qU s).2.2<=enI s [] (8*(qU s).2.2):=by
  have hok:=cA (s:=s) (t:=[]) (p:=8*(qU s).2.2) (by omega)
  have:=(cW (N:=qH s) (bs:=bys s) (t8 s) hok (2*(8*s.size)+2)).2.1 p2
  rcases this.2 with h|h
  ·rcases Nat.lt_or_ge (enI s [] (8*(qU s).2.2)) (8*(qU s).2.2)with hc|hc
   ·exfalso
    have qbx:∀k,(j5 (qH s) (8*s.size) (j8 []).length (bys s) (eH [] (8*(qU s).2.2)) k).1=0->8*(qU s).2.2<=(j5 (qH s) (8*s.size) (j8 []).length (bys s) (eH [] (8*(qU s).2.2)) k).2.p:=by
     intro k
     induction k with
     |zero=>intro _;exact q9 _
     |succ k ih=>
      intro hk0;have hk1:=C5 hk0;have ih:=ih hk1
      by_cases hs:aK (j5 (qH s) (8*s.size) (j8 []).length (bys s) (eH [] (8*(qU s).2.2)) k)
      ·rw[bQ hs 1];exact ih
      ·obtain⟨g1,g2,-⟩:=o9 hk0 hs
       obtain⟨-,q,-⟩:=cW (N:=qH s) (bs:=bys s) (t8 s) hok k;have iok:=(q hk1).1;have ok:=q17 (bs:=bys s) (N:=qH s) (t8 s) iok (fun e=>hs (.inr e)) g1
       rw[g2];have h1:=ok.mu;have h2:=ok.p;have h4:=iok.p;unfold muI at h1;split at h1<;>split at h1<;>omega
    have:=qbx _ p2;have e:enI s [] (8*(qU s).2.2)=(j5 (qH s) (8*s.size) (j8 []).length (bys s) (eH [] (8*(qU s).2.2)) (2*(8*s.size)+2)).2.p:=rfl;rw[<-e]at this;omega
   ·exact hc
  ·exact absurd h (by
    have h5:muI (8*s.size) (eH [] (8*(qU s).2.2))<=2*(8*s.size)+1:=by unfold muI;split<;>omega
    omega)
 generalize hn:s.size-8=n at*;have h8:s.size=n+8:=by omega
 have han:(enI s [] (8*(qU s).2.2)+7)/8=n:=by omega
 have htk:(bys s').take n=(bys s).take n:=by rw[hs',List.take_set_of_le hk]
 have hpa:=(t7 (s:=s) (s':=s') (m:=n) (by omega) htk p1 (by omega)).1
 have hA:=R8 (s:=s) (s':=s') (g:=[]) (b:=(bys s).take n) (x:=(bys s).drop n) (y:=(bys s').drop n) (by rw[List.take_append_drop]) (by rw[List.nil_append,<-htk,List.take_append_drop])
 obtain⟨b1,b2,b3,b4⟩:=xR hA (p:=8*(qU s).2.2) (by omega) (by simp;omega) p2 (by rw[List.length_take,qF];omega)
 rw[List.length_nil,Nat.mul_zero,Nat.add_zero]at b1 b2 b3;rw[Nat.add_zero]at b3
 have qev:∀a,a<=k->k<a+4->a+4<=s.size->qJ s' a 4≠qJ s a 4:=by
  intro a h1 h2 h3 e;unfold qJ at e;have e2:=congrArg (fun m=>leB m 4) e
  have l1:(((bys s').drop a).take 4).length=4:=by rw[List.length_take,List.length_drop,qF];omega
  have l2:(((bys s).drop a).take 4).length=4:=by rw[List.length_take,List.length_drop,qF];omega
  have f1:=I2 (((bys s').drop a).take 4);have f2:=I2 (((bys s).drop a).take 4);rw[l1]at f1;rw[l2]at f2;rw[f1,f2]at e2;have e3:=congrArg (fun l:qK=>l[k-a]?) e2
  simp only[List.getElem?_take,List.getElem?_drop,if_pos (show k-a<4 by omega),show a+(k-a)=k by omega,hs']at e3
  rw[List.getElem?_set_self (by rw[qF];exact hk2)]at e3
  apply hne
  rw[List.getD_eq_getElem?_getD,<-e3];rfl
 have qj4:∀a,(k<a\/a+4<=k)->qJ s' a 4=qJ s a 4:=by
  intro a h;unfold qJ;rw[hs']
  congr 1
  refine List.ext_getElem? fun i=>?_
  simp only[List.getElem?_take,List.getElem?_drop]
  by_cases hi:i<4
  ·rw[if_pos hi,if_pos hi,List.getElem?_set_ne (by omega)]
  ·rw[if_neg hi,if_neg hi]
 refine⟨by omega,by omega,by omega,?_⟩
 rw[han]at t2 t3
 have htl:cZ s' (enI s [] (8*(qU s).2.2)) (txI s [] (8*(qU s).2.2))=[(if k<s.size-4 then 5 else 6,n)]:=by
  unfold cZ;rw[han,hsz',if_neg (by omega)]
  by_cases h4:k<s.size-4
  ·rw[if_pos h4,if_pos (by rw[<-t2];exact qev n hk (by omega) (by omega))]
  ·rw[if_neg h4,if_neg (by rw[<-t2];exact fun c=>c (qj4 n (.inr (by omega)))),if_pos (by rw[<-t3];exact qev (n+4) (by omega) (by omega) (by omega))]
 unfold jI;generalize (16777216:Nat)=M at*;rw[if_neg (by omega),hpa,if_neg (fun c=>c p1),b1,if_neg (fun c=>c rfl),b2,b3,htl,if_pos (by simp)]
end Go.Cm
namespace Go.Cm
open Go.RowKit Go.Proofs
attribute [local irreducible] j8
theorem q1W(w:World)(g i:Nat)(u:Value):w.grownBy (w.setCell ⟨g,i,none⟩ u) (some g):=by
 have h:=(qj 0 w).setCell (p:=⟨g,i,none⟩) (qc _) u
 exact⟨h.os,h.tape,h.output,h.size,fun k _ hne=>Below.heap_setCell w ⟨g,i,none⟩ u k (fun e=>hne (by rw[e]))⟩
theorem q3E(y:UInt8)(m:Nat)(hm:m<8):bits .xor .u8 (y.toNat:Int) ((2^m:Nat):Int)=(((y^^^UInt8.ofNat (2^m)).toNat:Nat):Int)/\y^^^UInt8.ofNat (2^m)≠y:=by
 have h2:2^m<256:=by
  have:=Nat.pow_lt_pow_right (a:=2) (by decide) hm
  omega
 refine⟨?_,?_⟩
 ·rw[u8_xor_nat _ _ (UInt8.toNat_lt y) h2,UInt8.toNat_xor,UInt8.toNat_ofNat',Nat.mod_eq_of_lt h2]
 ·intro e
  have h3:y^^^(y^^^UInt8.ofNat (2^m))=y^^^y:=by rw[e]
  rw[<-UInt8.xor_assoc,UInt8.xor_self,UInt8.zero_xor]at h3;have h4:=congrArg UInt8.toNat h3;rw[UInt8.toNat_ofNat',Nat.mod_eq_of_lt h2]at h4;have:0<2^m:=Nat.pow_pos (by decide)
  have h5:(0:UInt8).toNat=0:=rfl;omega
theorem q3F{w:World}{s:ByteArray}{at_ bit:Nat}(hs0:s.size<=4611686018427387904)(hat:at_<=255)(qmn:bit<=255)(hL:jK w):Calls Tryz.prog 5 #[.string s,.int .u8 at_,.int .u8 bit] w fun e w'=>e=.returned (.bool true)/\∃x,w'=ext w x:=by
 have HL:=q7 hL
 by_cases hs:s.size<=700
 ·have hsi:decide ((s.size:Int)>700)=false:=by rw[qm];omega
  have HPP:=q7 (fun(W:World) (h:jK W)=>iM (s:=s) (by omega) h)
  have HBA:=q7 (pF (s:=s));have HLN:=q7 (pE (s:=s) (by omega)).2.1
  have HTU:=q7 (fun(s':ByteArray) (k:Nat) (x:UInt8) (hz:(jI s).2=[]) (hs':bys s'=(bys s).set k x) (hne:x≠(bys s).getD k 0) (hk:s.size-8<=k) (hk2:k<s.size)=>q77 hz hs' hne hk hk2)
  have HT0:=q7 (fun(hz:(jI s).2=[])=>tD.1 (tE hz).2.2.2.1)
  unfold S1 at HPP;generalize hY:jI s=Y at*;have HY:=q7 hY;clear hY;obtain⟨⟨yh,yp,yq,yst,yt⟩,yl⟩:=Y;simp only at HPP HBA HLN HTU HT0;clear hL
  go_enter Tryz.func5,Tryz.ntmps5
  go_upto_region 3 with(fail)
  go_upto_region 4 with(first
   |((with_reducible go_at_call 13);(with_reducible refine(HPP.out w HL.out).mono ?_);rintro en w1 ⟨oa,n,k,c,vb,rfl,hc,hsl,⟨e1,rfl,hbl⟩,hb⟩;have HC:=q7 hc;have HSL:=q7 hsl;have HBL:=q7 hbl;have HB1:=q7 hb;have HT:=q7 (oC w1);clear hc hsl hbl hb)
   |(refine qo rfl 38 _ _ rfl w1.heap.size 38 w1.heap.size 13 13 rfl (ifC yh yp yq (.slice oa n k) c) rfl (by kernel_rfl) zIf.toList HT.out.1 (by simp[zIf,ifC]) (dN _ _ _ _ _ _ _) ?_;intro w2 ho hg;have qbi:=q7 ho;have HG2:=q7 hg;have HC2:=q7 (HT.out.2.1.keep hg (.inr (fun e=>by have h9:w1.heap.size+1=w1.heap.size:=ql e;omega)));clear ho hg)
   |(refine qo rfl 42 _ _ rfl w1.heap.size 42 (w1.heap.size+1) 1 1 rfl #[e1] rfl (by kernel_rfl) [.nilIface] HC2.out (by simp) (by intro u hu;simp at hu;rw[hu];exact HBL.out.one) ?_;intro w3 ho hg;have qbk:=q7 ho;have HG3:=q7 hg;clear ho hg))
  have HI2:Hid (Own w2 w1.heap.size 38 (.slice (some ⟨w1.heap.size,0,none⟩) 13 13) (ifC yh yp yq (.slice oa n k) c).toList):=qbi;have HD3:Hid (Own w3 w1.heap.size 42 (.slice (some ⟨w1.heap.size+1,0,none⟩) 1 1) [e1]):=qbk;have hb2:=(HT.out.2.2.grown HG2.out HT.out.2.2.size (fun k e=>by cases e;exact q9 _))
  have q9d:Hid (Below w1.heap.size w1 w3):=q7 (hb2.grown HG3.out hb2.size (fun k e=>by cases e;omega))
  have HB3:=q7 (qq HB1.out q9d.out);have HI3:=q7 (HI2.out.keep HG3.out (.inr (fun e=>by have h9:w1.heap.size=w1.heap.size+1:=ql e;omega)))
  have qd9:=q7 (HSL.out.up q9d.out);have HE3:=q7 (HBL.out.up q9d.out);obtain⟨g1,hg1⟩:∃g1,g1=w1.heap.size:=⟨_,rfl⟩;rw[<-hg1]at HD3 HI3⊢;clear qbi qbk HT HC2 HG2 HG3 HI2 hb2 q9d HB1 HSL HBL HPP hg1;have HDP:=q7 (tR (HL.out.up HB3.out) ⟨e1,rfl,HE3.out⟩ (qa HLN.out (by decide)))
  have j1:w3.cell? ⟨g1+1,0,none⟩=some e1:=HD3.out.cell (i:=0) (by simp)
  have m1:=HD3.out.blk.2;have qfP:=q7 HD3.out.box1
  by_cases hyl:yl=[]
  ·subst hyl
   simp only[List.length_nil]at HDP;obtain⟨h8,-⟩:=HT0.out rfl;have h88:8<=s.size:=by omega
   obtain⟨nn,hnn⟩:=Nat.exists_eq_add_of_le' h88;obtain⟨kk,hkk⟩:∃kk,kk=nn+at_%8:=⟨_,rfl⟩;have hbt:=q3E ((bys s).getD kk 0) (bit%8) (Nat.mod_lt _ (by decide))
   obtain⟨s',hs'⟩:∃s':ByteArray,bys s'=(bys s).set kk ((bys s).getD kk 0^^^UInt8.ofNat (2^(bit%8))):=⟨⟨((bys s).set kk ((bys s).getD kk 0^^^UInt8.ofNat (2^(bit%8)))).toArray⟩,rfl⟩;obtain⟨-,t2,t3,t4⟩:=HTU.out s' kk _ rfl hs' hbt.2 (by omega) (by omega)
   have hsz':s'.size=s.size:=by rw[<-qF,hs',List.length_set,qF]
   have hz':=pF (s:=s') (by rw[t4];simp)
   obtain⟨cd,hcd⟩:∃cd,cd=if kk<s.size-4 then 5 else 6:=⟨_,rfl⟩
   have hn8:s.size-8=nn:=by omega
   rw[<-hcd,hn8]at t4;have qgv:jI s'=(zGI,[(cd,nn)]):=Prod.ext hz' t4;have HP2:=q7 (fun(W:World) (h:jK W)=>iM (s:=s') (by omega) h)
   rw[qgv]at HP2;unfold S1 at HP2;rw[hn8]at t2 t3;have hq1:decide ((yq:Int)>8*(nn:Int))=false:=by rw[qm];omega
   have hq2:decide ((yq:Int)<=8*(nn:Int)-8)=false:=by rw[qm];omega
   have hnb:(nn:Int)<=700:=by omega
   have HKK:=q7 hkk;have qed:=q7 hcd;have HBT:=q7 hbt.1;have HS':=q7 hs';have HZ':=q7 hsz';have HNN:=q7 hnn;have hkl:kk<nn+8:=by omega
   clear hcd hkk hbt hs' hsz' hz' t2 t3 t4 qgv hn8 h8 h88 HT0 HTU HBA HLN HY
   go_upto_region 6 with(first
    |(refine qI rfl 42 1 _ rfl (g1+1) rfl #[e1] rfl qfP.out _ Tryz.underlying42 rfl (by kernel_rfl) ?_)
    |((with_reducible go_at_call 14);(with_reducible refine HDP.out.mono ?_);rintro en w4 ⟨rfl,hx⟩;have hb:=qr hx;have HB4:=q7 (qq HB3.out hb);have HI4:=q7 (HI3.out.up hb);clear hx hb))
   have j10:w4.cell? ⟨g1,10,none⟩=some (.int .i64 yq):=HI4.out.cell (i:=10) (by simp[ifC])
   have m4:=HI4.out.blk.2
   go_upto_region 9 with(fail)
   clear hq1 hq2 j10 m4
   go_upto_region 10 with((with_reducible show wpList _ _ _ (Oper.mk _ (.convert _ _ _) _ _ _ _::_) _ _);refine eF rfl 9 49 5 (.tmp 59) rfl Tryz.underlying9 Tryz.underlying49 Tryz.underlying5 s rfl (by omega) ?_;intro vb w5 hob hb5;have HOB:=q7 hob;have HB5:=q7 (qq HB4.out hb5);clear hob hb5)
   obtain⟨ob,cb,bb,fb,hvb,-,-⟩:=HOB.out.sl;have hlen:(qD (bys s)).length=nn+8:=by rw[qz,qF,HNN.out]
   have hg:∃gb,ob=some ⟨gb,0,none⟩:=by
    obtain⟨-,⟨-,h2⟩|⟨g',cap',cur,fz,h2,-⟩⟩:=HOB.out
    ·have:=congrArg List.length h2
     rw[hlen]at this
     simp at this
    ·rw[hvb]at h2
     cases h2
     exact⟨g',rfl⟩
   obtain⟨gb,rfl⟩:=hg;rw[hlen]at hvb;subst hvb;clear hlen
   go_upto_region 11 with(fail)
   rw[show((nn:Int)+(at_:Int)%8)=((kk:Nat):Int) by rw[HKK.out];omega]
   obtain⟨oa6,cap6,b6,off6,hv6,hd6,-⟩:=HOB.out.sl;have hlen:(qD (bys s)).length=nn+8:=by rw[qz,qF,HNN.out]
   rw[hlen]at hv6
   cases hv6
   have hb6:b6=gb/\off6=0:=by
    have h1:=hd6.hat (by rw[qz,qF,HNN.out];omega)
    cases h1
    exact⟨rfl,rfl⟩
   obtain⟨rfl,rfl⟩:=hb6;rw[hlen]at hd6;have hix:=qQ (P:=Tryz.prog) 49 5 Tryz.underlying49 (by kernel_rfl) hd6
   have q9a:=fun W kd=>hix W kd (kk:Int) (by omega) (by omega)
   simp only[Int.toNat_natCast,Nat.zero_add]at q9a;obtain⟨hc0,hf0⟩:=HOB.out.cell (i:=kk) (by omega)
   rw[nS (bys s) kk (by rw[qF,HNN.out];omega)]at hc0
   have hst:=HOB.out.store (i:=kk) (by omega) (.int .u8 (((bys s).getD kk 0^^^UInt8.ofNat (2^(bit%8))).toNat:Nat))
   rw[uV,<-HS'.out]at hst;have HST:=q7 hst;have HLB:=q7 hd6.hblk;have hbl:=hd6.hblk (by omega)
   have hyb:=UInt8.toNat_lt ((bys s).getD kk 0)
   have hbm:(2:Nat)^(bit%8)<256:=by
    have:=Nat.pow_lt_pow_right (a:=2) (by decide) (Nat.mod_lt bit (show 0<8 by decide))
    omega
   have hxt:=HBT.out;obtain⟨yy,hyy⟩:∃yy,yy=((bys s).getD kk 0).toNat:=⟨_,rfl⟩;obtain⟨xx,hxx⟩:∃xx,xx=((bys s).getD kk 0^^^UInt8.ofNat (2^(bit%8))).toNat:=⟨_,rfl⟩;rw[<-hyy]at hc0 hxt hyb;rw[<-hxx]at hxt HST;clear hix hd6 hlen hst hyy hxx HBT
   go_upto_region 12 with(fail)
   have qgw:((2:Int)^(bit%8)%256)=((2^(bit%8):Nat):Int):=by
    rw[Int.natCast_pow];refine Int.emod_eq_of_lt (Int.pow_nonneg (by decide)) ?_
    have h9:(((2^(bit%8):Nat)):Int)<256:=by omega
    rwa [Int.natCast_pow]at h9
   rw[qgw,hxt];have qhi:=(q1W w5 b6 kk (.int .u8 (xx:Nat)));have HB6:=q7 (HB5.out.grown qhi HB5.out.size (fun k e=>by cases e;exact qa HB4.out.size (HOB.out.lt _ rfl).1))
   clear q9a hc0 hf0 hbl hyb hbm hxt qgw qhi HLB HOB HB5 hkl;generalize w5.setCell ⟨b6,kk,none⟩ (.int .u8 (xx:Nat))=w6 at*;have hcv:=j7 (P:=Tryz.prog) w6 49 9 5 Tryz.underlying49 Tryz.underlying5 Tryz.underlying9 (.slice (some ⟨b6,0,none⟩) (nn+8) cb) (bys s') HST.out.sl;rw[pB]at hcv;have HCV:=q7 hcv;clear hcv
   go_upto_region 13 with(first
    |((with_reducible show wpList _ _ _ (Oper.mk _ (.convert _ _ _) _ _ _ _::_) _ _);refine aD rfl 49 9 (.tmp 78) rfl _ HCV.out ?_)
    |((with_reducible go_at_call 13);(with_reducible refine(HP2.out w6 (HL.out.up HB6.out)).mono ?_);rintro en w7 ⟨oa7,n7,k7,c7,vb7,rfl,hc7,qiZ,⟨e7,rfl,qhg⟩,hb⟩;have qdt:=q7 qhg;have HB7:=q7 (qq HB6.out hb);have HT:=q7 (oC w7);clear hc7 qiZ qhg hb)
    |(refine qo rfl 38 _ _ rfl w7.heap.size 38 w7.heap.size 13 13 rfl (ifC zGH 0 0 (.slice oa7 n7 k7) c7) rfl (by kernel_rfl) zIf.toList HT.out.1 (by simp[zIf,ifC]) (dN _ _ _ _ _ _ _) ?_;intro w8 ho hg;have HG8:=q7 hg;have HC8:=q7 (HT.out.2.1.keep hg (.inr (fun e=>by have h9:w7.heap.size+1=w7.heap.size:=ql e;omega)));clear ho hg)
    |(refine qo rfl 42 _ _ rfl w7.heap.size 42 (w7.heap.size+1) 1 1 rfl #[e7] rfl (by kernel_rfl) [.nilIface] HC8.out (by simp) (by intro u hu;simp at hu;rw[hu];exact qdt.out.one) ?_;intro w9 ho hg;have qij:=q7 ho;have HG9:=q7 hg;clear ho hg))
   have HD9:Hid (Own w9 w7.heap.size 42 (.slice (some ⟨w7.heap.size+1,0,none⟩) 1 1) [e7]):=qij;have hb8:=HT.out.2.2.grown HG8.out HT.out.2.2.size (fun k e=>by cases e;exact q9 _)
   have qg5:Hid (Below w7.heap.size w7 w9):=q7 (hb8.grown HG9.out hb8.size (fun k e=>by cases e;omega))
   have HB9:=q7 (qq HB7.out qg5.out);have HE9:=q7 (qdt.out.up qg5.out);have HGX:=q7 HD9.out.box1;have HCO:=q7 (q0U (HL.out.up HB9.out) ⟨e7,rfl,HE9.out⟩);simp only[List.headD_cons]at HCO;clear hb8 qij HT HC8 HG8 HG9 qg5 qdt HB7 HCV HST HB6 HP2 HI4 HB4 qfP HDP HE3 qd9 HI3 HD3 HC HB3
   by_cases hk4:kk<nn+4
   ·have hge:decide ((kk:Int)≥(nn:Int)+4)=false:=by rw[qm];omega
    have hcd:cd=5:=by rw[qed.out,if_pos (by have:=HNN.out;omega)]
    subst hcd;clear qed HNN HKK
    go_wp2_with(first
     |(refine qI rfl 42 1 _ rfl (w7.heap.size+1) rfl #[e7] rfl HGX.out _ Tryz.underlying42 rfl (by kernel_rfl) ?_)
     |((with_reducible go_at_call 16);(with_reducible refine HCO.out.mono ?_);rintro en wa ⟨rfl,hx⟩;have hb:=qr hx;have HBa:=q7 (qq HB9.out hb);have HDa:=q7 (HD9.out.up hb);have HEa:=q7 (HE9.out.up hb);have ja:wa.cell? ⟨w7.heap.size+1,0,none⟩=some e7:=HDa.out.cell (i:=0) (by simp);have ma:=HDa.out.blk.2;have HAT:=q7 (atB (HL.out.up HBa.out) ⟨e7,rfl,HEa.out⟩);clear hx hb)
     |((with_reducible go_at_call 17);(with_reducible refine HAT.out.mono ?_);rintro en wb ⟨rfl,hx⟩;have HBb:=q7 (qq HBa.out (qr hx));have HK:=q7 (dO (HL.out.up HBb.out));clear hx)
     |((with_reducible go_at_call 8);(with_reducible refine HK.out.mono ?_);rintro en wc ⟨rfl,hx⟩;have HBc:=q7 (qq HBb.out (qr hx));clear hx))
    go_ret
    exact⟨rfl,qt HBc.out⟩
   ·have hge:(kk:Int)≥(nn:Int)+4:=by omega
    have hcd:cd=6:=by rw[qed.out,if_neg (by have:=HNN.out;omega)]
    subst hcd;clear qed HNN HKK
    go_wp2_with(first
     |(refine qI rfl 42 1 _ rfl (w7.heap.size+1) rfl #[e7] rfl HGX.out _ Tryz.underlying42 rfl (by kernel_rfl) ?_)
     |((with_reducible go_at_call 16);(with_reducible refine HCO.out.mono ?_);rintro en wa ⟨rfl,hx⟩;have hb:=qr hx;have HBa:=q7 (qq HB9.out hb);have HDa:=q7 (HD9.out.up hb);have HEa:=q7 (HE9.out.up hb);have ja:wa.cell? ⟨w7.heap.size+1,0,none⟩=some e7:=HDa.out.cell (i:=0) (by simp);have ma:=HDa.out.blk.2;have HAT:=q7 (atB (HL.out.up HBa.out) ⟨e7,rfl,HEa.out⟩);clear hx hb)
     |((with_reducible go_at_call 17);(with_reducible refine HAT.out.mono ?_);rintro en wb ⟨rfl,hx⟩;have HBb:=q7 (qq HBa.out (qr hx));have HK:=q7 (dO (HL.out.up HBb.out));clear hx)
     |((with_reducible go_at_call 8);(with_reducible refine HK.out.mono ?_);rintro en wc ⟨rfl,hx⟩;have HBc:=q7 (qq HBb.out (qr hx));clear hx))
    go_ret
    exact⟨rfl,qt HBc.out⟩
  ·have hz:=HBA.out hyl
   simp only[zGI,GI.mk.injEq]at hz;obtain⟨-,-,-,rfl,rfl⟩:=hz;obtain rfl:c=⟨#[]⟩:=fZ (HC.out.trans rfl);obtain⟨LN,hLN⟩:∃LN,LN=yl.length:=⟨_,rfl⟩
   have hln:(LN:Int)>0:=by
    have:yl.length≠0:=fun e=>hyl (List.length_eq_zero_iff.1 e)
    omega
   rw[<-hLN]at HDP;have hn0:n=0:=by obtain⟨oa',cap',b',off',e,-⟩:=qd9.out;cases e;rfl
   subst hn0;clear hLN hyl HLN HBA HTU HT0
   go_upto_region 5 with(first
    |(refine qI rfl 42 1 _ rfl (g1+1) rfl #[e1] rfl qfP.out _ Tryz.underlying42 rfl (by kernel_rfl) ?_)
    |((with_reducible go_at_call 14);(with_reducible refine HDP.out.mono ?_);rintro en w4 ⟨rfl,hx⟩;have hb:=qr hx;have HB4:=q7 (qq HB3.out hb);have HI4:=q7 (HI3.out.up hb);clear hx hb))
   have j11:w4.cell? ⟨g1,11,none⟩=some (.slice oa 0 k):=HI4.out.cell (i:=11) (by simp[ifC])
   have j12:w4.cell? ⟨g1,12,none⟩=some (.string ⟨#[]⟩):=HI4.out.cell (i:=12) (by simp[ifC])
   have m4:=HI4.out.blk.2;have HK:=q7 (dO (HL.out.up HB4.out))
   go_wp2_with((with_reducible go_at_call 8);(with_reducible refine HK.out.mono ?_);rintro en w5 ⟨rfl,hx⟩;have HB5:=q7 (qq HB4.out (qr hx));clear hx)
   go_ret
   exact⟨rfl,qt HB5.out⟩
 ·have hsi:(s.size:Int)>700:=by omega
  have HK:=q7 (dO HL.out);clear hL
  go_enter Tryz.func5,Tryz.ntmps5
  go_wp2_with((with_reducible go_at_call 8);(with_reducible refine HK.out.mono ?_);rintro en w3 ⟨rfl,hx⟩;have HB3:=q7 (qr hx);clear hx)
  go_ret
  exact⟨rfl,qt HB3.out⟩
end Go.Cm
