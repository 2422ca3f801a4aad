/- Walks of functions and plain facts, joined and squeezed by a program. Conditions: as each says. -/
import Derived.Test.YtiladjhipahiiaaDMXM
set_option maxHeartbeats 8000000
set_option maxRecDepth 100000
set_option linter.unusedSimpArgs false
open Go.Proofs.Try
namespace Go.Cm
open Go.RowKit Go.Proofs
theorem ZmN0{P:Prop}(h:P:=by
 go_upto_region 5 with(first
  |((with_reducible refine HDM.o.mono ?_);rintro e w2 ⟨vc,rfl,⟨C0,rfl,hdv⟩,hb⟩;have HDV:=qa hdv;have HB2:=qa (HB1.o.trans (hb.mono HB1.o.size));clear hdv hb)
  |(refine lS rfl _ _ rfl w2.heap.size rfl C0 rfl HDV.o (HBN.o w2) ?_;intro wd hg hgr;obtain⟨hd,hb⟩:=pU.new HDV.o hg hgr;have HDI:=qa hd;have HB3:=qa (HB2.o.trans (hb.mono HB2.o.size));clear hg hgr hd hb)
  |((with_reducible refine(HNM.o _ HB3.o).mono ?_);rintro e w4 ⟨rfl,x4,rfl⟩;have q6m:=qa (HDI.o.up (aC wd x4));have HB4:=qa (HB3.o.trans ((aC wd x4).mono HB3.o.size))))
 have HCS:=qa q6m.o.2.hsize;obtain⟨oz,cz,hnz⟩:=q08 q6m.o.2;have hcn:(ext wd x4).cell? ⟨w2.heap.size,256,none⟩=some (.slice oz 0 cz):=(cell_of_row _ w2.heap.size 256 C0 29 (0,0) q6m.o.1).trans hnz;have hgl:=q6m.o.lt;generalize ext wd x4=w4 at*;generalize w2.heap.size=g0 at*;clear hnz
 go_wp2_with((with_reducible refine(HKN.o _).mono ?_);rintro en w5 ⟨rfl,x5,rfl⟩)
 go_ret;exact⟨rfl,aF (dW HB4.o x5)⟩):P:=h
theorem q2Z{w:World}:Calls prog 5 #[] w fun e w'=>e=.returned (.bool true)/\∃x,w'=ext w x:=by
 have hz:=vU;obtain⟨Z,hZ⟩:∃Z,Z=yH:=⟨_,rfl⟩;rw[<-hZ]at hz;have HBN:Hid (∀W:World,lQ (W.alloc (.cells Z 29)) W.heap.size (.slice none 0 0) (.slice none 0 0) (List.replicate 256 0)):=qa (fun W=>hZ▸zS W);have HB:=qa (qn w.heap.size w)
 have HP0:Hid (∀W,Calls prog 13 #[.string ⟨#[97,124,98]⟩] W (q2Y (nA,0,0) W)):=qa (fun W=>by
  have h:=q1X (s:=⟨#[97,124,98]⟩) (w:=W);rw[show bys ⟨#[97,124,98]⟩=[97,124,98]from rfl,prA]at h;exact h)
 have HP1:Hid (∀W,Calls prog 13 #[.string ⟨#[97,42,98]⟩] W (q2Y (nB,0,0) W)):=qa (fun W=>by
  have h:=q1X (s:=⟨#[97,42,98]⟩) (w:=W);rw[show bys ⟨#[97,42,98]⟩=[97,42,98]from rfl,prB]at h;exact h)
 have hqA:∀x∈nA,NdQ x:=qAB nA jg;have hqB:∀x∈nB,NdQ x:=qAB nB (qX _ jg)
 have HM1:Hid (∀W v,aO W v nA->Calls prog 14 #[v,.string ⟨#[98]⟩] W fun e w'=>e=.returned (.bool true)/\∃x,w'=ext W x):=qa (fun W v h=>by
  have h:=sN ⟨#[98]⟩ (by decide) h hqA;rw[show bys ⟨#[98]⟩=[98]from rfl,q5M]at h;exact h)
 have HM2:Hid (∀W v,aO W v nA->Calls prog 14 #[v,.string ⟨#[97,98]⟩] W fun e w'=>e=.returned (.bool false)/\∃x,w'=ext W x):=qa (fun W v h=>by
  have h:=sN ⟨#[97,98]⟩ (by decide) h hqA;rw[show bys ⟨#[97,98]⟩=[97,98]from rfl,q5N]at h;exact h)
 have HM3:Hid (∀W v,aO W v nB->Calls prog 14 #[v,.string ⟨#[97,97,98]⟩] W fun e w'=>e=.returned (.bool true)/\∃x,w'=ext W x):=qa (fun W v h=>by
  have h:=sN ⟨#[97,97,98]⟩ (by decide) h hqB;rw[show bys ⟨#[97,97,98]⟩=[97,97,98]from rfl,q5O]at h;exact h)
 have HF1:Hid (∀W v,aO W v nA->Calls prog 15 #[v,.int .u8 99] W fun e w'=>∃o c,e=.returned (.slice o 0 c)/\Below W.heap.size W w'):=qa (fun W v h=>by
  refine(U6 99 (by decide) h hqA).mono ?_;rintro e w' ⟨u,rfl,hn,hb⟩;rw[q5P]at hn;obtain⟨oa,cap,b,off,rfl,-,-⟩:=hn.open;exact⟨_,_,rfl,hb⟩)
 have HF2:Hid (∀W v,aO W v nA->Calls prog 15 #[v,.int .u8 97] W fun e w'=>∃o c,e=.returned (.slice o 1 c)/\Below W.heap.size W w'):=qa (fun W v h=>by
  refine(U6 97 (by decide) h hqA).mono ?_;rintro e w' ⟨u,rfl,hn,hb⟩;obtain⟨oa,cap,b,off,rfl,-,-⟩:=hn.open;rw[q5Q];exact⟨_,_,rfl,hb⟩)
 obtain⟨c1,c2⟩:=q53;have c3:=q4k
 have HK1:Hid (∀W v,dO W v [nA,nB]->Calls prog 6 #[v] W (Y8 (uA [nA,nB]) 0 W)):=qa (fun W v h=>by
  have h:=Z0 h qAB;rw[c1]at h;exact h)
 have HK2:Hid (∀W,Calls prog 6 #[.slice none 0 0] W (Y8 (uA []) 17 W)):=qa (fun W=>by
  have h:=Z0 (w:=W) (v:=.slice none 0 0) (ll:=[]) ⟨[],Sl.nil _,rfl,fun i hi=>absurd hi (qB i)⟩ (fun l hl=>by cases hl);rw[c3]at h;exact h)
 generalize uA [nA,nB]=D at*
 have HA1:Hid (∀W C,zQ W C D->Calls prog 9 #[.agg C,.string ⟨#[98]⟩] W fun e w'=>e=.returned (.int .i64 0)/\∃x,w'=ext W x):=qa (fun W C h=>by
  have h:=after (.agg C) D ⟨#[98]⟩ W ⟨C,rfl,h⟩ (by decide);rw[show kU D (ByteArray.mk #[98]).data.toList=0 from(c2 _).trans q54]at h;exact h)
 have HA2:Hid (∀W C,zQ W C D->Calls prog 9 #[.agg C,.string ⟨#[97,98]⟩] W fun e w'=>e=.returned (.int .i64 1)/\∃x,w'=ext W x):=qa (fun W C h=>by
  have h:=after (.agg C) D ⟨#[97,98]⟩ W ⟨C,rfl,h⟩ (by decide);rw[show kU D (ByteArray.mk #[97,98]).data.toList=1 from(c2 _).trans q55]at h;exact h)
 have HA3:Hid (∀W C,zQ W C D->Calls prog 9 #[.agg C,.string ⟨#[]⟩] W fun e w'=>e=.returned (.int .i64 (-1))/\∃x,w'=ext W x):=qa (fun W C h=>by
  have h:=after (.agg C) D ⟨#[]⟩ W ⟨C,rfl,h⟩ (by decide);rw[show kU D (ByteArray.mk #[]).data.toList= -1 from(c2 _).trans q57]at h;exact h)
 generalize uA []=D0 at*;clear c1 c2 c3 hZ hqA hqB;go_enter func5,ntmps5
 go_upto_region 3 with(first
  |((with_reducible refine(HP0.o _).mono ?_);rintro e wa ⟨v0,ca,ba,rfl,hn,hb,hc⟩;obtain rfl:ca=0:=hc.2 rfl;have hna:aO wa v0 nA:=d4.sl hn;(obtain⟨o0,k0,b0,f0,rfl,-,-⟩:=hna.open);have HNA:=qa hna;clear hna;have HB:=qa (HB.o.trans (hb.mono HB.o.size));clear hn hb hc)
  |((with_reducible refine(HP1.o _).mono ?_);rintro e wb ⟨v1,cb,bb,rfl,hn,hb,hc⟩;obtain rfl:cb=0:=hc.2 rfl;have hnb:aO wb v1 nB:=d4.sl hn;(obtain⟨o1,k1,b1,f1,rfl,-,-⟩:=hnb.open);have HNB:=qa hnb;clear hnb;have HNA:=qa (HNA.o.up hb);have HB:=qa (HB.o.trans (hb.mono HB.o.size));clear hn hb hc))
 obtain⟨n0,hn0⟩:∃n,n=nA.length:=⟨_,rfl⟩;obtain⟨n1,hn1⟩:∃n,n=nB.length:=⟨_,rfl⟩;rw[<-hn0]at HNA⊢;rw[<-hn1]at HNB⊢;clear hn0 hn1 HP0 HP1;have hbl:=aB wb (.cells #[.slice o0 n0 k0,.slice o1 n1 k1] 39)
 have HTT:Hid (dO (wb.alloc (.cells #[.slice o0 n0 k0,.slice o1 n1 k1] 39)) (.slice (some ⟨wb.heap.size,0,none⟩) 2 2) [nA,nB]):=qa (by
  refine⟨[.slice o0 n0 k0,.slice o1 n1 k1],by simpa using fZ wb #[.slice o0 n0 k0,.slice o1 n1 k1] 39 (by simp),rfl,fun i hi=>?_⟩;rcases(show i=0\/i=1 by simp at hi;omega)with rfl|rfl
  ·exact HNA.o.up hbl
  exact HNB.o.up hbl)
 have HNA:=qa (HNA.o.up hbl);have HNB:=qa (HNB.o.up hbl);have HB:=qa (HB.o.trans (hbl.mono HB.o.size));clear hbl
 go_upto_region 5 with(first
  |((with_reducible refine(HK1.o _ _ HTT.o).mono ?_);rintro e wc ⟨vc,rfl,⟨C0,rfl,hdv⟩,hb⟩;have HDV:=qa hdv;have HNA:=qa (HNA.o.up hb);have HNB:=qa (HNB.o.up hb);have HB:=qa (HB.o.trans (hb.mono HB.o.size));clear hdv hb)
  |(refine lS rfl _ _ rfl wc.heap.size rfl C0 rfl HDV.o (HBN.o wc) ?_;intro wd hg hgr;obtain⟨hd,hb⟩:=pU.new HDV.o hg hgr;have HDI:=qa hd;have HNA:=qa (HNA.o.up hb);have HNB:=qa (HNB.o.up hb);have HB:=qa (HB.o.trans (hb.mono HB.o.size));clear hg hgr hd hb)
  |((with_reducible refine(HK2.o _).mono ?_);rintro e we ⟨ve,rfl,⟨C1,rfl,hdv⟩,hb⟩;have q9r:=qa hdv;have HDI:=qa (HDI.o.up hb);have HNA:=qa (HNA.o.up hb);have HNB:=qa (HNB.o.up hb);have HB:=qa (HB.o.trans (hb.mono HB.o.size));clear hdv hb)
  |(refine lS rfl _ _ rfl we.heap.size rfl C1 rfl q9r.o (HBN.o we) ?_;intro wf hg hgr;obtain⟨-,hb⟩:=pU.new q9r.o hg hgr;have HDI:=qa (HDI.o.up hb);have HNA:=qa (HNA.o.up hb);have HNB:=qa (HNB.o.up hb);have HB:=qa (HB.o.trans (hb.mono HB.o.size));clear hg hgr hb))
 clear HK1 HK2 HTT HDV q9r HBN hz;generalize wc.heap.size=g0 at*;generalize we.heap.size=g1 at*;have HCS:=qa HDI.o.2.hsize
 go_wp2_with(first
  |((with_reducible refine(HM1.o _ _ HNA.o).mono ?_);rintro e wg ⟨rfl,hx⟩;have hb:=aE hx;have HDI:=qa (HDI.o.up hb);have HNA:=qa (HNA.o.up hb);have HNB:=qa (HNB.o.up hb);have HB:=qa (HB.o.trans (hb.mono HB.o.size));clear hx hb)
  |((with_reducible refine(HM2.o _ _ HNA.o).mono ?_);rintro e wg ⟨rfl,hx⟩;have hb:=aE hx;have HDI:=qa (HDI.o.up hb);have HNA:=qa (HNA.o.up hb);have HNB:=qa (HNB.o.up hb);have HB:=qa (HB.o.trans (hb.mono HB.o.size));clear hx hb)
  |((with_reducible refine(HM3.o _ _ HNB.o).mono ?_);rintro e wg ⟨rfl,hx⟩;have hb:=aE hx;have HDI:=qa (HDI.o.up hb);have HNA:=qa (HNA.o.up hb);have HNB:=qa (HNB.o.up hb);have HB:=qa (HB.o.trans (hb.mono HB.o.size));clear hx hb)
  |((with_reducible refine(HF1.o _ _ HNA.o).mono ?_);rintro e wg ⟨of,cf,rfl,hb⟩;have HDI:=qa (HDI.o.up hb);have HNA:=qa (HNA.o.up hb);have HNB:=qa (HNB.o.up hb);have HB:=qa (HB.o.trans (hb.mono HB.o.size));clear hb)
  |((with_reducible refine(HF2.o _ _ HNA.o).mono ?_);rintro e wg ⟨of2,cf2,rfl,hb⟩;have HDI:=qa (HDI.o.up hb);have HNA:=qa (HNA.o.up hb);have HNB:=qa (HNB.o.up hb);have HB:=qa (HB.o.trans (hb.mono HB.o.size));clear hb))
 refine gX _ rfl g0 rfl C0 HCS.o HDI.o.1 ?_
 go_wp2_with(fail)
 refine(HA1.o _ _ HDI.o.2).mono ?_;rintro e w2 ⟨rfl,hx⟩;have hb:=aE hx;have HDI:=qa (HDI.o.up hb);have HB:=qa (HB.o.trans (hb.mono HB.o.size));clear hx hb
 go_wp2_with(fail)
 refine gX _ rfl g0 rfl C0 HCS.o HDI.o.1 ?_
 go_wp2_with(fail)
 refine(HA2.o _ _ HDI.o.2).mono ?_;rintro e w3 ⟨rfl,hx⟩;have hb:=aE hx;have HDI:=qa (HDI.o.up hb);have HB:=qa (HB.o.trans (hb.mono HB.o.size));clear hx hb
 go_wp2_with(fail)
 refine gX _ rfl g0 rfl C0 HCS.o HDI.o.1 ?_
 go_wp2_with(fail)
 refine(HA3.o _ _ HDI.o.2).mono ?_;rintro e w4 ⟨rfl,hx⟩;have HB:=qa (HB.o.trans ((aE hx).mono HB.o.size));clear hx
 go_wp2_with(fail)
 go_ret;exact⟨rfl,aF HB.o⟩
theorem q4l{w:World}{v:Value}{ll:List (List Nd)}(h:dO w v ll)(hc:∀l∈ll,Chk l)(hq:mD ll)(h32:ll.length<=32)(s:ByteArray)(hs:s.size<=1000):
  Calls prog 10 #[v,.string s] w fun e w'=>e=.returned (.int .i64 (T5 (mK ll.length (fun k=>kX (ll.getD k []) (txt s)))))/\∃x,w'=ext w x:=by
 have HM:=qa (X3 h hc hq h32 s hs);obtain⟨T,hT⟩:∃T,T=mK ll.length (fun k=>kX (ll.getD k []) (txt s)):=⟨_,rfl⟩;rw[<-hT]at HM⊢;obtain⟨oa,cap,b,off,rfl,-,-⟩:=h.open;clear hT hc hq h;cases T with
 |nil=>
  go_enter func10,ntmps10
  go_wp2_with((with_reducible refine HM.o.mono ?_);rintro e w1 ⟨u,rfl,hi,x,hx⟩;obtain⟨o,c,b1,f1,rfl,hd,-⟩:=hi;have HX:=qa hx;clear hx;(rw[show(ints (nz ([]:List Nat))).length=0 from rfl]at hd⊢))
  go_ret;exact⟨rfl,x,HX.o⟩
 |cons k tl=>
  obtain⟨n,hn⟩:∃n,n=(ints (nz (k::tl))).length:=⟨_,rfl⟩;have HN:Hid (0<n):=qa (by rw[hn];simp[ints,nz]);have hk0:(ints (nz (k::tl))).getD 0 undef=.int .i64 (k:Nat):=rfl;have HK:=qa hk0;have HNE:=qa hn;clear hn hk0;go_enter func10,ntmps10
  go_wp2_with((with_reducible refine HM.o.mono ?_);rintro e w1 ⟨u,rfl,hi,x,hx⟩;obtain⟨o,c,b1,f1,rfl,hd,hcl⟩:=hi;rw[<-HNE.o]at hd hcl⊢;have HX:=qa hx;have hn0:=HN.o;have hdl:=hd.len;have hnz:((n:Int)==0)=false:=(by simp;omega);have hcc:w1.cell? ⟨b1,f1,none⟩=some (.int .i64 (k:Nat)):=(by have:=hcl 0 hn0;rw[HK.o]at this;simpa using this);have hbb:=hd.hblk hn0;have hix:∀W,(Instr.indexAt 27 (.slice o n c) (.int .i64 0)).run prog W=.ok (.pointer (some ⟨b1,f1,none⟩)) W:=(fun W=>by simpa using aZ (P:=prog) 27 3 underlying27 (by kernel_rfl) hd W .i64 0 (by omega) (by omega));clear hx hcl hd)
  go_ret;exact⟨rfl,x,HX.o⟩
theorem q09(ll:List (List Nd)):(oC ll≠0/\wA ll=oC ll/\uA ll=z7)\/(oC ll=0/\wA ll=3/\uA ll=z7)\/(oC ll=0/\wA ll=0/\∃R,gD (kL ll)=some R/\uA ll=m9 (kL ll) R):=by
 by_cases h:oC ll=0
 ·right
  cases hl:gD (kL ll)with
  |none=>exact .inl ⟨h,by unfold wA;rw[qv h];unfold q1B;rw[hl],by unfold uA;rw[qv h];unfold q1A;rw[hl]⟩
  |some R=>exact .inr ⟨h,by unfold wA;rw[qv h];unfold q1B;rw[hl],R,rfl,by unfold uA;rw[qv h];unfold q1A;rw[hl]⟩
 exact .inl ⟨h,by unfold wA;rw[qu h],by unfold uA;rw[qu h]⟩
theorem L7{w:World}{v:Value}{ll:List (List Nd)}(h:dO w v ll)(hq:mD ll)(s:ByteArray)(q7m:s.size<=140737488351232):
  Calls prog 3 #[v,.string s] w fun e w'=>e=.returned (.bool true)/\∃x,w'=ext w x:=by
 have HKN:=qa (fun(x:World)=>q2Z (w:=x));have q8E:=qa (q5q h 60);have HTR:=qa h;obtain⟨oa,cap,b,off,rfl,hd,hc⟩:=h.open;obtain⟨ln,hln⟩:∃ln,ln=ll.length:=⟨_,rfl⟩;rw[<-hln]at HTR q8E⊢;have hz:=vU;obtain⟨Z,hZ⟩:∃Z,Z=yH:=⟨_,rfl⟩;rw[<-hZ]at hz;have HBN:Hid (∀W:World,lQ (W.alloc (.cells Z 29)) W.heap.size (.slice none 0 0) (.slice none 0 0) (List.replicate 256 0)):=qa (fun W=>hZ▸zS W);have HQ:=qa hq;clear hd hc h hq hln hZ;go_enter func3,ntmps3;by_cases qcF:20<s.size
 ·go_wp2_with(first
   |((with_reducible refine q8E.o.mono ?_);rintro en w1 ⟨⟨bf,rfl⟩,x1,rfl⟩;cases bf)
   |((with_reducible refine(HKN.o _).mono ?_);rintro en w2 ⟨rfl,x2,rfl⟩))
  all_goals
   go_ret;exact⟨rfl,aF (dW (aC w x1) x2)⟩
 go_upto_region 3 with(first
  |((with_reducible refine q8E.o.mono ?_);rintro en w1 ⟨⟨bf,rfl⟩,x1,rfl⟩;cases bf)
  |((with_reducible refine(HKN.o _).mono ?_);rintro en w2 ⟨rfl,x2,rfl⟩))
 ·go_ret
  exact⟨rfl,aF (dW (aC w x1) x2)⟩
 have HB1:=qa (aC w x1);clear q8E;generalize ext w x1=w1 at*;have HDM:=qa (Z0 (HTR.o.up HB1.o) HQ.o);have HNM:=qa (fun(W:World) (hb:Below w.heap.size w W)=>q3c (HTR.o.up hb));generalize N7 ll=nm at*;rcases q09 ll with⟨h0,hE,hI⟩|⟨h0,hE,hI⟩|⟨h0,hE,R,hR,hI⟩
 ·rw[hE]at HDM
  rw[hI]at HDM;generalize oC ll=M at*;have hm0:(M==0)=false:=beq_eq_false_iff_ne.2 h0;have hm1:(M != 0)=true:=bne_iff_ne.2 h0;clear hE hI h0
  exact ZmN0
 ·rw[hE]at HDM
  rw[hI]at HDM;rw[h0]at HNM;clear hE hI h0
  exact ZmN0
 rw[hE]at HDM;rw[hI]at HDM;obtain⟨q6R,-,h32,-⟩:=q1w h0;rw[h0]at HNM;have hv:lH (m9 (kL ll) R):=tR hR (by obtain⟨g1,g2,-⟩:=nN q6R HQ.o;omega);have haf:=T7 q6R HQ.o h32 hR s.data.toList;have HRT:=qa (fun(W:World) (C:Array Value) (h:zQ W C (m9 (kL ll) R))=>zR (.agg C) _ W ⟨C,rfl,h⟩);rw[kI hv]at HRT;have HAF:=qa (fun(W:World) (C:Array Value) (h:zQ W C (m9 (kL ll) R))=>after (.agg C) _ s W ⟨C,rfl,h⟩ q7m);rw[haf]at HAF;have HRL:=qa (fun(W:World) (hb:Below w.heap.size w W)=>q4l (HTR.o.up hb) q6R HQ.o h32 s (by omega));have e:T5 (mK ll.length fun k=>kX (ll.getD k []) (txt s))=T5 (mK ll.length fun k=>kX (ll.getD k []) (s.data.toList.map UInt8.toNat)):=rfl;rw[e]at HRL;generalize T5 (mK ll.length fun k=>kX (ll.getD k []) (s.data.toList.map UInt8.toNat))=rl at*;generalize m9 (kL ll) R=D at*;clear hE hI h0 hR hv haf q6R h32 e
 go_upto_region 5 with(first
  |((with_reducible refine HDM.o.mono ?_);rintro e w2 ⟨vc,rfl,⟨C0,rfl,hdv⟩,hb⟩;have HDV:=qa hdv;have HB2:=qa (HB1.o.trans (hb.mono HB1.o.size));clear hdv hb)
  |(refine lS rfl _ _ rfl w2.heap.size rfl C0 rfl HDV.o (HBN.o w2) ?_;intro wd hg hgr;obtain⟨hd,hb⟩:=pU.new HDV.o hg hgr;have HDI:=qa hd;have HB3:=qa (HB2.o.trans (hb.mono HB2.o.size));clear hg hgr hd hb)
  |((with_reducible refine(HNM.o _ HB3.o).mono ?_);rintro e w4 ⟨rfl,x4,rfl⟩;have q6m:=qa (HDI.o.up (aC wd x4));have HB4:=qa (HB3.o.trans ((aC wd x4).mono HB3.o.size))))
 have HCS:=qa q6m.o.2.hsize;generalize ext wd x4=w4 at*;generalize w2.heap.size=g0 at*
 go_wp2_with(fail)
 refine gX _ rfl g0 rfl C0 HCS.o q6m.o.1 ?_
 go_wp2_with(fail)
 have qac:=q6m.o.2
 (with_reducible refine(HRT.o _ _ qac).mono ?_)
 clear qac;rintro en w5 ⟨rfl,x5,rfl⟩;have qaP:=qa (q6m.o.up (aC w4 x5));have HB5:=qa (HB4.o.trans ((aC w4 x5).mono HB4.o.size));generalize ext w4 x5=w5 at*
 go_wp2_with(fail)
 refine gX _ rfl g0 rfl C0 HCS.o qaP.o.1 ?_
 go_wp2_with(fail)
 have qab:=qaP.o.2
 (with_reducible refine(HAF.o _ _ qab).mono ?_)
 clear qab;rintro e w6 ⟨rfl,hx⟩;have HB6:=qa (HB5.o.trans ((aE hx).mono HB5.o.size));clear hx
 go_wp2_with(first
  |((with_reducible refine(HRL.o _ HB6.o).mono ?_);rintro e w7 ⟨rfl,hx⟩;have HB7:=qa (HB6.o.trans ((aE hx).mono HB6.o.size));clear hx)
  |((with_reducible refine(HKN.o _).mono ?_);rintro en w8 ⟨rfl,x8,rfl⟩))
 go_ret;exact⟨rfl,aF (dW HB7.o x8)⟩
end Go.Cm
