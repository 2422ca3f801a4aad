/- Walks of functions and plain facts, joined and squeezed by a program. Conditions: as each says. -/
import Derived.Test.YtnelgjehpbjloaaGreatDoorGXL
set_option maxHeartbeats 8000000
set_option maxRecDepth 100000
set_option linter.unusedSimpArgs false
namespace Go.Cm
open Go.RowKit Go.Proofs
attribute [local irreducible] j8
theorem q5M{s:ByteArray}{tz g:Nat}{hd:GH}{w0 w:World}(hs:s.size<=4000000)(htz:tz<=s.size)(hL:jK w0)(hb:Below w0.heap.size w0 w)
  (hI:Own w w0.heap.size 38 (.slice (some ⟨g,0,none⟩) 13 13) (ifC hd (8*(tz:Int)) 0 (.slice none 0 0) ⟨#[]⟩).toList):
  Calls Tryz.prog 36 #[.string s,.pointer (some ⟨g,0,none⟩)] w (tF s tz hd g w0 w):=by
 have hp:8*tz<=8*s.size:=by omega
 have hal:=qn w (.cells #[.nilIface] 42);have h4:=qE w w.heap.size #[.nilIface] 42 (by simp) (q9 _)
 have HNW:Hid (∀W,Calls Tryz.prog 76 #[.string s,.int .i64 (8*(tz:Int)),.string ⟨#[]⟩] W fun e w'=>∃gm,e=.returned (.tuple #[.pointer (some ⟨gm,0,none⟩),.int .i64 0])/\rM w' W.heap.size gm (fun q=>q=g) (fun _=>False) s [] (8*tz) 0/\Below W.heap.size W w'):=q7 (fun W=>by
  have h:=q8V (fun q=>q=g) s ⟨#[]⟩ (8*tz) (by omega) hp (by decide) W
  rw[show((8*tz:Nat):Int)=8*(tz:Int) by omega]at h
  exact h)
 have HST:=q7 (fun(W:World) (B gm:Nat) (h:rM W B gm (fun q=>q=g) (fun _=>False) s [] (8*tz) 0) (hg:g<W.heap.size)=>q5G h hp hs (fun _ e=>e.elim) (fun q e=>by rw[e];exact hg) rfl)
 have HSE:=q7 (fun(W:World) (B gm:Nat) (h:rM W B gm (fun q=>q=g) (fun _=>False) s [] (8*tz) (txI s [] (8*tz)).length) (hg:g<W.heap.size)=>q5H h hp hs (fun _ e=>e.elim) (fun q e=>by rw[e];exact hg) rfl)
 have HDN:=q7 (fun(W:World) (B gm:Nat) (h:rM W B gm (fun q=>q=g) (fun _=>False) s [] (8*tz) (txI s [] (8*tz)).length) (hg:g<W.heap.size)=>q87 h hp hs (fun _ e=>e.elim) (fun q e=>by rw[e];exact hg) rfl)
 have HSA:=q7 (fun(he:erI s [] (8*tz)=0) (W:World) (B gm:Nat) (h:rM W B gm (fun q=>q=g) (fun _=>False) s [] (8*tz) (txI s [] (8*tz)).length) (hg:g<W.heap.size)=>q5I h hp hs (fun _ e=>e.elim) (fun q e=>by rw[e];exact hg) rfl he)
 have HEN:=q7 (fun(he:erI s [] (8*tz)=0) (W:World) (B gm:Nat) (V:Nat->Prop) (h:rM W B gm (fun q=>q=g) V s [] (8*tz) (txI s [] (8*tz)).length) (hV:∀q,V q->q<W.heap.size) (hg:g<W.heap.size)=>q8W h hp hs hV (fun q e=>by rw[e];exact hg) rfl he)
 have HR0:Hid (∀e w',tF s tz hd g w0 w e w'=∃v,e=.returned v/\bX w' (if erI s [] (8*tz)=0 then []else [(4,tz),(erI s [] (8*tz),(txI s [] (8*tz)).length)]) v/\w.grownBy w' (some g)/\∃(q:Nat) (oa:Option Addr) (n k:Nat) (c:ByteArray),Own w' w0.heap.size 38 (.slice (some ⟨g,0,none⟩) 13 13) (ifC hd (8*(tz:Int)) q (.slice oa n k) c).toList/\
  (erI s [] (8*tz)=0->q=enI s [] (8*tz)/\bys c=txI s [] (8*tz)/\eK 2 w' w.heap.size 101 (.slice oa n k) ((bgI s [] (8*tz)).map stC))):=q7 (fun _ _=>rfl)
 obtain⟨R,hR⟩:∃R,R=tF s tz hd g w0 w:=⟨_,rfl⟩;rw[<-hR];rw[<-hR]at HR0;have HEL:Hid (erI s [] (8*tz)<=27):=q7 (q4f _ _ _);clear hR;generalize erI s [] (8*tz)=er at*;generalize hT:txI s [] (8*tz)=T at*;clear hT;generalize enI s [] (8*tz)=en at*;generalize bgI s [] (8*tz)=bg at*;generalize T.length=TL at*;generalize he1:(if TL=0 then er else 0)=e1 at*
 have HE1:=q7 he1;clear he1;have HB1:=q7 (hb.trans (hal.mono hb.size));have HI1:=q7 (hI.up hal);have H4:=q7 h4;have HF1:=q7 (qP (S:=fun q=>q=g) hal)
 have HGL:Hid (g<w.heap.size):=q7 hI.blk.2;have HG0:Hid (w0.heap.size<=g):=q7 hI.blk.1;have HW0:Hid (w0.heap.size<=w.heap.size):=q7 hb.size;have HL:=q7 hL;have HB0:=q7 hb;have htb:tz<=4000000:=by omega
 clear hal h4 hb hI hL hp htz hs
 go_enter Tryz.func36,Tryz.ntmps36
 go_upto_region 1 with(fail)
 have hs1:(w.alloc (.cells #[.nilIface] 42)).heap.size=w.heap.size+1:=by simp
 generalize w.alloc (.cells #[.nilIface] 42)=w1 at*;obtain⟨g4,hg4⟩:∃g4,g4=w.heap.size:=⟨_,rfl⟩;have HG4:Hid (g4<w1.heap.size):=q7 (by omega)
 have qe6:Hid (g4=w.heap.size):=q7 hg4;have H4b:Hid (Own w1 w.heap.size 42 (.slice (some ⟨g4,0,none⟩) 1 1) [.nilIface]):=q7 (by rw[hg4];exact H4.out)
 rw[<-hg4];obtain⟨B,hB⟩:∃B,B=w1.heap.size:=⟨_,rfl⟩;have HBW:Hid (w.heap.size<=B):=q7 (by omega)
 have HBB:Hid (B=w1.heap.size):=q7 hB;have HN1:=q7 (HNW.out w1);rw[<-hB]at HN1;have c9:w1.cell? ⟨g,9,none⟩=some (.int .i64 (8*(tz:Int))):=HI1.out.cell (i:=9) (by simp[ifC])
 have hgl:=HI1.out.blk.2;have HGB:Hid (g<B):=q7 (by omega)
 have qcu:Hid (g4<B):=q7 (by omega)
 clear hg4 H4 HNW hs1 hB
 go_upto_region 2 with((with_reducible go_at_call 76);(with_reducible refine HN1.out.mono ?_);rintro en2 w2 ⟨gm,rfl,hm,hb2⟩;have HM2:=q7 hm;have HB2:=q7 (by rw[HBB.out]at hb2;exact hb2:Below w1.heap.size w1 w2);clear hm hb2)
 have HI2:=q7 (HI1.out.up HB2.out);have K2:=q7 (H4b.out.up HB2.out);have HF2:=q7 (HF1.out.trans (qP (S:=fun q=>q=g) HB2.out))
 clear c9 hgl HN1 HB1 HI1 H4b HF1
 go_upto_region 3 with(fail)
 have HS2:=q7 (HST.out w2 B gm HM2.out HI2.out.blk.2);clear HST
 go_upto_region 4 with((with_reducible go_at_call 77);(with_reducible refine HS2.out.mono ?_);rintro en3 w3 ⟨c,rfl,hc,hm,hf3⟩;have HC:=q7 hc;have HM3:=q7 hm;have HF3:=q7 hf3;have hi3:=MFx.own hf3 HI2.out (fun k e=>by cases e;exact HGB.out);have HI3:=q7 hi3;have f12:=hi3.free 12;have l3:=hi3.blk.2;have c12:w3.cell? ⟨g,12,none⟩=some (.string ⟨#[]⟩):=hi3.cell (i:=12) (by simp[ifC]);clear hc hm hf3 hi3)
 have hst:=HI3.out.store 12 (.string c);have qhV:=q7 hst.1;have qe7:=q7 hst.2;have K3:=q7 (MFx.own HF3.out K2.out (fun k e=>by cases e;exact qcu.out))
 have HNE:Hid (g4≠g):=q7 (by rw[qe6.out];have:=HGL.out;omega)
 have K4x:=q7 (K3.out.keep qe7.out (.inr (fun e=>HNE.out (by cases e;rfl))))
 have qic:=q7 ((MFx.on HF2.out HF3.out HBW.out).trans (jn (S:=fun q=>q=g) qe7.out (fun k e=>by cases e;rfl)))
 have qhL:=q7 (rM.low HM3.out (jn (S:=fun q=>q=g) qe7.out (fun k e=>by cases e;rfl)) (fun q e=>⟨e,by rw[e];exact HGB.out⟩))
 clear hst f12 l3 c12 HS2 HI2 K2 HF2 HI3 K3 HM2 HM3 HF3 qe7;generalize w3.setCell ⟨g,12,none⟩ (.string c)=w4 at*;have HI4:Hid (Own w4 w0.heap.size 38 (.slice (some ⟨g,0,none⟩) 13 13) (ifC hd (8*(tz:Int)) 0 (.slice none 0 0) c).toList):=q7 qhV.out;have HM4:=q7 qhL.out;have HF4:=q7 qic.out;have K4:=q7 K4x.out;clear qhV qhL qic K4x
 by_cases he:er=0
 ·subst he
  have h10:e1=0:=by have:=HE1.out;split at this<;>omega
  subst h10;have HD4:=q7 (HDN.out w4 B gm HM4.out HI4.out.blk.2);clear HDN HSE HM4
  go_upto_region 8 with((with_reducible go_at_call 78);(with_reducible refine HD4.out.mono ?_);rintro en5 w5 ⟨rfl,hm,hf⟩;have HM5:=q7 hm;have HI5:=q7 (MFx.own hf HI4.out (fun k e=>by cases e;exact HGB.out));have K5:=q7 (MFx.own hf K4.out (fun k e=>by cases e;exact qcu.out));have HF5:=q7 (MFx.on HF4.out hf HBW.out);clear hm hf)
  clear HD4 HI4 K4 HF4;have HSS:=q7 (HSA.out trivial w5 B gm HM5.out HI5.out.blk.2);have HEE:=q7 (HEN.out trivial);clear HSA HEN
  go_upto_region 9 with(first
   |((with_reducible go_at_call 80);(with_reducible refine HSS.out.mono ?_);rintro en6 w6 ⟨v,rfl,hv,hm,hf⟩;have HV6:=q7 hv;have HM6:=q7 hm;have HI6:=q7 (MFx.own hf HI5.out (fun k e=>by cases e;exact HGB.out));have K6:=q7 (MFx.own hf K5.out (fun k e=>by cases e;exact qcu.out));have HF6:=q7 (MFx.on HF5.out hf HBW.out);have HSV:=q7 hf.size;obtain⟨oa,cap,bl,off,rfl,-⟩:=id hv.sl;have HE6:=q7 (HEE.out w6 B gm _ HM6.out (fun q e=>by rcases e with e|e;exact e.elim;exact(HV6.out.lt q e).2) HI6.out.blk.2);clear hm hf hv)
   |((with_reducible go_at_call 81);(with_reducible refine HE6.out.mono ?_);rintro en7 w7 ⟨rfl,hm,hf⟩;have hi7:=MFx.own hf HI6.out (fun k e=>by cases e;exact HGB.out);have HI7:=q7 hi7;have K7:=q7 (MFx.own hf K6.out (fun k e=>by cases e;exact qcu.out));have HF7:=q7 (MFx.on HF6.out hf HBW.out);have HV7:=q7 (eK.fx HV6.out hf (fun q e z=>z.2 (.inr e)));have f10:=hi7.free 10;have f11:=hi7.free 11;have c10:w7.cell? ⟨g,10,none⟩=some (.int .i64 0):=hi7.cell (i:=10) (by simp[ifC]);have c11:w7.cell? ⟨g,11,none⟩=some (.slice none 0 0):=hi7.cell (i:=11) (by simp[ifC]);have l7:=hi7.blk.2;clear hm hf hi7))
  have HO9:=HI7.out.store 11 (.slice oa bg.length cap);have qa3:=HO9.1.store 10 (.int .i64 en);have HI8:=q7 qa3.1;have qdO:=qp HO9.2 qa3.2;have K8:=q7 (K7.out.keep qdO (.inr (fun e=>HNE.out (by cases e;rfl))))
  have HF8:=q7 (HF7.out.trans (jn (S:=fun q=>q=g) qdO (fun k e=>by cases e;rfl)))
  have HV8:=q7 (HV7.out.keep qdO (.inr (fun e=>by have:=(HV7.out.lt _ e).1;have:=HI5.out.blk.2;omega)))
  clear HO9 qa3 qdO f10 f11 l7 c10 c11 HI7 K7 HF7 HV7;generalize (w7.setCell ⟨g,11,none⟩ (.slice oa bg.length cap)).setCell ⟨g,10,none⟩ (.int .i64 en)=w8 at*;have HI9:Hid (Own w8 w0.heap.size 38 (.slice (some ⟨g,0,none⟩) 13 13) (ifC hd (8*(tz:Int)) en (.slice oa bg.length cap) c).toList):=q7 HI8.out;have K9:Hid (Own w8 w.heap.size 42 (.slice (some ⟨g4,0,none⟩) 1 1) [.nilIface]):=K8
  go_wp2_with(refine qo rfl 42 _ _ rfl w.heap.size 42 g4 1 1 rfl #[.nilIface] rfl (by kernel_rfl) [.nilIface] K9.out (by simp) (by intro u hu;simp at hu;rw[hu];rfl) ?_;intro wa ho2 hg2;have HOa:=q7 ho2;have HGa:=q7 hg2;clear ho2 hg2)
  have HO1:Hid (Own wa w.heap.size 42 (.slice (some ⟨g4,0,none⟩) 1 1) [.nilIface]):=HOa;refine bC rfl rfl rfl (x:=.agg #[.nilIface]) (by simpa using bD (P:=Tryz.prog) (T:=42) HO1.out _ Tryz.underlying42 rfl (by kernel_rfl)) ?_
  rw[HR0.out,if_pos trivial];refine⟨_,rfl,⟨.nilIface,rfl,rfl⟩,?_,en,oa,bg.length,cap,c,HI9.out.keep HGa.out (.inr (fun e=>HNE.out (by cases e;rfl))),fun _=>⟨rfl,HC.out,?_⟩⟩
  ·exact tG (HF8.out.grown HGa.out (fun k e=>.inr (by cases e;rw[qe6.out];exact q9 _)))
  ·have hv9:=(HV8.out.keep HGa.out (.inr (fun e=>by have:=(HV8.out.lt _ e).1;have:=K5.out.blk.2;omega))).mono HF5.out.size
   rw[List.length_map]at hv9
   exact hv9
 ·by_cases hTL:TL=0
  ·have h10:e1=er:=by rw[<-HE1.out,if_pos hTL]
   subst h10;have HTL:=q7 hTL;clear hTL;have hei:(((e1:Nat):Int)==0)=false:=by simp;omega
   have qjI:(((e1:Nat):Int) != 0)=true:=by simp;omega
   have HMN:=HM4;have HIN:=HI4;have KN:=K4;have HFN:=HF4;clear HSE HDN HSA HEN;have hdv:(8*(tz:Int))/8=(tz:Nat):=by omega
   have hbw:=HFN.out.below HB0.out HW0.out (fun k e=>by rw[e];exact HG0.out)
   have HBN:=q7 hbw;have hbd:Below w4.heap.size w4 w4.drew:=qS (qj _ _);have HBD:=q7 hbd;have hne:some g≠some g4:=fun e=>HNE.out (ql e).symm
   have hin:=HIN.out;have c9:w4.cell? ⟨g,9,none⟩=some (.int .i64 (8*(tz:Int))):=hin.cell (i:=9) (by simp[ifC])
   have l9:=hin.blk.2;clear hin hbw hbd
   go_upto_region 7 with(fail)
   refine jZ (fun w'=>∃x,w'=chg w4 (some g4) x) [([0,1,2,3,4,5,6],[7,8,9,10])] (by kernel_rfl) (by kernel_rfl) (qW (qV _ _)) ?_
   (unfold j6;simp only[pk])
   repeat(go_big_quiet_step (fail))
   refine wpQuiet_nil ?_;have HMD:=q7 (q8z (HMN.out.up HBD.out));have HLD:=q7 ((HL.out.up HBN.out).up HBD.out);have KD:=q7 (KN.out.up HBD.out);have HID:=q7 (HIN.out.up HBD.out);have HGD:Hid (w4.grownBy w4.drew (some g4)):=q7 (qV _ _);clear HMN HIN KN c9 l9;generalize w4.drew=wd at*;unfold qy
   go_wp2_with((with_reducible go_at_call 79);(with_reducible refine HMD.out.mono ?_);rintro en7 w7 ⟨rfl,hw⟩;rw[hw];clear hw w7)
   refine⟨qW HGD.out,?_⟩;unfold qy;have HNB:=q7 (q7o (c:=e1) (at_:=TL) HLD.out HEL.out he)
   go_wp2_with((with_reducible go_at_call 34);(with_reducible refine HNB.out.mono ?_);rintro en8 w8 ⟨v8,rfl,hbl,hx⟩;have hb:=qr hx;have HV8:=q7 hbl;have HL8:=q7 (HLD.out.up hb);have K8:=q7 (KD.out.up hb);have HI8:=q7 (HID.out.up hb);have HG8:=q7 (qp HGD.out (qv hb (some g4)));have HX8:=q7 (HBD.out.trans (hb.mono HBD.out.size));clear hbl hx hb)
   refine⟨qW HG8.out,?_⟩;unfold qy;have HUB:=q7 (q3Z (c:=4) (at_:=tz) HL8.out (by decide) (by decide) HV8.out)
   rw[show((4:Nat):Int)=4 from rfl]at HUB
   go_wp2_with((with_reducible go_at_call 73);(with_reducible refine HUB.out.mono ?_);rintro en9 w9 ⟨v9,rfl,⟨e9,rfl,hbl⟩,hx⟩;have hb:=qr hx;have HV9:=q7 hbl;have K9:=q7 (K8.out.up hb);have HI9:=q7 (HI8.out.up hb);have HG9:=q7 (qp HG8.out (qv hb (some g4)));have HX9:=q7 (HX8.out.trans (hb.mono HX8.out.size));clear hbl hx hb)
   refine⟨qW HG9.out,?_⟩;unfold qy
   go_wp2_with(refine qo rfl 42 _ _ rfl w.heap.size 42 g4 1 1 rfl #[e9] rfl (by kernel_rfl) [.nilIface] K9.out (by simp) (by intro u hu;simp at hu;rw[hu];exact HV9.out.one) ?_;intro wa ho2 hg2;have HOa:=q7 ho2;have HGa:=q7 hg2;clear ho2 hg2)
   refine⟨qW (qp HG9.out HGa.out),?_⟩;unfold qy;unfold j6;intro hz hz2;clear hz2 hz;go_wp2;have HO1:Hid (Own wa w.heap.size 42 (.slice (some ⟨g4,0,none⟩) 1 1) [e9]):=HOa;refine bC rfl rfl rfl (x:=.agg #[e9]) (by simpa using bD (P:=Tryz.prog) (T:=42) HO1.out _ Tryz.underlying42 rfl (by kernel_rfl)) ?_
   rw[HR0.out,if_neg he];refine⟨_,rfl,⟨e9,rfl,bT HGa.out (dJ K9.out) HV9.out⟩,?_,0,none,0,0,c,HI9.out.keep HGa.out (.inr (fun e=>HNE.out (by cases e;rfl))),fun h=>absurd h he⟩
   refine tG ((HFN.out.trans (qP (S:=fun q=>q=g) HX9.out)).grown HGa.out (fun k e=>.inr (by cases e;rw[qe6.out];exact q9 _)))
  ·have h10:e1=0:=by rw[<-HE1.out,if_neg hTL]
   subst h10;have hei:decide (er=0)=false:=decide_eq_false he;have qjI:(((er:Nat):Int) != 0)=true:=by simp;omega
   have HD4:=q7 (HDN.out w4 B gm HM4.out HI4.out.blk.2);rw[hei]at HD4;clear HDN HSA HEN HM4 hei hTL
   go_upto_region 5 with((with_reducible go_at_call 78);(with_reducible refine HD4.out.mono ?_);rintro en5 w5 ⟨rfl,hm,hf⟩;have HM5:=q7 hm;have HI5:=q7 (MFx.own hf HI4.out (fun k e=>by cases e;exact HGB.out));have K5:=q7 (MFx.own hf K4.out (fun k e=>by cases e;exact qcu.out));have HF5:=q7 (MFx.on HF4.out hf HBW.out);clear hm hf)
   have HS5:=q7 (HSE.out w5 B gm HM5.out HI5.out.blk.2);clear HD4 HI4 K4 HF4 HSE HM5
   go_upto_region 6 with((with_reducible go_at_call 77);(with_reducible refine HS5.out.mono ?_);rintro en6 w6 ⟨c6,rfl,hm,hf⟩;have HMN:=q7 hm;have HIN:=q7 (MFx.own hf HI5.out (fun k e=>by cases e;exact HGB.out));have KN:=q7 (MFx.own hf K5.out (fun k e=>by cases e;exact qcu.out));have HFN:=q7 (MFx.on HF5.out hf HBW.out);clear hm hf)
   clear HS5 HI5 K5 HF5;have hdv:(8*(tz:Int))/8=(tz:Nat):=by omega
   have hbw:=HFN.out.below HB0.out HW0.out (fun k e=>by rw[e];exact HG0.out)
   have HBN:=q7 hbw;have hbd:Below w6.heap.size w6 w6.drew:=qS (qj _ _);have HBD:=q7 hbd;have hne:some g≠some g4:=fun e=>HNE.out (ql e).symm
   have hin:=HIN.out;have c9:w6.cell? ⟨g,9,none⟩=some (.int .i64 (8*(tz:Int))):=hin.cell (i:=9) (by simp[ifC])
   have l9:=hin.blk.2;clear hin hbw hbd
   go_upto_region 7 with(fail)
   refine jZ (fun w'=>∃x,w'=chg w6 (some g4) x) [([0,1,2,3,4,5,6],[7,8,9,10])] (by kernel_rfl) (by kernel_rfl) (qW (qV _ _)) ?_
   (unfold j6;simp only[pk])
   repeat(go_big_quiet_step (fail))
   refine wpQuiet_nil ?_;have HMD:=q7 (q8z (HMN.out.up HBD.out));have HLD:=q7 ((HL.out.up HBN.out).up HBD.out);have KD:=q7 (KN.out.up HBD.out);have HID:=q7 (HIN.out.up HBD.out);have HGD:Hid (w6.grownBy w6.drew (some g4)):=q7 (qV _ _);clear HMN HIN KN c9 l9;generalize w6.drew=wd at*;unfold qy
   go_wp2_with((with_reducible go_at_call 79);(with_reducible refine HMD.out.mono ?_);rintro en7 w7 ⟨rfl,hw⟩;rw[hw];clear hw w7)
   refine⟨qW HGD.out,?_⟩;unfold qy;have HNB:=q7 (q7o (c:=er) (at_:=TL) HLD.out HEL.out he)
   go_wp2_with((with_reducible go_at_call 34);(with_reducible refine HNB.out.mono ?_);rintro en8 w8 ⟨v8,rfl,hbl,hx⟩;have hb:=qr hx;have HV8:=q7 hbl;have HL8:=q7 (HLD.out.up hb);have K8:=q7 (KD.out.up hb);have HI8:=q7 (HID.out.up hb);have HG8:=q7 (qp HGD.out (qv hb (some g4)));have HX8:=q7 (HBD.out.trans (hb.mono HBD.out.size));clear hbl hx hb)
   refine⟨qW HG8.out,?_⟩;unfold qy;have HUB:=q7 (q3Z (c:=4) (at_:=tz) HL8.out (by decide) (by decide) HV8.out)
   rw[show((4:Nat):Int)=4 from rfl]at HUB
   go_wp2_with((with_reducible go_at_call 73);(with_reducible refine HUB.out.mono ?_);rintro en9 w9 ⟨v9,rfl,⟨e9,rfl,hbl⟩,hx⟩;have hb:=qr hx;have HV9:=q7 hbl;have K9:=q7 (K8.out.up hb);have HI9:=q7 (HI8.out.up hb);have HG9:=q7 (qp HG8.out (qv hb (some g4)));have HX9:=q7 (HX8.out.trans (hb.mono HX8.out.size));clear hbl hx hb)
   refine⟨qW HG9.out,?_⟩;unfold qy
   go_wp2_with(refine qo rfl 42 _ _ rfl w.heap.size 42 g4 1 1 rfl #[e9] rfl (by kernel_rfl) [.nilIface] K9.out (by simp) (by intro u hu;simp at hu;rw[hu];exact HV9.out.one) ?_;intro wa ho2 hg2;have HOa:=q7 ho2;have HGa:=q7 hg2;clear ho2 hg2)
   refine⟨qW (qp HG9.out HGa.out),?_⟩;unfold qy;unfold j6;intro hz hz2;clear hz2 hz;go_wp2;have HO1:Hid (Own wa w.heap.size 42 (.slice (some ⟨g4,0,none⟩) 1 1) [e9]):=HOa;refine bC rfl rfl rfl (x:=.agg #[e9]) (by simpa using bD (P:=Tryz.prog) (T:=42) HO1.out _ Tryz.underlying42 rfl (by kernel_rfl)) ?_
   rw[HR0.out,if_neg he];refine⟨_,rfl,⟨e9,rfl,bT HGa.out (dJ K9.out) HV9.out⟩,?_,0,none,0,0,c,HI9.out.keep HGa.out (.inr (fun e=>HNE.out (by cases e;rfl))),fun h=>absurd h he⟩
   refine tG ((HFN.out.trans (qP (S:=fun q=>q=g) HX9.out)).grown HGa.out (fun k e=>.inr (by cases e;rw[qe6.out];exact q9 _)))
def S1(y:GI×List (Nat×Nat))(w:World)(e:Ending)(w':World):Prop:=
 ∃(oa:Option Addr) (n k:Nat) (c:ByteArray) (vb:Value),e=.returned (.tuple #[.agg (ifC y.1.h y.1.p y.1.q (.slice oa n k) c),vb])/\bys c=y.1.t/\SlK 2 w' (.slice oa n k) (y.1.st.map stC)/\bX w' y.2 vb/\Below w.heap.size w w'
theorem W9{P:Program}{fn:Func}{tmps:Array Value}{w:World}{a t b u:Nat}{ad bd:Addr}{v x:Value}(hf:fn.results=#[.cell a t,.cell b u])(ha:tmps.getD a undef=.pointer (some ad))(hb:tmps.getD b undef=.pointer (some bd))(hl:(loadVar t ad).run P w=.ok v w)(hm:(loadVar u bd).run P w=.ok x w):
  (results fn tmps).run P w=.ok (.tuple #[v,x]) w:=by
 have ha':tmps[a]?.getD undef=.pointer (some ad):=by simpa using ha
 have hb':tmps[b]?.getD undef=.pointer (some bd):=by simpa using hb
 simp[results,hf,asAddr,ha',hb',hl,hm]
theorem S3{P:Program}{fn:Func}{tmps:Array Value}{w:World}{ds:List Deferred}{s t b u:Nat}{ad bd:Addr}{x y:Value}{R:Ending->World->Prop}(hf:fn.results=#[.cell s t,.cell b u])(ha:tmps.getD s undef=.pointer (some ad))(hb:tmps.getD b undef=.pointer (some bd))(hd:ds=[])
  (hl:(loadVar t ad).run P w=.ok x w) (hm:(loadVar u bd).run P w=.ok y w) (h:R (.returned (.tuple #[x,y])) w):bodyPost P fn R .ret ⟨tmps,ds⟩ w:=
 bodyPost_ret (v:=.tuple #[x,y]) (W9 hf ha hb hl hm) hd h
theorem xV{w:World}{B g:Nat}{A:Array Value}(_h13:A.size=13)(h:Own w B 38 (.slice (some ⟨g,0,none⟩) 13 13) A.toList):(loadVar 38 ⟨g,0,none⟩).run Tryz.prog w=.ok (.agg A) w:=by
 have:=bD (P:=Tryz.prog) h _ Tryz.underlying38 rfl (by kernel_rfl)
 simpa using this
theorem xW{w:World}{B g:Nat}{e:Value}(h:Own w B 42 (.slice (some ⟨g,0,none⟩) 1 1) [e]):(loadVar 42 ⟨g,0,none⟩).run Tryz.prog w=.ok (.agg #[e]) w:=by
 have:=bD (P:=Tryz.prog) h _ Tryz.underlying42 rfl (by kernel_rfl)
 simpa using this
theorem Own.box1{w:World}{B T g:Nat}{e:Value}(h:Own w B T (.slice (some ⟨g,0,none⟩) 1 1) [e]):w.heap[g]? =some (.cells #[e] T (0,0)):=by
 obtain⟨A,h1,h2,h3⟩:=h.whole;have:A=#[e]:=Array.ext' h3;rw[h1,this]
theorem Own.box{w:World}{B T g n:Nat}{A:Array Value}(h:Own w B T (.slice (some ⟨g,0,none⟩) n n) A.toList):w.heap[g]? =some (.cells A T (0,0)):=by
 obtain⟨C,h1,h2,h3⟩:=h.whole;have:C=A:=Array.ext' h3;rw[h1,this]
theorem dN(h:GH)(p q:Int)(oa:Option Addr)(n k:Nat)(c:ByteArray):∀u∈(ifC h p q (.slice oa n k) c).toList,u.oneCell'=true:=by
 intro u hu;simp[ifC]at hu;rcases hu with rfl|rfl|rfl|rfl|rfl|rfl|rfl|rfl|rfl|rfl|rfl|rfl|rfl<;>rfl
theorem rN{w:World}{B g:Nat}{A:Array Value}(h:Own w B 38 (.slice (some ⟨g,0,none⟩) 13 13) A.toList)(ha:∃x,A[2]? =some (.string x)):∀t u,w.cell? ⟨g,2,none⟩≠some (.iface t u):=by
 intro t u e;obtain⟨x,hx⟩:=ha;obtain⟨C,-,hs,hC⟩:=h.whole;have hl:A.size=13:=by rw[<-Array.length_toList,<-hC,Array.length_toList];exact hs
 have:=h.cell (i:=2) (by rw[Array.length_toList];omega)
 rw[e]at this
 have h2:A.toList.getD 2 undef=.string x:=by
  rw[List.getD_eq_getElem?_getD,Array.getElem?_toList,hx];rfl
 rw[h2]at this
 cases this
theorem D5{s:ByteArray}{q:Nat}{t:qK}:(cZ s q t).length<=1:=by
 unfold cZ
 repeat(first|exact qc _|exact q9 _|split)
theorem S4{s:ByteArray}:(qU s).1<=27:=by
 unfold qU;split
 ·show 2<=27;decide
 ·split
  ·show 12<=27;decide
  ·split
   ·show 13<=27;decide
   ·unfold q26
    split
    ·show 2<=27;decide
    ·split
     ·split
      ·split
       ·show 5<=27;decide
       ·exact qc _
      ·show 2<=27;decide
     ·exact qc _
theorem iM{s:ByteArray}(hs:s.size<=4000000){w:World}(hL:jK w):Calls Tryz.prog 13 #[.string s] w (S1 (jI s) w):=by
 obtain⟨R,hR⟩:∃R,R=jI s:=⟨_,rfl⟩;rw[<-hR];unfold jI at hR;rw[if_neg (by omega)]at hR
 have HPR:=q7 (fun W=>q6S (s:=s) (by omega) W)
 have hI:=qE w w.heap.size zIf 38 (by simp[zIf,ifC]) (q9 _)
 have hB1:=qn w (.cells zIf 38);have h3:=qE (w.alloc (.cells zIf 38)) w.heap.size #[.nilIface] 42 (by simp) hB1.size
 have hb3:=qn (w.alloc (.cells zIf 38)) (.cells #[.nilIface] 42);have e0:(w.alloc (.cells zIf 38)).alloc (.cells #[.nilIface] 42)=(w.alloc (.cells #[.int .i64 0,.string ⟨#[]⟩,.string ⟨#[]⟩,.string ⟨#[]⟩,.int .i64 0,.int .i64 0,.bool false,.bool false,.int .i64 0,.int .i64 0,.int .i64 0,.slice none 0 0,.string ⟨#[]⟩] 38)).alloc (.cells #[.nilIface] 42):=rfl;have HB1:=q7 (qq hB1 hb3);have HI:=q7 (hI.up hb3);have H3:=q7 h3;have HL:=q7 hL;have hsz:(w.alloc (.cells zIf 38)).heap.size=w.heap.size+1:=by simp
 rw[hsz]at H3;have q90:decide ((s.size:Int)>16777216)=false:=by rw[qm];omega
 have HPL:=q7 (o6 (s:=s));have HER:=q7 (S4 (s:=s));clear hI hB1 h3 hb3 hL hsz;unfold q39 at HPR;generalize hy:qU s=y at*;clear hy;obtain⟨e1,hd,tz⟩:=y;simp only at HPR hR HPL HER;have HR:=q7 hR;clear hR
 go_enter Tryz.func13,Tryz.ntmps13
 go_upto_region 1 with(fail)
 rw[<-e0];clear e0;generalize (w.alloc (.cells zIf 38)).alloc (.cells #[.nilIface] 42)=w1 at*;obtain⟨g2,hg2⟩:∃g2,g2=w.heap.size:=⟨_,rfl⟩;obtain⟨g3,hg3⟩:∃g3,g3=w.heap.size+1:=⟨_,rfl⟩;have HG2:=q7 hg2;have HG3:Hid (w.heap.size<=g3):=q7 (by omega)
 have qbf:Hid (g2≠g3):=q7 (by omega)
 have HI1:Hid (Own w1 w.heap.size 38 (.slice (some ⟨g2,0,none⟩) 13 13) zIf.toList):=q7 (by rw[hg2];exact HI.out)
 have H31:Hid (Own w1 w.heap.size 42 (.slice (some ⟨g3,0,none⟩) 1 1) [.nilIface]):=q7 (by rw[hg3];exact H3.out)
 rw[<-hg3,<-hg2];clear HI H3 hg2 hg3
 go_upto_region 3 with(fail)
 go_upto_region 4 with(first
  |((with_reducible go_at_call 35);(with_reducible refine(HPR.out _).mono ?_);rintro en w3 ⟨rfl,hx⟩;have hb:=qr hx;have HB3:=q7 (qq HB1.out hb);have HI3:=q7 (HI1.out.up hb);have H33:=q7 (H31.out.up hb);have HZ3:=q7 (qE w3 w3.heap.size (ghC zGH) 23 (by simp[ghC]) (q9 _));clear hx hb)
  |(refine qo rfl 23 _ _ rfl w3.heap.size 23 w3.heap.size 9 9 rfl (ghC hd) rfl (by kernel_rfl) (ghC zGH).toList HZ3.out (by simp[ghC]) (mH hd) ?_;intro w4 ho hg;rw[jY rfl rfl]at ho;have HH4:=q7 ho;have hb4:=(qn w3 _).grown hg (qn w3 _).size (by intro k e;cases e;exact q9 _);have HB4:=q7 (qq HB3.out hb4);have HI4:=q7 (HI3.out.up hb4);have H34:=q7 (H33.out.up hb4);clear ho hg hb4))
 obtain⟨g4,hg4⟩:∃g4,g4=w3.heap.size:=⟨_,rfl⟩;rw[<-hg4]at HH4⊢;clear hg4 HZ3 HB3 HI3 H33 HPR
 by_cases he:e1=0
 ·subst he
  clear HER;have htz:tz<=s.size:=HPL.out;have hR2:R=if erI s [] (8*tz)≠0 then(zGI,[(4,tz),(erI s [] (8*tz),(txI s [] (8*tz)).length)])else if cZ s (enI s [] (8*tz)) (txI s [] (8*tz))≠[]then(zGI,cZ s (enI s [] (8*tz)) (txI s [] (8*tz)))else(⟨hd,8*tz,enI s [] (8*tz),bgI s [] (8*tz),txI s [] (8*tz)⟩,[]):=by rw[HR.out,if_neg (fun h=>h rfl)]
  have HR2:=q7 hR2;have hel:=Q5 (s:=s) (t:=[]) (p:=8*tz) (by omega)
  have htl:=xJ (s:=s) (t:=[]) (p:=8*tz) (by omega)
  have HEL:=q7 hel;have HTL:=q7 htl;clear HR hR2 hel htl;have HGA:=q7 (HH4.out.box);have HZ4:=q7 (qE w4 w4.heap.size zIf 38 (by simp[zIf,ifC]) (q9 _))
  have htb:tz<=4000000:=by omega
  go_upto_region 7 with(first
   |(refine qI rfl 23 9 _ rfl g4 rfl #[.int .i64 hd.time,.string hd.extra,.string hd.name,.string hd.note,.int .i64 hd.level,.int .i64 hd.os,.bool hd.text,.bool hd.sum,.int .i64 hd.flags] rfl HGA.out _ Tryz.underlying23 rfl (by kernel_rfl) ?_)
   |(refine qo rfl 38 _ _ rfl w4.heap.size 38 w4.heap.size 13 13 rfl (ifC hd (8*(tz:Int)) 0 (.slice none 0 0) ⟨#[]⟩) rfl (by kernel_rfl) zIf.toList HZ4.out (by simp[zIf,ifC]) (dN _ _ _ _ _ _ _) ?_;intro w5 ho hg;have H75:=q7 ho;have hb5:=(qn w4 _).grown hg (qn w4 _).size (by intro k e;cases e;exact q9 _);have HB5:=q7 (qq HB4.out hb5);have HI5:=q7 (HI4.out.up hb5);have H35:=q7 (H34.out.up hb5);clear ho hg hb5))
  obtain⟨g7,hg7⟩:∃g7,g7=w4.heap.size:=⟨_,rfl⟩;have qe3:Hid (g7≠g2):=q7 (by have:=HI4.out.blk.2;omega)
  have qe2:Hid (g7≠g3):=q7 (by have:=H34.out.blk.2;omega)
  have qg8:Hid (Own w5 w.heap.size 38 (.slice (some ⟨g7,0,none⟩) 13 13) (ifC hd (8*(tz:Int)) 0 (.slice none 0 0) ⟨#[]⟩).toList):=q7 (by rw[hg7];exact Own.mono H75.out HB4.out.size)
  rw[<-hg7];clear hg7 HZ4 HGA HH4 HB4 HI4 H34 H75;have HBK:=q7 (q5M hs htz HL.out HB5.out qg8.out)
  go_upto_region 8 with(first
   |((with_reducible go_at_call 36);(with_reducible refine HBK.out.mono ?_);rintro en w6 ⟨v,rfl,⟨e6,rfl,hbl⟩,hgr,q,oa,n,k,c,hi6,hok⟩;have HOK:=q7 hok;have HBL:=q7 hbl;have H76:=q7 hi6;have HB6:=q7 (HB5.out.grown hgr HB5.out.size (fun k e=>by cases e;exact qg8.out.blk.1));have HI6:=q7 (HI5.out.keep hgr (.inr (fun e=>qe3.out (by cases e;rfl))));have H36:=q7 (H35.out.keep hgr (.inr (fun e=>qe2.out (by cases e;rfl))));have HZ6:=q7 (qE w6 w.heap.size #[.nilIface] 42 (by simp) HB6.out.size);clear hok hbl hi6 hgr)
   |(refine qo rfl 42 _ _ rfl w.heap.size 42 w6.heap.size 1 1 rfl #[e6] rfl (by kernel_rfl) [.nilIface] HZ6.out (by simp) (by intro u hu;simp at hu;rw[hu];exact HBL.out.one) ?_;intro w7 ho hg;have H87:=q7 ho;have hb7:=(qn w6 _).grown hg (qn w6 _).size (by intro k e;cases e;exact q9 _);have qbl:=q7 hb7;clear ho hg hb7))
  obtain⟨g8,hg8⟩:∃g8,g8=w6.heap.size:=⟨_,rfl⟩;have qe1:Hid (g8≠g2):=q7 (by have:=HI6.out.blk.2;omega)
  have qe0:Hid (g8≠g3):=q7 (by have:=H36.out.blk.2;omega)
  have qkx:Hid (g8≠g7):=q7 (by have:=H76.out.blk.2;omega)
  have qdw:Hid (Own w7 w.heap.size 42 (.slice (some ⟨g8,0,none⟩) 1 1) [e6]):=q7 (by rw[hg8];exact H87.out)
  rw[<-hg8];have HB7:=q7 (qq HB6.out qbl.out);have HI7:=q7 (HI6.out.up qbl.out);have H37:=q7 (H36.out.up qbl.out);have H77:=q7 (H76.out.up qbl.out);have HV7:=q7 (HBL.out.up qbl.out)
  have qhz:Hid (erI s [] (8*tz)=0->∀x,(Value.slice oa n k).ownBlock=some x->x≠g2/\x≠g3/\x≠g8):=q7 (fun h0 x e=>by
   have h1:=(HOK.out h0).2.2.lt x e;have h2:=HI5.out.blk.2;have h3:=H35.out.blk.2
   exact⟨by omega,by omega,by omega⟩)
  clear hg8 H87 HZ6 HB6 HI6 H36 H76 HBL HBK HI5 H35 qg8 HB5;have qe4:=q7 qdw.out.box1;unfold q8A at HV7;have qbh:Hid (([(4,tz),(erI s [] (8*tz),(txI s [] (8*tz)).length)]:List (Nat×Nat)).length<=100000):=q7 (show(2:Nat)<=100000 by decide)
  have qfF:Hid (([(4,tz),(erI s [] (8*tz),(txI s [] (8*tz)).length)]:List (Nat×Nat)).length=2):=q7 rfl;have qhM:=qbh;have qhN:=qfF
  by_cases her:erI s [] (8*tz)=0
  ·have HK:=q7 (HOK.out her)
   rw[if_pos her]at HV7;have hR3:R=if cZ s (enI s [] (8*tz)) (txI s [] (8*tz))≠[]then(zGI,cZ s (enI s [] (8*tz)) (txI s [] (8*tz)))else(⟨hd,8*tz,enI s [] (8*tz),bgI s [] (8*tz),txI s [] (8*tz)⟩,[]):=by rw[HR2.out,if_neg (fun h=>h her)]
   obtain⟨hq,hct,hsv⟩:=HK.out;have HQ:Hid (q<=8*s.size):=q7 (by rw[hq];exact HEL.out her)
   have HCZ:Hid (c.size<=16777216):=q7 (by rw[<-qF,hct];exact HTL.out)
   rw[<-hq,<-hct]at hR3;have HR3:=q7 hR3;have qhx:=q7 (hsv.sl.up qbl.out);have HSO:=q7 (qhz.out her);clear hR3 hq hct hsv HK HR2 HEL HTL HOK her;have HD7:=q7 (tR (HL.out.up HB7.out) ⟨e6,rfl,HV7.out⟩ (by decide))
   simp only[List.length_nil]at HD7
   go_upto_region 9 with(first
    |(refine qI rfl 42 1 _ rfl g8 rfl #[e6] rfl qe4.out _ Tryz.underlying42 rfl (by kernel_rfl) ?_)
    |((with_reducible go_at_call 14);(with_reducible refine HD7.out.mono ?_);rintro en w8 ⟨rfl,hx⟩;have hb:=qr hx;have q9T:=q7 hb;clear hx hb))
   obtain⟨L,hLL⟩:∃L,L=cZ s q (bys c):=⟨_,rfl⟩;have HT8:=q7 (q82 (h:=hd) (p:=8*(tz:Int)) (q:=q) (oa:=oa) (n:=n) (k:=k) (c:=c) ((HL.out.up HB7.out).up q9T.out) HQ.out (by omega) HCZ.out)
   rw[<-hLL]at HT8 HR3;have HLN:Hid (L.length<=100000):=q7 (by rw[hLL];exact qa D5 (by decide))
   have qir:=q7 (qq HB7.out q9T.out);have HI8:=q7 (HI7.out.up q9T.out);have H38:=q7 (H37.out.up q9T.out);have H78:=q7 (H77.out.up q9T.out);have H88:=q7 (qdw.out.up q9T.out);have qhw:=q7 (qhx.out.up q9T.out);have qi9:=q7 H78.out.box;clear hLL HB7 HI7 H37 H77 qdw qhx HV7 HD7 qe4 q9T qbl
   go_upto_region 10 with(first
    |(refine qI rfl 38 13 _ rfl g7 rfl (ifC hd (8*(tz:Int)) q (.slice oa n k) c) rfl qi9.out _ Tryz.underlying38 rfl (by kernel_rfl) ?_)
    |((with_reducible go_at_call 37);(with_reducible refine HT8.out.mono ?_);rintro en w9 ⟨v,rfl,⟨e9,rfl,hbl⟩,hx⟩;have hb:=qr hx;have HV9:=q7 hbl;have HB9:=q7 (qq qir.out hb);have HI9:=q7 (HI8.out.up hb);have H39:=q7 (H38.out.up hb);have H79:=q7 (H78.out.up hb);have H89:=q7 (H88.out.up hb);have qhv:=q7 (qhw.out.up hb);clear hx hb hbl)
    |(refine qo rfl 42 _ _ rfl w.heap.size 42 g8 1 1 rfl #[e9] rfl (by kernel_rfl) [e6] H89.out (by simp) (by intro u hu;simp at hu;rw[hu];exact HV9.out.one) ?_;intro wa ho2 hg2;have qiH:=q7 ho2;have HGa:=q7 hg2;clear ho2 hg2))
   have H8a:Hid (Own wa w.heap.size 42 (.slice (some ⟨g8,0,none⟩) 1 1) [e9]):=qiH;have HIa:=q7 (HI9.out.keep HGa.out (.inr (fun e=>qe1.out (by cases e;rfl))))
   have H3a:=q7 (H39.out.keep HGa.out (.inr (fun e=>qe0.out (by cases e;rfl))))
   have H7a:=q7 (H79.out.keep HGa.out (.inr (fun e=>qkx.out (by cases e;rfl))))
   have HVa:=q7 (bT HGa.out (dJ H89.out) HV9.out);have qfl:=q7 (qhv.out.keep HGa.out (fun e=>(HSO.out _ e).2.2 rfl))
   have HBa:=q7 (HB9.out.grown HGa.out HB9.out.size (fun k e=>by cases e;exact H8a.out.blk.1))
   have HDa:=q7 (tR (HL.out.up HBa.out) ⟨e9,rfl,HVa.out⟩ HLN.out);have qbY:=q7 H8a.out.box1;clear qiH HI9 H39 H79 HV9 qhv HB9 HI8 H38 H78 H88 qhw qir qi9 HT8 HQ HCZ HGa H89
   by_cases hLe:L=[]
   ·subst hLe
    have HRX:Hid (R=(⟨hd,8*tz,q,bgI s [] (8*tz),bys c⟩,[])):=q7 (by rw[HR3.out,if_neg (fun h=>h rfl)])
    simp only[List.length_nil]at HDa
    go_upto_region 12 with(first
     |(refine qI rfl 42 1 _ rfl g8 rfl #[e9] rfl qbY.out _ Tryz.underlying42 rfl (by kernel_rfl) ?_)
     |((with_reducible go_at_call 14);(with_reducible refine HDa.out.mono ?_);rintro en w10 ⟨rfl,hx⟩;have hb:=qr hx;have qdk:=q7 (HIa.out.up hb);have qdx:=q7 (H3a.out.up hb);have qbs:=q7 (H7a.out.up hb);have qbr:=q7 (H8a.out.up hb);have qba:=q7 (HVa.out.up hb);have qfm:=q7 (qfl.out.up hb);have q9i:=q7 (qq HBa.out hb);clear hx hb))
    clear HIa H3a H7a H8a HVa qfl HBa HDa qbY;obtain⟨SS,hSS⟩:∃SS:Nat->Prop,SS=fun q=>q=g2\/q=g3:=⟨_,rfl⟩
    have HS2:Hid (SS g2):=q7 (by rw[hSS];exact .inl rfl)
    have HS3:Hid (SS g3):=q7 (by rw[hSS];exact .inr rfl)
    have HSB:Hid (∀q,SS q->w.heap.size<=q):=q7 (fun q e=>by
     rw[hSS]at e
     rcases e with e|e
     ·rw[e,HG2.out];exact q9 _
     ·rw[e];exact HG3.out)
    have qdg:Hid (¬SS g8):=q7 (by rw[hSS];intro e;rcases e with e|e;exact qe1.out e;exact qe0.out e)
    have qdh:Hid (¬SS g7):=q7 (by rw[hSS];intro e;rcases e with e|e;exact qe3.out e;exact qe2.out e)
    clear hSS
    have HNC:Hid (∀w',(∃x,w'=fxw w10 SS x)->w'.heap[g8]? =some (.cells #[e9] 42 (0,0))):=q7 (fun w' ⟨x,hx⟩=>by
     rw[hx,(pN w10 x SS).block g8 qbr.out.blk.2 qdg.out]
     exact qbr.out.box1)
    have qdi:Hid (∀w',(∃x,w'=fxw w10 SS x)->w'.heap[g7]? =some (.cells (ifC hd (8*(tz:Int)) q (.slice oa n k) c) 38 (0,0))):=q7 (fun w' ⟨x,hx⟩=>by
     rw[hx,(pN w10 x SS).block g7 qbs.out.blk.2 qdh.out]
     exact qbs.out.box)
    have HBD:Hid (Below w10.heap.size w10 w10.drew):=q7 (qS (qj _ _))
    go_upto_region 12 with(fail)
    refine jE (C:=fun w'=>∃x,w'=fxw w10 SS x) (.q 0 (.q 1 (.br 2 (.br 3 .done .no) .no))) (by kernel_rfl) (by kernel_rfl) (bR (qP (qS (qj _ _)))) ?_
    repeat((unfold qX;simp only[pk]);(first|(go_big_quiet_want;(with_reducible show Oper.quiet _ (Oper.mk _ (.load _ _) _ _ _ _) _ _ _);refine jg 42 1 _ rfl g8 rfl #[e9] rfl HNC.out _ Tryz.underlying42 rfl (by kernel_rfl) ?_;go_simp;go_big_quiet_on)|(go_big_quiet_want;(with_reducible show Oper.quiet _ (Oper.mk _ (.load _ _) _ _ _ _) _ _ _);refine jg 38 13 _ rfl g7 rfl (ifC hd (8*(tz:Int)) q (.slice oa n k) c) rfl qdi.out _ Tryz.underlying38 rfl (by kernel_rfl) ?_;go_simp;go_big_quiet_on)|(go_big_quiet_step (fail)));refine wpQuiet_nil ?_)
    have HID:=q7 (qdk.out.up HBD.out);have H3D:=q7 (qdx.out.up HBD.out);have HFD:Hid (Fx SS w10 w10.drew):=q7 (qP HBD.out);generalize w10.drew=wd at*
    (unfold qX;simp only[pk])
    refine⟨?_,by exact True.intro⟩
    unfold qy
    go_wp2_with(refine qo rfl 38 _ _ rfl w.heap.size 38 g2 13 13 rfl (ifC hd (8*(tz:Int)) q (.slice oa n k) c) rfl (by kernel_rfl) zIf.toList HID.out (by simp[zIf,ifC]) (dN _ _ _ _ _ _ _) ?_;intro wx ho2 hg2;have HOX:=q7 ho2;have HGX:=q7 hg2;clear ho2 hg2)
    have HFX:Hid (Fx SS w10 wx):=q7 (HFD.out.trans (jn HGX.out (fun k e=>by cases e;exact HS2.out)))
    have H3X:=q7 (H3D.out.keep HGX.out (.inr (fun e=>qbf.out (by cases e;rfl))))
    refine⟨bR HFX.out,?_⟩;unfold qy
    (unfold qX;simp only[pk])
    refine⟨?_,by exact True.intro⟩
    unfold qy
    go_wp2_with(refine qo rfl 42 _ _ rfl w.heap.size 42 g3 1 1 rfl #[e9] rfl (by kernel_rfl) [.nilIface] H3X.out (by simp) (by intro u hu;simp at hu;rw[hu];exact qba.out.one) ?_;intro wy ho2 hg2;have HOY:=q7 ho2;have HGY:=q7 hg2;clear ho2 hg2)
    have HFY:Hid (Fx SS w10 wy):=q7 (HFX.out.trans (jn HGY.out (fun k e=>by cases e;exact HS3.out)))
    refine⟨bR HFY.out,?_⟩;unfold qy;unfold qX;intro hz hz2;clear hz2 hz;go_wp2;have HO2:Hid (Own wx w.heap.size 38 (.slice (some ⟨g2,0,none⟩) 13 13) ((ifC hd (8*(tz:Int)) q (.slice oa n k) c)).toList):=HOX;have HOZ:=q7 (HO2.out.keep HGY.out (.inr (fun e=>qbf.out (by cases e;rfl))))
    have HO3:Hid (Own wy w.heap.size 42 (.slice (some ⟨g3,0,none⟩) 1 1) [e9]):=HOY;have HVX:=q7 (bT HGX.out (rN HID.out ⟨_,rfl⟩) (qba.out.up HBD.out));have HVY:=q7 (bT HGY.out (dJ H3X.out) HVX.out);have HBY:=q7 (HFY.out.below q9i.out q9i.out.size HSB.out);refine S3 rfl rfl rfl rfl (xV rfl HOZ.out) (xW HO3.out) ?_;rw[HRX.out]
    exact⟨oa,n,k,c,_,by rw[show((8*tz:Nat):Int)=8*(tz:Int) by omega],rfl,((qfm.out.up HBD.out).keep HGX.out (fun e=>(HSO.out _ e).1 rfl)).keep HGY.out (fun e=>(HSO.out _ e).2.1 rfl),⟨_,rfl,HVY.out⟩,HBY.out⟩
   ·have HRX:Hid (R=(zGI,L)):=q7 (by rw[HR3.out,if_pos hLe])
    obtain⟨LN,hLN⟩:∃LN,LN=L.length:=⟨_,rfl⟩
    have hln:(LN:Int)>0:=by
     have:L.length≠0:=fun e=>hLe (List.length_eq_zero_iff.1 e)
     omega
    rw[<-hLN]at HDa;clear hLN hLe HLN
    go_upto_region 11 with(first
     |(refine qI rfl 42 1 _ rfl g8 rfl #[e9] rfl qbY.out _ Tryz.underlying42 rfl (by kernel_rfl) ?_)
     |((with_reducible go_at_call 14);(with_reducible refine HDa.out.mono ?_);rintro en w10 ⟨rfl,hx⟩;have hb:=qr hx;have qdk:=q7 (HIa.out.up hb);have qdx:=q7 (H3a.out.up hb);have qbs:=q7 (H7a.out.up hb);have qbr:=q7 (H8a.out.up hb);have qba:=q7 (HVa.out.up hb);have q9i:=q7 (qq HBa.out hb);clear hx hb))
    clear HIa H3a H7a H8a HVa qfl HBa HDa qbY;obtain⟨SS,hSS⟩:∃SS:Nat->Prop,SS=fun q=>q=g2\/q=g3:=⟨_,rfl⟩
    have HS2:Hid (SS g2):=q7 (by rw[hSS];exact .inl rfl)
    have HS3:Hid (SS g3):=q7 (by rw[hSS];exact .inr rfl)
    have HSB:Hid (∀q,SS q->w.heap.size<=q):=q7 (fun q e=>by
     rw[hSS]at e
     rcases e with e|e
     ·rw[e,HG2.out];exact q9 _
     ·rw[e];exact HG3.out)
    have qdg:Hid (¬SS g8):=q7 (by rw[hSS];intro e;rcases e with e|e;exact qe1.out e;exact qe0.out e)
    have qdh:Hid (¬SS g7):=q7 (by rw[hSS];intro e;rcases e with e|e;exact qe3.out e;exact qe2.out e)
    clear hSS
    have HNC:Hid (∀w',(∃x,w'=fxw w10 SS x)->w'.heap[g8]? =some (.cells #[e9] 42 (0,0))):=q7 (fun w' ⟨x,hx⟩=>by
     rw[hx,(pN w10 x SS).block g8 qbr.out.blk.2 qdg.out]
     exact qbr.out.box1)
    have qdi:Hid (∀w',(∃x,w'=fxw w10 SS x)->w'.heap[g7]? =some (.cells (ifC hd (8*(tz:Int)) q (.slice oa n k) c) 38 (0,0))):=q7 (fun w' ⟨x,hx⟩=>by
     rw[hx,(pN w10 x SS).block g7 qbs.out.blk.2 qdh.out]
     exact qbs.out.box)
    have HBD:Hid (Below w10.heap.size w10 w10.drew):=q7 (qS (qj _ _))
    go_upto_region 11 with(fail)
    refine jE (C:=fun w'=>∃x,w'=fxw w10 SS x) (.q 0 (.q 1 (.br 2 (.br 3 .done .no) .no))) (by kernel_rfl) (by kernel_rfl) (bR (qP (qS (qj _ _)))) ?_
    repeat((unfold qX;simp only[pk]);(first|(go_big_quiet_want;(with_reducible show Oper.quiet _ (Oper.mk _ (.load _ _) _ _ _ _) _ _ _);refine jg 42 1 _ rfl g8 rfl #[e9] rfl HNC.out _ Tryz.underlying42 rfl (by kernel_rfl) ?_;go_simp;go_big_quiet_on)|(go_big_quiet_want;(with_reducible show Oper.quiet _ (Oper.mk _ (.load _ _) _ _ _ _) _ _ _);refine jg 38 13 _ rfl g7 rfl (ifC hd (8*(tz:Int)) q (.slice oa n k) c) rfl qdi.out _ Tryz.underlying38 rfl (by kernel_rfl) ?_;go_simp;go_big_quiet_on)|(go_big_quiet_step (fail)));refine wpQuiet_nil ?_)
    have HID:=q7 (qdk.out.up HBD.out);have H3D:=q7 (qdx.out.up HBD.out);have HFD:Hid (Fx SS w10 w10.drew):=q7 (qP HBD.out);generalize w10.drew=wd at*
    (unfold qX;simp only[pk])
    refine⟨?_,by exact True.intro⟩
    unfold qy
    go_wp2_with(refine qo rfl 38 _ _ rfl w.heap.size 38 g2 13 13 rfl zIf rfl (by kernel_rfl) zIf.toList HID.out (by simp[zIf,ifC]) fE ?_;intro wx ho2 hg2;have HOX:=q7 ho2;have HGX:=q7 hg2;clear ho2 hg2)
    have HFX:Hid (Fx SS w10 wx):=q7 (HFD.out.trans (jn HGX.out (fun k e=>by cases e;exact HS2.out)))
    have H3X:=q7 (H3D.out.keep HGX.out (.inr (fun e=>qbf.out (by cases e;rfl))))
    refine⟨bR HFX.out,?_⟩;unfold qy
    (unfold qX;simp only[pk])
    refine⟨?_,by exact True.intro⟩
    unfold qy
    go_wp2_with(refine qo rfl 42 _ _ rfl w.heap.size 42 g3 1 1 rfl #[e9] rfl (by kernel_rfl) [.nilIface] H3X.out (by simp) (by intro u hu;simp at hu;rw[hu];exact qba.out.one) ?_;intro wy ho2 hg2;have HOY:=q7 ho2;have HGY:=q7 hg2;clear ho2 hg2)
    have HFY:Hid (Fx SS w10 wy):=q7 (HFX.out.trans (jn HGY.out (fun k e=>by cases e;exact HS3.out)))
    refine⟨bR HFY.out,?_⟩;unfold qy;unfold qX;intro hz hz2;clear hz2 hz;go_wp2;have HO2:Hid (Own wx w.heap.size 38 (.slice (some ⟨g2,0,none⟩) 13 13) (zIf).toList):=HOX;have HOZ:=q7 (HO2.out.keep HGY.out (.inr (fun e=>qbf.out (by cases e;rfl))))
    have HO3:Hid (Own wy w.heap.size 42 (.slice (some ⟨g3,0,none⟩) 1 1) [e9]):=HOY;have HVX:=q7 (bT HGX.out (rN HID.out ⟨_,rfl⟩) (qba.out.up HBD.out));have HVY:=q7 (bT HGY.out (dJ H3X.out) HVX.out);have HBY:=q7 (HFY.out.below q9i.out q9i.out.size HSB.out);refine S3 rfl rfl rfl rfl (xV rfl HOZ.out) (xW HO3.out) ?_;rw[HRX.out]
    exact⟨none,0,0,⟨#[]⟩,_,rfl,rfl,SlK.nil 2 _,⟨_,rfl,HVY.out⟩,HBY.out⟩
  ·have hR3:R=(zGI,[(4,tz),(erI s [] (8*tz),(txI s [] (8*tz)).length)]):=by rw[HR2.out,if_pos her]
   rw[if_neg her]at HV7;generalize [(4,tz),(erI s [] (8*tz),(txI s [] (8*tz)).length)]=L at*;have HRX:=q7 hR3;have HD7:=q7 (tR (HL.out.up HB7.out) ⟨e6,rfl,HV7.out⟩ qbh.out);rw[qfF.out]at HD7;rw[show((2:Nat):Int)=2 from rfl]at HD7
   clear hR3 HR2 HEL HTL HOK qhz her qbh qfF
   go_upto_region 10 with(first
    |(refine qI rfl 42 1 _ rfl g8 rfl #[e6] rfl qe4.out _ Tryz.underlying42 rfl (by kernel_rfl) ?_)
    |((with_reducible go_at_call 14);(with_reducible refine HD7.out.mono ?_);rintro en w8 ⟨rfl,hx⟩;have hb:=qr hx;have q9T:=q7 hb;clear hx hb))
   have HBa:=q7 (qq HB7.out q9T.out);have HIa:=q7 (HI7.out.up q9T.out);have H3a:=q7 (H37.out.up q9T.out);have H7a:=q7 (H77.out.up q9T.out);have H8a:=q7 (qdw.out.up q9T.out);have HVa:=q7 (HV7.out.up q9T.out);have qbY:=q7 H8a.out.box1;have HDa:=q7 (tR (HL.out.up HBa.out) ⟨e6,rfl,HVa.out⟩ qhM.out);rw[qhN.out]at HDa;rw[show((2:Nat):Int)=2 from rfl]at HDa
   clear HB7 HI7 H37 H77 qdw HV7 HD7 qe4 q9T qbl qhM qhN
   go_upto_region 11 with(first
    |(refine qI rfl 42 1 _ rfl g8 rfl #[e6] rfl qbY.out _ Tryz.underlying42 rfl (by kernel_rfl) ?_)
    |((with_reducible go_at_call 14);(with_reducible refine HDa.out.mono ?_);rintro en w10 ⟨rfl,hx⟩;have hb:=qr hx;have qdk:=q7 (HIa.out.up hb);have qdx:=q7 (H3a.out.up hb);have qbs:=q7 (H7a.out.up hb);have qbr:=q7 (H8a.out.up hb);have qba:=q7 (HVa.out.up hb);have q9i:=q7 (qq HBa.out hb);clear hx hb))
   clear HIa H3a H7a H8a HVa HBa HDa qbY;obtain⟨SS,hSS⟩:∃SS:Nat->Prop,SS=fun q=>q=g2\/q=g3:=⟨_,rfl⟩
   have HS2:Hid (SS g2):=q7 (by rw[hSS];exact .inl rfl)
   have HS3:Hid (SS g3):=q7 (by rw[hSS];exact .inr rfl)
   have HSB:Hid (∀q,SS q->w.heap.size<=q):=q7 (fun q e=>by
    rw[hSS]at e
    rcases e with e|e
    ·rw[e,HG2.out];exact q9 _
    ·rw[e];exact HG3.out)
   have qdg:Hid (¬SS g8):=q7 (by rw[hSS];intro e;rcases e with e|e;exact qe1.out e;exact qe0.out e)
   have qdh:Hid (¬SS g7):=q7 (by rw[hSS];intro e;rcases e with e|e;exact qe3.out e;exact qe2.out e)
   clear hSS
   have HNC:Hid (∀w',(∃x,w'=fxw w10 SS x)->w'.heap[g8]? =some (.cells #[e6] 42 (0,0))):=q7 (fun w' ⟨x,hx⟩=>by
    rw[hx,(pN w10 x SS).block g8 qbr.out.blk.2 qdg.out]
    exact qbr.out.box1)
   have qdi:Hid (∀w',(∃x,w'=fxw w10 SS x)->w'.heap[g7]? =some (.cells (ifC hd (8*(tz:Int)) q (.slice oa n k) c) 38 (0,0))):=q7 (fun w' ⟨x,hx⟩=>by
    rw[hx,(pN w10 x SS).block g7 qbs.out.blk.2 qdh.out]
    exact qbs.out.box)
   have HBD:Hid (Below w10.heap.size w10 w10.drew):=q7 (qS (qj _ _))
   go_upto_region 11 with(fail)
   refine jE (C:=fun w'=>∃x,w'=fxw w10 SS x) (.q 0 (.q 1 (.br 2 (.br 3 .done .no) .no))) (by kernel_rfl) (by kernel_rfl) (bR (qP (qS (qj _ _)))) ?_
   repeat((unfold qX;simp only[pk]);(first|(go_big_quiet_want;(with_reducible show Oper.quiet _ (Oper.mk _ (.load _ _) _ _ _ _) _ _ _);refine jg 42 1 _ rfl g8 rfl #[e6] rfl HNC.out _ Tryz.underlying42 rfl (by kernel_rfl) ?_;go_simp;go_big_quiet_on)|(go_big_quiet_want;(with_reducible show Oper.quiet _ (Oper.mk _ (.load _ _) _ _ _ _) _ _ _);refine jg 38 13 _ rfl g7 rfl (ifC hd (8*(tz:Int)) q (.slice oa n k) c) rfl qdi.out _ Tryz.underlying38 rfl (by kernel_rfl) ?_;go_simp;go_big_quiet_on)|(go_big_quiet_step (fail)));refine wpQuiet_nil ?_)
   have HID:=q7 (qdk.out.up HBD.out);have H3D:=q7 (qdx.out.up HBD.out);have HFD:Hid (Fx SS w10 w10.drew):=q7 (qP HBD.out);generalize w10.drew=wd at*
   (unfold qX;simp only[pk])
   refine⟨?_,by exact True.intro⟩
   unfold qy
   go_wp2_with(refine qo rfl 38 _ _ rfl w.heap.size 38 g2 13 13 rfl zIf rfl (by kernel_rfl) zIf.toList HID.out (by simp[zIf,ifC]) fE ?_;intro wx ho2 hg2;have HOX:=q7 ho2;have HGX:=q7 hg2;clear ho2 hg2)
   have HFX:Hid (Fx SS w10 wx):=q7 (HFD.out.trans (jn HGX.out (fun k e=>by cases e;exact HS2.out)))
   have H3X:=q7 (H3D.out.keep HGX.out (.inr (fun e=>qbf.out (by cases e;rfl))))
   refine⟨bR HFX.out,?_⟩;unfold qy
   (unfold qX;simp only[pk])
   refine⟨?_,by exact True.intro⟩
   unfold qy
   go_wp2_with(refine qo rfl 42 _ _ rfl w.heap.size 42 g3 1 1 rfl #[e6] rfl (by kernel_rfl) [.nilIface] H3X.out (by simp) (by intro u hu;simp at hu;rw[hu];exact qba.out.one) ?_;intro wy ho2 hg2;have HOY:=q7 ho2;have HGY:=q7 hg2;clear ho2 hg2)
   have HFY:Hid (Fx SS w10 wy):=q7 (HFX.out.trans (jn HGY.out (fun k e=>by cases e;exact HS3.out)))
   refine⟨bR HFY.out,?_⟩;unfold qy;unfold qX;intro hz hz2;clear hz2 hz;go_wp2;have HO2:Hid (Own wx w.heap.size 38 (.slice (some ⟨g2,0,none⟩) 13 13) (zIf).toList):=HOX;have HOZ:=q7 (HO2.out.keep HGY.out (.inr (fun e=>qbf.out (by cases e;rfl))))
   have HO3:Hid (Own wy w.heap.size 42 (.slice (some ⟨g3,0,none⟩) 1 1) [e6]):=HOY;have HVX:=q7 (bT HGX.out (rN HID.out ⟨_,rfl⟩) (qba.out.up HBD.out));have HVY:=q7 (bT HGY.out (dJ H3X.out) HVX.out);have HBY:=q7 (HFY.out.below q9i.out q9i.out.size HSB.out);refine S3 rfl rfl rfl rfl (xV rfl HOZ.out) (xW HO3.out) ?_;rw[HRX.out]
   exact⟨none,0,0,⟨#[]⟩,_,rfl,rfl,SlK.nil 2 _,⟨_,rfl,HVY.out⟩,HBY.out⟩
 ·have HRX:Hid (R=(zGI,[(e1,0)])):=q7 (by rw[HR.out,if_pos he])
  have hei:(((e1:Nat):Int) != 0)=true:=by simp;omega
  have HNB:=q7 (q7o (c:=e1) (at_:=0) (HL.out.up HB4.out) HER.out he);rw[show((0:Nat):Int)=0 from rfl]at HNB
  clear HR HPL
  go_wp2_with(first
   |((with_reducible go_at_call 34);(with_reducible refine HNB.out.mono ?_);rintro en w5 ⟨v,rfl,⟨e5,rfl,hbl⟩,hx⟩;have hb:=qr hx;have HV5:=q7 hbl;have HB5:=q7 (qq HB4.out hb);have HI5:=q7 (HI4.out.up hb);have H35:=q7 (H34.out.up hb);clear hx hb hbl)
   |(refine qo rfl 38 _ _ rfl w.heap.size 38 g2 13 13 rfl zIf rfl (by kernel_rfl) zIf.toList HI5.out (by simp[zIf,ifC]) fE ?_;intro w6 ho2 hg2;have HI6:=q7 ho2;have HG6:=q7 hg2;have H36:=q7 (H35.out.keep hg2 (.inr (fun e=>qbf.out (by cases e;rfl))));clear ho2 hg2)
   |(refine qo rfl 42 _ _ rfl w.heap.size 42 g3 1 1 rfl #[e5] rfl (by kernel_rfl) [.nilIface] H36.out (by simp) (by intro u hu;simp at hu;rw[hu];exact HV5.out.one) ?_;intro w7 ho2 hg2;have H37:=q7 ho2;have HG7:=q7 hg2;clear ho2 hg2))
  have qkI:Hid (Own w6 w.heap.size 38 (.slice (some ⟨g2,0,none⟩) 13 13) zIf.toList):=HI6;have qlb:Hid (Own w7 w.heap.size 42 (.slice (some ⟨g3,0,none⟩) 1 1) [e5]):=H37;have HI7:=q7 (qkI.out.keep HG7.out (.inr (fun e=>qbf.out (by cases e;rfl))))
  have HV6:=q7 (bT HG6.out (rN HI5.out ⟨_,rfl⟩) HV5.out);have HV7:=q7 (bT HG7.out (dJ H36.out) HV6.out);have hb6:=HB5.out.grown HG6.out HB5.out.size (fun k e=>by cases e;rw[HG2.out];exact q9 _)
  have hb7:=hb6.grown HG7.out hb6.size (fun k e=>by cases e;exact HG3.out)
  refine S3 rfl rfl rfl rfl (xV rfl HI7.out) (xW qlb.out) ?_;rw[HRX.out]
  exact⟨none,0,0,⟨#[]⟩,_,rfl,rfl,SlK.nil 2 _,⟨_,rfl,HV7.out⟩,hb7⟩
def kGH:GH:=⟨0,⟨#[]⟩,⟨#[]⟩,⟨#[]⟩,0,255,false,false,0⟩
def q4g:qK:=[31,139,8,0,0,0,0,0,0,255,75,4,0,67,190,183,232,1,0,0,0]
theorem q3B:jG kGH=true:=by decide+kernel
theorem q1U:dH kGH=[31,139,8,0,0,0,0,0,0,255]:=by kernel_rfl
theorem q5O:q3a [97]=[67,190,183,232,1,0,0,0]:=by kernel_rfl
theorem xY:aW kGH knP=(0,q4g):=by
 unfold aW;rw[q3B,if_pos rfl,q3U,if_neg (fun h=>h rfl),q0N,q1U,q5O]
 rfl
theorem q7b{s:ByteArray}{y:qK}(hs:bys s=q4g++y):erI s [] 80=0/\txI s [] 80=[97]/\enI s [] 80=98/\bgI s [] 80=[(80,0)]:=by
 obtain⟨k1,k2,k3,k4⟩:=q8X;have hA:=R8 (s:=knA) (s':=s) (g:=[31,139,8,0,0,0,0,0,0,255]) (b:=[75,4,0]) (x:=[]) (y:=[67,190,183,232,1,0,0,0]++y) rfl (by rw[hs];rfl)
 have hsz:s.size=21+y.length:=by rw[<-qF,hs,qg];rfl
 obtain⟨b1,b2,b3,b4⟩:=xR hA (qc _) (by show 0+8*10<=8*s.size;omega) k2 (by rw[k3];decide)
 rw[k1]at b2;rw[k3]at b3;rw[k4]at b4
 exact⟨b1,b2,b3,b4⟩
theorem S6{s:ByteArray}{y:qK}(hs:bys s=q4g++y):D3 kGH knP s y:=q5F (fun p hp o ho=>(q4L.1 p hp).lit o ho) (by rw[xY]) (by rw[xY];exact hs)
theorem q3C{s:ByteArray}(hs:bys s=q4g):jI s=(⟨kGH,80,98,[(80,0)],[97]⟩,[]):=by
 have hB:=S6 (s:=s) (y:=[]) (by rw[hs,List.append_nil])
 have hsz:s.size=21:=by rw[<-qF,hs];rfl
 obtain⟨r1,r2,r3,r4⟩:=q7b (s:=s) (y:=[]) (by rw[hs,List.append_nil])
 rw[hB.parse (by omega),if_pos rfl]
 have h10:(dH kGH).length=10:=by rw[q1U];rfl
 rw[h10]
 show((⟨kGH,80,enI s [] 80,bgI s [] 80,(jq 10 17 knP).2⟩:GI),_)=_
 rw[r3,r4,q0N]
theorem q5P{s:ByteArray}(hs:bys s=q4g++[120]):jI s=(zGI,[(14,21)]):=by
 have hB:=S6 (s:=s) (y:=[120]) hs;have hsz:s.size=22:=by rw[<-qF,hs];rfl
 rw[hB.parse (by omega),if_neg (by simp),q1U,q3U]
 rfl
theorem q5Q:jI ⟨#[]⟩=(zGI,[(2,0)]):=by
 have hp:(qU ⟨#[]⟩).1=2:=by
  unfold qU;rw[if_pos (by decide)]
 unfold jI;generalize (16777216:Nat)=M;rw[if_neg (show¬M<ByteArray.size ⟨#[]⟩from Nat.not_lt_zero _),if_pos (by rw[hp];decide),hp]
theorem q7c:zJ knP:=⟨by decide,fun i hi=>by
 obtain rfl:i=0:=by simp[knP]at hi;omega
 exact⟨by decide,by decide,by decide,by decide⟩⟩
theorem q5R:X9 kGH:=⟨by decide,by decide,by decide,by decide⟩
def rB:ByteArray:=⟨#[31,139,8,0,0,0,0,0,0,255,75,4,0,67,190,183,232,1,0,0,0]⟩
theorem q1V{w:World}{v:Value}(h:js w v knP):Calls Tryz.prog 9 #[.agg #[.int .i64 0,.string ⟨#[]⟩,.string ⟨#[]⟩,.string ⟨#[]⟩,.int .i64 0,.int .i64 255,.bool false,.bool false,.int .i64 0],v] w fun e w'=>e=.returned (.tuple #[.string rB,.int .i64 0])/\∃x,w'=ext w x:=by
 have:=J0 (h:=kGH) q5R h q4L.1 q4L.2.1 q7c ⟨by decide,by decide,by decide⟩
 rw[xY]at this
 exact this
theorem q5S{w:World}{oa:Option Addr}{n k:Nat}{x:List Value}(h:SlK 2 w (.slice oa n k) [x]):n=1:=by
 obtain⟨oa',cap,b,off,e,-⟩:=h
 cases e;rfl
theorem q8b{w:World}(hL:jK w):Calls Tryz.prog 13 #[.string rB] w fun e w'=>∃oa k,e=.returned (.tuple #[.agg (ifC kGH 80 98 (.slice oa 1 k) ⟨#[97]⟩),.agg #[.nilIface]])/\Below w.heap.size w w':=by
 refine(iM (s:=rB) (by decide) hL).mono ?_
 rw[q3C (s:=rB) rfl];rintro e w' ⟨oa,n,k,c,vb,rfl,hc,hsl,hbl,hb⟩;obtain rfl:=q5S hsl;obtain rfl:c=⟨#[97]⟩:=fZ hc;have:=hbl.nil;rw[this]
 exact⟨oa,k,rfl,hb⟩
theorem q4h:(rB++⟨#[120]⟩:ByteArray)=⟨(q4g++[120]).toArray⟩:=jA q4g [120]
theorem q8c{w:World}(hL:jK w):Calls Tryz.prog 13 #[.string (rB++⟨#[120]⟩)] w fun e w'=>∃oa n k c e9,e=.returned (.tuple #[.agg (ifC zGH 0 0 (.slice oa n k) c),.agg #[e9]])/\cH w' [(14,21)] e9/\Below w.heap.size w w':=by
 have hz:(rB++⟨#[120]⟩:ByteArray).size=22:=by rw[q4h];rfl
 have hb:bys (rB++⟨#[120]⟩)=q4g++[120]:=by rw[q4h];rfl
 generalize (rB++⟨#[120]⟩:ByteArray)=S2 at*;refine(iM (s:=S2) (by omega) hL).mono ?_
 rw[q5P hb];rintro e w' ⟨oa,n,k,c,vb,rfl,hc,hsl,⟨e9,rfl,hbl⟩,hb⟩
 exact⟨oa,n,k,c,e9,rfl,hbl,hb⟩
theorem q8d{w:World}(hL:jK w):Calls Tryz.prog 13 #[.string ⟨#[]⟩] w fun e w'=>∃oa n k c e9,e=.returned (.tuple #[.agg (ifC zGH 0 0 (.slice oa n k) c),.agg #[e9]])/\cH w' [(2,0)] e9/\Below w.heap.size w w':=by
 refine(iM (s:=⟨#[]⟩) (by decide) hL).mono ?_
 rw[q5Q];rintro e w' ⟨oa,n,k,c,vb,rfl,hc,hsl,⟨e9,rfl,hbl⟩,hb⟩
 exact⟨oa,n,k,c,e9,rfl,hbl,hb⟩
theorem q8e:(rB.toList==[31,139,8,0,0,0,0,0,0,255,75,4,0,67,190,183,232,1,0,0,0])=true:=by decide+kernel
theorem q7d:(ByteArray.toList ⟨#[97]⟩==ByteArray.toList ⟨#[97]⟩)=true:=beq_self_eq_true _
theorem oC(w:World):Own ((w.alloc (.cells zIf 38)).alloc (.cells #[.nilIface] 42)) w.heap.size 38 (.slice (some ⟨w.heap.size,0,none⟩) 13 13) zIf.toList/\Own ((w.alloc (.cells zIf 38)).alloc (.cells #[.nilIface] 42)) w.heap.size 42 (.slice (some ⟨w.heap.size+1,0,none⟩) 1 1) [.nilIface]/\Below w.heap.size w ((w.alloc (.cells zIf 38)).alloc (.cells #[.nilIface] 42)):=by
 have h1:=qE w w.heap.size zIf 38 (by simp[zIf,ifC]) (q9 _)
 have hb:=qn w (.cells zIf 38);have h2:=qE (w.alloc (.cells zIf 38)) w.heap.size #[.nilIface] 42 (by simp) hb.size
 have hb2:=qn (w.alloc (.cells zIf 38)) (.cells #[.nilIface] 42);have hs:(w.alloc (.cells zIf 38)).heap.size=w.heap.size+1:=by simp
 rw[hs]at h2
 exact⟨h1.up hb2,h2,qq hb hb2⟩
theorem dO{w:World}(hL:jK w):Calls Tryz.prog 8 #[] w fun e w'=>e=.returned (.bool true)/\∃x,w'=ext w x:=by
 have HP:=q7 (q2L w);have HL:=q7 hL;have hq1:=q8e;have hq2:=q7d;have hsz:rB.size=21:=rfl;clear hL;have HBD:=q7 (fun(W:World) (v:Value) (h:js W v knP)=>q1V h)
 have HP1:=q7 (fun(W:World) (h:jK W)=>q8b h)
 have HP2:=q7 (fun(W:World) (h:jK W)=>q8c h)
 have HP3:=q7 (fun(W:World) (h:jK W)=>q8d h)
 generalize rB=S at*
 go_enter Tryz.func8,Tryz.ntmps8
 go_upto_region 2 with(first|((with_reducible go_at_call 9);(with_reducible refine(HBD.out _ _ HP.out).mono ?_);rintro en w2 ⟨rfl,hx⟩;have HX:=q7 (qr hx);clear hx))
 have HB2:Hid (Below w.heap.size w w2):=q7 (by
  have h1:=qn w (.cells #[.int .u8 97,.int .i64 0,.int .i64 0] 64);have h2:=h1.trans ((qn _ (.cells #[.int .i64 1,.string ⟨#[]⟩,.slice (some ⟨w.heap.size,0,none⟩) 1 1,.slice none 0 0,.slice none 0 0] 68)).mono h1.size)
  exact qq h2 HX.out)
 clear HX HP HBD
 go_upto_region 3 with(first
  |((with_reducible go_at_call 13);(with_reducible refine(HP1.out _ (HL.out.up HB2.out)).mono ?_);rintro en wp1 ⟨oa,k,rfl,hb⟩;have qiz:=q7 (qq HB2.out hb);have HT1:=q7 (oC wp1);clear hb)
  |(refine qo rfl 38 _ _ rfl wp1.heap.size 38 wp1.heap.size 13 13 rfl (ifC kGH 80 98 (.slice oa 1 k) ⟨#[97]⟩) rfl (by kernel_rfl) zIf.toList HT1.out.1 (by simp[zIf,ifC]) (dN _ _ _ _ _ _ _) ?_;intro wi1 ho hg;have qhY:=q7 ho;have qi6:=q7 hg;have HC1:=q7 (HT1.out.2.1.keep hg (.inr (fun e=>by have h9:wp1.heap.size+1=wp1.heap.size:=ql e;omega)));clear ho hg)
  |(refine qo rfl 42 _ _ rfl wp1.heap.size 42 (wp1.heap.size+1) 1 1 rfl #[.nilIface] rfl (by kernel_rfl) [.nilIface] HC1.out (by simp) (by intro u hu;simp at hu;rw[hu];exact rfl) ?_;intro wb1 ho hg;have qiq:=q7 ho;have qfN:=q7 hg;clear ho hg))
 have HI1:Hid (Own wi1 wp1.heap.size 38 (.slice (some ⟨wp1.heap.size,0,none⟩) 13 13) ((ifC kGH 80 98 (.slice oa 1 k) ⟨#[97]⟩)).toList):=qhY;have HD1:Hid (Own wb1 wp1.heap.size 42 (.slice (some ⟨wp1.heap.size+1,0,none⟩) 1 1) [.nilIface]):=qiq;have qf6:=(HT1.out.2.2.grown qi6.out HT1.out.2.2.size (fun k e=>by cases e;exact q9 _))
 have qiA:Hid (Below wp1.heap.size wp1 wb1):=q7 (qf6.grown qfN.out qf6.size (fun k e=>by cases e;omega))
 have qit:=q7 (qq qiz.out qiA.out);have HJ1:=q7 (HI1.out.keep qfN.out (.inr (fun e=>by have h9:wp1.heap.size=wp1.heap.size+1:=ql e;omega)))
 clear qf6;obtain⟨g1,hg1⟩:∃g1,g1=wp1.heap.size:=⟨_,rfl⟩;rw[<-hg1]at HI1 HD1 HJ1⊢;clear qhY qiq HT1 HC1 qi6 qfN HI1 qiA qiz hg1
 go_upto_region 4 with(first
  |((with_reducible go_at_call 13);(with_reducible refine(HP2.out _ (HL.out.up qit.out)).mono ?_);rintro en wp2 ⟨o2,n2,k2,c2,e2,rfl,he,hb⟩;have qiy:=q7 (qq qit.out hb);have HT2:=q7 (oC wp2);have qhQ:=q7 (HJ1.out.up hb);have qip:=q7 (HD1.out.up hb);have HE2:=q7 he;clear he;clear hb)
  |(refine qo rfl 38 _ _ rfl wp2.heap.size 38 wp2.heap.size 13 13 rfl (ifC zGH 0 0 (.slice o2 n2 k2) c2) rfl (by kernel_rfl) zIf.toList HT2.out.1 (by simp[zIf,ifC]) (dN _ _ _ _ _ _ _) ?_;intro wi2 ho hg;have qbi:=q7 ho;have qi5:=q7 hg;have HC2:=q7 (HT2.out.2.1.keep hg (.inr (fun e=>by have h9:wp2.heap.size+1=wp2.heap.size:=ql e;omega)));clear ho hg)
  |(refine qo rfl 42 _ _ rfl wp2.heap.size 42 (wp2.heap.size+1) 1 1 rfl #[e2] rfl (by kernel_rfl) [.nilIface] HC2.out (by simp) (by intro u hu;simp at hu;rw[hu];exact HE2.out.one) ?_;intro wb2 ho hg;have qim:=q7 ho;have qfM:=q7 hg;clear ho hg))
 have HI2:Hid (Own wi2 wp2.heap.size 38 (.slice (some ⟨wp2.heap.size,0,none⟩) 13 13) ((ifC zGH 0 0 (.slice o2 n2 k2) c2)).toList):=qbi;have HD2:Hid (Own wb2 wp2.heap.size 42 (.slice (some ⟨wp2.heap.size+1,0,none⟩) 1 1) [e2]):=qim;have qf5:=(HT2.out.2.2.grown qi5.out HT2.out.2.2.size (fun k e=>by cases e;exact q9 _))
 have qdr:Hid (Below wp2.heap.size wp2 wb2):=q7 (qf5.grown qfM.out qf5.size (fun k e=>by cases e;omega))
 have qis:=q7 (qq qiy.out qdr.out);have HJ2:=q7 (HI2.out.keep qfM.out (.inr (fun e=>by have h9:wp2.heap.size=wp2.heap.size+1:=ql e;omega)))
 clear qf5;have qhP:=q7 (qhQ.out.up qdr.out);have qio:=q7 (qip.out.up qdr.out);have qif:=q7 (HE2.out.up qdr.out);obtain⟨g2,hg2⟩:∃g2,g2=wp2.heap.size:=⟨_,rfl⟩;rw[<-hg2]at HI2 HD2 HJ2⊢;clear qbi qim HT2 HC2 qi5 qfM HI2 qdr qiy hg2 HJ2 qhQ qip HE2 HJ1 HD1
 go_upto_region 5 with(first
  |((with_reducible go_at_call 13);(with_reducible refine(HP3.out _ (HL.out.up qis.out)).mono ?_);rintro en wp3 ⟨o3,n3,k3,c3,e3,rfl,he,hb⟩;have qix:=q7 (qq qis.out hb);have HT3:=q7 (oC wp3);have qhO:=q7 (qhP.out.up hb);have qin:=q7 (qio.out.up hb);have qcw:=q7 (HD2.out.up hb);have qdq:=q7 (qif.out.up hb);have HE3:=q7 he;clear he;clear hb)
  |(refine qo rfl 38 _ _ rfl wp3.heap.size 38 wp3.heap.size 13 13 rfl (ifC zGH 0 0 (.slice o3 n3 k3) c3) rfl (by kernel_rfl) zIf.toList HT3.out.1 (by simp[zIf,ifC]) (dN _ _ _ _ _ _ _) ?_;intro wi3 ho hg;have qhW:=q7 ho;have qi4:=q7 hg;have HC3:=q7 (HT3.out.2.1.keep hg (.inr (fun e=>by have h9:wp3.heap.size+1=wp3.heap.size:=ql e;omega)));clear ho hg)
  |(refine qo rfl 42 _ _ rfl wp3.heap.size 42 (wp3.heap.size+1) 1 1 rfl #[e3] rfl (by kernel_rfl) [.nilIface] HC3.out (by simp) (by intro u hu;simp at hu;rw[hu];exact HE3.out.one) ?_;intro wb3 ho hg;have qbk:=q7 ho;have qfL:=q7 hg;clear ho hg))
 have HI3:Hid (Own wi3 wp3.heap.size 38 (.slice (some ⟨wp3.heap.size,0,none⟩) 13 13) ((ifC zGH 0 0 (.slice o3 n3 k3) c3)).toList):=qhW;have HD3:Hid (Own wb3 wp3.heap.size 42 (.slice (some ⟨wp3.heap.size+1,0,none⟩) 1 1) [e3]):=qbk;have qf4:=(HT3.out.2.2.grown qi4.out HT3.out.2.2.size (fun k e=>by cases e;exact q9 _))
 have qc8:Hid (Below wp3.heap.size wp3 wb3):=q7 (qf4.grown qfL.out qf4.size (fun k e=>by cases e;omega))
 have qaE:=q7 (qq qix.out qc8.out);have HJ3:=q7 (HI3.out.keep qfL.out (.inr (fun e=>by have h9:wp3.heap.size=wp3.heap.size+1:=ql e;omega)))
 clear qf4;have HJ1:=q7 (qhO.out.up qc8.out);have HD1:=q7 (qin.out.up qc8.out);have HD2:=q7 (qcw.out.up qc8.out);have HE2:=q7 (qdq.out.up qc8.out);have qkV:=q7 (HE3.out.up qc8.out);obtain⟨g3,hg3⟩:∃g3,g3=wp3.heap.size:=⟨_,rfl⟩;rw[<-hg3]at HI3 HD3 HJ3⊢;clear qhW qbk HT3 HC3 qi4 qfL HI3 qc8 qix hg3 HJ3 qhO qin qcw qdq HE3 qhP qio qif HP1 HP2 HP3;have i9:wb3.cell? ⟨g1,9,none⟩=some (.int .i64 80):=HJ1.out.cell (i:=9) (by simp[ifC])
 have i10:wb3.cell? ⟨g1,10,none⟩=some (.int .i64 98):=HJ1.out.cell (i:=10) (by simp[ifC])
 have i11:wb3.cell? ⟨g1,11,none⟩=some (.slice oa 1 k):=HJ1.out.cell (i:=11) (by simp[ifC])
 have i12:wb3.cell? ⟨g1,12,none⟩=some (.string ⟨#[97]⟩):=HJ1.out.cell (i:=12) (by simp[ifC])
 have j1:wb3.cell? ⟨g1+1,0,none⟩=some .nilIface:=HD1.out.cell (i:=0) (by simp)
 have m1:=HJ1.out.blk.2;have m2:=HD1.out.blk.2;have hdp:=tR (HL.out.up qaE.out) (l:=[]) (v:=.agg #[.nilIface]) ⟨.nilIface,rfl,rfl⟩ (by decide)
 simp only[List.length_nil]at hdp;have HDP:=q7 hdp;clear hdp
 go_wp2_with(first
  |((with_reducible go_at_call 14);(with_reducible refine HDP.out.mono ?_);rintro en wd ⟨rfl,hx⟩;have hb:=qr hx;have HBd:=q7 (qq qaE.out hb);have qcw:=q7 (HD2.out.up hb);have ql2:=q7 (HD3.out.up hb);have qdq:=q7 (HE2.out.up hb);have qkZ:=q7 (qkV.out.up hb);have j2:wd.cell? ⟨g2+1,0,none⟩=some e2:=qcw.out.cell (i:=0) (by simp);have m3:=qcw.out.blk.2;have HCD:=q7 (q0U (HL.out.up HBd.out) ⟨e2,rfl,qdq.out⟩);clear hx hb)
  |((with_reducible go_at_call 16);(with_reducible refine HCD.out.mono ?_);rintro en we ⟨rfl,hx⟩;have hb:=qr hx;have HBe:=q7 (qq HBd.out hb);have qil:=q7 (qcw.out.up hb);have ql1:=q7 (ql2.out.up hb);have ql0:=q7 (qdq.out.up hb);have qkY:=q7 (qkZ.out.up hb);have j3:we.cell? ⟨g2+1,0,none⟩=some e2:=qil.out.cell (i:=0) (by simp);have m4:=qil.out.blk.2;have HAT:=q7 (atB (HL.out.up HBe.out) ⟨e2,rfl,ql0.out⟩);clear hx hb HCD)
  |((with_reducible go_at_call 17);(with_reducible refine HAT.out.mono ?_);rintro en wf ⟨rfl,hx⟩;have hb:=qr hx;have HBf:=q7 (qq HBe.out hb);have qik:=q7 (ql1.out.up hb);have qkX:=q7 (qkY.out.up hb);have j4:wf.cell? ⟨g3+1,0,none⟩=some e3:=qik.out.cell (i:=0) (by simp);have m5:=qik.out.blk.2;have HC3:=q7 (q0U (HL.out.up HBf.out) ⟨e3,rfl,qkX.out⟩);clear hx hb)
  |((with_reducible go_at_call 16);(with_reducible refine HC3.out.mono ?_);rintro en wg ⟨rfl,hx⟩;have hb:=qr hx;have HBg:=q7 (qq HBf.out hb);clear hx hb))
 go_ret
 exact⟨rfl,qt HBg.out⟩
theorem lN.cell{w:World}{B E g n cap:Nat}{xs:List Value}(h:lN w B E (.slice (some ⟨g,0,none⟩) n cap) xs){i:Nat}(hi:i<xs.length):w.cell? ⟨g,i,none⟩=some (xs.getD i undef)/\w.frozen? ⟨g,i,none⟩=false:=by
 obtain⟨hl,⟨h,-⟩|⟨g',cap',cur,fz,e,hb,hg,hf,hnc,hcm,hcs,q91⟩⟩:=h
 ·cases h
 ·cases e
  have hi2:i<cur.size:=by omega
  refine⟨?_,?_⟩
  ·rw[cell_of_row _ _ _ _ _ _ hg]
   have:cur[i]? =(cur.toList.take xs.length)[i]? :=by rw[List.getElem?_take,if_pos hi];simp
   rw[this,q91,List.getElem?_eq_getElem hi]
   simp[List.getD,hi]
  ·obtain⟨a,b⟩:=fz
   simp only[World.frozen?,hg,Bool.and_eq_false_iff,qm];simp only at hf;omega
theorem lN.store{w:World}{B E g n cap:Nat}{xs:List Value}(h:lN w B E (.slice (some ⟨g,0,none⟩) n cap) xs){i:Nat}(_hi:i<xs.length)(u:Value):lN (w.setCell ⟨g,i,none⟩ u) B E (.slice (some ⟨g,0,none⟩) n cap) (xs.set i u):=by
 obtain⟨hl,⟨h,-⟩|⟨g',cap',cur,fz,e,hb,hg,hf,hnc,hcm,hcs,q91⟩⟩:=h
 ·cases h
 ·cases e
  refine⟨by rw[List.length_set];exact hl,.inr ⟨g,cap,cur.setIfInBounds i u,fz,by rw[List.length_set],hb,?_,by rw[Array.size_setIfInBounds];exact hf,by rw[List.length_set];exact hnc,hcm,by rw[Array.size_setIfInBounds];exact hcs,?_⟩⟩
  ·rw[setCell_eq_setRow w g i cur E fz u hg]
   exact setRow_heap w g cur _ E fz hg
  ·rw[List.length_set,Array.toList_setIfInBounds,List.take_set,q91]
end Go.Cm
