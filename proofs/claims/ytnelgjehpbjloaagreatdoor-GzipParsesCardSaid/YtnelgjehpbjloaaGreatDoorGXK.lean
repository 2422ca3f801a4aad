/- Walks of functions and plain facts, joined and squeezed by a program. Conditions: as each says. -/
import Derived.Test.YtnelgjehpbjloaaGreatDoorGXG
set_option maxHeartbeats 8000000
set_option maxRecDepth 100000
set_option linter.unusedSimpArgs false
namespace Go.Cm
open Go.RowKit Go.Proofs
theorem WSt.from2{w0 W W':World}{B g:Nat}{vb0 vb:Value}{st':Nat×Nat}(h1:Below B w0 W)(h2:Fr g vb0 vb w0 W)(h:WSt W B g vb st' W'):WSt w0 B g vb0 st' W':=by
 obtain⟨vb',a,b,c⟩:=h
 exact⟨vb',a,h1.trans b,h2.trans c⟩
theorem q2K{w:World}{v:Value}{l:List PtN}(h:js w v l)(hok:∀p∈l,yT p)(q9e:∀p∈l,∀o∈p.ops,pL o)(hsm:∀p∈l,q5W p)(hsz:∀k,k<=l.length->(aX l k).2.2<=90000000):
  Calls Tryz.prog 25 #[v] w (bS (eN l) w):=by
 have HT:=q7 (q0q h hok)
 have q9I:∀i,i<l.length->l.getD i zPt∈l:=fun i hi=>by
  have:l.getD i zPt=l[i]:=by simp[List.getD,hi]
  rw[this];exact List.getElem_mem hi
 have qde:Hid (∀i,i<l.length->∀o∈(l.getD i zPt).ops,pL o):=q7 (fun i hi=>q9e _ (q9I i hi))
 have HSM:Hid (∀i,i<l.length->q5W (l.getD i zPt)):=q7 (fun i hi=>hsm _ (q9I i hi))
 have HSZ:=q7 hsz;obtain⟨oa,cap,bl,off,rfl,hd,hco⟩:=h.open;have HCO:=q7 hco;have HD:=q7 hd;obtain⟨y,hy⟩:∃y,y=eN l:=⟨_,rfl⟩;rw[<-hy];have HY:=q7 hy;unfold eN at HY;have hm:=hd.len;clear hy h hok hd hco q9I q9e hsm hsz;generalize jq 10 17 l=z at*;obtain⟨er,tb⟩:=z;simp only at HY;unfold bS at HT;simp only at HT
 by_cases her:er=0
 ·subst her
  have HYA:Hid (y=if(aX l l.length).1≠0 then((aX l l.length).1,[])else(0,fI (aX l l.length).2.1 (aX l l.length).2.2)):=q7 (by rw[HY.out,if_neg (fun h=>h rfl)])
  clear HY
  go_enter Tryz.func25,Tryz.ntmps25
  go_upto_region 4 with(go_at_call 12;(with_reducible refine HT.out.mono ?_);rintro e w1 ⟨rfl,x1,rfl⟩;have HB1:=q7 (qu w x1);generalize ext w x1=w1 at*;clear HT)
  go_wp2_with(go_at_call 52;refine(q7u w1).mono ?_;rintro e w2 ⟨g,rfl,hw,hb2⟩;have HW2:=q7 hw;have HB2:=q7 hb2;clear hw hb2)
  obtain⟨vb2,hv2⟩:=HW2.out.v;have HV2:=q7 hv2;have hB1:w.heap.size<=w1.heap.size:=HB1.out.size;obtain⟨B,hB⟩:∃B,B=w1.heap.size:=⟨_,rfl⟩;rw[<-hB]at HV2 HB2 hB1;have HBB:=q7 hB;have q99:Hid (∀W,Below B w2 W->Below w.heap.size w W):=q7 (fun W hb=>HB1.out.trans ((HB2.out.trans hb).mono hB1))
  clear hv2 HW2 hB
  go_loopg [21] (l.length+1) (fun gk iv wr=>∃k:Nat,iv=.int .i64 k/\k<=l.length/\(aX l k).1=0/\WSt w2 B g vb2 (aX l k).2 wr/\gk=l.length+1-k)
  case atStart=>exact⟨0,rfl,qc _,rfl,WSt.start HV2.out,rfl⟩
  case round=>
   clear HV2;obtain⟨k,rfl,hk,hk0,hst,rfl⟩:=hrel;have HS:=q7 hst;have HK0:=q7 hk0;have hlen:=HSZ.out k hk;have qgU:=hst.lt;clear hst hk0
   by_cases hlt:k<l.length
   ·have hix:=jy (P:=Tryz.prog) 5 30 68 Tryz.underlying30 (by kernel_rfl) HD.out
    have q9a:=fun W kd=>hix W kd (k:Int) (by omega) (by omega)
    simp only[Int.toNat_natCast]at q9a;obtain⟨oo,oc,o1,c1,o2,c2,hcc,hs,hi1,hi2⟩:=HCO.out k hlt;have hsm:=HSM.out k hlt;have q9e:=qde.out k hlt;have HNX:=q7 (nQ (l:=l) (k:=k) HK0.out);have hbb:=HD.out.hblk (by omega)
    obtain⟨p,hp⟩:∃p,p=l.getD k zPt:=⟨_,rfl⟩;rw[<-hp]at hcc hs hi1 hi2 hsm q9e HNX;clear hp;have hBW:=q99.out _ HS.out.bel;have hwr:w.heap.size<=wr.heap.size:=hBW.size;obtain⟨wk,hwk⟩:∃wk,wk=wr.alloc (.cells #[.int .i64 p.kind,.string p.text,.slice oo p.ops.length oc,.slice o1 p.lits.length c1,.slice o2 p.dists.length c2] 68):=⟨_,rfl⟩;have hAL:=qn wr (.cells #[.int .i64 p.kind,.string p.text,.slice oo p.ops.length oc,.slice o1 p.lits.length c1,.slice o2 p.dists.length c2] 68);have hPT:=qE wr wr.heap.size #[.int .i64 p.kind,.string p.text,.slice oo p.ops.length oc,.slice o1 p.lits.length c1,.slice o2 p.dists.length c2] 68 (by simp) (q9 _)
    rw[<-hwk]at hAL hPT;have hBr:B<=wr.heap.size:=by omega
    obtain⟨vbk,hvr,hbr,hfr⟩:=HS.out;have hnq:vbk.ownBlock≠some wr.heap.size:=fun e=>by have:=(hvr.own.lt _ e).2;omega
    have hvk:=hvr.up hAL;have HVK:=q7 hvk;have HBR:=q7 (hbr.trans (hAL.mono hBr));have HFR:=q7 (hfr.below hAL);have hgq:g≠wr.heap.size:=by omega
    have HC5:Hid (∀c,c<5->wr.cell? ⟨bl,off+k*5+c,none⟩=some ((#[.int .i64 p.kind,.string p.text,.slice oo p.ops.length oc,.slice o1 p.lits.length c1,.slice o2 p.dists.length c2]:Array Value).getD c undef)):=q7 (fun c hc=>(hBW.cell (p:=⟨bl,off+k*5+c,none⟩) hbb).trans (hcc c hc))
    have hBK:Below w.heap.size w wk:=hBW.trans (hAL.mono hwr);have HPT:=q7 hPT;have HWK:=q7 hwk;have qk2:B<=wk.heap.size:=qa hBr hAL.size;have HWS:Hid (∀st' W,WSt wk B g vbk st' W->WSt w2 B g vb2 st' W):=q7 (fun st' W hw=>hw.from2 HBR.out HFR.out)
    have HPS:Hid (∀st' W,WSt wk B g vbk st' W->Own W wr.heap.size 68 (.slice (some ⟨wr.heap.size,0,none⟩) 5 5) [.int .i64 p.kind,.string p.text,.slice oo p.ops.length oc,.slice o1 p.lits.length c1,.slice o2 p.dists.length c2]):=q7 (fun st' W hw=>hw.own HPT.out (by intro e;have e2:some wr.heap.size=some g:=e;injection e2 with e2;omega) (by intro q e;have e2:some wr.heap.size=some q:=e;injection e2 with e2;subst e2;exact hnq))
    have HHD:=q7 (q4E hvk (decide (k+1=l.length)) p.kind p.text.size (.slice o1 p.lits.length c1) (.slice o2 p.dists.length c2) p.lits p.dists (fun W hb=>hi1.up (hBK.trans (hb.mono (by rw[HBB.out];exact HB1.out.size)))) (fun W hb=>hi2.up (hBK.trans (hb.mono (by rw[HBB.out];exact HB1.out.size)))) (by omega))
    have hfl:((k:Int)==(l.length:Int)-1)=decide (k+1=l.length):=by
     by_cases e:k+1=l.length
     ·rw[decide_eq_true e];simp;omega
     ·rw[decide_eq_false e];simp;omega
    have hmi:∀st',(tQ l.length k p (aX l k).2)=st'->st'.1≠0->y=(st'.1,[]):=fun st' h1 h2=>by
     have e:aX l (k+1)=st':=by rw[HNX.out,h1]
     have e2:=gP (l:=l) (k:=k+1) (by rw[e];exact h2) (l.length-(k+1))
     rw[show k+1+(l.length-(k+1))=l.length by omega,e]at e2
     rw[HYA.out,e2,if_pos h2]
    have qa7:=q7 hmi;have q9J:Hid (∀st',(tQ l.length k p (aX l k).2)=st'->aX l (k+1)=st'):=q7 (fun st' h=>by rw[HNX.out,h])
    have p0:wk.cell? ⟨wr.heap.size,0,none⟩=some (.int .i64 p.kind):=hPT.cell (by simp)
    have p1:wk.cell? ⟨wr.heap.size,1,none⟩=some (.string p.text):=hPT.cell (by simp)
    have p3:wk.cell? ⟨wr.heap.size,3,none⟩=some (.slice o1 p.lits.length c1):=hPT.cell (by simp)
    have p4:wk.cell? ⟨wr.heap.size,4,none⟩=some (.slice o2 p.dists.length c2):=hPT.cell (by simp)
    have hp:=hPT.blk.2;have htx:p.text.size<=1000000:=hsm.text;have qec:Hid (∀W st',WSt wk B g vbk st' W->st'.2<=100000000->Calls Tryz.prog 55 #[.pointer (some ⟨g,0,none⟩),.agg #[.int .i64 p.kind,.string p.text,.slice oo p.ops.length oc,.slice o1 p.lits.length c1,.slice o2 p.dists.length c2]] W fun e w'=>e=.returned (.int .i64 ((lJ (fJ p) (bO p) p.ops st').1:Nat))/\WSt wk B g vbk (lJ (fJ p) (bO p) p.ops st').2 w'):=q7 (fun W st' hw hl=>hw.join (Q:=fun e=>e=.returned (.int .i64 ((lJ (fJ p) (bO p) p.ops st').1:Nat))) (fun vb hb=>q6o hb hB1 (hBK.trans (hw.bel.mono (by omega))) p oo o1 o2 oc c1 c2 hs hi1 hi2 q9e (by have:=hsm.ops;omega)))
    obtain⟨m,hmm⟩:∃m,m=fH p.kind p.text.size p.lits p.dists:=⟨_,rfl⟩;rw[<-hmm]at HHD;have HMM:=q7 hmm;clear hmm hmi hcc hs hi1 hi2 hsm q9e HNX hix hAL hPT hwk hvr hbr hfr hvk HSM qde HCO HVK;obtain⟨st,hst⟩:∃st,st=(aX l k).2:=⟨_,rfl⟩;rw[<-hst]at HHD qa7 q9J hlen;clear hst
    by_cases hm0:m=0
    ·subst hm0
     rw[if_pos rfl]at HHD;have hw1:=G6 (f:=decide (k+1=l.length)) (st:=st) HMM.out.symm
     have HEP:Hid (tQ l.length k p st=if p.kind=0 then(0,iT (bys p.text) (jo (wrI (decide (k+1=l.length)) p.kind p.text.size p.lits p.dists st)))else lJ (fJ p) (bO p) p.ops (wrI (decide (k+1=l.length)) p.kind p.text.size p.lits p.dists st)):=q7 (by
      unfold tQ;rw[<-HMM.out,if_neg (fun h=>h rfl)])
     rw[show(st.1,st.2)=st from rfl]at HHD
     obtain⟨s1,hs1⟩:∃s1,s1=wrI (decide (k+1=l.length)) p.kind p.text.size p.lits p.dists st:=⟨_,rfl⟩;rw[<-hs1]at HHD HEP hw1;clear hs1 HMM;generalize decide (k+1=l.length)=fl at*
     by_cases hk0:p.kind=0
     ·have qeF:(p.kind==0)=true:=by simpa using hk0
      rw[if_pos hk0]at HEP;have HBY:=q7 (fun(W:World) (hw:WSt wk B g vbk s1 W)=>q4G hw p.text htx (by omega))
      have HK1:=q7 (q9J.out _ HEP.out);clear hk0 qec qa7 q9J HEP;generalize p.lits.length=n1 at*;generalize p.dists.length=n2 at*;generalize p.ops.length=n3 at*
      go_upto_region 8 with(refine qG rfl 68 _ rfl bl (off+k*5) 5 rfl #[.int .i64 p.kind,.string p.text,.slice oo n3 oc,.slice o1 n1 c1,.slice o2 n2 c2] _ HC5.out rfl Tryz.underlying68 rfl (by kernel_rfl) ?_)
      rw[<-HWK.out]
      go_wp2_with(first
       |(go_at_call 53;(with_reducible refine HHD.out.mono ?_);rintro e w5 ⟨rfl,hw5⟩;have HW5:=q7 hw5;have q0:w5.cell? ⟨wr.heap.size,0,none⟩=some (.int .i64 p.kind):=(HPS.out _ _ hw5).cell (by simp);have q1:w5.cell? ⟨wr.heap.size,1,none⟩=some (.string p.text):=(HPS.out _ _ hw5).cell (by simp);have hq5:=(HPS.out _ _ hw5).blk.2;clear hw5)
       |(go_at_call 54;(with_reducible refine(HBY.out _ HW5.out).mono ?_);rintro e w6 ⟨rfl,hw6⟩;have HW6:=q7 hw6;clear hw6))
      go_roundg (l.length+1-(k+1))
      case measure=>omega
      case rel=>exact⟨k+1,by go_num,by omega,by rw[HK1.out],by rw[HK1.out];exact HWS.out _ _ HW6.out,rfl⟩
     ·have qeF:(p.kind==0)=false:=by simpa using hk0
      rw[if_neg hk0]at HEP;have HCD:=q7 (fun(W:World) (hw:WSt wk B g vbk s1 W)=>qec.out W s1 hw (by omega))
      have HK1:=q7 (q9J.out _ HEP.out);have HE1:=q7 (qa7.out _ HEP.out);clear hk0 qec qa7 q9J HEP;generalize lJ (fJ p) (bO p) p.ops s1=z at*;obtain⟨ez,sz⟩:=z;simp only at HCD HK1 HE1;generalize p.lits.length=n1 at*;generalize p.dists.length=n2 at*;generalize p.ops.length=n3 at*
      by_cases hez:ez=0
      ·subst hez
       go_upto_region 8 with(refine qG rfl 68 _ rfl bl (off+k*5) 5 rfl #[.int .i64 p.kind,.string p.text,.slice oo n3 oc,.slice o1 n1 c1,.slice o2 n2 c2] _ HC5.out rfl Tryz.underlying68 rfl (by kernel_rfl) ?_)
       rw[<-HWK.out]
       go_wp2_with(first
        |(go_at_call 53;(with_reducible refine HHD.out.mono ?_);rintro e w5 ⟨rfl,hw5⟩;have HW5:=q7 hw5;have q0:w5.cell? ⟨wr.heap.size,0,none⟩=some (.int .i64 p.kind):=(HPS.out _ _ hw5).cell (by simp);have hq5:=(HPS.out _ _ hw5).blk.2;obtain⟨A5,hA5,hs5,hl5⟩:=(HPS.out _ _ hw5).whole;have he5:A5=#[.int .i64 p.kind,.string p.text,.slice oo n3 oc,.slice o1 n1 c1,.slice o2 n2 c2]:=(by rw[<-Array.toArray_toList (xs:=A5),hl5]);subst he5;clear hw5 hs5 hl5)
        |(refine qI rfl 68 5 _ rfl wr.heap.size rfl #[.int .i64 p.kind,.string p.text,.slice oo n3 oc,.slice o1 n1 c1,.slice o2 n2 c2] rfl hA5 _ Tryz.underlying68 rfl (by kernel_rfl) ?_)
        |(go_at_call 55;(with_reducible refine(HCD.out _ HW5.out).mono ?_);rintro e w6 ⟨rfl,hw6⟩;have HW6:=q7 hw6;clear hw6))
       go_roundg (l.length+1-(k+1))
       case measure=>omega
       case rel=>exact⟨k+1,by go_num,by omega,by rw[HK1.out],by rw[HK1.out];exact HWS.out _ _ HW6.out,rfl⟩
      ·have qma:((ez:Int) != 0)=true:=by simpa using hez
       have HE:=q7 (HE1.out hez);clear hez HE1 HK1
       go_upto_region 8 with(refine qG rfl 68 _ rfl bl (off+k*5) 5 rfl #[.int .i64 p.kind,.string p.text,.slice oo n3 oc,.slice o1 n1 c1,.slice o2 n2 c2] _ HC5.out rfl Tryz.underlying68 rfl (by kernel_rfl) ?_)
       rw[<-HWK.out]
       go_wp2_with(first
        |(go_at_call 53;(with_reducible refine HHD.out.mono ?_);rintro e w5 ⟨rfl,hw5⟩;have HW5:=q7 hw5;have q0:w5.cell? ⟨wr.heap.size,0,none⟩=some (.int .i64 p.kind):=(HPS.out _ _ hw5).cell (by simp);have hq5:=(HPS.out _ _ hw5).blk.2;obtain⟨A5,hA5,hs5,hl5⟩:=(HPS.out _ _ hw5).whole;have he5:A5=#[.int .i64 p.kind,.string p.text,.slice oo n3 oc,.slice o1 n1 c1,.slice o2 n2 c2]:=(by rw[<-Array.toArray_toList (xs:=A5),hl5]);subst he5;clear hw5 hs5 hl5)
        |(refine qI rfl 68 5 _ rfl wr.heap.size rfl #[.int .i64 p.kind,.string p.text,.slice oo n3 oc,.slice o1 n1 c1,.slice o2 n2 c2] rfl hA5 _ Tryz.underlying68 rfl (by kernel_rfl) ?_)
        |(go_at_call 55;(with_reducible refine(HCD.out _ HW5.out).mono ?_);rintro e w6 ⟨rfl,hw6⟩;have HW6:=q7 hw6;clear hw6))
       go_ret2
       exact⟨by rw[HE.out];rfl,qt (q99.out _ (HWS.out _ _ HW6.out).bel)⟩
    ·have qjb:((m:Int) != 0)=true:=by simpa using hm0
     have qlt:((m:Int)==0)=false:=by simpa using hm0
     have HE:Hid (y=(m,[])):=q7 (qa7.out (m,st) (by unfold tQ;rw[<-HMM.out,if_pos hm0]) hm0)
     clear hm0 qa7 q9J HMM qec;generalize decide (k+1=l.length)=fl at*;generalize p.lits.length=n1 at*;generalize p.dists.length=n2 at*;generalize p.ops.length=n3 at*
     go_upto_region 8 with(refine qG rfl 68 _ rfl bl (off+k*5) 5 rfl #[.int .i64 p.kind,.string p.text,.slice oo n3 oc,.slice o1 n1 c1,.slice o2 n2 c2] _ HC5.out rfl Tryz.underlying68 rfl (by kernel_rfl) ?_)
     rw[<-HWK.out]
     go_wp2_with(go_at_call 53;(with_reducible refine HHD.out.mono ?_);rintro e w5 ⟨rfl,hw5⟩;have HW5:=q7 hw5;have q0:w5.cell? ⟨wr.heap.size,0,none⟩=some (.int .i64 p.kind):=(HPS.out _ _ hw5).cell (by simp);have hq5:=(HPS.out _ _ hw5).blk.2;clear hw5)
     go_ret2
     exact⟨by rw[HE.out];rfl,qt (q99.out _ (HWS.out _ _ HW5.out).bel)⟩
   ·obtain rfl:k=l.length:=by omega
    obtain⟨vbk,hvr,hbr,hfr⟩:=HS.out;have HTX:=q7 (q7v hvr.p (by omega))
    have HE:Hid (y=(0,fI (aX l l.length).2.1 (aX l l.length).2.2)):=q7 (by rw[HYA.out,if_neg (by have:=HK0.out;omega)])
    have HBW:=q7 (q99.out _ hbr);clear hlt hvr hbr hfr HYA;generalize fI (aX l l.length).2.1 (aX l l.length).2.2=tn at*
    go_wp2_with(go_at_call 56;(with_reducible refine HTX.out.mono ?_);rintro e w5 ⟨rfl,x5,rfl⟩)
    go_ret2
    exact⟨by rw[HE.out];rfl,qt (HBW.out.trans ((qu wr x5).mono HBW.out.size))⟩
 ·have hei:((er:Int) != 0)=true:=by simpa using her
  have HE:Hid (y=(er,[])):=q7 (by rw[HY.out,if_pos her])
  clear her HY
  go_enter Tryz.func25,Tryz.ntmps25
  go_wp2_with(go_at_call 12;(with_reducible refine HT.out.mono ?_);rintro e w1 ⟨rfl,x1,rfl⟩)
  go_ret2
  exact⟨by rw[HE.out];rfl,(qt (by repeat(first|exact qj _ _|assumption|refine qw ?_ _|refine qk ?_|refine qA ?_ _|refine qs ?_ _)))⟩
def knP:List PtN:=[⟨1,⟨#[]⟩,[⟨97,0,0⟩],[],[]⟩]
theorem q0N:jq 10 17 knP=(0,[97]):=by kernel_rfl
theorem q3U:eN knP=(0,[75,4,0]):=by kernel_rfl
theorem q2L(w:World):js ((w.alloc (.cells #[.int .u8 97,.int .i64 0,.int .i64 0] 64)).alloc (.cells #[.int .i64 1,.string ⟨#[]⟩,.slice (some ⟨w.heap.size,0,none⟩) 1 1,.slice none 0 0,.slice none 0 0] 68)) (.slice (some ⟨w.heap.size+1,0,none⟩) 1 1) knP:=by
 have h1:=iY 3 w #[.int .u8 97,.int .i64 0,.int .i64 0] 64 [[.int .u8 97,.int .i64 0,.int .i64 0]] rfl (by intro x hx;simp at hx;subst hx;rfl) (by simp)
 have h1':SlK 3 (w.alloc (.cells #[.int .u8 97,.int .i64 0,.int .i64 0] 64)) (.slice (some ⟨w.heap.size,0,none⟩) 1 1) [[.int .u8 97,.int .i64 0,.int .i64 0]]:=by simpa using h1
 have h2:=q2z (w.alloc (.cells #[.int .u8 97,.int .i64 0,.int .i64 0] 64)) 68 1 ⟨#[]⟩ (some ⟨w.heap.size,0,none⟩) 1 1;refine⟨_,by simpa using h2,rfl,fun i hi=>?_⟩
 obtain rfl:i=0:=by simp[knP]at hi;omega
 exact⟨_,_,_,rfl,h1'.up (qn _ _),Sl.nil _,Sl.nil _⟩
theorem q4L:(∀p∈knP,yT p)/\(∀p∈knP,∀o∈p.ops,pL o)/\(∀p∈knP,q5W p):=by
 refine⟨fun p hp=>?_,fun p hp o ho=>?_,fun p hp=>?_⟩
 ·simp[knP]at hp;subst hp
  exact⟨fun o ho=>by simp at ho;subst ho;decide,by decide⟩
 ·simp[knP]at hp;subst hp
  simp at ho;subst ho
  exact⟨by decide,by decide,by decide,by decide,by decide⟩
 ·simp[knP]at hp;subst hp
  exact⟨by decide,by decide⟩
def mC(g:Nat)(vb:Value)(w:World)(v:Value)(l:List Int):Prop:=∀W vb',Fr g vb vb' w W->qT W v l
theorem mC.next{g:Nat}{vb vb':Value}{w w':World}{v:Value}{l:List Int}(h:mC g vb w v l)(hf:Fr g vb vb' w w'):mC g vb' w' v l:=fun W vc hc=>h W vc (hf.trans hc)
structure q6x(p:PtN):Prop where
 t:p.text.size<=70000
 o:p.ops.length<=400
 l:p.lits.length<=400
 d:p.dists.length<=400
def zJ(l:List PtN):Prop:=l.length<=30/\∀i,i<l.length->q6x (l.getD i zPt)
end Go.Cm
namespace Go.Cm
open Go.RowKit Go.Proofs Go.WideShapes Go.ChangeShapes Go.Deep
section
variable {H : Type} {enc : TypeId × Value → H} {w : World} {base : Nat} {held : Bool}
instance :Inhabited OpN:=⟨⟨0,0,0⟩⟩
instance :Inhabited PtN:=⟨zPt⟩
end
end Go.Cm
