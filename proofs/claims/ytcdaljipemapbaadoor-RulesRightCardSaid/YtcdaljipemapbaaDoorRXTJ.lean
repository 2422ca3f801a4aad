/- Walks of functions and plain facts, joined and squeezed by a program. Conditions: as each says. -/
import Derived.Test.YtcdaljipemapbaaDoorRXTG
set_option maxHeartbeats 8000000
set_option maxRecDepth 100000
set_option linter.unusedSimpArgs false
namespace Go.Cm
theorem pR{l:List Rul}{s:qM}{a:Nat}:∀x∈(jy l s a).2,x.2<=a+s.length\/(jy l s a).2.head? ≠some x:=by
 have h1:=jE jm s;unfold jy;simp only;split
 ·simp
 ·generalize hname:(s.drop (qK jm s)).take (qK bE (s.drop (qK jm s)))=name at*
  have hnl:qK jm s+name.length<=s.length:=by
   have:=congrArg List.length hname;simp only[List.length_take,List.length_drop]at this;omega
  split
  ·intro x hx;left;rw[List.mem_singleton.1 hx];dsimp only;omega
  ·generalize qK jm s+name.length=tq at*
   have h2:=jE jm (s.drop tq);rw[List.length_drop]at h2;split
   ·intro x hx;left;rw[List.mem_singleton.1 hx];dsimp only;omega
   ·rename_i g3
    split
    ·intro x hx;left;rw[List.mem_singleton.1 hx];dsimp only;omega
    ·split
     ·intro x hx;left;rw[List.mem_singleton.1 hx];dsimp only;omega
     ·have h3:=jE jm (s.drop (tq+qK jm (s.drop tq)+1))
      rw[List.length_drop]at h3;have h4:tq+qK jm (s.drop tq)≠s.length:=fun e=>g3 (.inl e)
      have ht4:tq+qK jm (s.drop tq)+1+qK jm (s.drop (tq+qK jm (s.drop tq)+1))<=s.length:=by omega
      generalize tq+qK jm (s.drop tq)+1+qK jm (s.drop (tq+qK jm (s.drop tq)+1))=t4 at*;split
      ·unfold bL
       split
       ·intro x hx
        rcases List.mem_cons.1 hx with rfl|hx
        ·left;dsimp only;omega
        ·by_cases e:x=(4,a+t4)
         ·left;rw[e];dsimp only;omega
         ·right;intro g;simp only[List.head?_cons,Option.some.injEq]at g;exact e g.symm
       ·split
        ·intro x hx;left;rw[List.mem_singleton.1 hx];dsimp only;omega
        ·simp
      ·simp
theorem lQ{s:qM}:∀(f a:Nat) (l:List Rul),∀x,(jz s f a l).2.head? =some x->x.2<=s.length
 |0,_,_,x,hx=>by simp[jz]at hx
 |f+1,a,l,x,hx=>by
  unfold jz at hx;simp only at hx;split at hx
  ·rename_i g
   have hn:=jE dN (s.drop a);rw[List.length_drop]at hn;split at hx
   ·dsimp only at hx
    rcases pR (l:=l) (s:=(s.drop a).take (qK dN (s.drop a))) (a:=a) x (List.mem_of_mem_head? (Option.mem_def.2 hx))with h|h
    ·rw[List.length_take,List.length_drop]at h;omega
    ·exact absurd hx h
   ·exact lQ f _ _ x hx
  ·split at hx
   ·simp only[List.head?_cons,Option.some.injEq]at hx;rw[<-hx];exact qa _
   ·simp at hx
theorem nP{s:qM}(hs:s.length<=8192):∀x,(qU s).2.head? =some x->x.2<=s.length:=by
 unfold qU;rw[if_neg (by omega)]
 exact lQ _ _ _
end Go.Cm
namespace Go.Cm
open Go.RowKit Go.Proofs
theorem atB{w:World}{l:List (Nat×Nat)}{v:Value}(hL:j6 w)(h:jd w l v):Calls Tryd.prog 14 #[v] w fun e w'=>e=.returned (.int .i64 ((l.headD (0,0)).2:Nat))/\∃x,w'=ext w x:=by
 obtain⟨e,rfl,he⟩:=h;have HL:=q9 (hL.up (qo w (.cells #[e] 32)));have hk:=jj w w.heap.size #[e] 32 (by simp) (qa _)
 have c0:(w.alloc (.cells #[e] 32)).cell? ⟨w.heap.size,0,none⟩=some e:=by simp
 cases l with
 |nil=>
  obtain rfl:e=.nilIface:=by unfold qQ at he;rwa [if_pos rfl]at he
  go_enter Tryd.func14,Tryd.ntmps14
  go_wp2_with((with_reducible go_at_call 28);refine(eW _).mono ?_;rintro en w2 ⟨rfl,x2,rfl⟩)
  go_ret
  exact⟨rfl,(qv (by repeat(first|exact qi _ _|assumption|refine qF ?_ _|refine qj ?_|refine qL ?_ _|refine qx ?_ _)))⟩
 |cons y l=>
  have HC:=q9 (he.some.up (qo w (.cells #[e] 32)));obtain⟨p,u,rfl,h1,h2,h3,h4,h5⟩:=he.some;have hz:=qd h1 (qo w (.cells #[.iface 52 (.pointer (some ⟨p,0,none⟩))] 32)).size;clear he h5 hk
  go_enter Tryd.func14,Tryd.ntmps14
  go_wp2_with((with_reducible go_at_call 28);refine(dI HL.out HC.out).mono ?_;rintro en w2 ⟨rfl,x2,rfl⟩)
  go_ret
  exact⟨rfl,(qv (by repeat(first|exact qi _ _|assumption|refine qF ?_ _|refine qj ?_|refine qL ?_ _|refine qx ?_ _)))⟩
theorem n5{x:Rul}(h:nN x):a6 x.1=true/\(gO x.2).2.1=0/\nA (gO x.2).1=false:=by
 refine⟨h.nm,?_⟩;have:=h.ex 0;unfold bL at this;split at this
 ·cases this
 ·rename_i h1
  split at this
  ·cases this
  ·rename_i h2
   exact⟨by omega,by simpa using h2⟩
theorem hM{w:World}{s:ByteArray}(hL:j6 w)(hT:jn w)(wF:s.size<=140737488351232):Calls Tryd.prog 5 #[.string s] w fun e w'=>e=.returned (.bool true)/\Below w.heap.size w w':=by
 have HK:Hid (∀W,Below w.heap.size w W->Calls Tryd.prog 6 #[] W fun e w'=>e=.returned (.bool true)/\∃x,w'=ext W x):=q9 (fun W hb=>hJ (hL.up hb) (hT.up hb))
 by_cases h4:s.size>4000
 ·have h4i:(s.size:Int)>4000:=by omega
  have HK0:=q9 (HK.out w (qi _ _));clear h4 hL hT HK
  go_enter Tryd.func5,Tryd.ntmps5
  go_wp2_with((with_reducible refine(HK0.out).mono ?_);rintro e w2 ⟨rfl,hx⟩;have HB:=q9 (qn hx);clear hx)
  go_ret
  exact⟨rfl,HB.out⟩
 ·have h4i:¬(s.size:Int)>4000:=by omega
  have HP:Hid (Calls Tryd.prog 11 #[.string s] w (jV (qU (bys s)).1 (qU (bys s)).2 w)):=q9 (dL hL hT (by omega))
  have vK:=gF (bys s);have hat:=nP (s:=bys s) (by rw[qt];omega)
  rw[qt]at vK hat;have hok:=iH (s:=bys s);have hb2:=gG (bys s);generalize qU (bys s)=R at*;obtain⟨ls,b⟩:=R;simp only at HP vK hok hb2 hat;have HDP:Hid (∀W u,Below w.heap.size w W->qQ W b u->Calls Tryd.prog 12 #[.agg #[u]] W fun e w'=>e=.returned (.int .i64 (b.length:Nat))/\∃x,w'=ext W x):=q9 (fun W u hb h=>mP (hL.up hb) ⟨u,rfl,h⟩ (by omega))
  by_cases hb0:b=[]
  ·subst hb0
   obtain⟨hrk,hne⟩:=hok rfl;have hlen:=hrk.len;have HD:Hid (∀W u,Below w.heap.size w W->qQ W [] u->Calls Tryd.prog 12 #[.agg #[u]] W fun e w'=>e=.returned (.int .i64 0)/\∃x,w'=ext W x):=HDP
   have HPX:Hid (∀W t,Below w.heap.size w W->Calls Tryd.prog 15 #[.string t] W (mD (gO (bys t)) W)):=q9 (fun W t hb=>pA (hT.up hb))
   have HNM:Hid (∀W t,t.size<=1000000->Calls Tryd.prog 9 #[.string t] W fun e w'=>e=.returned (.bool (a6 (bys t)))/\∃x,w'=ext W x):=q9 (fun W t h=>mS t h W)
   have HEM:Hid (∀W v l,j4 W v l->Calls Tryd.prog 16 #[v] W fun e w'=>e=.returned (.bool (nA l))/\∃x,w'=ext W x):=q9 (fun W v l h=>pC h)
   have HRK:=q9 hrk;have A9:=q9 vK;have hs4:s.size<=4000:=by omega
   have xI:0<ls.length:=List.length_pos_iff.2 hne;obtain⟨n,hnn⟩:∃n,n=ls.length:=⟨_,rfl⟩;have HN:=q9 hnn;rw[<-hnn]at xI hlen;have hn0:((n:Int)==0)=false:=by simp;omega
   have C0:¬(n:Int)>32:=by omega
   clear hL hT h4 HDP hat hok hb2 vK hrk hne hnn
   go_enter Tryd.func5,Tryd.ntmps5
   go_wp2_with(first
    |(go_at_call 11;(with_reducible refine(HP.out).mono ?_);rintro e wa ⟨v0,x,rfl,hli,⟨u0,rfl,hu⟩,hb⟩;have HB:=q9 hb;obtain⟨oa,cap,bb,off,hv,hd,hc⟩:=qJ.sl hli;rw[List.length_map,<-HN.out]at hv hd hc;subst hv;have HDD:=q9 hd;have HC:=q9 hc;have HE0:=q9 hu;have vO:=q9 (jl wa 32);clear hli hu hb hd hc)
    |(refine qA rfl (.tmp 4) (.tmp 18) rfl wa.heap.size wa.heap.size rfl _ u0 rfl HE0.out.one vO.out ?_;intro wb ho hg;obtain⟨hk,hb⟩:=KnB.put HE0.out ho hg;have HK1:=q9 hk;have HBA:=q9 hb;have HB:=q9 (HB.out.trans (hb.mono HB.out.size));clear ho hg hk hb)
    |(refine jU rfl (.tmp 4) rfl wa.heap.size wa.heap.size rfl _ HK1.out.box ?_)
    |(go_at_call 12;(with_reducible refine(HD.out _ _ HB.out HK1.out.err).mono ?_);rintro e wc ⟨rfl,hx⟩;have hb:=qn hx;have HBA:=q9 (HBA.out.trans (hb.mono HBA.out.size));have HB:=q9 (HB.out.trans (hb.mono HB.out.size));clear hx hb HK1 vO HE0 HP HD))
   have HM:=q9 HB.out.size;have HMA:=q9 HBA.out.size;have hbl:=HDD.out.hblk;have hm:=HDD.out.len;have hix:=fun(W:World) (i:Nat) (hi:i<n)=>je (P:=Tryd.prog) 2 22 25 Tryd.underlying22 (by kernel_rfl) HDD.out W .i64 i (by omega) (by omega)
   simp only[Int.toNat_natCast]at hix;have HIX:=q9 hix
   have HCN:Hid (∀W i,i<n->Below wa.heap.size wa W->W.cell? ⟨bb,off+i*2,none⟩=some (.string ⟨(ls.getD i ([],[])).1.toArray⟩)/\W.cell? ⟨bb,off+i*2+1,none⟩=some (.string ⟨(ls.getD i ([],[])).2.toArray⟩)):=q9 (fun W i hi hb=>by
    have hbb:=hbl (by omega)
    have h0:=HC.out i hi 0 (by decide)
    have h1:=HC.out i hi 1 (by decide)
    rw[dK ls i _ (by rw[<-HN.out];exact hi)]at h0 h1
    refine⟨?_,?_⟩
    ·rw[hb.cell (p:=⟨bb,off+i*2,none⟩) hbb];exact h0
    ·rw[hb.cell (p:=⟨bb,off+i*2+1,none⟩) hbb];exact h1)
   clear hix HC HDD hbl
   go_loopg [5] (n+1) (fun gk iv wr=>∃i:Nat,i<=n/\iv=.int .i64 i/\Below w.heap.size w wr/\Below wa.heap.size wa wr/\gk=n+1-i)
   case atStart=>exact⟨0,qc _,rfl,HB.out,HBA.out,rfl⟩
   case round=>
    clear HB HBA HM HMA;obtain⟨i,hi,rfl,hB,hBA,hgk⟩:=hrel;have HB:=q9 hB;have HBA:=q9 hBA;have HGK:=q9 hgk;clear hB hgk hBA
    by_cases hlt:i<n
    ·have vS:=fun W=>HIX.out W i hlt
     have HCI:=q9 (fun W hb=>HCN.out W i hlt hb)
     have wV:ls.getD i ([],[])∈ls:=by
      rw[List.getD_eq_getElem?_getD,List.getElem?_eq_getElem (by rw[<-HN.out];exact hlt)];exact List.getElem_mem _
     obtain⟨f1,f2,f3⟩:=n5 (HRK.out.all _ wV);have hz:=A9.out _ wV
     have HND:Hid (∀k,k<i->(ls.getD k ([],[])).1≠(ls.getD i ([],[])).1):=q9 (fun k hk he=>by
      have hkl:k<ls.length:=by rw[<-HN.out];omega
      have hil:i<ls.length:=by rw[<-HN.out];exact hlt
      have h3:=List.pairwise_iff_getElem.1 HRK.out.nd k i (by rw[List.length_map];exact hkl) (by rw[List.length_map];exact hil) hk
      rw[List.getElem_map,List.getElem_map]at h3;rw[List.getD_eq_getElem?_getD,List.getD_eq_getElem?_getD,List.getElem?_eq_getElem hkl,List.getElem?_eq_getElem hil]at he
      exact h3 he)
     generalize ls.getD i ([],[])=x at*;obtain⟨xn,xt⟩:=x;simp only at HCI f1 f2 f3 hz HND;obtain⟨sn,hsn⟩:∃sn:ByteArray,sn=⟨xn.toArray⟩:=⟨_,rfl⟩;obtain⟨st,hst⟩:∃st:ByteArray,st=⟨xt.toArray⟩:=⟨_,rfl⟩;have hxn:xn=bys sn:=by rw[hsn,jr]
     have hxt:xt=bys st:=by rw[hst,jr]
     rw[<-hsn,<-hst]at HCI;rw[hxn]at f1 HND;rw[hxt]at f2 f3;have zG:sn.size<=1000000:=by rw[<-qt,<-hxn];omega
     obtain⟨c0,c1⟩:=HCI.out wr HBA.out;have HPI:Hid (∀W,Below w.heap.size w W->Calls Tryd.prog 15 #[.string st] W (mD (gO (bys st)) W)):=q9 (fun W hb=>HPX.out W st hb)
     generalize gO (bys st)=P at*;obtain⟨pl,pe,pb⟩:=P;simp only at f2 f3;subst f2
     have HNI:Hid (∀W,Calls Tryd.prog 9 #[.string sn] W fun e w'=>e=.returned (.bool true)/\∃x,w'=ext W x):=q9 (fun W=>by
      have:=HNM.out W sn zG;rw[f1]at this;exact this)
     have HEI:Hid (∀W v,j4 W v pl->Calls Tryd.prog 16 #[v] W fun e w'=>e=.returned (.bool false)/\∃x,w'=ext W x):=q9 (fun W v h=>by
      have:=HEM.out W v pl h;rw[f3]at this;exact this)
     clear hsn hst hxn hxt hz wV f1 f3 HPX HNM HEM
     go_wp2_with(first
      |(go_at_call 15;(with_reducible refine(HPI.out _ HB.out).mono ?_);rintro e we ⟨v1,rfl,ho,hb⟩;have HNA:=q9 (qu.at ho);have HBA:=q9 (HBA.out.trans (hb.mono HBA.out.size));have HB:=q9 (HB.out.trans (hb.mono HB.out.size));obtain⟨c2,-⟩:=HCI.out we HBA.out;clear ho hb)
      |(go_at_call 9;(with_reducible refine(HNI.out _).mono ?_);rintro e wf ⟨rfl,hx⟩;have hb:=qn hx;have HNA:=q9 (j4.up HNA.out hb);have HBA:=q9 (HBA.out.trans (hb.mono HBA.out.size));have HB:=q9 (HB.out.trans (hb.mono HB.out.size));clear hx hb)
      |(go_at_call 16;(with_reducible refine(HEI.out _ _ HNA.out).mono ?_);rintro e wg ⟨rfl,hx⟩;have hb:=qn hx;have HBA:=q9 (HBA.out.trans (hb.mono HBA.out.size));have HB:=q9 (HB.out.trans (hb.mono HB.out.size));clear hx hb HNA))
     go_loopg [9] (i+1) (fun gj jv wq=>∃k:Nat,k<=i/\jv=.int .i64 k/\Below w.heap.size w wq/\Below wa.heap.size wa wq/\gj=i+1-k)
     case atStart=>exact⟨0,qc _,rfl,HB.out,HBA.out,rfl⟩
     case round=>
      clear HB HBA;obtain⟨k,hk,rfl,hB,hBA,hgj⟩:=hrel;have HB:=q9 hB;have HBA:=q9 hBA;have HGJ:=q9 hgj;clear hB hgj hBA
      by_cases hkl:k<i
      ·have zL:=fun W=>HIX.out W k (by omega)
       obtain⟨d0,-⟩:=HCN.out wr k (by omega) HBA.out
       obtain⟨d1,-⟩:=HCI.out wr HBA.out;have hne:=HND.out k hkl;generalize ls.getD k ([],[])=y at*;obtain⟨yn,yt⟩:=y;simp only at d0 hne
       have B8:((⟨yn.toArray⟩:ByteArray).toList==sn.toList)=false:=by
        rw[<-gB sn,iS]
        simpa using hne
       generalize (⟨yn.toArray⟩:ByteArray)=sy at*;clear hne;go_wp2;go_simp
       go_quiet (fail)
       have hb:=qy wr nq;have HBA:=q9 (HBA.out.trans (hb.mono HBA.out.size));have HB:=q9 (HB.out.trans (hb.mono HB.out.size));clear hb;generalize wr.drewN nq=wz at*;go_wp2
       go_roundg (i-k)
       case measure=>have:=HGJ.out;omega
       case rel=>exact⟨k+1,by omega,by go_num,HB.out,HBA.out,by omega⟩
      ·obtain rfl:k=i:=by omega
       go_wp2
       go_roundg (n-k)
       case measure=>have:=HGK.out;omega
       case rel=>exact⟨k+1,by omega,by go_num,HB.out,HBA.out,by omega⟩
    ·obtain rfl:i=n:=by omega
     go_wp2_with(go_at_call 6;(with_reducible refine(HK.out _ HB.out).mono ?_);rintro e wg ⟨rfl,hx⟩;have hb:=qn hx;have HB:=q9 (HB.out.trans (hb.mono HB.out.size));clear hx hb)
     go_ret
     exact⟨rfl,HB.out⟩
  ·have vR:0<b.length:=List.length_pos_iff.2 hb0
   obtain⟨M,hMM,hMs⟩:∃M:Nat,M=(b.headD (0,0)).2/\M<=s.size:=by
    refine⟨_,rfl,?_⟩
    cases b with
    |nil=>exact absurd rfl hb0
    |cons y l=>exact hat y rfl
   have HAT:Hid (∀W u,Below w.heap.size w W->qQ W b u->Calls Tryd.prog 14 #[.agg #[u]] W fun e w'=>e=.returned (.int .i64 (M:Nat))/\∃x,w'=ext W x):=q9 (fun W u hb h=>by
    rw[hMM];exact atB (hL.up hb) ⟨u,rfl,h⟩)
   generalize b.length=m at*;have hs4:s.size<=4000:=by omega
   clear hL hT h4 hok vK hb0 hat hMM
   go_enter Tryd.func5,Tryd.ntmps5
   go_wp2_with(first
    |(go_at_call 11;(with_reducible refine(HP.out).mono ?_);rintro e wa ⟨v0,x,rfl,hli,⟨u0,rfl,hu⟩,hb⟩;have HB:=q9 hb;have HE0:=q9 hu;have vO:=q9 (jl wa 32);clear hli hu hb)
    |(refine qA rfl (.tmp 4) (.tmp 18) rfl wa.heap.size wa.heap.size rfl _ u0 rfl HE0.out.one vO.out ?_;intro wb ho hg;obtain⟨hk,hb⟩:=KnB.put HE0.out ho hg;have HK1:=q9 hk;have HB:=q9 (HB.out.trans (hb.mono HB.out.size));clear ho hg hk hb)
    |(refine jU rfl (.tmp 4) rfl wa.heap.size wa.heap.size rfl _ HK1.out.box ?_)
    |(go_at_call 12;(with_reducible refine(HDP.out _ _ HB.out HK1.out.err).mono ?_);rintro e wc ⟨rfl,hx⟩;have hb:=qn hx;have HK1:=q9 (HK1.out.up hb);have HB:=q9 (HB.out.trans (hb.mono HB.out.size));clear hx hb)
    |(go_at_call 14;(with_reducible refine(HAT.out _ _ HB.out HK1.out.err).mono ?_);rintro e wd ⟨rfl,hx⟩;have hb:=qn hx;have HK1:=q9 (HK1.out.up hb);have HB:=q9 (HB.out.trans (hb.mono HB.out.size));have cc:wd.cell? ⟨wa.heap.size,0,none⟩=some u0:=HK1.out.box.cell (i:=0) (by simp);clear hx hb)
    |(go_at_call 6;(with_reducible refine(HK.out _ HB.out).mono ?_);rintro e wg ⟨rfl,hx⟩;have hb:=qn hx;have HB:=q9 (HB.out.trans (hb.mono HB.out.size));clear hx hb))
   go_ret
   exact⟨rfl,HB.out⟩
end Go.Cm
