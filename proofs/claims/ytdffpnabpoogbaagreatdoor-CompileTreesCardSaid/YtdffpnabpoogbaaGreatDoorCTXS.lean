/- Walks of functions and plain facts, joined and squeezed by a program. Conditions: as each says. -/
import Derived.Test.YtdffpnabpoogbaaGreatDoorCTXO
set_option maxHeartbeats 8000000
set_option maxRecDepth 100000
set_option linter.unusedSimpArgs false
open Go.Proofs.Tryz
namespace Go.Cm
open Go.RowKit Go.Proofs
theorem ZmS0{P:Prop}(h:P:=by
 go_wp2_with(first
  |((with_reducible refine(HH1.o _).mono ?_);rintro e w11 ⟨rfl,hx⟩;have HX:=qa (HX.o.up (aB hx));clear hx)
  |((with_reducible show wpList _ _ _ (Oper.mk _ (.slice _ _ _ _ _) _ _ _ _::_) _ _);refine aK rfl 9 (.tmp 15) (some (.tmp 16)) none none rfl _ (HS1.o _) ?_)
  |((with_reducible show wpList _ _ _ (Oper.mk _ (.slice _ _ _ _ _) _ _ _ _::_) _ _);refine aK rfl 9 (.tmp 29) (some (.tmp 30)) none none rfl _ (HS1.o _) ?_)
  |((with_reducible refine(HH2.o _).mono ?_);rintro e w12 ⟨rfl,hx⟩;have HX:=qa (HX.o.up (aB hx));clear hx)
  |((with_reducible show wpList _ _ _ (Oper.mk _ (.slice _ _ _ _ _) _ _ _ _::_) _ _);refine aK rfl 9 (.tmp 26) (some (.tmp 27)) (some (.tmp 33)) none rfl _ (HS2.o _) ?_)
  |((with_reducible refine(HN.o _).mono ?_);rintro e w13 ⟨rfl,hx⟩;have HX:=qa (HX.o.up (aB hx));clear hx)
  |((with_reducible show wpList _ _ _ (Oper.mk _ (.slice _ _ _ _ _) _ _ _ _::_) _ _);refine aK rfl 9 (.tmp 47) (some (.tmp 48)) none none rfl _ (HS3.o _) ?_)
  |((with_reducible refine(HH3.o _).mono ?_);rintro e w14 ⟨rfl,hx⟩;have HX:=qa (HX.o.up (aB hx));clear hx)
  |((with_reducible refine(HW2.o _ HX.o.bl).mono ?_);rintro e w80 ⟨v8,rfl,⟨u8,rfl,hu⟩,hx⟩;have HX:=qa (HX.o.up (aB hx));have HU:=qa hu;clear hx hu)
  |(refine cY rfl _ _ rfl w.heap.size w.heap.size rfl _ u8 rfl HU.o.one HX.o.bx ?_;intro w90 ho hg;have HO9:=qa ho;have HG9:=qa hg;clear ho hg))
 exact LnB.ret rfl rfl rfl HX.o HO9.o HG9.o HU.o):P:=h
theorem ZmS1{P:Prop}(h:P:=by
 go_wp2_with(first
  |((with_reducible refine(HH1.o _).mono ?_);rintro e w11 ⟨rfl,hx⟩;have HX:=qa (HX.o.up (aB hx));clear hx)
  |((with_reducible show wpList _ _ _ (Oper.mk _ (.slice _ _ _ _ _) _ _ _ _::_) _ _);refine aK rfl 9 (.tmp 15) (some (.tmp 16)) none none rfl _ (HS1.o _) ?_)
  |(refine cY rfl _ _ rfl w.heap.size w.heap.size rfl _ .nilIface rfl rfl HX.o.bx ?_;intro w90 ho hg;have HO9:=qa ho;have HG9:=qa hg;clear ho hg))
 exact LnB.ret rfl rfl rfl HX.o HO9.o HG9.o (HE0.o _)):P:=h
structure LnB(w0 w:World)(r:Nat)(s0:ByteArray)(lv:Value)(ls:List Rul)(g:Nat)(u:Value):Prop where
 rd:RRd w r s0 lv
 li:uU w (r+1) lv ls
 bx:Own w g 45 (.slice (some ⟨g,0,none⟩) 1 1) [u]
 bl:Below w0.heap.size w0 w
 ge:w0.heap.size<=r
 gr:r<g
 ap:∀q,lv.ownBlock=some q->q≠g
theorem LnB.up{w0 w w':World}{r g:Nat}{s0:ByteArray}{lv u:Value}{ls:List Rul}(h:LnB w0 w r s0 lv ls g u)(hb:Below w.heap.size w w'):LnB w0 w' r s0 lv ls g u:=
 ⟨h.rd.up hb,cA.up h.li hb,h.bx.up hb,h.bl.trans (hb.mono h.bl.size),h.ge,h.gr,h.ap⟩
def q5x(w0:World)(r:Nat)(s0:ByteArray)(ls:List Rul)(b:List (Nat×Nat))(e:Ending)(w':World):Prop:=
 ∃v lv,e=.returned v/\gX w' b v/\RRd w' r s0 lv/\uU w' (r+1) lv ls/\Below w0.heap.size w0 w'
theorem RRd.keep{w w':World}{r:Nat}{s:ByteArray}{lv:Value}{row:Option Nat}(h:RRd w r s lv)(hg:w.grownBy w' row)(hne:row≠some r):RRd w' r s lv:=⟨h.own.keep hg (.inr (fun e=>hne e.symm))⟩
theorem LnB.ret{fn:Func}{tmps:Array Value}{ds:List Deferred}{w0 w w':World}{r g sl:Nat}{s0:ByteArray}{lv u e:Value}{ls:List Rul}{b:List (Nat×Nat)}(hf:fn.results=#[.cell sl 45])(ha:tmps.getD sl undef=.pointer (some ⟨g,0,none⟩))(hd:ds=[])
  (h:LnB w0 w r s0 lv ls g u) (ho:Own w' g 45 (.slice (some ⟨g,0,none⟩) 1 1) [e]) (hg:w.grownBy w' (some g)) (he:dF w b e):bodyPost prog fn (q5x w0 r s0 ls b) .ret ⟨tmps,ds⟩ w':=by
 have hgr:=h.gr;have hge:=h.ge;refine bG hf ha hd (x:=.agg #[e]) (Y4 ho) ⟨_,lv,rfl,⟨_,rfl,t6 hg (rQ h.bx) he⟩,h.rd.keep hg (by simp;omega),cA.keep h.li hg ?_,h.bl.grown hg h.bl.size (by rintro k ⟨⟩;omega)⟩;cases hq:lv.ownBlock with
 |none=>exact .inl rfl
 |some q=>right;intro e;exact h.ap q hq (qo e)
theorem LnB.app{w0 w w5:World}{r g:Nat}{s0:ByteArray}{lv u v5:Value}{ls:List Rul}{x:Rul}(h:LnB w0 w r s0 lv ls g u)(ho:cA 2 w5 (r+1) 25 v5 (ls.map z9++[z9 x]))(hg:w.grownBy w5 lv.ownBlock)(hk:∀q,v5.ownBlock=some q->lv.ownBlock=some q\/w.heap.size<=q):
  RRd w5 r s0 lv/\LnB w0 (w5.setCell ⟨r,1,none⟩ v5) r s0 v5 (ls++[x]) g u:=by
 have hgr:=h.gr;have hge:=h.ge;have hap:=h.ap;have hlt:=(h.bx.lt g rfl).2;have hrb:lv.ownBlock≠some r:=fun e=>by have:=(cA.lt h.li r e).1;omega
 have h1:RRd w5 r s0 lv:=h.rd.keep hg hrb;obtain⟨h2,h3⟩:=h1.own.store 1 v5;have hb:w5.heap.size≥w0.heap.size:=qc h.bl.size hg.size;refine⟨h1,⟨h2⟩,?_,?_,?_,hge,hgr,?_⟩
 ·have:=cA.keep ho h3 (by
   cases hq:v5.ownBlock with
   |none=>exact .inl rfl
   |some q=>right;intro e;have:=(cA.lt ho q hq).1;have:=qo e;omega)
  unfold uU;rw[qD];exact this
 ·exact(h.bx.keep hg (.inr (fun e=>hap g e.symm rfl))).keep h3 (.inr (fun e=>by have:g=r:=qo e;omega))
 ·exact(h.bl.grown hg h.bl.size (fun k hk=>by have:=(cA.lt h.li k hk).1;omega)).grown h3 hb (by rintro k ⟨⟩;omega)
 intro q hq e;subst e;rcases hk q hq with h4|h4
 ·exact hap q h4 rfl
 omega
theorem q0S(t:cX)(a:Nat):(uO t a).length<=2:=by
 unfold uO;split
 ·exact qb _
 split
 ·exact(by decide:(1:Nat)<=2)
 exact qd _
theorem qaa{w0 w:World}{r at_:Nat}{s0 s:ByteArray}{lv:Value}{ls:List Rul}(hL:gJ w0)(hT:iZ w0)(h:RRd w r s0 lv)(hl:uU w (r+1) lv ls)(hn:ls.length<=32)(hbl:Below w0.heap.size w0 w)(hge:w0.heap.size<=r)(hs:s.size<=8192)(hat:at_<=8192):
  Calls prog 55 #[.pointer (some ⟨r,0,none⟩),.string s,.int .i64 at_] w (q5x w0 r s0 (pT ls (bys s) at_).1 (pT ls (bys s) at_).2):=by
 obtain⟨R,hR⟩:∃R,R=pT ls (bys s) at_:=⟨_,rfl⟩;rw[<-hR];unfold pT at hR;have hrl:=h.lt
 have HX:Hid (LnB w0 (w.alloc (.cells #[.nilIface] 45)) r s0 lv ls w.heap.size .nilIface):=qa
  ⟨h.up (aA _ _),cA.up hl (aA _ _),oN w 45,hbl.trans ((aA w _).mono hbl.size),hge,hrl,fun q hq e=>by have:=(cA.lt hl q hq).2;omega⟩
 obtain⟨oa,cap,hv⟩:∃oa cap,lv=.slice oa ls.length cap:=by
  obtain⟨oa,cap,-,-,hv,-,-⟩:=cA.sl hl;rw[qy]at hv;exact⟨oa,cap,hv⟩
 subst hv;have HW:Hid (∀W c b,Below w0.heap.size w0 W->c<=27->c≠0->Calls prog 52 #[.int .i64 (c:Nat),.int .i64 (b:Nat)] W (dI [(c,b)] W)):=qa (fun W c b hb hc h0=>q3O (hL.up hb) hc h0);have HEX:Hid (∀W t b,Below w0.heap.size w0 W->Calls prog 75 #[.string t,.int .i64 (b:Nat)] W (dI (uO (bys t) b) W)):=qa (fun W t b hb=>qa9 (hL.up hb) (hT.up hb));have HDP:Hid (∀W l v,Below w0.heap.size w0 W->gX W l v->l.length<=100000->Calls prog 13 #[v] W fun e w'=>e=.returned (.int .i64 (l.length:Nat))/\∃x,w'=ext W x):=qa (fun W l v hb h hl=>q5r (hL.up hb) h hl);have HE0:Hid (∀W,dF W [] .nilIface):=qa (fun W=>rfl);have HH1:=qa (q3m s);obtain⟨S,hS⟩:∃S,S=bys s:=⟨_,rfl⟩;rw[<-hS]at hR HH1;have hSl:S.length=s.size:=by rw[hS,aP]
 have h1:=uQ pI S;generalize fK pI S=fr at*;rw[hSl]at h1;have HS1:=qa (tA s fr h1);rw[<-hS]at HS1;simp only at hR;obtain⟨D,hD⟩:∃D,D=S.drop fr:=⟨_,rfl⟩;rw[<-hD]at HS1 hR;have hDl:D.length=s.size-fr:=by rw[hD,qY,hSl]
 have HH2:=qa (q69 ⟨D.toArray⟩);rw[mO]at HH2;have h2:=uQ B2 D;rw[hDl]at h2;obtain⟨rs,qdh⟩:∃rs:ByteArray,rs=⟨D.toArray⟩:=⟨_,rfl⟩
 have hrs:rs.size=s.size-fr:=by
  rw[qdh];show(List.toArray _).size=_;rw[jA,hDl]
 have hcx:D.headD 0=(bys rs).getD 0 0:=by rw[qdh,mO];cases D<;>rfl
 have hrn:(D=[])↔rs.size=0:=by rw[hrs,<-hDl,List.length_eq_zero_iff]
 simp only[hcx,hrn]at hR;rw[<-qdh]at HS1 HH2;clear hcx hrn;clear hL hT h hl hbl hge;by_cases hz:rs.size=0
 ·rw[qt (.inl hz)]at hR
  have qgE:=J8 hz;rw[qgE]at HS1 HH2;subst hR;clear hrs qdh qgE hD h2 hz;go_enter func55,ntmps55
  exact ZmS1
 have hne:=q7z hz;have qeI:∀W,(Instr.index 9 (.string rs) (.int .i64 0)).run prog W=.ok (.int .u8 (((bys rs).getD 0 0).toNat:Nat)) W:=fun W=>e6 (P:=prog) 9 underlying9 (s:=rs) (i:=0) (by omega) W;have hct:=((bys rs).getD 0 0).toNat_lt;by_cases hc:(bys rs).getD 0 0=35
 ·rw[qt (.inr hc)]at hR
  rw[hc]at qeI;subst hR;clear hrs qdh hD h2 hz hc hct;go_enter func55,ntmps55
  exact ZmS1
 rw[qr (by rintro(h|h);exact hz h;exact hc h)]at hR
 have qll:((((bys rs).getD 0 0).toNat:Int)==35)=false:=by
  cases h:((((bys rs).getD 0 0).toNat:Int)==35)with
  |false=>rfl
  |true=>exact absurd (UInt8.toNat.inj (by have:=eq_of_beq h;show _=35;omega)) hc
 generalize (bys rs).getD 0 0=c at*;have HS2:=qa (q0Q s fr (fr+fK B2 D) (by omega) (by omega));rw[<-hS,<-hD,show fr+fK B2 D-fr=fK B2 D by omega]at HS2;obtain⟨nmL,qfk⟩:∃nmL,nmL=D.take (fK B2 D):=⟨_,rfl⟩;have hnl:nmL.length=fK B2 D:=by rw[qfk,qT,hDl];omega
 rw[<-qfk]at HS2 hR;rw[hnl]at hR;have HN:=qa (qa7 ⟨nmL.toArray⟩ (by show(List.toArray _).size<=_;rw[jA,hnl];omega));rw[mO]at HN;generalize fK B2 D=n1 at*;obtain⟨nm,hnm⟩:∃nm:ByteArray,nm=⟨nmL.toArray⟩:=⟨_,rfl⟩;have HNM:=qa hnm;have hnz:nm.size=n1:=by rw[hnm];show(List.toArray _).size=_;rw[jA,hnl]
 have qbq:Hid (∀W,RRd W r s0 (.slice oa ls.length cap)->uU W (r+1) (.slice oa ls.length cap) ls->Calls prog 73 #[.pointer (some ⟨r,0,none⟩),.string nm] W fun e w'=>e=.returned (.bool (ls.any fun x=>x.1==nmL))/\∃x,w'=ext W x):=qa (fun W h1 h2=>by rw[HNM.o];exact qb0 h1 h2 (by omega) nmL);rw[<-hnm]at HS2 HN;subst hnz;have HWa:Hid (∀W,Below w0.heap.size w0 W->Calls prog 52 #[.int .i64 20,.int .i64 ((at_:Int)+(fr:Int))] W (dI [(20,at_+fr)] W)):=qa (fun W hb=>HW.o W 20 (at_+fr) hb (by decide) (by decide));have HWb:Hid (∀W,Below w0.heap.size w0 W->Calls prog 52 #[.int .i64 19,.int .i64 ((at_:Int)+(fr:Int))] W (dI [(19,at_+fr)] W)):=qa (fun W hb=>HW.o W 19 (at_+fr) hb (by decide) (by decide));have HWc:Hid (∀W,Below w0.heap.size w0 W->Calls prog 52 #[.int .i64 3,.int .i64 ((at_:Int)+(fr:Int))] W (dI [(3,at_+fr)] W)):=qa (fun W hb=>HW.o W 3 (at_+fr) hb (by decide) (by decide));clear hc qdh hz hrs qfk hnm hnl hD hDl;cases hnr:q1J nmL with
 |false=>
  rw[qt hnr]at hR;rw[hnr]at HN;subst hR;have HW1:=HWa;clear hnr HWb HWc HEX HDP qbq;go_enter func55,ntmps55
  go_wp2_with(first
   |((with_reducible refine(HH1.o _).mono ?_);rintro e w11 ⟨rfl,hx⟩;have HX:=qa (HX.o.up (aB hx));clear hx)
   |((with_reducible show wpList _ _ _ (Oper.mk _ (.slice _ _ _ _ _) _ _ _ _::_) _ _);refine aK rfl 9 (.tmp 15) (some (.tmp 16)) none none rfl _ (HS1.o _) ?_)
   |((with_reducible show wpList _ _ _ (Oper.mk _ (.slice _ _ _ _ _) _ _ _ _::_) _ _);refine aK rfl 9 (.tmp 29) (some (.tmp 30)) none none rfl _ (HS1.o _) ?_)
   |((with_reducible refine(HH2.o _).mono ?_);rintro e w12 ⟨rfl,hx⟩;have HX:=qa (HX.o.up (aB hx));clear hx)
   |((with_reducible show wpList _ _ _ (Oper.mk _ (.slice _ _ _ _ _) _ _ _ _::_) _ _);refine aK rfl 9 (.tmp 26) (some (.tmp 27)) (some (.tmp 33)) none rfl _ (HS2.o _) ?_)
   |((with_reducible refine(HN.o _).mono ?_);rintro e w13 ⟨rfl,hx⟩;have HX:=qa (HX.o.up (aB hx));clear hx)
   |((with_reducible refine(HW1.o _ HX.o.bl).mono ?_);rintro e w80 ⟨v8,rfl,⟨u8,rfl,hu⟩,hx⟩;have HX:=qa (HX.o.up (aB hx));have HU:=qa hu;clear hx hu)
   |(refine cY rfl _ _ rfl w.heap.size w.heap.size rfl _ u8 rfl HU.o.one HX.o.bx ?_;intro w90 ho hg;have HO9:=qa ho;have HG9:=qa hg;clear ho hg))
  exact LnB.ret rfl rfl rfl HX.o HO9.o HG9.o HU.o
 |true=>
  rw[qr (by rw[hnr];simp)]at hR;rw[hnr]at HN;have HS3:=qa (tA s (fr+nm.size) (by omega));rw[<-hS]at HS3;have HH3:=qa (q3m ⟨(S.drop (fr+nm.size)).toArray⟩);rw[mO]at HH3;have h3:=uQ pI (S.drop (fr+nm.size));rw[qY,hSl]at h3;generalize fK pI (S.drop (fr+nm.size))=n2 at*;generalize (⟨(S.drop (fr+nm.size)).toArray⟩:ByteArray)=x3 at*;rw[show((fr+nm.size:Nat):Int)=(fr:Int)+(nm.size:Int)from rfl]at HS3;obtain⟨t2,ht2⟩:∃t2,t2=fr+nm.size+n2:=⟨_,rfl⟩;have e2:(t2:Int)=(fr:Int)+(nm.size:Int)+(n2:Int):=by omega
  rw[<-ht2]at hR;have HW2:Hid (∀W,Below w0.heap.size w0 W->Calls prog 52 #[.int .i64 4,.int .i64 ((at_:Int)+((fr:Int)+(nm.size:Int)+(n2:Int)))] W (dI [(4,at_+t2)] W)):=qa (fun W hb=>by rw[<-e2];exact HW.o W 4 (at_+t2) hb (by decide) (by decide));clear hnr HWa;by_cases hts:t2=s.size
  ·rw[qt (.inl (by rw[hSl];exact hts))]at hR
   have qip:(((fr:Int)+(nm.size:Int)+(n2:Int))==(s.size:Int))=true:=by rw[<-e2,hts];exact beq_self_eq_true _
   subst hR;clear hts HWb HWc HEX HDP qbq;go_enter func55,ntmps55
   exact ZmS0
  have qip:(((fr:Int)+(nm.size:Int)+(n2:Int))==(s.size:Int))=false:=by
   rw[<-e2];simp;omega
  have qca:∀W,(Instr.index 9 (.string s) (.int .i64 ((fr:Int)+(nm.size:Int)+(n2:Int)))).run prog W=.ok (.int .u8 ((S.getD t2 0).toNat:Nat)) W:=fun W=>by
   rw[<-e2,hS];exact e6 (P:=prog) 9 underlying9 (s:=s) (i:=t2) (by omega) W
  have hdt:=(S.getD t2 0).toNat_lt;by_cases hd:S.getD t2 0=61
  ·rw[qr (by rw[hSl];rintro(h|h);exact hts h;exact h hd)]at hR
   rw[hd]at qca;have hlt:t2<s.size:=by omega
   clear hts hd hdt HW2;have HW3:=HWb;have HW4:=HWc;clear HWb HWc;obtain⟨K,hK⟩:∃K,K=ls.any fun x=>x.1==nmL:=⟨_,rfl⟩;rw[<-hK]at qbq hR;cases hKb:K with
   |true=>
    rw[qt hKb]at hR;rw[hKb]at qbq;subst hR;clear hK hKb HEX HDP HW4;go_enter func55,ntmps55
    go_wp2_with(first
     |((with_reducible refine(HH1.o _).mono ?_);rintro e w11 ⟨rfl,hx⟩;have HX:=qa (HX.o.up (aB hx));clear hx)
     |((with_reducible show wpList _ _ _ (Oper.mk _ (.slice _ _ _ _ _) _ _ _ _::_) _ _);refine aK rfl 9 (.tmp 15) (some (.tmp 16)) none none rfl _ (HS1.o _) ?_)
     |((with_reducible show wpList _ _ _ (Oper.mk _ (.slice _ _ _ _ _) _ _ _ _::_) _ _);refine aK rfl 9 (.tmp 29) (some (.tmp 30)) none none rfl _ (HS1.o _) ?_)
     |((with_reducible refine(HH2.o _).mono ?_);rintro e w12 ⟨rfl,hx⟩;have HX:=qa (HX.o.up (aB hx));clear hx)
     |((with_reducible show wpList _ _ _ (Oper.mk _ (.slice _ _ _ _ _) _ _ _ _::_) _ _);refine aK rfl 9 (.tmp 26) (some (.tmp 27)) (some (.tmp 33)) none rfl _ (HS2.o _) ?_)
     |((with_reducible refine(HN.o _).mono ?_);rintro e w13 ⟨rfl,hx⟩;have HX:=qa (HX.o.up (aB hx));clear hx)
     |((with_reducible show wpList _ _ _ (Oper.mk _ (.slice _ _ _ _ _) _ _ _ _::_) _ _);refine aK rfl 9 (.tmp 47) (some (.tmp 48)) none none rfl _ (HS3.o _) ?_)
     |((with_reducible refine(HH3.o _).mono ?_);rintro e w14 ⟨rfl,hx⟩;have HX:=qa (HX.o.up (aB hx));clear hx)
     |((with_reducible refine(qbq.o _ HX.o.rd HX.o.li).mono ?_);rintro e w15 ⟨rfl,hx⟩;have HX:=qa (HX.o.up (aB hx));have c1:=HX.o.rd.c1;clear hx)
     |((with_reducible refine(HW3.o _ HX.o.bl).mono ?_);rintro e w80 ⟨v8,rfl,⟨u8,rfl,hu⟩,hx⟩;have HX:=qa (HX.o.up (aB hx));have HU:=qa hu;clear hx hu)
     |(refine cY rfl _ _ rfl w.heap.size w.heap.size rfl _ u8 rfl HU.o.one HX.o.bx ?_;intro w90 ho hg;have HO9:=qa ho;have HG9:=qa hg;clear ho hg))
    exact LnB.ret rfl rfl rfl HX.o HO9.o HG9.o HU.o
   |false=>
    rw[qr (by rw[hKb];simp)]at hR;rw[hKb]at qbq;clear hK hKb HW3;by_cases h32:ls.length=32
    ·rw[qt h32]at hR
     have qjz:((ls.length:Int)==32)=true:=by rw[h32];rfl
     subst hR;clear h32 HEX HDP;go_enter func55,ntmps55
     go_wp2_with(first
      |((with_reducible refine(HH1.o _).mono ?_);rintro e w11 ⟨rfl,hx⟩;have HX:=qa (HX.o.up (aB hx));clear hx)
      |((with_reducible show wpList _ _ _ (Oper.mk _ (.slice _ _ _ _ _) _ _ _ _::_) _ _);refine aK rfl 9 (.tmp 15) (some (.tmp 16)) none none rfl _ (HS1.o _) ?_)
      |((with_reducible show wpList _ _ _ (Oper.mk _ (.slice _ _ _ _ _) _ _ _ _::_) _ _);refine aK rfl 9 (.tmp 29) (some (.tmp 30)) none none rfl _ (HS1.o _) ?_)
      |((with_reducible refine(HH2.o _).mono ?_);rintro e w12 ⟨rfl,hx⟩;have HX:=qa (HX.o.up (aB hx));clear hx)
      |((with_reducible show wpList _ _ _ (Oper.mk _ (.slice _ _ _ _ _) _ _ _ _::_) _ _);refine aK rfl 9 (.tmp 26) (some (.tmp 27)) (some (.tmp 33)) none rfl _ (HS2.o _) ?_)
      |((with_reducible refine(HN.o _).mono ?_);rintro e w13 ⟨rfl,hx⟩;have HX:=qa (HX.o.up (aB hx));clear hx)
      |((with_reducible show wpList _ _ _ (Oper.mk _ (.slice _ _ _ _ _) _ _ _ _::_) _ _);refine aK rfl 9 (.tmp 47) (some (.tmp 48)) none none rfl _ (HS3.o _) ?_)
      |((with_reducible refine(HH3.o _).mono ?_);rintro e w14 ⟨rfl,hx⟩;have HX:=qa (HX.o.up (aB hx));clear hx)
      |((with_reducible refine(qbq.o _ HX.o.rd HX.o.li).mono ?_);rintro e w15 ⟨rfl,hx⟩;have HX:=qa (HX.o.up (aB hx));have c1:=HX.o.rd.c1;clear hx)
      |((with_reducible refine(HW4.o _ HX.o.bl).mono ?_);rintro e w80 ⟨v8,rfl,⟨u8,rfl,hu⟩,hx⟩;have HX:=qa (HX.o.up (aB hx));have HU:=qa hu;clear hx hu)
      |(refine cY rfl _ _ rfl w.heap.size w.heap.size rfl _ u8 rfl HU.o.one HX.o.bx ?_;intro w90 ho hg;have HO9:=qa ho;have HG9:=qa hg;clear ho hg))
     exact LnB.ret rfl rfl rfl HX.o HO9.o HG9.o HU.o
    rw[qr h32]at hR;have qjz:((ls.length:Int)==32)=false:=by simp;omega
    have HLE:Hid ((ls.map z9).length+1<=1000000000):=qa (by rw[qy];omega);have HS4:=qa (tA s (t2+1) (by omega));rw[<-hS]at HS4;have HH4:=qa (q3m ⟨(S.drop (t2+1)).toArray⟩);rw[mO]at HH4;have h4:=uQ pI (S.drop (t2+1));rw[qY,hSl]at h4;generalize fK pI (S.drop (t2+1))=n3 at*;generalize (⟨(S.drop (t2+1)).toArray⟩:ByteArray)=x4 at*;obtain⟨t4,ht4⟩:∃t4,t4=t2+1+n3:=⟨_,rfl⟩;have e3:((t2+1:Nat):Int)=(fr:Int)+(nm.size:Int)+(n2:Int)+1:=by omega
    have e4:(t4:Int)=(fr:Int)+(nm.size:Int)+(n2:Int)+1+(n3:Int):=by omega
    rw[<-ht4]at hR;rw[e3]at HS4;have HS5:=qa (tA s t4 (by omega));rw[<-hS,e4]at HS5;obtain⟨txL,qfb⟩:∃txL,txL=mM (S.drop t4):=⟨_,rfl⟩;rw[<-qfb]at hR
    have hdl:(⟨(S.drop t4).toArray⟩:ByteArray).size<=1000000:=by
     show(List.toArray _).size<=_;rw[jA,qY,hSl];omega
    have HT:=qa (qa8 ⟨(S.drop t4).toArray⟩ hdl);rw[mO,<-qfb]at HT;generalize (⟨(S.drop t4).toArray⟩:ByteArray)=x5 at*;obtain⟨tx,htx⟩:∃tx:ByteArray,tx=⟨txL.toArray⟩:=⟨_,rfl⟩;have hbt:bys tx=txL:=by rw[htx,mO]
    have HTX:=qa htx;obtain⟨b,hb⟩:∃b,b=uO txL (at_+t4):=⟨_,rfl⟩;have qbO:b.length<=100000:=by rw[hb];exact qc (q0S _ _) (by decide)
    rw[<-hb]at hR
    have HE:Hid (∀W,Below w0.heap.size w0 W->Calls prog 75 #[.string tx,.int .i64 ((at_:Int)+((fr:Int)+(nm.size:Int)+(n2:Int)+1+(n3:Int)))] W (dI b W)):=qa (fun W hbw=>by
     have:=HEX.o W tx (at_+t4) hbw;rw[hbt,<-hb]at this;rw[<-e4];exact this)
    rw[<-htx]at HT;have HRC:Hid ([Value.string nm,Value.string tx]=z9 (nmL,txL)):=qa (by rw[HNM.o,HTX.o];rfl);clear hb hbt htx qfb HEX hdl e3 e4 e2 ht2 ht4 h32 HTX HNM;by_cases hb0:b=[]
    ·rw[qr (by simp[hb0])]at hR
     subst hR;subst hb0;have HD:Hid (∀W v,Below w0.heap.size w0 W->dF W [] v->Calls prog 13 #[.agg #[v]] W fun e w'=>e=.returned (.int .i64 0)/\∃x,w'=ext W x):=qa (fun W v hb h=>HDP.o W [] _ hb ⟨v,rfl,h⟩ (by decide));clear HDP qbO;go_enter func55,ntmps55
     go_wp2_with(first
      |((with_reducible refine(HH1.o _).mono ?_);rintro e w11 ⟨rfl,hx⟩;have HX:=qa (HX.o.up (aB hx));clear hx)
      |((with_reducible show wpList _ _ _ (Oper.mk _ (.slice _ _ _ _ _) _ _ _ _::_) _ _);refine aK rfl 9 (.tmp 15) (some (.tmp 16)) none none rfl _ (HS1.o _) ?_)
      |((with_reducible show wpList _ _ _ (Oper.mk _ (.slice _ _ _ _ _) _ _ _ _::_) _ _);refine aK rfl 9 (.tmp 29) (some (.tmp 30)) none none rfl _ (HS1.o _) ?_)
      |((with_reducible refine(HH2.o _).mono ?_);rintro e w12 ⟨rfl,hx⟩;have HX:=qa (HX.o.up (aB hx));clear hx)
      |((with_reducible show wpList _ _ _ (Oper.mk _ (.slice _ _ _ _ _) _ _ _ _::_) _ _);refine aK rfl 9 (.tmp 26) (some (.tmp 27)) (some (.tmp 33)) none rfl _ (HS2.o _) ?_)
      |((with_reducible refine(HN.o _).mono ?_);rintro e w13 ⟨rfl,hx⟩;have HX:=qa (HX.o.up (aB hx));clear hx)
      |((with_reducible show wpList _ _ _ (Oper.mk _ (.slice _ _ _ _ _) _ _ _ _::_) _ _);refine aK rfl 9 (.tmp 47) (some (.tmp 48)) none none rfl _ (HS3.o _) ?_)
      |((with_reducible refine(HH3.o _).mono ?_);rintro e w14 ⟨rfl,hx⟩;have HX:=qa (HX.o.up (aB hx));clear hx)
      |((with_reducible refine(qbq.o _ HX.o.rd HX.o.li).mono ?_);rintro e w15 ⟨rfl,hx⟩;have HX:=qa (HX.o.up (aB hx));have c1:=HX.o.rd.c1;clear hx)
      |((with_reducible show wpList _ _ _ (Oper.mk _ (.slice _ _ _ _ _) _ _ _ _::_) _ _);refine aK rfl 9 (.tmp 89) (some (.tmp 90)) none none rfl _ (HS4.o _) ?_)
      |((with_reducible refine(HH4.o _).mono ?_);rintro e w16 ⟨rfl,hx⟩;have HX:=qa (HX.o.up (aB hx));clear hx)
      |((with_reducible show wpList _ _ _ (Oper.mk _ (.slice _ _ _ _ _) _ _ _ _::_) _ _);refine aK rfl 9 (.tmp 94) (some (.tmp 95)) none none rfl _ (HS5.o _) ?_)
      |((with_reducible refine(HT.o _).mono ?_);rintro e w17 ⟨rfl,rfl⟩)
      |((with_reducible refine(HE.o _ HX.o.bl).mono ?_);rintro e w18 ⟨v4,rfl,⟨u4,rfl,hu⟩,hx⟩;have HX:=qa (HX.o.up (aB hx));have HX4:=HX;have HU4:=qa hu;have HBX:=qa (oN w18 45);have HAL:=qa (aA w18 (.cells #[.nilIface] 45));clear hx hu)
      |(refine cY rfl _ _ rfl w18.heap.size w18.heap.size rfl _ u4 rfl HU4.o.one HBX.o ?_;intro w19 ho hg;have HBX:=qa ho;have hbl:=cF HAL.o hg (by rintro k ⟨⟩;exact qb _);have HX:=qa (HX4.o.up hbl);have HU:=qa (dF.up hbl HU4.o);clear ho hg hbl)
      |(refine yK rfl _ rfl w18.heap.size w18.heap.size rfl _ HBX.o ?_)
      |((with_reducible refine(HD.o _ _ HX.o.bl HU.o).mono ?_);rintro e w20 ⟨rfl,hx⟩;have hbl:=aB hx;have HX:=qa (HX.o.up hbl);have HBX:=qa (HBX.o.up hbl);have HU:=qa (dF.up hbl HU.o);have c1:=HX.o.rd.c1;have f1:=HX.o.rd.f1;have hrl:=HX.o.rd.lt;clear hx hbl)
      |(at_builtin;refine gV 2 rfl (.tmp 111) (.tmp 115) 22 rfl (r+1) 25 (.agg #[.string ⟨#[]⟩,.string ⟨#[]⟩]) 32 underlying22 (by kernel_rfl) rfl (by decide) (by decide) (.slice oa ls.length cap) (ls.map z9) rfl (HX.o.up (aA _ _)).li (.slice (some ⟨w20.heap.size,0,none⟩) 1 1) [z9 (nmL,txL)] rfl (xA 2 w20 #[.string nm,.string tx] 25 [z9 (nmL,txL)] (by simp[HRC.o]) (by simp[z9]) (by simp)) (by simp[z9]) (by simp[z9,Value.oneCell']) HLE.o (by have:=HX.o.rd.lt;simp;omega) ?_;intro v5 w5 qcX hg5 hk5;obtain⟨oa5,cap5,-,-,hv5,-,-⟩:=cA.sl qcX;rw[qi,qy,qB]at hv5;subst hv5;have HX5:=qa ((HX.o.up (aA _ _)).app qcX hg5 hk5);have hb5:=HX5.o.1.c1;have f5:=HX5.o.1.f1;have HX6:=qa (HX5.o.2);clear qcX hg5 hk5)
      |(refine cY rfl _ _ rfl w.heap.size w.heap.size rfl _ .nilIface rfl rfl HX6.o.bx ?_;intro w90 ho hg;have HO9:=qa ho;have HG9:=qa hg;clear ho hg))
     exact LnB.ret rfl rfl rfl HX6.o HO9.o HG9.o (HE0.o _)
    rw[qt hb0]at hR;have qbs:0<b.length:=List.length_pos_iff.2 hb0;have HD:Hid (∀W v,Below w0.heap.size w0 W->dF W b v->Calls prog 13 #[.agg #[v]] W fun e w'=>e=.returned (.int .i64 (b.length:Nat))/\∃x,w'=ext W x):=qa (fun W v hb h=>HDP.o W b _ hb ⟨v,rfl,h⟩ qbO);generalize b.length=m at*;subst hR;clear hb0 HDP HRC HLE;go_enter func55,ntmps55
    go_wp2_with(first
     |((with_reducible refine(HH1.o _).mono ?_);rintro e w11 ⟨rfl,hx⟩;have HX:=qa (HX.o.up (aB hx));clear hx)
     |((with_reducible show wpList _ _ _ (Oper.mk _ (.slice _ _ _ _ _) _ _ _ _::_) _ _);refine aK rfl 9 (.tmp 15) (some (.tmp 16)) none none rfl _ (HS1.o _) ?_)
     |((with_reducible show wpList _ _ _ (Oper.mk _ (.slice _ _ _ _ _) _ _ _ _::_) _ _);refine aK rfl 9 (.tmp 29) (some (.tmp 30)) none none rfl _ (HS1.o _) ?_)
     |((with_reducible refine(HH2.o _).mono ?_);rintro e w12 ⟨rfl,hx⟩;have HX:=qa (HX.o.up (aB hx));clear hx)
     |((with_reducible show wpList _ _ _ (Oper.mk _ (.slice _ _ _ _ _) _ _ _ _::_) _ _);refine aK rfl 9 (.tmp 26) (some (.tmp 27)) (some (.tmp 33)) none rfl _ (HS2.o _) ?_)
     |((with_reducible refine(HN.o _).mono ?_);rintro e w13 ⟨rfl,hx⟩;have HX:=qa (HX.o.up (aB hx));clear hx)
     |((with_reducible show wpList _ _ _ (Oper.mk _ (.slice _ _ _ _ _) _ _ _ _::_) _ _);refine aK rfl 9 (.tmp 47) (some (.tmp 48)) none none rfl _ (HS3.o _) ?_)
     |((with_reducible refine(HH3.o _).mono ?_);rintro e w14 ⟨rfl,hx⟩;have HX:=qa (HX.o.up (aB hx));clear hx)
     |((with_reducible refine(qbq.o _ HX.o.rd HX.o.li).mono ?_);rintro e w15 ⟨rfl,hx⟩;have HX:=qa (HX.o.up (aB hx));have c1:=HX.o.rd.c1;clear hx)
     |((with_reducible show wpList _ _ _ (Oper.mk _ (.slice _ _ _ _ _) _ _ _ _::_) _ _);refine aK rfl 9 (.tmp 89) (some (.tmp 90)) none none rfl _ (HS4.o _) ?_)
     |((with_reducible refine(HH4.o _).mono ?_);rintro e w16 ⟨rfl,hx⟩;have HX:=qa (HX.o.up (aB hx));clear hx)
     |((with_reducible show wpList _ _ _ (Oper.mk _ (.slice _ _ _ _ _) _ _ _ _::_) _ _);refine aK rfl 9 (.tmp 94) (some (.tmp 95)) none none rfl _ (HS5.o _) ?_)
     |((with_reducible refine(HT.o _).mono ?_);rintro e w17 ⟨rfl,rfl⟩)
     |((with_reducible refine(HE.o _ HX.o.bl).mono ?_);rintro e w18 ⟨v4,rfl,⟨u4,rfl,hu⟩,hx⟩;have HX:=qa (HX.o.up (aB hx));have HX4:=HX;have HU4:=qa hu;have HBX:=qa (oN w18 45);have HAL:=qa (aA w18 (.cells #[.nilIface] 45));clear hx hu)
     |(refine cY rfl _ _ rfl w18.heap.size w18.heap.size rfl _ u4 rfl HU4.o.one HBX.o ?_;intro w19 ho hg;have HBX:=qa ho;have hbl:=cF HAL.o hg (by rintro k ⟨⟩;exact qb _);have HX:=qa (HX4.o.up hbl);have HU:=qa (dF.up hbl HU4.o);clear ho hg hbl)
     |(refine yK rfl _ rfl w18.heap.size w18.heap.size rfl _ HBX.o ?_)
     |((with_reducible refine(HD.o _ _ HX.o.bl HU.o).mono ?_);rintro e w20 ⟨rfl,hx⟩;have hbl:=aB hx;have HX:=qa (HX.o.up hbl);have HBX:=qa (HBX.o.up hbl);have HU:=qa (dF.up hbl HU.o);have c1:=HX.o.rd.c1;have f1:=HX.o.rd.f1;have hrl:=HX.o.rd.lt;clear hx hbl)
     |(refine cY rfl _ _ rfl w.heap.size w.heap.size rfl _ u4 rfl HU.o.one HX.o.bx ?_;intro w90 ho hg;have HO9:=qa ho;have HG9:=qa hg;clear ho hg))
    exact LnB.ret rfl rfl rfl HX.o HO9.o HG9.o HU.o
  rw[qt (.inr hd)]at hR
  have ql6:(((S.getD t2 0).toNat:Int) != 61)=true:=by
   simp only[bne_iff_ne,ne_eq];exact fun h=>hd (UInt8.toNat.inj (by show _=61;omega))
  generalize S.getD t2 0=d at*;subst hR;clear hts hd HWb HWc HEX HDP qbq;go_enter func55,ntmps55
  exact ZmS0
structure RdS(w0 w:World)(r:Nat)(s0:ByteArray)(lv:Value)(ls:List Rul):Prop where
 rd:RRd w r s0 lv
 li:uU w (r+1) lv ls
 bl:Below w0.heap.size w0 w
theorem RdS.up{w0 w w':World}{r:Nat}{s0:ByteArray}{lv:Value}{ls:List Rul}(h:RdS w0 w r s0 lv ls)(hb:Below w.heap.size w w'):RdS w0 w' r s0 lv ls:=
 ⟨h.rd.up hb,cA.up h.li hb,h.bl.trans (hb.mono h.bl.size)⟩
theorem RdS.box{w0 w:World}{r g:Nat}{s0:ByteArray}{lv v:Value}{ls:List Rul}(h:RdS w0 w r s0 lv ls)(ho:Own w0 g 45 (.slice (some ⟨g,0,none⟩) 1 1) [v]):Own w g 45 (.slice (some ⟨g,0,none⟩) 1 1) [v]:=ho.up h.bl
def q3P(ls:List Rul)(b:List (Nat×Nat))(w:World)(e:Ending)(w':World):Prop:=
 ∃v u,e=.returned (.tuple #[v,u])/\uU w' w.heap.size v ls/\gX w' b u/\Below w.heap.size w w'
theorem q0T{l:List Rul}{s:cX}{a:Nat}(h:l.length<=32):(pT l s a).1.length<=32:=by
 unfold pT;simp only;split
 ·exact h
 split
 ·exact h
 split
 ·exact h
 split
 ·exact h
 split
 ·exact h
 split
 ·exact h
 simp only[qi,qB];omega
theorem q3Q(l:List Rul)(s:cX)(a:Nat):(pT l s a).2.length<=2:=by
 unfold pT;simp only;split
 ·exact qd _
 split
 ·exact(by decide:(1:Nat)<=2)
 split
 ·exact(by decide:(1:Nat)<=2)
 split
 ·exact(by decide:(1:Nat)<=2)
 split
 ·exact(by decide:(1:Nat)<=2)
 split
 ·exact q0S _ _
 exact qd _
theorem nF{C:World->Prop}{o:Oper}{a:Act}{K:Act->Prop}(x:Operand)(ho:o.op=.load 45 x)(g B:Nat)(hx:a.eval x=.pointer (some ⟨g,0,none⟩))(v:Value)
  (hg:∀w',C w'->Own w' B 45 (.slice (some ⟨g,0,none⟩) 1 1) [v]) (h:K (a.put o.dst (.agg #[v]))):o.quiet prog a C K:=
 lV 45 1 x ho g hx #[v] rfl (fun w' hw=>by
  obtain⟨A,h1,-,h3⟩:=(hg w' hw).whole;rw[h1,show A=#[v]from Array.ext' h3]) _ underlying45 rfl (by kernel_rfl) h
theorem wL{fn:Func}{tmps:Array Value}{ds:List Deferred}{w0 w w':World}{sl tl:Nat}{v u e:Value}{ls:List Rul}{b:List (Nat×Nat)}(hf:fn.results=#[.tmp tl,.cell sl 45])(ha:tmps.getD sl undef=.pointer (some ⟨w0.heap.size,0,none⟩))(hb:tmps.getD tl undef=v)(hd:ds=[])
  (hbx:Own w w0.heap.size 45 (.slice (some ⟨w0.heap.size,0,none⟩) 1 1) [u]) (hbl:Below w0.heap.size w0 w) (hl:uU w (w0.heap.size+1) v ls)
  (ho:Own w' w0.heap.size 45 (.slice (some ⟨w0.heap.size,0,none⟩) 1 1) [e]) (hg:w.grownBy w' (some w0.heap.size)) (he:dF w b e):bodyPost prog fn (q3P ls b w0) .ret ⟨tmps,ds⟩ w':=by
 refine M9 hf ha hb hd (y:=v) (x:=.agg #[e]) (Y4 ho) ⟨v,_,rfl,cA.mono (cA.keep hl hg ?_) (ja _),⟨_,rfl,t6 hg (rQ hbx) he⟩,hbl.grown hg hbl.size (by rintro k ⟨⟩;exact qb _)⟩;cases hq:v.ownBlock with
 |none=>exact .inl rfl
 |some q=>right;intro e;have:=(cA.lt hl q hq).1;have:=qo e;omega
theorem q95{w:World}{s:ByteArray}(hL:gJ w)(hT:iZ w)(qc5:s.size<=1000000000):
  Calls prog 27 #[.string s] w (q3P (eI (bys s)).1 (eI (bys s)).2 w):=by
 obtain⟨R,hR⟩:∃R,R=eI (bys s):=⟨_,rfl⟩;rw[<-hR];unfold eI at hR;rw[aP]at hR;obtain⟨w1,hw1⟩:∃w1,w1=w.alloc (.cells #[.nilIface] 45):=⟨_,rfl⟩;have hb1:Below w.heap.size w w1:=by rw[hw1];exact aA _ _
 obtain⟨r,hr⟩:∃r,r=w.heap.size+1:=⟨_,rfl⟩;have hs1:w1.heap.size=r:=by rw[hw1,hr];simp
 have HBX:Hid (Own w1 w.heap.size 45 (.slice (some ⟨w.heap.size,0,none⟩) 1 1) [.nilIface]):=qa (by rw[hw1];exact oN w 45);have HB1:=qa hb1;have HE0:Hid (∀W,dF W [] .nilIface):=qa (fun W=>rfl);have HNO:Hid (∀W B,uU W B (.slice none 0 0) []):=qa (fun W B=>cA.nil 2 W B 25);have hL1:=hL.up hb1;have hT1:=hT.up hb1;have HW:Hid (∀W c b,Below w1.heap.size w1 W->c<=27->c≠0->Calls prog 52 #[.int .i64 (c:Nat),.int .i64 (b:Nat)] W (dI [(c,b)] W)):=qa (fun W c b hb hc h0=>q3O (hL1.up hb) hc h0);by_cases h8:8192<s.size
 ·rw[qt h8]at hR
  subst hR;have h8i:(s.size:Int)>8192:=by omega
  have HW1:Hid (Calls prog 52 #[.int .i64 3,.int .i64 8192] w1 (dI [(3,8192)] w1)):=qa (HW.o w1 3 8192 (qk _ _) (by decide) (by decide));clear hL hT hb1 hL1 hT1 h8 HW;go_enter func27,ntmps27;rw[hw1]at HW1 HBX
  go_wp2_with(first
   |((with_reducible refine(HW1.o).mono ?_);rintro e w2 ⟨v2,rfl,⟨u2,rfl,hu⟩,hx⟩;have hb:=aB hx;have HU:=qa hu;have qbm:=qa (HBX.o.up hb);have HB2:=qa (HB1.o.trans ((by rw[hw1];exact hb:Below w1.heap.size w1 w2).mono HB1.o.size));clear hx hu hb)
   |(refine cY rfl _ _ rfl w.heap.size w.heap.size rfl _ u2 rfl HU.o.one qbm.o ?_;intro w3 ho hg;have HO3:=qa ho;have HG3:=qa hg;clear ho hg))
  exact wL rfl rfl rfl rfl qbm.o HB2.o (HNO.o _ _) HO3.o HG3.o HU.o
 rw[qr h8]at hR;have h8i:¬(s.size:Int)>8192:=by omega
 have HLN:Hid (∀W lv ls at_ t,RdS w1 W r s lv ls->ls.length<=32->t.size<=8192->at_<=8192->Calls prog 55 #[.pointer (some ⟨r,0,none⟩),.string t,.int .i64 (at_:Nat)] W (q5x w1 r s (pT ls (bys t) at_).1 (pT ls (bys t) at_).2)):=qa (fun W lv ls at_ t h hn ht ha=>qaa hL1 hT1 h.rd h.li hn h.bl (by rw[hs1];exact qb _) ht ha);have HDP:Hid (∀W l u,Below w1.heap.size w1 W->dF W l u->l.length<=100000->Calls prog 13 #[.agg #[u]] W fun e w'=>e=.returned (.int .i64 (l.length:Nat))/\∃x,w'=ext W x):=qa (fun W l u hb h hl=>q5r (hL1.up hb) ⟨u,rfl,h⟩ hl);have HR0:Hid (RdS w1 (w1.alloc (.cells #[.string s,.slice none 0 0] 105)) r s (.slice none 0 0) []):=qa ⟨⟨by simpa[hs1]using bU w1 r #[.string s,.slice none 0 0] 105 (by simp) (by rw[hs1];exact qb _)⟩,HNO.o _ _,aA _ _⟩;have h8s:s.size<=8192:=by omega
 have HRF:=qa hR;clear hL hT hb1 hL1 hT1 h8 qc5 hR;go_enter func27,ntmps27;go_wp2;rw[<-hw1,<-hr];generalize w1.alloc (.cells #[.string s,.slice none 0 0] 105)=wz at*;have HS1:=qa hs1;have HRR:=qa hr;clear hw1 hs1 hr
 go_loopg [5] (s.size+1) (fun gk v wr=>∃(a:Nat) (lv:Value) (ls:List Rul),v=.int .i64 a/\RdS w1 wr r s lv ls/\ls.length<=32/\Hid (uP (bys s) gk a ls=R)/\a<=s.size+1/\s.size+1<=a+gk/\0<gk)
 case atStart=>exact⟨0,_,[],rfl,HR0.o,qd _,qa HRF.o.symm,qd _,by omega,by omega⟩
 case round=>
  clear HRF HR0;obtain⟨a,lv,ls,rfl,hRD,h32,HF,has,hfu,hgp⟩:=hrel;have HRD:=qa hRD
  obtain⟨oa,cap,hv⟩:∃oa cap,lv=.slice oa ls.length cap:=by
   obtain⟨oa,cap,-,-,hv,-,-⟩:=cA.sl hRD.li;rw[qy]at hv;exact⟨oa,cap,hv⟩
  subst hv;clear hRD;by_cases hlt:a<s.size
  ·obtain⟨f,rfl⟩:∃f,gk=f+1:=⟨gk-1,by omega⟩
   have hF:=HF.o;unfold uP at hF;rw[aP,qt hlt]at hF;obtain⟨S,hS⟩:∃S,S=bys s:=⟨_,rfl⟩;have hSl:S.length=s.size:=by rw[hS,aP]
   rw[<-hS]at hF;simp only at hF;have HS1:=qa (tA s a (by omega));rw[<-hS]at HS1;have HH:=qa (q8I ⟨(S.drop a).toArray⟩);rw[mO]at HH;have hn:=uQ q1I (S.drop a);rw[qY,hSl]at hn;generalize fK q1I (S.drop a)=n at*;have HS2:=qa (q0Q s a (a+n) (by omega) (by omega));rw[<-hS,show a+n-a=n by omega,show((a+n:Nat):Int)=(a:Int)+(n:Int)from rfl]at HS2;obtain⟨T,hTT⟩:∃T,T=(S.drop a).take n:=⟨_,rfl⟩;have hTl:T.length<=8192:=by rw[hTT,qT,qY,hSl];omega
   rw[<-hTT]at HS2 hF;obtain⟨t2,ht2⟩:∃t2:ByteArray,t2=⟨T.toArray⟩:=⟨_,rfl⟩;have hbt:bys t2=T:=by rw[ht2,mO]
   rw[<-ht2]at HS2;generalize (⟨(S.drop a).toArray⟩:ByteArray)=x1 at*;have hl2:=q0T (s:=T) (a:=a) h32;obtain⟨LR,hLR⟩:∃LR,LR=pT ls T a:=⟨_,rfl⟩;have hb5:LR.2.length<=100000:=by rw[hLR];exact qc (q3Q _ _ _) (by decide)
   have HLI:Hid (∀W,RdS w1 W r s (.slice oa ls.length cap) ls->Calls prog 55 #[.pointer (some ⟨r,0,none⟩),.string t2,.int .i64 a] W (q5x w1 r s LR.1 LR.2)):=qa (fun W h=>by
    have:=HLN.o W _ ls a t2 h h32 (by rw[<-aP,hbt];exact hTl) (by omega);rw[hbt,<-hLR]at this;exact this)
   rw[<-hLR]at hF hl2;obtain⟨l2,b⟩:=LR;simp only at hF hl2 HLI hb5;rw[hS]at hF;have HF2:=qa hF;clear hF hLR hbt ht2 hTl hTT hSl hS HLN HF h32;by_cases hb0:b=[]
   ·subst hb0
    rw[qr (by simp)]at HF2;have HD:Hid (∀W v,Below w1.heap.size w1 W->dF W [] v->Calls prog 13 #[.agg #[v]] W fun e w'=>e=.returned (.int .i64 0)/\∃x,w'=ext W x):=qa (fun W v hb h=>HDP.o W [] _ hb h (by decide));clear HDP hb5
    go_wp2_with(first
     |((with_reducible show wpList _ _ _ (Oper.mk _ (.slice _ _ _ _ _) _ _ _ _::_) _ _);refine aK rfl 9 (.tmp 19) (some (.tmp 20)) none none rfl _ (HS1.o _) ?_)
     |((with_reducible show wpList _ _ _ (Oper.mk _ (.slice _ _ _ _ _) _ _ _ _::_) _ _);refine aK rfl 9 (.tmp 24) (some (.tmp 25)) (some (.tmp 28)) none rfl _ (HS2.o _) ?_)
     |((with_reducible refine(HH.o _).mono ?_);rintro e w11 ⟨rfl,hx⟩;have HRD:=qa (HRD.o.up (aB hx));clear hx)
     |((with_reducible refine(HLI.o _ HRD.o).mono ?_);rintro e w18 ⟨v4,lv2,rfl,⟨u4,rfl,hu⟩,hrd,hli,hbl⟩;have qfX:=qa (RdS.mk hrd hli hbl);have HU4:=qa hu;have qbQ:=qa (oN w18 45);have HAL:=qa (aA w18 (.cells #[.nilIface] 45));clear hu hrd hli hbl)
     |(refine cY rfl _ _ rfl w18.heap.size w18.heap.size rfl _ u4 rfl HU4.o.one qbQ.o ?_;intro w19 ho hg;have qcT:=qa ho;have hbl:=cF HAL.o hg (by rintro k ⟨⟩;exact qb _);have HRD:=qa (qfX.o.up hbl);have HU:=qa (dF.up hbl HU4.o);clear ho hg hbl)
     |(refine yK rfl _ rfl w18.heap.size w18.heap.size rfl _ qcT.o ?_)
     |((with_reducible refine(HD.o _ _ HRD.o.bl HU.o).mono ?_);rintro e w20 ⟨rfl,hx⟩;have HRD:=qa (HRD.o.up (aB hx));clear hx))
    go_roundg f
    case measure=>omega
    case rel=>exact⟨a+n+1,lv2,l2,by go_num,HRD.o,hl2,HF2,by omega,by omega,by omega⟩
   rw[qt hb0]at HF2;have qbs:0<b.length:=List.length_pos_iff.2 hb0;have HD:Hid (∀W v,Below w1.heap.size w1 W->dF W b v->Calls prog 13 #[.agg #[v]] W fun e w'=>e=.returned (.int .i64 (b.length:Nat))/\∃x,w'=ext W x):=qa (fun W v hb h=>HDP.o W b _ hb h hb5);generalize b.length=m at*;clear HDP hb5
   go_wp2_with(first
    |((with_reducible show wpList _ _ _ (Oper.mk _ (.slice _ _ _ _ _) _ _ _ _::_) _ _);refine aK rfl 9 (.tmp 19) (some (.tmp 20)) none none rfl _ (HS1.o _) ?_)
    |((with_reducible show wpList _ _ _ (Oper.mk _ (.slice _ _ _ _ _) _ _ _ _::_) _ _);refine aK rfl 9 (.tmp 24) (some (.tmp 25)) (some (.tmp 28)) none rfl _ (HS2.o _) ?_)
    |((with_reducible refine(HH.o _).mono ?_);rintro e w11 ⟨rfl,hx⟩;have HRD:=qa (HRD.o.up (aB hx));clear hx)
    |((with_reducible refine(HLI.o _ HRD.o).mono ?_);rintro e w18 ⟨v4,lv2,rfl,⟨u4,rfl,hu⟩,hrd,hli,hbl⟩;have qfX:=qa (RdS.mk hrd hli hbl);have HU4:=qa hu;have qbQ:=qa (oN w18 45);have HAL:=qa (aA w18 (.cells #[.nilIface] 45));clear hu hrd hli hbl)
    |(refine cY rfl _ _ rfl w18.heap.size w18.heap.size rfl _ u4 rfl HU4.o.one qbQ.o ?_;intro w19 ho hg;have qcT:=qa ho;have hbl:=cF HAL.o hg (by rintro k ⟨⟩;exact qb _);have HRD:=qa (qfX.o.up hbl);have HU:=qa (dF.up hbl HU4.o);clear ho hg hbl)
    |(refine yK rfl _ rfl w18.heap.size w18.heap.size rfl _ qcT.o ?_)
    |((with_reducible refine(HD.o _ _ HRD.o.bl HU.o).mono ?_);rintro e w20 ⟨rfl,hx⟩;have hbl:=aB hx;have HRD:=qa (HRD.o.up hbl);have qcT:=qa (qcT.o.up hbl);have HU:=qa (dF.up hbl HU.o);clear hx hbl))
   refine aT [0,1] [] [2] (by kernel_rfl) (by kernel_rfl) ?_;simp only[pk];go_simp
   repeat(first
    |(go_big_quiet_want;refine nF _ rfl w18.heap.size w18.heap.size rfl u4 (fun w' hw=>by obtain⟨y,rfl⟩:=hw;exact qcT.o.up (aD _ _)) ?_;go_simp;go_big_quiet_on)
    |go_big_quiet_step (fail))
   refine wpQuiet_nil ?_;have hbd:=gH (qk w20.heap.size w20);have HRD:=qa (HRD.o.up hbd);have HU:=qa (dF.up hbd HU.o);have HBR:=qa (HRD.o.box HBX.o);clear hbd;generalize w20.drew=w21 at*;unfold aG;unfold aG
   go_wp2_with(refine cY rfl _ _ rfl w.heap.size w.heap.size rfl _ u4 rfl HU.o.one HBR.o ?_;intro w22 ho hg;have HO9:=qa ho;have HG9:=qa hg;clear ho hg)
   refine⟨trivial,?_⟩;unfold aG;go_wp2;rw[<-HF2.o];exact wL rfl rfl rfl rfl HBR.o (HB1.o.trans (HRD.o.bl.mono HB1.o.size)) (HNO.o _ _) HO9.o HG9.o HU.o
  have hF:=HF.o;rcases gk with _|f
  ·omega
  unfold uP at hF;rw[aP,qr hlt]at hF;have HF2:=qa hF;have c1:=HRD.o.rd.c1;clear hF HF HLN HDP;cases hl:ls with
  |nil=>
   subst hl;rw[qt rfl]at HF2;have HW2:Hid (∀W,Below w1.heap.size w1 W->Calls prog 52 #[.int .i64 17,.int .i64 (s.size:Nat)] W (dI [(17,s.size)] W)):=qa (fun W hb=>HW.o W 17 s.size hb (by decide) (by decide));clear HW
   go_wp2_with(first
    |((with_reducible refine(HW2.o _ HRD.o.bl).mono ?_);rintro e w2 ⟨v2,rfl,⟨u2,rfl,hu⟩,hx⟩;have hb:=aB hx;have HU:=qa hu;have HRD:=qa (HRD.o.up hb);have HBR:=qa (HRD.o.box HBX.o);clear hx hu hb)
    |(refine cY rfl _ _ rfl w.heap.size w.heap.size rfl _ u2 rfl HU.o.one HBR.o ?_;intro w3 ho hg;have HO3:=qa ho;have HG3:=qa hg;clear ho hg))
   rw[<-HF2.o];exact wL rfl rfl rfl rfl HBR.o (HB1.o.trans (HRD.o.bl.mono HB1.o.size)) (HNO.o _ _) HO3.o HG3.o HU.o
  |cons x l=>
   rw[qr (by rw[hl];simp)]at HF2;have hlb:((ls.length:Int)==0)=false:=by rw[hl];simp;omega
   have HBR:=qa (HRD.o.box HBX.o);clear hl HW
   go_wp2_with(refine cY rfl _ _ rfl w.heap.size w.heap.size rfl _ .nilIface rfl rfl HBR.o ?_;intro w3 ho hg;have HO3:=qa ho;have HG3:=qa hg;clear ho hg)
   rw[<-HF2.o];exact wL rfl rfl rfl rfl HBR.o (HB1.o.trans (HRD.o.bl.mono HB1.o.size)) (by rw[<-HRR.o];exact cA.mono HRD.o.li (ja _)) HO3.o HG3.o (HE0.o _)
def vI(l:List Rul):List (List Nd)×Nat:=if l.any (fun x=>(iY x.2).2.1 != 0)then([],4)else(l.map fun x=>(iY x.2).1,0)
def q96(w:World)(B:Nat)(v:Value)(ll:List (List Nd)):Prop:=∃vs,Own w B 31 v vs/\d5 w B vs ll
def C7(y:List (List Nd)×Nat)(w:World)(e:Ending)(w':World):Prop:=∃v,e=.returned (.tuple #[v,.int .i64 (y.2:Nat)])/\q96 w' w.heap.size v y.1/\Below w.heap.size w w'
theorem q0U{l:List Rul}{i:Nat}(p:Rul->Bool)(h:i<l.length):(l.take (i+1)).any p=((l.take i).any p||p (l.getD i ([],[]))):=by
 rw[aY l i ([],[]) h,List.any_append];simp
theorem q6q{w:World}{v:Value}{ls:List Rul}(hT:iZ w)(hl:SlK 2 w v (ls.map z9))(hn:ls.length<=1000):
  Calls prog 7 #[v] w (C7 (vI ls) w):=by
 obtain⟨oa,cap,b,off,hv,hd,hc⟩:=hl;rw[qy]at hv hd hc;subst hv;have hix:=fun(W:World) (i:Nat) (hi:i<ls.length)=>gY (P:=prog) 2 22 25 underlying22 (by kernel_rfl) hd W .i64 i (by omega) (by omega);simp only[qA]at hix;have HIX:=qa hix;have HC:Hid (∀i,i<ls.length->∀c,c<2->w.cell? ⟨b,off+i*2+c,none⟩=some ((#[.string ⟨(ls.getD i ([],[])).1.toArray⟩,.string ⟨(ls.getD i ([],[])).2.toArray⟩]:Array Value).getD c undef)):=qa (fun i hi c hcl=>by rw[hc i hi c hcl,q0R ls i c hi]);have HPX:Hid (∀W t,Below w.heap.size w W->Calls prog 21 #[.string t] W (q3C (iY (bys t)) W)):=qa (fun W t hb=>q6k (hT.up hb));have HNO:Hid (∀W,q96 W w.heap.size (.slice none 0 0) []):=qa (fun W=>⟨[],Own.nil _ _ _,d5.nil _ _⟩);have hbl:=hd.hblk;have hm:=hd.len;obtain⟨R,hR⟩:∃R,R=vI ls:=⟨_,rfl⟩;rw[<-hR];have HR:=qa hR;obtain⟨n,hnn⟩:∃n,n=ls.length:=⟨_,rfl⟩;have HN:=qa hnn;rw[<-hnn]at HIX HC hbl hn hm⊢;clear hd hc hix hnn hR hT;go_enter func7,ntmps7;go_wp2
 go_loopg [4,12] (n+1) (fun gk ov iv wr=>∃(i:Nat) (vs:List Value),i<=n/\iv=.int .i64 i/\Own wr w.heap.size 31 ov vs/\d5 wr w.heap.size vs ((ls.take i).map fun x=>(iY x.2).1)/\Hid ((ls.take i).any (fun x=>(iY x.2).2.1 != 0)=false)/\Below w.heap.size w wr/\gk=n+1-i)
 case atStart=>exact⟨0,[],qd _,rfl,Own.nil _ _ _,d5.nil _ _,qa rfl,qk _ _,rfl⟩
 case round=>
  obtain⟨i,vs,hi,rfl,hO,hRW,HA,hB,hgk⟩:=hrel;have HO:=qa hO;have HRW:=qa hRW;have HB:=qa hB;have HGK:=qa hgk;have hvl:vs.length<=1000:=by rw[hRW.1,qy,qT];omega
  clear hB hgk hO hRW;by_cases hlt:i<n
  ·have qbi:=fun W=>HIX.o W i hlt
   have hbb:=hbl (by omega);have hbw:b<wr.heap.size:=by have:=HB.o.size;omega
   have HCW:Hid (∀c,c<2->wr.cell? ⟨b,off+i*2+c,none⟩=some ((#[.string ⟨(ls.getD i ([],[])).1.toArray⟩,.string ⟨(ls.getD i ([],[])).2.toArray⟩]:Array Value).getD c undef)):=qa (fun c hc=>by
    rw[HB.o.cell (p:=⟨b,off+i*2+c,none⟩) hbb];exact HC.o i hlt c hc)
   have HTS:Hid ((ls.take (i+1)).map (fun x=>(iY x.2).1)=(ls.take i).map (fun x=>(iY x.2).1)++[(iY (ls.getD i ([],[])).2).1]):=qa (by
    rw[aY ls i ([],[]) (by rw[<-HN.o];exact hlt),qD];rfl)
   have HAS:Hid ((ls.take (i+1)).any (fun x=>(iY x.2).2.1 != 0)=((iY (ls.getD i ([],[])).2).2.1 != 0)):=qa (by
    rw[q0U _ (by rw[<-HN.o];exact hlt),HA.o,Bool.false_or])
   have qc1:Hid (((iY (ls.getD i ([],[])).2).2.1 != 0)=true->R=([],4)):=qa (fun h=>by
    rw[HR.o];unfold vI;rw[qt];rw[List.any_eq_true];exact⟨_,by rw[qq,qv (by rw[<-HN.o];exact hlt)];exact ji _,h⟩)
   have HO0:Hid (Own (wr.alloc (.cells #[.string ⟨#[]⟩,.string ⟨#[]⟩] 25)) wr.heap.size 25 (.slice (some ⟨wr.heap.size,0,none⟩) 2 2) [.string ⟨#[]⟩,.string ⟨#[]⟩]):=qa (by simpa using bU wr wr.heap.size #[.string ⟨#[]⟩,.string ⟨#[]⟩] 25 (by simp) (qb _));generalize ls.getD i ([],[])=x at*;obtain⟨xn,xt⟩:=x;simp only at HCW HTS HAS qc1;obtain⟨st,hst⟩:∃st:ByteArray,st=⟨xt.toArray⟩:=⟨_,rfl⟩;rw[<-hst]at HCW;have hxt:xt=bys st:=by rw[hst,mO]
   rw[hxt]at HTS HAS qc1;have HPI:Hid (∀W,Below w.heap.size w W->Calls prog 21 #[.string st] W (q3C (iY (bys st)) W)):=qa (fun W hb=>HPX.o W st hb);generalize iY (bys st)=P at*;obtain⟨pl,pe,pb⟩:=P;simp only at HTS HAS qc1;clear HIX HC HPX hst hxt HA;have HA0:=qa (aA wr (.cells #[.string ⟨#[]⟩,.string ⟨#[]⟩] 25));by_cases hpe:pe=0
   ·subst hpe
    have qgr:=qa (HAS.o.trans rfl);clear HAS qc1 HR
    go_wp2_with(first
     |(refine aH rfl 25 (.tmp 14) rfl b (off+i*2) 2 rfl #[.string ⟨xn.toArray⟩,.string st] _ HCW.o rfl underlying25 rfl (by kernel_rfl) ?_)
     |(refine bD rfl 25 (.tmp 6) (.tmp 15) rfl wr.heap.size 25 wr.heap.size 2 2 rfl #[.string ⟨xn.toArray⟩,.string st] rfl (by kernel_rfl) _ HO0.o (by simp) (by simp[Value.oneCell']) ?_;intro w2 ho hg;have qbO:=cF HA0.o hg (by rintro k ⟨⟩;exact qb _);have HO2:=qa (HO.o.up qbO);have HR2:Hid (d5 w2 w.heap.size vs _):=qa (HRW.o.all (fun v l h=>cA.up h qbO));have HB2:=qa (HB.o.trans (qbO.mono HB.o.size));have c3:=ho.cell (i:=1) (by simp);simp only[List.getD,jj,List.getElem?_cons_zero,List.getElem?_cons_succ,qJ]at c3;clear ho hg qbO)
     |(go_at_call 21;(with_reducible refine(HPI.o _ HB2.o).mono ?_);rintro e w3 ⟨v3,rfl,ho,hb⟩;have HN3:Hid (aO w3 w.heap.size v3 pl):=qa (cA.mono ho HB2.o.size);have HO3:=qa (HO2.o.up hb);have HR3:Hid (d5 w3 w.heap.size vs _):=qa (HR2.o.all (fun v l h=>cA.up h hb));have HB3:=qa (HB2.o.trans (hb.mono HB2.o.size));clear ho hb;obtain⟨oa3,cap3,hv3⟩:=aO.slice HN3.o;subst hv3;have hba:=aA w3 (.cells #[.slice oa3 pl.length cap3] 31);have HX4:Hid (Sl (w3.alloc (.cells #[.slice oa3 pl.length cap3] 31)) (.slice (some ⟨w3.heap.size,0,none⟩) 1 1) [.slice oa3 pl.length cap3]):=qa (by simpa using dY w3 #[.slice oa3 pl.length cap3] 31 (by simp));have HO4:=qa (HO3.o.up hba);have HR4:Hid (d5 (w3.alloc (.cells #[.slice oa3 pl.length cap3] 31)) w.heap.size (vs++[.slice oa3 pl.length cap3]) (_++[pl])):=qa ((HR3.o.snoc HN3.o).all (fun v l h=>cA.up h hba));have HB4:=qa (HB3.o.trans (hba.mono HB3.o.size));have HLE:Hid (vs.length+[Value.slice oa3 pl.length cap3].length<=4294967296):=qa (by simp;omega);clear hba)
     |(at_builtin;refine bM rfl (.tmp 25) (.tmp 27) 26 rfl w.heap.size 31 (.slice none 0 0) 24 underlying26 (by kernel_rfl) rfl (by decide) _ vs rfl HO4.o (.slice (some ⟨w3.heap.size,0,none⟩) 1 1) [.slice oa3 pl.length cap3] rfl HX4.o (by intro u hu;simp only[jd]at hu;subst hu;rfl) HLE.o HB4.o.size ?_;intro v5 w5 hown1 hg1 hk1;have HO5:=qa hown1;have HB5:=qa (HB4.o.grown hg1 HB4.o.size (fun q e=>(HO4.o.lt q e).1));have HR5:Hid (d5 w5 w.heap.size (vs++[.slice oa3 pl.length cap3]) (_++[pl])):=qa (HR4.o.all (fun v l h=>cA.keep h hg1 (lK HO4.o h (by decide))));clear hown1 hg1 hk1))
    go_roundg (n-i)
    case measure=>have:=HGK.o;omega
    case rel=>exact⟨i+1,_,by omega,by simp,HO5.o,by rw[HTS.o];exact HR5.o,qgr,HB5.o,by omega⟩
   have HRB:=qa (qc1.o (by simpa using hpe));have qky:((pe:Int) != 0)=true:=by simp;omega
   clear HAS qc1 HR hpe
   go_wp2_with(first
    |(refine aH rfl 25 (.tmp 14) rfl b (off+i*2) 2 rfl #[.string ⟨xn.toArray⟩,.string st] _ HCW.o rfl underlying25 rfl (by kernel_rfl) ?_)
    |(refine bD rfl 25 (.tmp 6) (.tmp 15) rfl wr.heap.size 25 wr.heap.size 2 2 rfl #[.string ⟨xn.toArray⟩,.string st] rfl (by kernel_rfl) _ HO0.o (by simp) (by simp[Value.oneCell']) ?_;intro w2 ho hg;have qbO:=cF HA0.o hg (by rintro k ⟨⟩;exact qb _);have HB2:=qa (HB.o.trans (qbO.mono HB.o.size));have c3:=ho.cell (i:=1) (by simp);simp only[List.getD,jj,List.getElem?_cons_zero,List.getElem?_cons_succ,qJ]at c3;clear ho hg qbO)
    |(go_at_call 21;(with_reducible refine(HPI.o _ HB2.o).mono ?_);rintro e w3 ⟨v3,rfl,ho,hb⟩;have HB3:=qa (HB2.o.trans (hb.mono HB2.o.size));clear ho hb))
   go_ret2
   rw[HRB.o];exact⟨_,rfl,HNO.o _,HB3.o⟩
  obtain rfl:i=n:=by omega
  have HE:Hid (R=((ls.take i).map (fun x=>(iY x.2).1),0)):=qa (by
   have h1:=HA.o;rw[HN.o,qX]at h1;rw[HR.o,HN.o,qX];unfold vI;rw[h1];rfl)
  go_wp2
  go_ret2
  rw[HE.o];exact⟨_,rfl,⟨vs,HO.o,HRW.o⟩,HB.o⟩
structure KnB(W:World)(g:Nat)(u:Value)(b:List (Nat×Nat)):Prop where
 box:Own W g 45 (.slice (some ⟨g,0,none⟩) 1 1) [u]
 err:dF W b u
theorem KnB.up{W W':World}{g:Nat}{u:Value}{b:List (Nat×Nat)}(h:KnB W g u b)(hb:Below W.heap.size W W'):KnB W' g u b:=⟨h.box.up hb,dF.up hb h.err⟩
theorem KnB.put{W w':World}{u:Value}{b:List (Nat×Nat)}(he:dF W b u)(ho:Own w' W.heap.size 45 (.slice (some ⟨W.heap.size,0,none⟩) 1 1) [u])(hg:(W.alloc (.cells #[.nilIface] 45)).grownBy w' (some W.heap.size)):KnB w' W.heap.size u b/\Below W.heap.size W w':=by
 have hb:=cF (aA W (.cells #[.nilIface] 45)) hg (by rintro k ⟨⟩;exact qb _);exact⟨⟨ho,dF.up hb he⟩,hb⟩
def Fit(M:Nat)(l:List Rul):Prop:=∀x∈l,x.1.length<=M/\x.2.length<=M
end Go.Cm
namespace Go.Cm
open Go.RowKit Go.Proofs Go.WideShapes Go.ChangeShapes Go.Deep
section
variable {H : Type} {enc : TypeId × Value → H} {w : World} {base : Nat} {held : Bool}
theorem q4n{fuel:Nat}{cs:List Value}{y:DataW H×List MemPlace}(h:DataW.trod enc prog w base (fun _=>true) held fuel 25 cs=some y)(hl:cs.length=2)(hw:∀n∈y.1.weights prog 25,n<=reachBytes):
  ∃x:Rul,cs=z9 x/\x.1.length<=140737488351232/\x.2.length<=140737488351232:=by
 obtain⟨xs,n,-,hx,-,hxl,hg⟩:=DataW.trod_struct underlying25 h
 match xs,hxl with
 |[x0,x1],_=>
  have h0:=hg 0 _ rfl;have h1:=hg 1 _ rfl;have cS:prog.cellsOf 9=1:=by kernel_rfl
  simp only[List.getElem?_cons_zero,List.getElem?_cons_succ]at h0 h1;change DataW.trod enc prog w base (fun _=>true) held n 9 ((cs.drop 0).take (prog.cellsOf 9))=some x0 at h0;change DataW.trod enc prog w base (fun _=>true) held n 9 ((cs.drop 1).take (prog.cellsOf 9))=some x1 at h1
  have hwx:∀n∈DataW.weightsEach prog [9,9] [x0.1,x1.1],n<=reachBytes:=fun k hk=>hw k (by
   rw[hx];simpa[DataW.weights,underlying25]using hk)
  have hw0:∀n∈x0.1.weights prog 9,n<=reachBytes:=fun k hk=>hwx k (DataW.weights_mem_each (j:=0) rfl rfl k hk);have hw1:∀n∈x1.1.weights prog 9,n<=reachBytes:=fun k hk=>hwx k (DataW.weights_mem_each (j:=1) rfl rfl k hk);obtain⟨a,e0,ha,-⟩:=DataW.trod_string underlying9 h0;obtain⟨b,e1,hb,-⟩:=DataW.trod_string underlying9 h1
  have za:a.size<=140737488351232:=by
   have:=hw0 a.size (by rw[ha];simp[DataW.weights]);rwa [I1]at this
  have zb:b.size<=140737488351232:=by
   have:=hw1 b.size (by rw[hb];simp[DataW.weights]);rwa [I1]at this
  rw[cS]at e0 e1;refine⟨(bys a,bys b),?_,by simp only;rw[aP];exact za,by simp only;rw[aP];exact zb⟩
  have hq:∀i v,(cs.drop i).take 1=[v]->cs[i]? =some v:=fun i v e=>by
   have:=qW (fun l=>l[0]?) e;simpa using this
  unfold z9;simp only[q6p];refine List.ext_getElem? fun i=>?_
  match i with
  |0=>rw[hq 0 _ e0];rfl
  |1=>rw[hq 1 _ e1];rfl
  |i+2=>rw[qM (by omega),qM (by show 2<=i+2;omega)]
theorem q1V{v:Value}{x:DataW H}{p:List MemPlace}{r:Reach}{b0:Nat}(hv:Value.okWide prog w r b0 22 v)(h:DataW.Trod enc prog w base (fun _=>true) held 22 v x p)(hw:∀n∈x.weights prog 22,n<=reachBytes):∃ls:List Rul,SlK 2 w v (ls.map z9)/\Fit 140737488351232 ls:=by
 obtain⟨a0,len0,cap0,rfl⟩:=okWide_slice underlying22 hv;obtain⟨fuel,hf⟩:=h;have c8:prog.cellsOf 25=2:=by kernel_rfl
 have b8:prog.bytesOf 25=32:=by kernel_rfl
 obtain⟨oa,len,cap,b,off,C,D,hcs,hd,hx⟩:=q55 2 (by decide) underlying22 c8 (by rw[b8];decide) hf hw
 have hN:∀i,i<len->∃z:Rul,C i=z9 z/\(z.1.length<=140737488351232/\z.2.length<=140737488351232):=fun i hi=>by
  obtain⟨hl,-,⟨n,p,h2⟩,hwi⟩:=hx i hi;exact q4n h2 hl hwi
 obtain⟨Z,hZ⟩:=choose_lt hN
 have qj2:Value.slice a0 len0 cap0=.slice oa len cap:=by
  have:[Value.slice a0 len0 cap0]=[.slice oa len cap]:=hcs;injection this
 rw[qj2];refine⟨(List.range len).map Z,⟨oa,cap,b,off,by simp,by simpa using hd,fun i hi c hcl=>?_⟩,fun z hz=>?_⟩
 ·have hi':i<len:=by simpa using hi
  rw[(hx i hi').2.1 c hcl,(hZ i hi').1];simp[List.getD,hi']
 obtain⟨i,hi,rfl⟩:=List.mem_map.1 hz;exact(hZ i (List.mem_range.1 hi)).2
end
end Go.Cm
