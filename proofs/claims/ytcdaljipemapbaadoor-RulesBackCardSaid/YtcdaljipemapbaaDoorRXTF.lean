/- Walks of functions and plain facts, joined and squeezed by a program. Conditions: as each says. -/
import Derived.Test.YtcdaljipemapbaaDoorRXTE
set_option maxHeartbeats 8000000
set_option maxRecDepth 100000
set_option linter.unusedSimpArgs false
namespace Go.Cm
open Go.RowKit Go.Proofs
structure RdS(w0 w:World)(r:Nat)(s0:ByteArray)(lv:Value)(ls:List Rul):Prop where
 rd:RRd w r s0 lv
 li:dQ w (r+1) lv ls
 bl:Below w0.heap.size w0 w
theorem RdS.up{w0 w w':World}{r:Nat}{s0:ByteArray}{lv:Value}{ls:List Rul}(h:RdS w0 w r s0 lv ls)(hb:Below w.heap.size w w'):RdS w0 w' r s0 lv ls:=
 ⟨h.rd.up hb,qJ.up h.li hb,h.bl.trans (hb.mono h.bl.size)⟩
theorem RdS.box{w0 w:World}{r g:Nat}{s0:ByteArray}{lv v:Value}{ls:List Rul}(h:RdS w0 w r s0 lv ls)(ho:Own w0 g 32 (.slice (some ⟨g,0,none⟩) 1 1) [v]):Own w g 32 (.slice (some ⟨g,0,none⟩) 1 1) [v]:=ho.up h.bl
def jV(ls:List Rul)(b:List (Nat×Nat))(w:World)(e:Ending)(w':World):Prop:=
 ∃v u,e=.returned (.tuple #[v,u])/\dQ w' w.heap.size v ls/\jd w' b u/\Below w.heap.size w w'
theorem oG{l:List Rul}{s:qM}{a:Nat}(h:l.length<=32):(jy l s a).1.length<=32:=by
 unfold jy;simp only;split
 ·exact h
 ·split
  ·exact h
  ·split
   ·exact h
   ·split
    ·exact h
    ·split
     ·exact h
     ·split
      ·exact h
      ·simp only[qg,List.length_singleton];omega
theorem mW(l:List Rul)(s:qM)(a:Nat):(jy l s a).2.length<=2:=by
 unfold jy;simp only;split
 ·exact qc _
 ·split
  ·exact(by decide:(1:Nat)<=2)
  ·split
   ·exact(by decide:(1:Nat)<=2)
   ·split
    ·exact(by decide:(1:Nat)<=2)
    ·split
     ·exact(by decide:(1:Nat)<=2)
     ·split
      ·exact iT _ _
      ·exact qc _
theorem eZ{C:World->Prop}{o:Oper}{a:Act}{K:Act->Prop}(x:Operand)(ho:o.op=.load 32 x)(g B:Nat)(hx:a.eval x=.pointer (some ⟨g,0,none⟩))(v:Value)
  (hg:∀w',C w'->Own w' B 32 (.slice (some ⟨g,0,none⟩) 1 1) [v]) (h:K (a.put o.dst (.agg #[v]))):o.quiet Tryd.prog a C K:=
 aT 32 1 x ho g hx #[v] rfl (fun w' hw=>by
  obtain⟨A,h1,-,h3⟩:=(hg w' hw).whole;rw[h1,show A=#[v]from Array.ext' h3]) _ Tryd.underlying32 rfl (by kernel_rfl) h
theorem cR{fn:Func}{tmps:Array Value}{ds:List Deferred}{w0 w w':World}{sl tl:Nat}{v u e:Value}{ls:List Rul}{b:List (Nat×Nat)}(hf:fn.results=#[.tmp tl,.cell sl 32])(ha:tmps.getD sl undef=.pointer (some ⟨w0.heap.size,0,none⟩))(hb:tmps.getD tl undef=v)(hd:ds=[])
  (hbx:Own w w0.heap.size 32 (.slice (some ⟨w0.heap.size,0,none⟩) 1 1) [u]) (hbl:Below w0.heap.size w0 w) (hl:dQ w (w0.heap.size+1) v ls)
  (ho:Own w' w0.heap.size 32 (.slice (some ⟨w0.heap.size,0,none⟩) 1 1) [e]) (hg:w.grownBy w' (some w0.heap.size)) (he:qQ w b e):bodyPost Tryd.prog fn (jV ls b w0) .ret ⟨tmps,ds⟩ w':=by
 refine fI hf ha hb hd (y:=v) (x:=.agg #[e]) (mU ho) ⟨v,_,rfl,qJ.mono (qJ.keep hl hg ?_) (Nat.le_succ _),⟨_,rfl,eY hg (c9 hbx) he⟩,hbl.grown hg hbl.size (by rintro k ⟨⟩;exact qa _)⟩
 cases hq:v.ownBlock with
 |none=>exact .inl rfl
 |some q=>right;intro e;have:=(qJ.lt hl q hq).1;have:=qk e;omega
theorem dL{w:World}{s:ByteArray}(hL:j6 w)(hT:jn w)(wF:s.size<=1000000000):
  Calls Tryd.prog 11 #[.string s] w (jV (qU (bys s)).1 (qU (bys s)).2 w):=by
 obtain⟨R,hR⟩:∃R,R=qU (bys s):=⟨_,rfl⟩;rw[<-hR];unfold qU at hR;rw[qt]at hR;obtain⟨w1,hw1⟩:∃w1,w1=w.alloc (.cells #[.nilIface] 32):=⟨_,rfl⟩;have hb1:Below w.heap.size w w1:=by rw[hw1];exact qo _ _
 obtain⟨r,hr⟩:∃r,r=w.heap.size+1:=⟨_,rfl⟩;have hs1:w1.heap.size=r:=by rw[hw1,hr];simp
 have HBX:Hid (Own w1 w.heap.size 32 (.slice (some ⟨w.heap.size,0,none⟩) 1 1) [.nilIface]):=q9 (by rw[hw1];exact jl w 32)
 have HB1:=q9 hb1;have HE0:Hid (∀W,qQ W [] .nilIface):=q9 (fun W=>rfl)
 have HNO:Hid (∀W B,dQ W B (.slice none 0 0) []):=q9 (fun W B=>qJ.nil 2 W B 25)
 have hL1:=hL.up hb1;have hT1:=hT.up hb1;have HW:Hid (∀W c b,Below w1.heap.size w1 W->c<=27->c≠0->Calls Tryd.prog 23 #[.int .i64 (c:Nat),.int .i64 (b:Nat)] W (qP [(c,b)] W)):=q9 (fun W c b hb hc h0=>mV (hL1.up hb) hc h0)
 by_cases h8:8192<s.size
 ·rw[if_pos h8]at hR
  subst hR;have h8i:(s.size:Int)>8192:=by omega
  have HW1:Hid (Calls Tryd.prog 23 #[.int .i64 3,.int .i64 8192] w1 (qP [(3,8192)] w1)):=q9 (HW.out w1 3 8192 (qi _ _) (by decide) (by decide))
  clear hL hT hb1 hL1 hT1 h8 HW
  go_enter Tryd.func11,Tryd.ntmps11
  rw[hw1]at HW1 HBX
  go_wp2_with(first
   |((with_reducible refine(HW1.out).mono ?_);rintro e w2 ⟨v2,rfl,⟨u2,rfl,hu⟩,hx⟩;have hb:=qn hx;have HU:=q9 hu;have x8:=q9 (HBX.out.up hb);have HB2:=q9 (HB1.out.trans ((by rw[hw1];exact hb:Below w1.heap.size w1 w2).mono HB1.out.size));clear hx hu hb)
   |(refine qA rfl _ _ rfl w.heap.size w.heap.size rfl _ u2 rfl HU.out.one x8.out ?_;intro w3 ho hg;have HO3:=q9 ho;have HG3:=q9 hg;clear ho hg))
  exact cR rfl rfl rfl rfl x8.out HB2.out (HNO.out _ _) HO3.out HG3.out HU.out
 ·rw[if_neg h8]at hR
  have h8i:¬(s.size:Int)>8192:=by omega
  have HLN:Hid (∀W lv ls at_ t,RdS w1 W r s lv ls->ls.length<=32->t.size<=8192->at_<=8192->Calls Tryd.prog 25 #[.pointer (some ⟨r,0,none⟩),.string t,.int .i64 (at_:Nat)] W (oF w1 r s (jy ls (bys t) at_).1 (jy ls (bys t) at_).2)):=q9 (fun W lv ls at_ t h hn ht ha=>tY hL1 hT1 h.rd h.li hn h.bl (by rw[hs1];exact qa _) ht ha)
  have HDP:Hid (∀W l u,Below w1.heap.size w1 W->qQ W l u->l.length<=100000->Calls Tryd.prog 12 #[.agg #[u]] W fun e w'=>e=.returned (.int .i64 (l.length:Nat))/\∃x,w'=ext W x):=q9 (fun W l u hb h hl=>mP (hL1.up hb) ⟨u,rfl,h⟩ hl)
  have HR0:Hid (RdS w1 (w1.alloc (.cells #[.string s,.slice none 0 0] 49)) r s (.slice none 0 0) []):=q9 ⟨⟨by simpa[hs1]using jj w1 r #[.string s,.slice none 0 0] 49 (by simp) (by rw[hs1];exact qa _)⟩,HNO.out _ _,qo _ _⟩
  have h8s:s.size<=8192:=by omega
  have HRF:=q9 hR;clear hL hT hb1 hL1 hT1 h8 wF hR
  go_enter Tryd.func11,Tryd.ntmps11
  go_wp2;rw[<-hw1,<-hr];generalize w1.alloc (.cells #[.string s,.slice none 0 0] 49)=wz at*;have HS1:=q9 hs1;have HRR:=q9 hr;clear hw1 hs1 hr
  go_loopg [5] (s.size+1) (fun gk v wr=>∃(a:Nat) (lv:Value) (ls:List Rul),v=.int .i64 a/\RdS w1 wr r s lv ls/\ls.length<=32/\Hid (jz (bys s) gk a ls=R)/\a<=s.size+1/\s.size+1<=a+gk/\0<gk)
  case atStart=>exact⟨0,_,[],rfl,HR0.out,qc _,q9 HRF.out.symm,qc _,by omega,by omega⟩
  case round=>
   clear HRF HR0;obtain⟨a,lv,ls,rfl,hRD,h32,HF,has,hfu,hgp⟩:=hrel;have HRD:=q9 hRD
   obtain⟨oa,cap,hv⟩:∃oa cap,lv=.slice oa ls.length cap:=by
    obtain⟨oa,cap,-,-,hv,-,-⟩:=qJ.sl hRD.li;rw[List.length_map]at hv
    exact⟨oa,cap,hv⟩
   subst hv;clear hRD
   by_cases hlt:a<s.size
   ·obtain⟨f,rfl⟩:∃f,gk=f+1:=⟨gk-1,by omega⟩
    have hF:=HF.out;unfold jz at hF;rw[qt,if_pos hlt]at hF;obtain⟨S,hS⟩:∃S,S=bys s:=⟨_,rfl⟩;have hSl:S.length=s.size:=by rw[hS,qt]
    rw[<-hS]at hF;simp only at hF;have HS1:=q9 (bT s a (by omega))
    rw[<-hS]at HS1;have HH:=q9 (sI ⟨(S.drop a).toArray⟩);rw[jr]at HH;have hn:=jE dN (S.drop a);rw[List.length_drop,hSl]at hn;generalize qK dN (S.drop a)=n at*;have HS2:=q9 (iR s a (a+n) (by omega) (by omega))
    rw[<-hS,show a+n-a=n by omega,show((a+n:Nat):Int)=(a:Int)+(n:Int)from rfl]at HS2
    obtain⟨T,hTT⟩:∃T,T=(S.drop a).take n:=⟨_,rfl⟩;have hTl:T.length<=8192:=by rw[hTT,List.length_take,List.length_drop,hSl];omega
    rw[<-hTT]at HS2 hF;obtain⟨t2,ht2⟩:∃t2:ByteArray,t2=⟨T.toArray⟩:=⟨_,rfl⟩;have hbt:bys t2=T:=by rw[ht2,jr]
    rw[<-ht2]at HS2;generalize (⟨(S.drop a).toArray⟩:ByteArray)=x1 at*;have hl2:=oG (s:=T) (a:=a) h32;obtain⟨LR,hLR⟩:∃LR,LR=jy ls T a:=⟨_,rfl⟩;have hb5:LR.2.length<=100000:=by rw[hLR];exact qb (mW _ _ _) (by decide)
    have HLI:Hid (∀W,RdS w1 W r s (.slice oa ls.length cap) ls->Calls Tryd.prog 25 #[.pointer (some ⟨r,0,none⟩),.string t2,.int .i64 a] W (oF w1 r s LR.1 LR.2)):=q9 (fun W h=>by
     have:=HLN.out W _ ls a t2 h h32 (by rw[<-qt,hbt];exact hTl) (by omega)
     rw[hbt,<-hLR]at this
     exact this)
    rw[<-hLR]at hF hl2;obtain⟨l2,b⟩:=LR;simp only at hF hl2 HLI hb5;rw[hS]at hF;have HF2:=q9 hF;clear hF hLR hbt ht2 hTl hTT hSl hS HLN HF h32
    by_cases hb0:b=[]
    ·subst hb0
     rw[if_neg (by simp)]at HF2
     have HD:Hid (∀W v,Below w1.heap.size w1 W->qQ W [] v->Calls Tryd.prog 12 #[.agg #[v]] W fun e w'=>e=.returned (.int .i64 0)/\∃x,w'=ext W x):=q9 (fun W v hb h=>HDP.out W [] _ hb h (by decide))
     clear HDP hb5
     go_wp2_with(first
      |((with_reducible show wpList _ _ _ (Oper.mk _ (.slice _ _ _ _ _) _ _ _ _::_) _ _);refine qp rfl 9 (.tmp 19) (some (.tmp 20)) none none rfl _ (HS1.out _) ?_)
      |((with_reducible show wpList _ _ _ (Oper.mk _ (.slice _ _ _ _ _) _ _ _ _::_) _ _);refine qp rfl 9 (.tmp 24) (some (.tmp 25)) (some (.tmp 28)) none rfl _ (HS2.out _) ?_)
      |((with_reducible refine(HH.out _).mono ?_);rintro e w11 ⟨rfl,hx⟩;have HRD:=q9 (HRD.out.up (qn hx));clear hx)
      |((with_reducible refine(HLI.out _ HRD.out).mono ?_);rintro e w18 ⟨v4,lv2,rfl,⟨u4,rfl,hu⟩,hrd,hli,hbl⟩;have y3:=q9 (RdS.mk hrd hli hbl);have HU4:=q9 hu;have y8:=q9 (jl w18 32);have HAL:=q9 (qo w18 (.cells #[.nilIface] 32));clear hu hrd hli hbl)
      |(refine qA rfl _ _ rfl w18.heap.size w18.heap.size rfl _ u4 rfl HU4.out.one y8.out ?_;intro w19 ho hg;have wP:=q9 ho;have hbl:=qG HAL.out hg (by rintro k ⟨⟩;exact qa _);have HRD:=q9 (y3.out.up hbl);have HU:=q9 (qQ.up hbl HU4.out);clear ho hg hbl)
      |(refine jU rfl _ rfl w18.heap.size w18.heap.size rfl _ wP.out ?_)
      |((with_reducible refine(HD.out _ _ HRD.out.bl HU.out).mono ?_);rintro e w20 ⟨rfl,hx⟩;have HRD:=q9 (HRD.out.up (qn hx));clear hx))
     go_roundg f
     case measure=>omega
     case rel=>exact⟨a+n+1,lv2,l2,by go_num,HRD.out,hl2,HF2,by omega,by omega,by omega⟩
    ·rw[if_pos hb0]at HF2
     have vR:0<b.length:=List.length_pos_iff.2 hb0;have HD:Hid (∀W v,Below w1.heap.size w1 W->qQ W b v->Calls Tryd.prog 12 #[.agg #[v]] W fun e w'=>e=.returned (.int .i64 (b.length:Nat))/\∃x,w'=ext W x):=q9 (fun W v hb h=>HDP.out W b _ hb h hb5)
     generalize b.length=m at*;clear HDP hb5
     go_wp2_with(first
      |((with_reducible show wpList _ _ _ (Oper.mk _ (.slice _ _ _ _ _) _ _ _ _::_) _ _);refine qp rfl 9 (.tmp 19) (some (.tmp 20)) none none rfl _ (HS1.out _) ?_)
      |((with_reducible show wpList _ _ _ (Oper.mk _ (.slice _ _ _ _ _) _ _ _ _::_) _ _);refine qp rfl 9 (.tmp 24) (some (.tmp 25)) (some (.tmp 28)) none rfl _ (HS2.out _) ?_)
      |((with_reducible refine(HH.out _).mono ?_);rintro e w11 ⟨rfl,hx⟩;have HRD:=q9 (HRD.out.up (qn hx));clear hx)
      |((with_reducible refine(HLI.out _ HRD.out).mono ?_);rintro e w18 ⟨v4,lv2,rfl,⟨u4,rfl,hu⟩,hrd,hli,hbl⟩;have y3:=q9 (RdS.mk hrd hli hbl);have HU4:=q9 hu;have y8:=q9 (jl w18 32);have HAL:=q9 (qo w18 (.cells #[.nilIface] 32));clear hu hrd hli hbl)
      |(refine qA rfl _ _ rfl w18.heap.size w18.heap.size rfl _ u4 rfl HU4.out.one y8.out ?_;intro w19 ho hg;have wP:=q9 ho;have hbl:=qG HAL.out hg (by rintro k ⟨⟩;exact qa _);have HRD:=q9 (y3.out.up hbl);have HU:=q9 (qQ.up hbl HU4.out);clear ho hg hbl)
      |(refine jU rfl _ rfl w18.heap.size w18.heap.size rfl _ wP.out ?_)
      |((with_reducible refine(HD.out _ _ HRD.out.bl HU.out).mono ?_);rintro e w20 ⟨rfl,hx⟩;have hbl:=qn hx;have HRD:=q9 (HRD.out.up hbl);have wP:=q9 (wP.out.up hbl);have HU:=q9 (qQ.up hbl HU.out);clear hx hbl))
     refine jx [0,1] [] [2] (by kernel_rfl) (by kernel_rfl) ?_
     simp only[pk];go_simp
     repeat(first
      |(go_big_quiet_want;refine eZ _ rfl w18.heap.size w18.heap.size rfl u4 (fun w' hw=>by obtain⟨y,rfl⟩:=hw;exact wP.out.up (qB _ _)) ?_;go_simp;go_big_quiet_on)
      |go_big_quiet_step (fail))
     refine wpQuiet_nil ?_;have hbd:=cY (qi w20.heap.size w20);have HRD:=q9 (HRD.out.up hbd);have HU:=q9 (qQ.up hbd HU.out);have HBR:=q9 (HRD.out.box HBX.out);clear hbd;generalize w20.drew=w21 at*;unfold qX;unfold qX
     go_wp2_with(refine qA rfl _ _ rfl w.heap.size w.heap.size rfl _ u4 rfl HU.out.one HBR.out ?_;intro w22 ho hg;have HO9:=q9 ho;have HG9:=q9 hg;clear ho hg)
     refine⟨trivial,?_⟩;unfold qX;go_wp2;rw[<-HF2.out]
     exact cR rfl rfl rfl rfl HBR.out (HB1.out.trans (HRD.out.bl.mono HB1.out.size)) (HNO.out _ _) HO9.out HG9.out HU.out
   ·have hF:=HF.out
    rcases gk with _|f
    ·omega
    ·unfold jz at hF
     rw[qt,if_neg hlt]at hF;have HF2:=q9 hF;have c1:=HRD.out.rd.c1;clear hF HF HLN HDP
     cases hl:ls with
     |nil=>
      subst hl;rw[if_pos rfl]at HF2;have HW2:Hid (∀W,Below w1.heap.size w1 W->Calls Tryd.prog 23 #[.int .i64 17,.int .i64 (s.size:Nat)] W (qP [(17,s.size)] W)):=q9 (fun W hb=>HW.out W 17 s.size hb (by decide) (by decide))
      clear HW
      go_wp2_with(first
       |((with_reducible refine(HW2.out _ HRD.out.bl).mono ?_);rintro e w2 ⟨v2,rfl,⟨u2,rfl,hu⟩,hx⟩;have hb:=qn hx;have HU:=q9 hu;have HRD:=q9 (HRD.out.up hb);have HBR:=q9 (HRD.out.box HBX.out);clear hx hu hb)
       |(refine qA rfl _ _ rfl w.heap.size w.heap.size rfl _ u2 rfl HU.out.one HBR.out ?_;intro w3 ho hg;have HO3:=q9 ho;have HG3:=q9 hg;clear ho hg))
      rw[<-HF2.out]
      exact cR rfl rfl rfl rfl HBR.out (HB1.out.trans (HRD.out.bl.mono HB1.out.size)) (HNO.out _ _) HO3.out HG3.out HU.out
     |cons x l=>
      rw[if_neg (by rw[hl];simp)]at HF2
      have hlb:((ls.length:Int)==0)=false:=by rw[hl];simp;omega
      have HBR:=q9 (HRD.out.box HBX.out);clear hl HW
      go_wp2_with(refine qA rfl _ _ rfl w.heap.size w.heap.size rfl _ .nilIface rfl rfl HBR.out ?_;intro w3 ho hg;have HO3:=q9 ho;have HG3:=q9 hg;clear ho hg)
      rw[<-HF2.out]
      exact cR rfl rfl rfl rfl HBR.out (HB1.out.trans (HRD.out.bl.mono HB1.out.size)) (by rw[<-HRR.out];exact qJ.mono HRD.out.li (Nat.le_succ _)) HO3.out HG3.out (HE0.out _)
theorem uK(a b:ByteArray):bys (a++b)=bys a++bys b:=by
 cases a;cases b;simp[bys]
theorem gC(a:List Rul)(x:Rul):j8 (a++[x])=j8 a++(x.1++[32,61,32]++x.2++[10]):=by
 unfold j8;rw[List.flatMap_append];simp
theorem rT{w:World}{v:Value}{ls:List Rul}(hl:SlK 2 w v (ls.map aP))(hn:ls.length<=1000)(hz:∀x∈ls,x.1.length<=8192/\x.2.length<=8192):
  Calls Tryd.prog 7 #[v] w fun e w'=>e=.returned (.string ⟨(j8 ls).toArray⟩)/\∃x,w'=ext w x:=by
 obtain⟨oa,cap,b,off,hv,hd,hc⟩:=hl;rw[List.length_map]at hv hd hc;subst hv;have hix:=fun(W:World) (i:Nat) (hi:i<ls.length)=>je (P:=Tryd.prog) 2 22 25 Tryd.underlying22 (by kernel_rfl) hd W .i64 i (by omega) (by omega)
 simp only[Int.toNat_natCast]at hix;have HIX:=q9 hix;have HC:Hid (∀i,i<ls.length->∀c,c<2->w.cell? ⟨b,off+i*2+c,none⟩=some ((#[.string ⟨(ls.getD i ([],[])).1.toArray⟩,.string ⟨(ls.getD i ([],[])).2.toArray⟩]:Array Value).getD c undef)):=q9 (fun i hi c hcl=>by rw[hc i hi c hcl,dK ls i c hi])
 have HZ:=q9 hz;have hbl:=hd.hblk;have hm:=hd.len;obtain⟨n,hnn⟩:∃n,n=ls.length:=⟨_,rfl⟩;have HN:=q9 hnn;rw[<-hnn]at HIX HC hbl hn hm⊢;clear hd hc hix hnn hz
 go_enter Tryd.func7,Tryd.ntmps7
 go_wp2
 go_loopg [3,8] (n+1) (fun gk sv iv wr=>∃(i:Nat) (t:ByteArray),i<=n/\sv=.string t/\iv=.int .i64 i/\Hid (bys t=j8 (ls.take i))/\Below w.heap.size w wr/\t.size<=i*20000/\gk=n+1-i)
 case atStart=>exact⟨0,⟨#[]⟩,qc _,rfl,rfl,q9 rfl,qi _ _,qc _,rfl⟩
 case round=>
  obtain⟨i,t,hi,rfl,rfl,HA,hB,hts,hgk⟩:=hrel;have HB:=q9 hB;have HGK:=q9 hgk;clear hB hgk
  by_cases hlt:i<n
  ·have vS:=fun W=>HIX.out W i hlt
   have hbb:=hbl (by omega)
   have hbw:b<wr.heap.size:=by have:=HB.out.size;omega
   have HCW:Hid (∀c,c<2->wr.cell? ⟨b,off+i*2+c,none⟩=some ((#[.string ⟨(ls.getD i ([],[])).1.toArray⟩,.string ⟨(ls.getD i ([],[])).2.toArray⟩]:Array Value).getD c undef)):=q9 (fun c hc=>by
    rw[HB.out.cell (p:=⟨b,off+i*2+c,none⟩) hbb];exact HC.out i hlt c hc)
   have HTS:Hid (j8 (ls.take (i+1))=j8 (ls.take i)++((ls.getD i ([],[])).1++[32,61,32]++(ls.getD i ([],[])).2++[10])):=q9 (by
    rw[qE ls i ([],[]) (by rw[<-HN.out];exact hlt),gC])
   have HO0:Hid (Own (wr.alloc (.cells #[.string ⟨#[]⟩,.string ⟨#[]⟩] 25)) wr.heap.size 25 (.slice (some ⟨wr.heap.size,0,none⟩) 2 2) [.string ⟨#[]⟩,.string ⟨#[]⟩]):=q9 (by simpa using jj wr wr.heap.size #[.string ⟨#[]⟩,.string ⟨#[]⟩] 25 (by simp) (qa _))
   have hzi:=HZ.out (ls.getD i ([],[])) (by rw[List.getD_eq_getElem?_getD,List.getElem?_eq_getElem (by rw[<-HN.out];exact hlt)];exact List.getElem_mem _)
   generalize ls.getD i ([],[])=x at*;obtain⟨xn,xt⟩:=x;simp only at HCW HTS hzi;obtain⟨sn,hsn⟩:∃sn:ByteArray,sn=⟨xn.toArray⟩:=⟨_,rfl⟩;obtain⟨st,hst⟩:∃st:ByteArray,st=⟨xt.toArray⟩:=⟨_,rfl⟩;have zF:sn.size<=8192:=by rw[hsn];show(List.toArray _).size<=_;rw[List.size_toArray];exact hzi.1
   have zE:st.size<=8192:=by rw[hst];show(List.toArray _).size<=_;rw[List.size_toArray];exact hzi.2
   rw[<-hsn,<-hst]at HCW;rw[show xn=bys sn by rw[hsn,jr],show xt=bys st by rw[hst,jr]]at HTS
   clear hsn hst hzi;clear HIX HC;have HA0:=q9 (qo wr (.cells #[.string ⟨#[]⟩,.string ⟨#[]⟩] 25))
   go_wp2_with(first
    |(refine qY rfl 25 _ rfl b (off+i*2) 2 rfl #[.string sn,.string st] _ HCW.out rfl Tryd.underlying25 rfl (by kernel_rfl) ?_)
    |(refine j5 rfl 25 _ _ rfl wr.heap.size 25 wr.heap.size 2 2 rfl #[.string sn,.string st] rfl (by kernel_rfl) _ HO0.out (by simp) (by simp[Value.oneCell']) ?_;intro w2 ho hg;have HO2:=q9 ho;have HB2:=q9 (HB.out.trans ((qG HA0.out hg (by rintro k ⟨⟩;exact qa _)).mono HB.out.size));have c2:=HO2.out.cell (i:=0) (by simp);have c3:=HO2.out.cell (i:=1) (by simp);simp only[List.getD,List.cons_append,List.getElem?_cons_zero,List.getElem?_cons_succ,Option.getD_some]at c2 c3;clear ho hg))
   go_roundg (n-i)
   case measure=>have:=HGK.out;omega
   case rel=>
    refine⟨i+1,_,by omega,rfl,by simp,?_,HB2.out,?_,by omega⟩
    ·exact q9 (by rw[HTS.out,<-HA.out];simp only[uK];rfl)
    ·simp only[ByteArray.size_append]
     rw[show(⟨#[32,61,32]⟩:ByteArray).size=3 from rfl,show(⟨#[10]⟩:ByteArray).size=1 from rfl]
     omega
  ·obtain rfl:i=n:=by omega
   have HE:Hid (t=⟨(j8 ls).toArray⟩):=q9 (by rw[<-gB t,HA.out,HN.out,List.take_length])
   go_wp2;go_ret;rw[HE.out]
   exact⟨rfl,qv HB.out⟩
theorem iU(W:World)(A:Array Value)(o:Nat)(v:ByteArray)(h:A[o]? =some (.string v)):(part 9 A o).run Tryd.prog W=.ok (.string v) W:=by
 unfold part;have h1:(isAgg 9).run Tryd.prog W=.ok false W:=by unfold isAgg;rw[Sem.run_bind,run_underlying Tryd.underlying9];rfl
 rw[Sem.run_bind,h1];simp only[Result.andThen_ok,h];rfl
theorem dR(W:World)(a b c d:ByteArray):(Op.equalIn 10000 25 (.agg #[.string a,.string b]) (.agg #[.string c,.string d])).run Tryd.prog W=.ok ((a.toList==c.toList)&&(b.toList==d.toList)) W:=by
 have hu:Tryd.prog.underlying 25=some (.struct (Tryd.prog.fieldsOf 25)):=by simp only[Program.fieldsOf,Tryd.underlying25]
 rw[run_equalIn_struct W 9999 25 _ _ hu (by kernel_rfl)]
 simp only[Program.fieldsOf,Tryd.underlying25];have p0:=fun(W:World) (x y:ByteArray)=>iU W #[.string x,.string y] 0 x rfl
 have p1:=fun(W:World) (x y:ByteArray)=>iU W #[.string x,.string y] 1 y rfl
 have ei:∀(a b:ByteArray) (W:World),(Op.equalIn 9999 9 (.string a) (.string b)).run Tryd.prog W=.ok (a.toList==b.toList) W:=fun a b W=>run_equalIn_string W 9998 9 a b Tryd.underlying9
 simp only[Op.eqFields,ne_eq,String.reduceEq,not_false_eq_true,if_true,Sem.run_bind,Sem.run_ite,Sem.run_pure,p0,p1,Result.andThen_ok,ei];generalize (a.toList==c.toList)=b1;generalize (b.toList==d.toList)=b2
 cases b1<;>cases b2<;>rfl
theorem oH(W:World)(a b c d:qM):(binOp .neq 25 (.agg #[.string ⟨a.toArray⟩,.string ⟨b.toArray⟩]) (.agg #[.string ⟨c.toArray⟩,.string ⟨d.toArray⟩])).run Tryd.prog W=.ok (.bool (!decide ((a,b)=(c,d)))) W:=by
 rw[run_neq_struct,dR,iS,iS]
 have:decide ((a,b)=(c,d))=((a==c)&&(b==d)):=by
  rw[Bool.eq_iff_iff,decide_eq_true_iff];simp only[Prod.mk.injEq,Bool.and_eq_true,beq_iff_eq]
 rw[this];rfl
theorem gD(W:World)(o:BinOp)(x y:Operand)(X Y:Array Value):(eqGuard o 25 x y (.agg X) (.agg Y)).run Tryd.prog W=.ok () W:=run_eqGuard_agg W o 25 x y X Y (by kernel_rfl)
theorem tC{w:World}{v u:Value}{ls ms:List Rul}(hl:SlK 2 w v (ls.map aP))(hu:SlK 2 w u (ms.map aP))(hn:ls.length<=1000)(_hm:ms.length<=1000):
  Calls Tryd.prog 13 #[v,u] w fun e w'=>e=.returned (.bool (ls==ms))/\∃x,w'=ext w x:=by
 obtain⟨oa,cap,b,off,hv,hd,hc⟩:=hl;obtain⟨oa2,cap2,b2,off2,hv2,hd2,hc2⟩:=hu;rw[List.length_map]at hv hd hc hv2 hd2 hc2;subst hv;subst hv2;obtain⟨R,hR⟩:∃R,R=(ls==ms):=⟨_,rfl⟩;rw[<-hR];have HR:=q9 hR
 by_cases hlen:ls.length=ms.length
 ·have hix:=fun(W:World) (i:Nat) (hi:i<ls.length)=>je (P:=Tryd.prog) 2 22 25 Tryd.underlying22 (by kernel_rfl) hd W .i64 i (by omega) (by omega)
  have wX:=fun(W:World) (i:Nat) (hi:i<ms.length)=>je (P:=Tryd.prog) 2 22 25 Tryd.underlying22 (by kernel_rfl) hd2 W .i64 i (by omega) (by omega)
  simp only[Int.toNat_natCast]at hix wX;have HIX:=q9 hix;have y5:=q9 wX;have HC:Hid (∀i,i<ls.length->∀c,c<2->w.cell? ⟨b,off+i*2+c,none⟩=some ((#[.string ⟨(ls.getD i ([],[])).1.toArray⟩,.string ⟨(ls.getD i ([],[])).2.toArray⟩]:Array Value).getD c undef)):=q9 (fun i hi c hcl=>by rw[hc i hi c hcl,dK ls i c hi])
  have HC2:Hid (∀i,i<ms.length->∀c,c<2->w.cell? ⟨b2,off2+i*2+c,none⟩=some ((#[.string ⟨(ms.getD i ([],[])).1.toArray⟩,.string ⟨(ms.getD i ([],[])).2.toArray⟩]:Array Value).getD c undef)):=q9 (fun i hi c hcl=>by rw[hc2 i hi c hcl,dK ms i c hi])
  have hbl:=hd.hblk;have wK:=hd2.hblk;obtain⟨n,hnn⟩:∃n,n=ls.length:=⟨_,rfl⟩;have HN:=q9 hnn;have hn2:ms.length=n:=by omega
  have HN2:=q9 hn2;rw[<-hnn]at HIX HC hbl hn;rw[hn2]at y5 HC2 wK;rw[<-hnn,hn2];clear hd hc hix hd2 hc2 wX hR hlen hnn hn2
  go_enter Tryd.func13,Tryd.ntmps13
  go_wp2
  go_loopg [5] (n+1) (fun gk iv wr=>∃i:Nat,i<=n/\iv=.int .i64 i/\Hid (ls.take i=ms.take i)/\Below w.heap.size w wr/\gk=n+1-i)
  case atStart=>exact⟨0,qc _,rfl,q9 rfl,qi _ _,rfl⟩
  case round=>
   obtain⟨i,hi,rfl,HA,hB,hgk⟩:=hrel;have HB:=q9 hB;have HGK:=q9 hgk;clear hB hgk
   by_cases hlt:i<n
   ·have vS:=fun W=>HIX.out W i hlt
    have zM:=fun W=>y5.out W i hlt
    have hbb:=hbl (by omega)
    have zT:=wK (by omega)
    have HCW:Hid (∀w',(∃n,w'=wr.drewN n)->∀c,c<2->w'.cell? ⟨b,off+i*2+c,none⟩=some ((#[.string ⟨(ls.getD i ([],[])).1.toArray⟩,.string ⟨(ls.getD i ([],[])).2.toArray⟩]:Array Value).getD c undef)):=q9 (fun w' hw c hc=>by
     have hb:=HB.out.trans ((by obtain⟨n,rfl⟩:=hw;exact qy wr n:Below wr.heap.size wr w').mono HB.out.size)
     rw[hb.cell (p:=⟨b,off+i*2+c,none⟩) hbb];exact HC.out i hlt c hc)
    have yW:Hid (∀w',(∃n,w'=wr.drewN n)->∀c,c<2->w'.cell? ⟨b2,off2+i*2+c,none⟩=some ((#[.string ⟨(ms.getD i ([],[])).1.toArray⟩,.string ⟨(ms.getD i ([],[])).2.toArray⟩]:Array Value).getD c undef)):=q9 (fun w' hw c hc=>by
     have hb:=HB.out.trans ((by obtain⟨n,rfl⟩:=hw;exact qy wr n:Below wr.heap.size wr w').mono HB.out.size)
     rw[hb.cell (p:=⟨b2,off2+i*2+c,none⟩) zT];exact HC2.out i hlt c hc)
    have HTS:Hid (ls.take (i+1)=ls.take i++[ls.getD i ([],[])]):=q9 (qE ls i ([],[]) (by rw[<-HN.out];exact hlt))
    have yM:Hid (ms.take (i+1)=ms.take i++[ms.getD i ([],[])]):=q9 (qE ms i ([],[]) (by rw[HN2.out];exact hlt))
    have HNE:Hid (ls.getD i ([],[])≠ms.getD i ([],[])->R=false):=q9 (fun h=>by
     rw[HR.out]
     cases hb:(ls==ms)with
     |false=>rfl
     |true=>exact absurd (by rw[eq_of_beq hb]) h)
    generalize ls.getD i ([],[])=x at*;generalize ms.getD i ([],[])=y at*;obtain⟨xn,xt⟩:=x;obtain⟨yn,yt⟩:=y;simp only at HCW yW HTS yM HNE;clear HIX y5 HC HC2;have g1:=gD;have C8:∀W,(binOp .neq 25 (.agg #[.string ⟨xn.toArray⟩,.string ⟨xt.toArray⟩]) (.agg #[.string ⟨yn.toArray⟩,.string ⟨yt.toArray⟩])).run Tryd.prog W=.ok (.bool (!decide ((xn,xt)=(yn,yt)))) W:=fun W=>oH W xn xt yn yt
    go_wp2;go_simp;refine wp_region_quiet_lit (by kernel_rfl) (by kernel_rfl) ?_
    repeat(first
     |(go_big_quiet_want;refine jY 25 2 _ rfl b (off+i*2) rfl #[.string ⟨xn.toArray⟩,.string ⟨xt.toArray⟩] rfl HCW.out _ Tryd.underlying25 rfl (by kernel_rfl) ?_;go_simp;go_big_quiet_on)
     |(go_big_quiet_want;refine jY 25 2 _ rfl b2 (off2+i*2) rfl #[.string ⟨yn.toArray⟩,.string ⟨yt.toArray⟩] rfl yW.out _ Tryd.underlying25 rfl (by kernel_rfl) ?_;go_simp;go_big_quiet_on)
     |go_big_quiet_step (fail))
    refine wpQuiet_nil ?_;rintro _ ⟨nq,rfl⟩;have HBd:=q9 (HB.out.trans ((qy wr nq).mono HB.out.size));generalize wr.drewN nq=w5 at*
    by_cases hxy:(xn,xt)=(yn,yt)
    ·have HTR:=q9 hxy
     have hq:(!decide (xn=yn)|| !decide (xt=yt))=false:=by injection hxy with h1 h2;simp[h1,h2]
     rw[hq];clear hxy;go_wp2
     go_roundg (n-i)
     case measure=>have:=HGK.out;omega
     case rel=>exact⟨i+1,by omega,by go_num,q9 (by rw[HTS.out,yM.out,HA.out,HTR.out]),HBd.out,by omega⟩
    ·have HTR:=q9 (HNE.out hxy)
     have hq:(!decide (xn=yn)|| !decide (xt=yt))=true:=by
      by_cases h1:xn=yn
      ·by_cases h2:xt=yt
       ·exact absurd (by rw[h1,h2]) hxy
       ·simp[h2]
      ·simp[h1]
     rw[hq];clear hxy;go_wp2;go_ret;rw[HTR.out]
     exact⟨rfl,qv HBd.out⟩
   ·obtain rfl:i=n:=by omega
    have HE:Hid (R=true):=q9 (by
     have:=HA.out;rw[HN.out,List.take_length,<-HN.out,<-HN2.out,List.take_length]at this;rw[HR.out,this];exact beq_self_eq_true _)
    go_wp2;go_ret;rw[HE.out]
    exact⟨rfl,qv HB.out⟩
 ·have HE:Hid (R=false):=q9 (by
   rw[hR]
   cases hb:(ls==ms)with
   |false=>rfl
   |true=>exact absurd (by rw[eq_of_beq hb]) hlen)
  have hne:((ls.length:Int) != (ms.length:Int))=true:=by simp;omega
  rw[HE.out];clear hR hlen hd hd2 hc hc2
  go_enter Tryd.func13,Tryd.ntmps13
  go_wp2;go_ret
  exact⟨rfl,(qv (by repeat(first|exact qi _ _|assumption|refine qF ?_ _|refine qj ?_|refine qL ?_ _|refine qx ?_ _)))⟩
theorem tD:eV [(4,4),(16,0)]=[102,111,114,109,32,97,116,32,52,58,32,111,112,101,110,32,97,116,32,48]:=by decide+kernel
theorem tE:eV [(17,0)]=[101,109,112,116,121,32,97,116,32,48]:=by decide+kernel
theorem tF:eV [(27,4)]=[109,97,116,99,104,32,97,116,32,52]:=by decide+kernel
theorem rU:a6 [97,95,49]=true:=by decide+kernel
theorem rV:a6 [49,97]=false:=by decide+kernel
theorem rW:j8 [([97],[120,43,32,35,32,110,111]),([98],[121])]=[97,32,61,32,120,43,32,35,32,110,111,10,98,32,61,32,121,10]:=by decide+kernel
structure KnB(W:World)(g:Nat)(u:Value)(b:List (Nat×Nat)):Prop where
 box:Own W g 32 (.slice (some ⟨g,0,none⟩) 1 1) [u]
 err:qQ W b u
theorem KnB.up{W W':World}{g:Nat}{u:Value}{b:List (Nat×Nat)}(h:KnB W g u b)(hb:Below W.heap.size W W'):KnB W' g u b:=⟨h.box.up hb,qQ.up hb h.err⟩
theorem KnB.put{W w':World}{u:Value}{b:List (Nat×Nat)}(he:qQ W b u)(ho:Own w' W.heap.size 32 (.slice (some ⟨W.heap.size,0,none⟩) 1 1) [u])(hg:(W.alloc (.cells #[.nilIface] 32)).grownBy w' (some W.heap.size)):KnB w' W.heap.size u b/\Below W.heap.size W w':=by
 have hb:=qG (qo W (.cells #[.nilIface] 32)) hg (by rintro k ⟨⟩;exact qa _)
 exact⟨⟨ho,qQ.up hb he⟩,hb⟩
theorem hJ{w:World}(hL:j6 w)(hT:jn w):Calls Tryd.prog 6 #[] w fun e w'=>e=.returned (.bool true)/\∃x,w'=ext w x:=by
 have HB:=q9 (qi w.heap.size w)
 have HP0:Hid (∀W,Below w.heap.size w W->Calls Tryd.prog 11 #[.string ⟨#[97,32,61,32,120,43,32,35,32,110,111,10,10,35,32,114,101,109,97,114,107,10,98,61,121]⟩] W (jV [([97],[120,43,32,35,32,110,111]),([98],[121])] [] W)):=q9 (fun W hb=>by
  have h:=dL (s:=⟨#[97,32,61,32,120,43,32,35,32,110,111,10,10,35,32,114,101,109,97,114,107,10,98,61,121]⟩) (hL.up hb) (hT.up hb) (by decide+kernel)
  rw[show bys ⟨#[97,32,61,32,120,43,32,35,32,110,111,10,10,35,32,114,101,109,97,114,107,10,98,61,121]⟩=[97,32,61,32,120,43,32,35,32,110,111,10,10,35,32,114,101,109,97,114,107,10,98,61,121]from rfl,v7]at h
  exact h)
 have HP1:Hid (∀W,Below w.heap.size w W->Calls Tryd.prog 11 #[.string ⟨#[97,32,61,32,40]⟩] W (jV [] [(4,4),(16,0)] W)):=q9 (fun W hb=>by
  have h:=dL (s:=⟨#[97,32,61,32,40]⟩) (hL.up hb) (hT.up hb) (by decide+kernel)
  rw[show bys ⟨#[97,32,61,32,40]⟩=[97,32,61,32,40]from rfl,v9]at h
  exact h)
 have HP2:Hid (∀W,Below w.heap.size w W->Calls Tryd.prog 11 #[.string ⟨#[]⟩] W (jV [] [(17,0)] W)):=q9 (fun W hb=>by
  have h:=dL (s:=⟨#[]⟩) (hL.up hb) (hT.up hb) (by decide+kernel)
  rw[show bys ⟨#[]⟩=[]from rfl,vA]at h
  exact h)
 have HP3:Hid (∀W,Below w.heap.size w W->Calls Tryd.prog 11 #[.string ⟨#[97,32,61,32,120,42]⟩] W (jV [] [(27,4)] W)):=q9 (fun W hb=>by
  have h:=dL (s:=⟨#[97,32,61,32,120,42]⟩) (hL.up hb) (hT.up hb) (by decide+kernel)
  rw[show bys ⟨#[97,32,61,32,120,42]⟩=[97,32,61,32,120,42]from rfl,vB]at h
  exact h)
 have HSM:Hid (∀W v u,SlK 2 W v (([([97],[120,43,32,35,32,110,111]),([98],[121])]:List Rul).map aP)->SlK 2 W u (([([97],[120,43,32,35,32,110,111]),([98],[121])]:List Rul).map aP)->Calls Tryd.prog 13 #[v,u] W fun e w'=>e=.returned (.bool true)/\∃x,w'=ext W x):=q9 (fun W v u h1 h2=>by
  have h:=tC h1 h2 (by decide) (by decide)
  rw[beq_self_eq_true]at h
  exact h)
 have HD:Hid (∀W u,Below w.heap.size w W->qQ W [] u->Calls Tryd.prog 12 #[.agg #[u]] W fun e w'=>e=.returned (.int .i64 0)/\∃x,w'=ext W x):=q9 (fun W u hb h=>mP (hL.up hb) ⟨u,rfl,h⟩ (by decide))
 have HS1:Hid (∀W u,Below w.heap.size w W->qQ W [(4,4),(16,0)] u->Calls Tryd.prog 17 #[.agg #[u]] W fun e w'=>e=.returned (.string ⟨#[102,111,114,109,32,97,116,32,52,58,32,111,112,101,110,32,97,116,32,48]⟩)/\∃x,w'=ext W x):=q9 (fun W u hb h=>by
  have h:=rR (hL.up hb) ⟨u,rfl,h⟩ (by decide) (by decide)
  rw[tD]at h
  exact h)
 have HS2:Hid (∀W u,Below w.heap.size w W->qQ W [(17,0)] u->Calls Tryd.prog 17 #[.agg #[u]] W fun e w'=>e=.returned (.string ⟨#[101,109,112,116,121,32,97,116,32,48]⟩)/\∃x,w'=ext W x):=q9 (fun W u hb h=>by
  have h:=rR (hL.up hb) ⟨u,rfl,h⟩ (by decide) (by decide)
  rw[tE]at h
  exact h)
 have HS3:Hid (∀W u,Below w.heap.size w W->qQ W [(27,4)] u->Calls Tryd.prog 17 #[.agg #[u]] W fun e w'=>e=.returned (.string ⟨#[109,97,116,99,104,32,97,116,32,52]⟩)/\∃x,w'=ext W x):=q9 (fun W u hb h=>by
  have h:=rR (hL.up hb) ⟨u,rfl,h⟩ (by decide) (by decide)
  rw[tF]at h
  exact h)
 have HN0:Hid (∀W,Calls Tryd.prog 9 #[.string ⟨#[97,95,49]⟩] W fun e w'=>e=.returned (.bool true)/\∃x,w'=ext W x):=q9 (fun W=>by
  have h:=mS ⟨#[97,95,49]⟩ (by decide+kernel) W
  rw[show bys ⟨#[97,95,49]⟩=[97,95,49]from rfl,rU]at h
  exact h)
 have HN1:Hid (∀W,Calls Tryd.prog 9 #[.string ⟨#[49,97]⟩] W fun e w'=>e=.returned (.bool false)/\∃x,w'=ext W x):=q9 (fun W=>by
  have h:=mS ⟨#[49,97]⟩ (by decide+kernel) W
  rw[show bys ⟨#[49,97]⟩=[49,97]from rfl,rV]at h
  exact h)
 have HSH:Hid (∀W v,SlK 2 W v (([([97],[120,43,32,35,32,110,111]),([98],[121])]:List Rul).map aP)->Calls Tryd.prog 7 #[v] W fun e w'=>e=.returned (.string ⟨#[97,32,61,32,120,43,32,35,32,110,111,10,98,32,61,32,121,10]⟩)/\∃x,w'=ext W x):=q9 (fun W v h=>by
  have h:=rT h (by decide) (by decide)
  rw[rW]at h
  exact h)
 have HLT:Hid (∀W:World,SlK 2 (W.alloc (.cells #[.string ⟨#[97]⟩,.string ⟨#[120,43,32,35,32,110,111]⟩,.string ⟨#[98]⟩,.string ⟨#[121]⟩] 25)) (.slice (some ⟨W.heap.size,0,none⟩) 2 2) (([([97],[120,43,32,35,32,110,111]),([98],[121])]:List Rul).map aP)):=q9 (fun W=>lB 2 W _ 25 (([([97],[120,43,32,35,32,110,111]),([98],[121])]:List Rul).map aP) (by simp[aP]) (by simp[aP]) (by simp))
 clear hL hT
 go_enter Tryd.func6,Tryd.ntmps6
 go_wp2_with(first
  |((with_reducible refine(HP0.out _ HB.out).mono ?_);rintro e wa0 ⟨v0,x,rfl,hli,⟨u0,rfl,hu⟩,hb⟩;have HV0:=q9 hli;have HB:=q9 (HB.out.trans (hb.mono HB.out.size));have HE0:=q9 hu;have vO:=q9 (jl wa0 32);clear hli hu hb)
  |(refine qA rfl _ _ rfl wa0.heap.size wa0.heap.size rfl _ u0 rfl HE0.out.one vO.out ?_;intro wb0 ho hg;obtain⟨hk,hb⟩:=KnB.put HE0.out ho hg;have HV0:=q9 (qJ.up HV0.out hb);have HK0:=q9 hk;have HB:=q9 (HB.out.trans (hb.mono HB.out.size));clear ho hg hk hb HE0 vO)
  |((with_reducible refine(HP1.out _ HB.out).mono ?_);rintro e wa1 ⟨v1,x,rfl,hli,⟨u1,rfl,hu⟩,hb⟩;have HV0:=q9 (qJ.up HV0.out hb);have HK0:=q9 (HK0.out.up hb);have HB:=q9 (HB.out.trans (hb.mono HB.out.size));have HE1:=q9 hu;have wN:=q9 (jl wa1 32);clear hli hu hb)
  |(refine qA rfl _ _ rfl wa1.heap.size wa1.heap.size rfl _ u1 rfl HE1.out.one wN.out ?_;intro wb1 ho hg;obtain⟨hk,hb⟩:=KnB.put HE1.out ho hg;have HV0:=q9 (qJ.up HV0.out hb);have HK0:=q9 (HK0.out.up hb);have HK1:=q9 hk;have HB:=q9 (HB.out.trans (hb.mono HB.out.size));clear ho hg hk hb HE1 wN)
  |((with_reducible refine(HP2.out _ HB.out).mono ?_);rintro e wa2 ⟨v2,x,rfl,hli,⟨u2,rfl,hu⟩,hb⟩;have HV0:=q9 (qJ.up HV0.out hb);have HK0:=q9 (HK0.out.up hb);have HK1:=q9 (HK1.out.up hb);have HB:=q9 (HB.out.trans (hb.mono HB.out.size));have HE2:=q9 hu;have x8:=q9 (jl wa2 32);clear hli hu hb)
  |(refine qA rfl _ _ rfl wa2.heap.size wa2.heap.size rfl _ u2 rfl HE2.out.one x8.out ?_;intro wb2 ho hg;obtain⟨hk,hb⟩:=KnB.put HE2.out ho hg;have HV0:=q9 (qJ.up HV0.out hb);have HK0:=q9 (HK0.out.up hb);have HK1:=q9 (HK1.out.up hb);have HK2:=q9 hk;have HB:=q9 (HB.out.trans (hb.mono HB.out.size));clear ho hg hk hb HE2 x8)
  |((with_reducible refine(HP3.out _ HB.out).mono ?_);rintro e wa3 ⟨v3,x,rfl,hli,⟨u3,rfl,hu⟩,hb⟩;have HV0:=q9 (qJ.up HV0.out hb);have HK0:=q9 (HK0.out.up hb);have HK1:=q9 (HK1.out.up hb);have HK2:=q9 (HK2.out.up hb);have HB:=q9 (HB.out.trans (hb.mono HB.out.size));have HE3:=q9 hu;have yY:=q9 (jl wa3 32);clear hli hu hb)
  |(refine qA rfl _ _ rfl wa3.heap.size wa3.heap.size rfl _ u3 rfl HE3.out.one yY.out ?_;intro wb3 ho hg;obtain⟨hk,hb⟩:=KnB.put HE3.out ho hg;have HV0:=q9 (qJ.up HV0.out hb);have HK0:=q9 (HK0.out.up hb);have HK1:=q9 (HK1.out.up hb);have HK2:=q9 (HK2.out.up hb);have HK3:=q9 hk;have HB:=q9 (HB.out.trans (hb.mono HB.out.size));clear ho hg hk hb HE3 yY)
  |((with_reducible refine(HSM.out _ _ _ (qJ.sl (qJ.up HV0.out (qo wb3 _))) (HLT.out wb3)).mono ?_);rintro e wc ⟨rfl,hx⟩;have hb:Below wb3.heap.size wb3 wc:=(qo wb3 _).trans ((qn hx).mono (qo wb3 _).size);have HV0:=q9 (qJ.up HV0.out hb);have HK0:=q9 (HK0.out.up hb);have HK1:=q9 (HK1.out.up hb);have HK2:=q9 (HK2.out.up hb);have HK3:=q9 (HK3.out.up hb);have HB:=q9 (HB.out.trans (hb.mono HB.out.size));have cc:wc.cell? ⟨wa0.heap.size,0,none⟩=some u0:=HK0.out.box.cell (i:=0) (by simp);clear hx hb)
  |((with_reducible refine(HD.out _ _ HB.out HK0.out.err).mono ?_);rintro e wd ⟨rfl,hx⟩;have hb:=qn hx;have HV0:=q9 (qJ.up HV0.out hb);have HK0:=q9 (HK0.out.up hb);have HK1:=q9 (HK1.out.up hb);have HK2:=q9 (HK2.out.up hb);have HK3:=q9 (HK3.out.up hb);have HB:=q9 (HB.out.trans (hb.mono HB.out.size));have cc:wd.cell? ⟨wa1.heap.size,0,none⟩=some u1:=HK1.out.box.cell (i:=0) (by simp);clear hx hb)
  |((with_reducible refine(HS1.out _ _ HB.out HK1.out.err).mono ?_);rintro e we1 ⟨rfl,hx⟩;have hb:=qn hx;have HV0:=q9 (qJ.up HV0.out hb);have HK0:=q9 (HK0.out.up hb);have HK1:=q9 (HK1.out.up hb);have HK2:=q9 (HK2.out.up hb);have HK3:=q9 (HK3.out.up hb);have HB:=q9 (HB.out.trans (hb.mono HB.out.size));have cc:we1.cell? ⟨wa2.heap.size,0,none⟩=some u2:=HK2.out.box.cell (i:=0) (by simp);clear hx hb)
  |((with_reducible refine(HS2.out _ _ HB.out HK2.out.err).mono ?_);rintro e we2 ⟨rfl,hx⟩;have hb:=qn hx;have HV0:=q9 (qJ.up HV0.out hb);have HK0:=q9 (HK0.out.up hb);have HK1:=q9 (HK1.out.up hb);have HK2:=q9 (HK2.out.up hb);have HK3:=q9 (HK3.out.up hb);have HB:=q9 (HB.out.trans (hb.mono HB.out.size));have cc:we2.cell? ⟨wa3.heap.size,0,none⟩=some u3:=HK3.out.box.cell (i:=0) (by simp);clear hx hb)
  |((with_reducible refine(HS3.out _ _ HB.out HK3.out.err).mono ?_);rintro e we3 ⟨rfl,hx⟩;have hb:=qn hx;have HV0:=q9 (qJ.up HV0.out hb);have HK0:=q9 (HK0.out.up hb);have HK1:=q9 (HK1.out.up hb);have HK2:=q9 (HK2.out.up hb);have HK3:=q9 (HK3.out.up hb);have HB:=q9 (HB.out.trans (hb.mono HB.out.size));clear hx hb)
  |((with_reducible refine(HN0.out _).mono ?_);rintro e wf0 ⟨rfl,hx⟩;have hb:=qn hx;have HV0:=q9 (qJ.up HV0.out hb);have HK0:=q9 (HK0.out.up hb);have HK1:=q9 (HK1.out.up hb);have HK2:=q9 (HK2.out.up hb);have HK3:=q9 (HK3.out.up hb);have HB:=q9 (HB.out.trans (hb.mono HB.out.size));clear hx hb)
  |((with_reducible refine(HN1.out _).mono ?_);rintro e wf1 ⟨rfl,hx⟩;have hb:=qn hx;have HV0:=q9 (qJ.up HV0.out hb);have HK0:=q9 (HK0.out.up hb);have HK1:=q9 (HK1.out.up hb);have HK2:=q9 (HK2.out.up hb);have HK3:=q9 (HK3.out.up hb);have HB:=q9 (HB.out.trans (hb.mono HB.out.size));clear hx hb)
  |((with_reducible refine(HSH.out _ _ (qJ.sl HV0.out)).mono ?_);rintro e wg ⟨rfl,hx⟩;have hb:=qn hx;have HV0:=q9 (qJ.up HV0.out hb);have HK0:=q9 (HK0.out.up hb);have HK1:=q9 (HK1.out.up hb);have HK2:=q9 (HK2.out.up hb);have HK3:=q9 (HK3.out.up hb);have HB:=q9 (HB.out.trans (hb.mono HB.out.size));clear hx hb))
 go_ret
 exact⟨rfl,qv HB.out⟩
def Fit(M:Nat)(l:List Rul):Prop:=∀x∈l,x.1.length<=M/\x.2.length<=M
end Go.Cm
