/- Walks of functions and plain facts, joined and squeezed by a program. Conditions: as each says. -/
import Derived.Deep.CutRange
import Derived.Laws.CopyOwn
import Derived.Test.YtnelgjehpbjloaaGreatDoorGXD
import Derived.Test.YtnelgjehpbjloaaGreatDoorGXF
set_option maxHeartbeats 8000000
set_option maxRecDepth 100000
set_option linter.unusedSimpArgs false
namespace Go.Cm
open Go.RowKit Go.Proofs
theorem fB{N T p n:Nat}(h:(jl N T p n).2.1≠0):(jl N T p n).2.1=2:=by
 unfold jl at h⊢;split
 ·rename_i hc
  rw[if_pos hc]at h
  exact absurd rfl h
 ·rfl
theorem iI(N T n p:Nat):xb N T n (0,p)=jl N T p n:=rfl
theorem M9{N T n e p:Nat}(h:e≠0):xb N T n (e,p)=(0,(e,p)):=if_neg h
theorem gO{N T p a k p1 p2:Nat}(h1:jl N T p 1=(a,0,p1))(h2:jl N T p1 2=(k,0,p2)):jk N T p=dG N T p (decide (a=1)) k (0,p2):=by
 unfold jk;simp only[iI,h1,h2]
theorem wG{N T p a k e1 e2 p1 p2:Nat}(h1:jl N T p 1=(a,e1,p1))(h2:jl N T p1 2=(k,e2,p2))(h:e1≠0\/e2≠0):jk N T p=(aI.zero,2,p):=by
 have t1:=fB (N:=N) (T:=T) (p:=p) (n:=1);have t2:=fB (N:=N) (T:=T) (p:=p1) (n:=2);rw[h1]at t1;rw[h2]at t2;unfold jk
 by_cases he1:e1=0
 ·subst he1
  have he2:e2≠0:=by omega
  simp only[iI,h1,h2];have e:=t2 he2;simp only at e;subst e
  exact if_pos (by exact he2)
 ·simp only[iI,h1,M9 he1]
  have e:=t1 he1;simp only at e;subst e
  exact if_pos (by exact he1)
def WSt(w0:World)(B g:Nat)(vb0:Value)(st:Nat×Nat)(W:World):Prop:=∃vb,pS W B g st.1 st.2 vb/\Below B w0 W/\Fr g vb0 vb w0 W
theorem WSt.start{w:World}{B g N L:Nat}{vb:Value}(h:pS w B g N L vb):WSt w B g vb (N,L) w:=⟨vb,h,qj _ _,Fr.refl _ _ _⟩
theorem WSt.up{w0 W W':World}{B g:Nat}{vb0:Value}{st:Nat×Nat}(h:WSt w0 B g vb0 st W)(hb:Below W.heap.size W W')(hB:B<=W.heap.size):WSt w0 B g vb0 st W':=by
 obtain⟨vb,h1,h2,h3⟩:=h
 exact⟨vb,h1.up hb,h2.trans (hb.mono hB),h3.below hb⟩
theorem WSt.bel{w0 W:World}{B g:Nat}{vb0:Value}{st:Nat×Nat}(h:WSt w0 B g vb0 st W):Below B w0 W:=by
 obtain⟨vb,h1,h2,h3⟩:=h;exact h2
theorem WSt.lt{w0 W:World}{B g:Nat}{vb0:Value}{st:Nat×Nat}(h:WSt w0 B g vb0 st W):g<W.heap.size/\B<=g:=by
 obtain⟨vb,h1,h2,h3⟩:=h;exact⟨h1.box.lt,h1.ge⟩
theorem WSt.size{w0 W:World}{B g:Nat}{vb0:Value}{st:Nat×Nat}(h:WSt w0 B g vb0 st W):w0.heap.size<=W.heap.size:=h.bel.size
theorem WSt.own{w0 W:World}{B g B' E:Nat}{vb0 v:Value}{st:Nat×Nat}{xs:List Value}(h:WSt w0 B g vb0 st W)(ho:Own w0 B' E v xs)(h1:v.ownBlock≠some g)(h2:∀k,v.ownBlock=some k->vb0.ownBlock≠some k):Own W B' E v xs:=by
 obtain⟨vb,-,-,h3⟩:=h
 exact ho.of_blk fun k hk=>h3.1 k (ho.lt k hk).2 (fun e=>h1 (by rw[hk,e])) (h2 k hk)
theorem WSt.join{w0 W:World}{B g:Nat}{vb0:Value}{st st':Nat×Nat}{P:Program}{f:FuncId}{args:Array Value}{Q:Ending->Prop}(h:WSt w0 B g vb0 st W)
  (hc:∀vb,pS W B g st.1 st.2 vb->Calls P f args W fun e w'=>Q e/\WSt W B g vb st' w'):Calls P f args W fun e w'=>Q e/\WSt w0 B g vb0 st' w':=by
 obtain⟨vb,h1,h2,h3⟩:=h
 exact(hc vb h1).mono fun e w' ⟨hq,vb',g1,g2,g3⟩=>⟨hq,vb',g1,h2.trans g2,h3.trans g3⟩
theorem zA{w0 W:World}{B g:Nat}{vb0:Value}{st:Nat×Nat}(h:WSt w0 B g vb0 st W)(v n:Nat)(hv:v<2^n)(hn:n<=32)(hL:st.2+n<=34359738368):
  Calls Tryz.prog 96 #[.pointer (some ⟨g,0,none⟩),.int .i64 v,.int .i64 n] W fun e w'=>e=.returned (.int .i64 0)/\WSt w0 B g vb0 (st.1+v*2^st.2,st.2+n) w':=
 h.join (Q:=fun e=>e=.returned (.int .i64 0)) fun _ hb=>(q7j hb v n hv hn hL).mono fun _ _ ⟨he,vb',h1,h2,h3⟩=>⟨he,vb',h1,h2,h3⟩
theorem q7E{w0 W:World}{B g:Nat}{vb0:Value}{st:Nat×Nat}(h:WSt w0 B g vb0 st W)(v n:Nat)(hv:v<2^n)(hn:n<=32)(hL:st.2+n<=34359738368):
  Calls Tryz.prog 141 #[.pointer (some ⟨g,0,none⟩),.int .i64 v,.int .i64 n] W fun e w'=>e=.returned (.int .i64 0)/\WSt w0 B g vb0 (st.1+jj v n*2^st.2,st.2+n) w':=
 h.join (Q:=fun e=>e=.returned (.int .i64 0)) fun _ hb=>(q61 hb v n hv hn hL).mono fun _ _ ⟨he,vb',h1,h2,h3⟩=>⟨he,vb',h1,h2,h3⟩
theorem F7{w0 W:World}{B g:Nat}{vb0:Value}{st:Nat×Nat}(h:WSt w0 B g vb0 st W)(hL:st.2<=300000000):
  Calls Tryz.prog 98 #[.pointer (some ⟨g,0,none⟩)] W fun e w'=>e=.returned (.tuple #[])/\WSt w0 B g vb0 (jo st) w':=by
 obtain⟨N,L⟩:=st;have HW:=q7 h;obtain⟨vb,h1,-,-⟩:=h;have HBX:=q7 h1.box;have c3:=h1.box.c3;have hg:=h1.box.lt;have hr:L%8<8:=Nat.mod_lt _ (by decide)
 by_cases h0:L%8=0
 ·have HA:Hid (jo (N,L)=(N,L)):=q7 (by unfold jo qO;dsimp only;congr 1;omega)
  rw[h0]at c3;rw[HA.out];clear h1 h0
  go_enter Tryz.func98,Tryz.ntmps98
  go_wp2_with(go_at_call 100;refine(uI HBX.out).mono ?_;rintro e w' ⟨rfl,hw'⟩;rw[hw'];clear hw')
  go_end0
  exact⟨rfl,HW.out⟩
 ·have HA:Hid (jo (N,L)=(N+0*2^L,L+(8-L%8))):=q7 (by unfold jo qO;dsimp only;rw[Nat.zero_mul,Nat.add_zero];congr 1;omega)
  have HPW:=q7 (zA HW.out 0 (8-L%8) (Nat.two_pow_pos _) (by omega) (by simp only at hL⊢;omega))
  rw[show((0:Nat):Int)=0 from rfl]at HPW
  have hi:((L%8:Nat):Int)>0:=by omega
  have q9j:(8:Int)-((L%8:Nat):Int)=((8-L%8:Nat):Int):=by omega
  rw[HA.out];clear h1 h0;generalize hm:L%8=m at*;generalize 8-m=d at*
  go_enter Tryz.func98,Tryz.ntmps98
  go_wp2_with(first|(go_at_call 100;refine(uI HBX.out).mono ?_;rintro e w' ⟨rfl,hw'⟩;rw[hw'];clear hw')|(go_at_call 96;(with_reducible refine HPW.out.mono ?_);rintro e w2 ⟨rfl,hq⟩;have HQ:=q7 hq;clear hq))
  go_end0
  exact⟨rfl,HQ.out⟩
def bI(l1 l2:List Int):Nat:=if l1.getD 256 0=0 then 21 else if bJ l1 true≠0 then bJ l1 true else bJ l2 true
theorem sM(l1 l2:List Nat):bI (nls l1) (nls l2)=cY l1 l2:=by
 unfold bI cY;rw[jb]
 by_cases h:l1.getD 256 0=0
 ·rw[if_pos h,if_pos (by omega)]
 ·rw[if_neg h,if_neg (by omega)]
theorem q4C(u v:Value)(lits dists:List Int)(w:World)(hu:qT w u lits)(hv:qT w v dists)(q9Y:256<lits.length):
  Calls Tryz.prog 139 #[u,v] w fun e w'=>e=.returned (.int .i64 (bI lits dists:Nat))/\Below w.heap.size w w':=by
 have HF1:=q7 (q0p u lits true w hu);have HF2:=q7 (fun W (hb:Below w.heap.size w W)=>q0p v dists true W (hv.up hb))
 obtain⟨oa,cap,b,off,hvv,hd,hc⟩:=hu.open;subst hvv;have hcell:=hc 256 q9Y;have hix:=qQ (P:=Tryz.prog) 66 3 Tryz.underlying66 (by kernel_rfl) hd
 have hm:=hd.len;have hbb:=hd.hblk (by omega)
 have hli:(256:Int)<(lits.length:Int):=by omega
 obtain⟨r,hr⟩:∃r,r=bI lits dists:=⟨_,rfl⟩;rw[<-hr];unfold bI at hr;have HR:=q7 hr;clear hc hd hu hv hr;generalize bJ lits true=e1 at*;generalize bJ dists true=e2 at*;generalize lits.getD 256 0=y at*;generalize lits.length=m at*
 by_cases hy:y=0
 ·have h21:r=21:=by rw[HR.out];exact if_pos hy
  subst h21 hy;clear HR
  go_enter Tryz.func139,Tryz.ntmps139
  go_wp2;go_ret
  exact⟨rfl,qj _ _⟩
 ·have hy':(y==0)=false:=by simpa using hy
  by_cases he:e1=0
  ·have h2:r=e2:=by rw[HR.out,if_neg hy];exact if_neg (by omega)
   subst h2 he;clear HR hy
   go_enter Tryz.func139,Tryz.ntmps139
   go_wp2_with(first|(go_at_call 169;(with_reducible refine HF1.out.mono ?_);rintro e w1 ⟨rfl,hb1⟩;(have HB1:=q7 hb1;have HFF:=q7 (HF2.out w1 HB1.out);clear hb1))|(go_at_call 169;(with_reducible refine HFF.out.mono ?_);rintro e w2 ⟨rfl,hb2⟩;(have HB2:=q7 (qq HB1.out hb2);clear hb2)))
   go_ret
   exact⟨rfl,HB2.out⟩
  ·have h2:r=e1:=by rw[HR.out,if_neg hy];exact if_pos he
   have he':((e1:Int) != 0)=true:=by simpa using he
   subst h2;clear HR hy he
   go_enter Tryz.func139,Tryz.ntmps139
   go_wp2_with(go_at_call 169;(with_reducible refine HF1.out.mono ?_);rintro e w1 ⟨rfl,hb1⟩;(have HB1:=q7 hb1;clear hb1))
   go_ret
   exact⟨rfl,HB1.out⟩
def fH(k z:Int)(l1 l2:List Int):Nat:=
 if k=0 then(if z<0\/65535<z then 1 else 0)
 else if k=1 then 0
 else if k=2 then(if l1.length<257\/286<l1.length\/l2.length<1\/30<l2.length then 1 else bI l1 l2)
 else 1
theorem q8F(f:Bool)(k z:Int)(u1 u2:Value)(l1 l2:List Int)(w:World)(h1:qT w u1 l1)(h2:qT w u2 l2):
  Calls Tryz.prog 97 #[.agg #[.bool f,.int .i64 k,.int .i64 z,u1,u2]] w fun e w'=>e=.returned (.int .i64 (fH k z l1 l2:Nat))/\Below w.heap.size w w':=by
 have HF:=q7 (fun(h:256<l1.length) (W:World) (hb:Below w.heap.size w W)=>q4C u1 u2 l1 l2 W (h1.up hb) (h2.up hb) h)
 obtain⟨o1,c1,b1,f1,rfl,hd1,-⟩:=h1.open;obtain⟨o2,c2,b2,f2,rfl,hd2,-⟩:=h2.open;have hm1:=hd1.len;have hm2:=hd2.len;obtain⟨r,hr⟩:∃r,r=fH k z l1 l2:=⟨_,rfl⟩;rw[<-hr];unfold fH at hr;have HR:=q7 hr;clear h1 h2 hd1 hd2 hr
 by_cases hk0:k=0
 ·subst hk0
  by_cases hz0:z<0
  ·have HR2:Hid (r=1):=q7 (by rw[HR.out,if_pos rfl,if_pos (.inl hz0)])
   rw[HR2.out];clear HR HF
   go_enter Tryz.func97,Tryz.ntmps97
   go_wp2;go_ret
   exact⟨rfl,(by repeat(first|exact qj _ _|assumption|refine qw ?_ _|refine qk ?_|refine qA ?_ _|refine qs ?_ _))⟩
  ·by_cases hz1:z>65535
   ·have HR2:Hid (r=1):=q7 (by rw[HR.out,if_pos rfl,if_pos (.inr hz1)])
    rw[HR2.out];clear HR HF
    go_enter Tryz.func97,Tryz.ntmps97
    go_wp2;go_ret
    exact⟨rfl,(by repeat(first|exact qj _ _|assumption|refine qw ?_ _|refine qk ?_|refine qA ?_ _|refine qs ?_ _))⟩
   ·have HR2:Hid (r=0):=q7 (by rw[HR.out,if_pos rfl,if_neg (by omega)])
    rw[HR2.out];clear HR HF
    go_enter Tryz.func97,Tryz.ntmps97
    go_wp2;go_ret
    exact⟨rfl,(by repeat(first|exact qj _ _|assumption|refine qw ?_ _|refine qk ?_|refine qA ?_ _|refine qs ?_ _))⟩
 ·have qdK:(k==0)=false:=by simpa using hk0
  by_cases hk1:k=1
  ·subst hk1
   have HR2:Hid (r=0):=q7 (by rw[HR.out,if_neg hk0,if_pos rfl])
   rw[HR2.out];clear HR HF hk0 qdK
   go_enter Tryz.func97,Tryz.ntmps97
   go_wp2;go_ret
   exact⟨rfl,(by repeat(first|exact qj _ _|assumption|refine qw ?_ _|refine qk ?_|refine qA ?_ _|refine qs ?_ _))⟩
  ·have qjl:(k==1)=false:=by simpa using hk1
   by_cases hk2:k=2
   ·subst hk2
    have HR3:Hid (r=if l1.length<257\/286<l1.length\/l2.length<1\/30<l2.length then 1 else bI l1 l2):=q7 (by rw[HR.out,if_neg hk0,if_neg hk1,if_pos rfl])
    clear HR hk0 qdK hk1 qjl
    by_cases ha:l1.length<257
    ·have hai:(l1.length:Int)<257:=by omega
     have HR2:Hid (r=1):=q7 (by rw[HR3.out,if_pos (.inl ha)])
     rw[HR2.out];clear HR3 HF ha;generalize l1.length=n1 at*;generalize l2.length=n2 at*
     go_enter Tryz.func97,Tryz.ntmps97
     go_wp2;go_ret
     exact⟨rfl,(by repeat(first|exact qj _ _|assumption|refine qw ?_ _|refine qk ?_|refine qA ?_ _|refine qs ?_ _))⟩
    ·have hai:¬(l1.length:Int)<257:=by omega
     by_cases hb:286<l1.length
     ·have hbi:(l1.length:Int)>286:=by omega
      have HR2:Hid (r=1):=q7 (by rw[HR3.out,if_pos (.inr (.inl hb))])
      rw[HR2.out];clear HR3 HF ha hb;generalize l1.length=n1 at*;generalize l2.length=n2 at*
      go_enter Tryz.func97,Tryz.ntmps97
      go_wp2;go_ret
      exact⟨rfl,(by repeat(first|exact qj _ _|assumption|refine qw ?_ _|refine qk ?_|refine qA ?_ _|refine qs ?_ _))⟩
     ·have hbi:¬(l1.length:Int)>286:=by omega
      by_cases hc:l2.length<1
      ·have hci:(l2.length:Int)<1:=by omega
       have HR2:Hid (r=1):=q7 (by rw[HR3.out,if_pos (.inr (.inr (.inl hc)))])
       rw[HR2.out];clear HR3 HF ha hb hc;generalize l1.length=n1 at*;generalize l2.length=n2 at*
       go_enter Tryz.func97,Tryz.ntmps97
       go_wp2;go_ret
       exact⟨rfl,(by repeat(first|exact qj _ _|assumption|refine qw ?_ _|refine qk ?_|refine qA ?_ _|refine qs ?_ _))⟩
      ·have hci:¬(l2.length:Int)<1:=by omega
       by_cases hd:30<l2.length
       ·have hdi:(l2.length:Int)>30:=by omega
        have HR2:Hid (r=1):=q7 (by rw[HR3.out,if_pos (.inr (.inr (.inr hd)))])
        rw[HR2.out];clear HR3 HF ha hb hc hd;generalize l1.length=n1 at*;generalize l2.length=n2 at*
        go_enter Tryz.func97,Tryz.ntmps97
        go_wp2;go_ret
        exact⟨rfl,(by repeat(first|exact qj _ _|assumption|refine qw ?_ _|refine qk ?_|refine qA ?_ _|refine qs ?_ _))⟩
       ·have hdi:¬(l2.length:Int)>30:=by omega
        have HR2:Hid (r=bI l1 l2):=q7 (by rw[HR3.out,if_neg (by omega)])
        rw[HR2.out];have HFC:=q7 (HF.out (by omega))
        clear HR3 HF ha hb hc hd;generalize bI l1 l2=fe at*;generalize l1.length=n1 at*;generalize l2.length=n2 at*
        go_enter Tryz.func97,Tryz.ntmps97
        go_wp2_with(go_at_call 139;(with_reducible refine(HFC.out _ (by repeat(first|exact qj _ _|assumption|refine qw ?_ _|refine qk ?_|refine qA ?_ _|refine qs ?_ _))).mono ?_);rintro e w2 ⟨rfl,hb2⟩;have HB2:=q7 hb2;clear hb2)
        go_ret
        exact⟨rfl,qq (qn _ _) HB2.out⟩
   ·have qlJ:(k==2)=false:=by simpa using hk2
    have HR2:Hid (r=1):=q7 (by rw[HR.out,if_neg hk0,if_neg hk1,if_neg hk2])
    rw[HR2.out];clear HR HF hk0 hk1 hk2
    go_enter Tryz.func97,Tryz.ntmps97
    go_wp2;go_ret
    exact⟨rfl,(by repeat(first|exact qj _ _|assumption|refine qw ?_ _|refine qk ?_|refine qA ?_ _|refine qs ?_ _))⟩
theorem k1:jk (qH ⟨#[3]⟩) (8*(⟨#[3]⟩:ByteArray).size) 0=(⟨true,1,0,lM,oH⟩,0,3):=by
 rw[show qH ⟨#[3]⟩=3 by decide,show 8*(⟨#[3]⟩:ByteArray).size=8 by decide,gO (a:=1) (k:=1) (p1:=1) (p2:=3) (by decide) (by decide)]
 rfl
theorem k2:jk (qH ⟨#[1,5,0,250,255]⟩) (8*(⟨#[1,5,0,250,255]⟩:ByteArray).size) 0=(⟨true,0,5,[],[]⟩,0,40):=by
 rw[gO (a:=1) (k:=0) (p1:=1) (p2:=3) (by decide) (by decide)]
 unfold dG;rw[if_neg (by decide),if_pos rfl,show je (qH ⟨#[1,5,0,250,255]⟩) (8*(⟨#[1,5,0,250,255]⟩:ByteArray).size) (0,3)=(5,0,40) by decide]
 rfl
theorem k3:jk (qH ⟨#[1,5,0,250,254]⟩) (8*(⟨#[1,5,0,250,254]⟩:ByteArray).size) 0=(aI.zero,6,0):=by
 rw[gO (a:=1) (k:=0) (p1:=1) (p2:=3) (by decide) (by decide)]
 unfold dG;rw[if_neg (by decide),if_pos rfl,show je (qH ⟨#[1,5,0,250,254]⟩) (8*(⟨#[1,5,0,250,254]⟩:ByteArray).size) (0,3)=(5,6,40) by decide]
 rfl
theorem k4:jk (qH ⟨#[7]⟩) (8*(⟨#[7]⟩:ByteArray).size) 0=(aI.zero,11,0):=by
 rw[gO (a:=1) (k:=3) (p1:=1) (p2:=3) (by decide) (by decide)]
 rfl
theorem k5:jk (qH ⟨#[]⟩) (8*(⟨#[]⟩:ByteArray).size) 0=(aI.zero,2,0):=by
 exact wG (a:=0) (k:=0) (e1:=2) (e2:=2) (p1:=0) (p2:=0) (by decide) (by decide) (.inl (by decide))
theorem q2E(w:World)(f:Bool)(k z:Int)(o1 o2:Option Addr)(n1 n2 c1 c2 T:Nat):Own (w.alloc (.cells #[.bool f,.int .i64 k,.int .i64 z,.slice o1 n1 c1,.slice o2 n2 c2] T)) w.heap.size T (.slice (some ⟨w.heap.size,0,none⟩) 5 5) [.bool f,.int .i64 k,.int .i64 z,.slice o1 n1 c1,.slice o2 n2 c2]:=by
 have h:=qE w w.heap.size #[.bool f,.int .i64 k,.int .i64 z,.slice o1 n1 c1,.slice o2 n2 c2] T (by simp) (q9 _)
 simpa using h
theorem F8{B:Nat}{w:World}(hB:B<=w.heap.size)(o:Obj):Below B w (w.alloc o):=(qj B w).alloc hB o
theorem N0{w:World}{B g N L:Nat}{vb0:Value}(h:pS w B g N L vb0)(f:Bool)(k z:Int)(u1 u2:Value)(l1 l2:List Nat)(hu1:∀W,Below B w W->qT W u1 (nls l1))(hu2:∀W,Below B w W->qT W u2 (nls l2))
  (hn1:257<=l1.length) (qcc:l1.length<=286) (hn2:1<=l2.length) (qcN:l2.length<=30) (h1:∀x∈l1,x<=15) (h2:∀x∈l2,x<=15) (hL:L<=200000000):
  Calls Tryz.prog 99 #[.pointer (some ⟨g,0,none⟩),.agg #[.bool f,.int .i64 k,.int .i64 z,u1,u2]] w fun e w'=>e=.returned (.tuple #[])/\WSt w B g vb0 (jh (pV l1 l2) (N,L)) w':=by
 have hBw:B<=w.heap.size:=by have:=h.ge;have:=h.box.lt;omega
 have hgw:=h.box.lt;have hvb:∀q,vb0.ownBlock=some q->q<w.heap.size:=fun q hq=>(h.own.lt q hq).2
 have HU1:=q7 hu1;have HU2:=q7 hu2;obtain⟨o1,c1,b1,f1,hv1,-⟩:=(hu1 w (qj _ _)).open;obtain⟨o2,c2,b2,f2,hv2,-⟩:=(hu2 w (qj _ _)).open;rw[qB]at hv1 hv2;subst hv1 hv2;have qcC:=q7 (fun j (hj:j<l1.length)=>h1 _ (jT l1 j 0 hj))
 have qcB:=q7 (fun j (hj:j<l2.length)=>h2 _ (jT l2 j 0 hj))
 have HA:=q7 (q2E w f k z o1 o2 l1.length l2.length c1 c2 112);have HS1:=q7 (WSt.start (h.up (qn w (.cells #[.bool f,.int .i64 k,.int .i64 z,.slice o1 l1.length c1,.slice o2 l2.length c2] 112))));have HB1:Hid (Below B w (w.alloc (.cells #[.bool f,.int .i64 k,.int .i64 z,.slice o1 l1.length c1,.slice o2 l2.length c2] 112))):=q7 (F8 hBw _);have hl1:w.heap.size<(w.alloc (.cells #[.bool f,.int .i64 k,.int .i64 z,.slice o1 l1.length c1,.slice o2 l2.length c2] 112)).heap.size:=by simp
 have HST:Hid (jh (pV l1 l2) (N,L)=jh (aV l2) (jh (aV l1) (jh aY (jh (M8 l1.length l2.length) (N,L))))):=q7 (by unfold pV;rw[jM,jM,jM])
 obtain⟨st3,qaa⟩:∃st,st=jh (M8 l1.length l2.length) (N,L):=⟨_,rfl⟩;have HS3:=q7 qaa;rw[<-qaa]at HST;have HL3:Hid (st3.2=L+14):=q7 (by rw[qaa,jR];rfl)
 have HE:=q7 HST.out;obtain⟨D,hD⟩:∃D,D=jh (pV l1 l2) (N,L):=⟨_,rfl⟩;rw[<-hD];rw[<-hD]at HE;clear h hu1 hu2 h1 h2 HST qaa hD;have HO:Hid (∃O:Array Value,(∀j,j<19->O[j]? =some (.int .i64 (eZ.getD j 0:Nat)))/\∀W:World,Calls Tryz.prog 140 #[] W fun e w'=>e=.returned (.agg O)/\Below W.heap.size W w'):=q7 ⟨_,fun j hj=>q8t j hj,fun W=>q8r W⟩
 obtain⟨O,hOA,hOP⟩:=HO.out;have HOA:=q7 hOA;have HOP:=q7 hOP;have hs1:(l1.length:Int)-257=((l1.length-257:Nat):Int):=by omega
 have hs2:(l2.length:Int)-1=((l2.length-1:Nat):Int):=by omega
 clear HO hOA hOP;have HA3:Hid (∀st W,WSt (w.alloc (.cells #[.bool f,.int .i64 k,.int .i64 z,.slice o1 l1.length c1,.slice o2 l2.length c2] 112)) B g vb0 st W->Own W w.heap.size 112 (.slice (some ⟨w.heap.size,0,none⟩) 5 5) [.bool f,.int .i64 k,.int .i64 z,.slice o1 l1.length c1,.slice o2 l2.length c2]):=q7 (fun st W h=>h.own HA.out (fun e=>by have e2:some w.heap.size=some g:=e;injection e2 with e2;omega) (fun q hq e=>by have e2:some w.heap.size=some q:=hq;injection e2 with e2;have:=hvb q e;omega))
 have hw1:=HA.out.blk.2;have HC3:Hid (∀st W,WSt (w.alloc (.cells #[.bool f,.int .i64 k,.int .i64 z,.slice o1 l1.length c1,.slice o2 l2.length c2] 112)) B g vb0 st W->w.heap.size<W.heap.size):=q7 (fun st W h=>qd hw1 h.size)
 have hp5:l1.length-257<2^5:=by omega
 have qbw:l2.length-1<2^5:=by omega
 clear hw1 HA;generalize hn:l1.length=n1 at*;have HN1:=q7 hn;clear hn;generalize hn:l2.length=n2 at*;have HN2:=q7 hn;clear hn;generalize hm1:n1-257=m1 at*;generalize hm2:n2-1=m2 at*;have HM1:=q7 hm1;have HM2:=q7 hm2;clear hm1 hm2;have HP1:=q7 (zA HS1.out m1 5 hp5 (by omega) (by simp only;omega))
 rw[show((5:Nat):Int)=5 from rfl]at HP1
 have e10:=HA3.out _ _ HS1.out;have x13:=e10.cell (i:=3) (by simp)
 have y1:=e10.blk.2;clear e10
 go_enter Tryz.func99,Tryz.ntmps99
 go_upto_region 4 with(go_at_call 96;first|((with_reducible refine HP1.out.mono ?_);rintro e w2 ⟨rfl,hq⟩;(have HS2:=q7 hq;have HP2:=q7 (zA hq m2 5 qbw (by omega) (by simp only;omega));rw[show((5:Nat):Int)=5 from rfl]at HP2;have x24:=(HA3.out _ _ hq).cell (i:=4) (by simp);have y2:=HC3.out _ _ hq;clear hq HP1 x13 y1))|((with_reducible refine HP2.out.mono ?_);rintro e w3 ⟨rfl,hq⟩;(have HP3:=q7 (zA hq 15 4 (by decide) (by omega) (by simp only;omega));rw[show((4:Nat):Int)=4 from rfl,show((15:Nat):Int)=15 from rfl]at HP3;clear hq HP2 x24 y2 HS2))|((with_reducible refine HP3.out.mono ?_);rintro e w4 ⟨rfl,hq⟩;(have HS4:Hid (WSt (w.alloc (.cells #[.bool f,.int .i64 k,.int .i64 z,.slice o1 n1 c1,.slice o2 n2 c2] 112)) B g vb0 st3 w4):=q7 (by rw[HS3.out];unfold M8;rw[HM1.out,HM2.out];exact hq);clear hq HP3)))
 clear HS1
 go_wp2_with(go_at_call 140;(with_reducible refine(HOP.out _).mono ?_);rintro e w5 ⟨rfl,hb5⟩;(have HS5:=q7 (HS4.out.up hb5 (qa (qa hBw (Nat.le_of_lt hl1)) HS4.out.size));clear hb5 HOP))
 clear HS4 HS3
 go_loopg [26] 20 (fun gk i wr=>∃j,j<=19/\i=.int .i64 (j:Nat)/\WSt (w.alloc (.cells #[.bool f,.int .i64 k,.int .i64 z,.slice o1 n1 c1,.slice o2 n2 c2] 112)) B g vb0 (jh (aY.take j) st3) wr/\gk=20-j)
 case atStart=>exact⟨0,qc _,rfl,HS5.out,rfl⟩
 case round=>
  clear HS5;obtain⟨j,hj,rfl,hs,hgk⟩:=hrel;have HSW:=q7 hs;clear hs
  by_cases hlt:j<19
  ·have hji:(j:Int)<19:=by omega
   have hcell:=HOA.out j hlt;have qjn:=eQ (P:=Tryz.prog) 219 3 19 Tryz.underlying219 Tryz.underlying3 (by kernel_rfl) O j hlt _ hcell
   have hy:=sL j;have HTK:Hid (jh (aY.take (j+1)) st3=((jh (aY.take j) st3).1+(if eZ.getD j 0<16 then 4 else 0)*2^(jh (aY.take j) st3).2,(jh (aY.take j) st3).2+3)):=q7 (by rw[sK j hlt,cT])
   have hlen:(jh (aY.take j) st3).2<=300000000:=by
    have:=kX j st3;have:=HL3.out;omega
   generalize eZ.getD j 0=y at*
   by_cases qa8:y<16
   ·have hyi:¬(y:Int)≥16:=by omega
    have HPX:=q7 (zA HSW.out 4 3 (by decide) (by omega) (by omega))
    rw[show((4:Nat):Int)=4 from rfl,show((3:Nat):Int)=3 from rfl]at HPX
    have q9o:Hid (jh (aY.take (j+1)) st3=((jh (aY.take j) st3).1+4*2^(jh (aY.take j) st3).2,(jh (aY.take j) st3).2+3)):=q7 (by rw[HTK.out,if_pos qa8])
    clear qa8 HTK
    go_wp2_with(go_at_call 96;(with_reducible refine HPX.out.mono ?_);rintro e w6 ⟨rfl,hq⟩;have HQ:=q7 hq;clear hq)
    go_roundg (20-(j+1))
    case measure=>omega
    case rel=>exact⟨j+1,by omega,by go_num,by rw[q9o.out];exact HQ.out,rfl⟩
   ·have hyi:(y:Int)≥16:=by omega
    have HPX:=q7 (zA HSW.out 0 3 (by decide) (by omega) (by omega))
    rw[show((0:Nat):Int)=0 from rfl,show((3:Nat):Int)=3 from rfl]at HPX
    have q9o:Hid (jh (aY.take (j+1)) st3=((jh (aY.take j) st3).1+0*2^(jh (aY.take j) st3).2,(jh (aY.take j) st3).2+3)):=q7 (by rw[HTK.out,if_neg qa8])
    clear qa8 HTK
    go_wp2_with(go_at_call 96;(with_reducible refine HPX.out.mono ?_);rintro e w6 ⟨rfl,hq⟩;have HQ:=q7 hq;clear hq)
    go_roundg (20-(j+1))
    case measure=>omega
    case rel=>exact⟨j+1,by omega,by go_num,by rw[q9o.out];exact HQ.out,rfl⟩
  ·obtain rfl:j=19:=by omega
   have qav:Hid (jh (aY.take 19) st3=jh aY st3):=q7 (by rw[List.take_of_length_le (by decide)])
   have hl4:(jh aY st3).2<=200000071:=by
    have h1:=kX 19 st3;rw[qav.out]at h1;have:=HL3.out;omega
   rw[qav.out]at HSW;obtain⟨st4,qb0⟩:∃st,st=jh aY st3:=⟨_,rfl⟩;rw[<-qb0]at HE HSW hl4;have e10:=HA3.out _ _ HSW.out;have x3:=e10.cell (i:=3) (by simp)
   have x4:=e10.cell (i:=4) (by simp)
   have y3:=e10.blk.2;obtain⟨vb4,hv4,hb4,hf4⟩:=HSW.out;have hBr:B<=wr.heap.size:=qa hBw (qa (Nat.le_of_lt hl1) hb4.size);have HFR:Hid (Fr g vb0 vb4 w (wr.alloc (.cells #[.slice o1 n1 c1,.slice o2 n2 c2] 66))):=q7 ((((Fr.refl g vb0 w).below (qn w (.cells #[.bool f,.int .i64 k,.int .i64 z,.slice o1 n1 c1,.slice o2 n2 c2] 112))).trans hf4).below (qn wr _));have HBW:Hid (Below B w (wr.alloc (.cells #[.slice o1 n1 c1,.slice o2 n2 c2] 66))):=q7 ((HB1.out.trans hb4).alloc hBr _);have HS5:=q7 (WSt.start (hv4.up (qn wr (.cells #[.slice o1 n1 c1,.slice o2 n2 c2] 66))));have hro:=qE wr wr.heap.size #[.slice o1 n1 c1,.slice o2 n2 c2] 66 (by simp) (q9 _)
   have HRO:Hid (Own (wr.alloc (.cells #[.slice o1 n1 c1,.slice o2 n2 c2] 66)) wr.heap.size 66 (.slice (some ⟨wr.heap.size,0,none⟩) 2 2) [.slice o1 n1 c1,.slice o2 n2 c2]):=q7 hro;have hgr:g<wr.heap.size:=hv4.box.lt;have qiR:∀q,vb4.ownBlock=some q->q<wr.heap.size:=fun q hq=>(hv4.own.lt q hq).2
   have hrd:Hd (wr.alloc (.cells #[.slice o1 n1 c1,.slice o2 n2 c2] 66)) (some ⟨wr.heap.size,0,none⟩) 2 2 wr.heap.size 0:=⟨fun _=>rfl,q9 _,by decide,by decide,fun _=>by simp⟩
   have qkn:=q7 (fun(W:World) (m:Nat) (hm:m<2)=>qQ (P:=Tryz.prog) 221 66 Tryz.underlying221 (by kernel_rfl) hrd W .i64 (m:Int) (by omega) (by omega))
   have HI:Hid (∃stI:Nat->Nat×Nat,stI 0=st4/\stI 1=jh (aV l1) st4/\stI 2=jh (aV l2) (jh (aV l1) st4)):=q7 ⟨fun m=>match m with|0=>st4|1=>jh (aV l1) st4|_=>jh (aV l2) (jh (aV l1) st4),rfl,rfl,rfl⟩
   obtain⟨stI,hi0,hi1,hi2⟩:=HI.out;have HI2:=q7 hi2
   have HKEY:Hid (∀m,m<2->∃o n c l,([Value.slice o1 n1 c1,Value.slice o2 n2 c2].getD m undef)=.slice o n c/\(∀W,Below B w W->qT W (.slice o n c) (nls l))/\n=l.length/\(∀j,j<l.length->l.getD j 0<=15)/\jh (aV l) (stI m)=stI (m+1)/\n<=286/\(stI m).2<=400000000):=q7 (fun m hm=>by
    match m,hm with
    |0,_=>exact⟨o1,n1,c1,l1,rfl,HU1.out,HN1.out.symm,fun j hj=>qcC.out j (by have:=HN1.out;omega),by rw[hi0,hi1],qcc,by rw[hi0];omega⟩
    |1,_=>exact⟨o2,n2,c2,l2,rfl,HU2.out,HN2.out.symm,fun j hj=>qcB.out j (by have:=HN2.out;omega),by rw[hi1,hi2],by omega,by rw[hi1,dS,HN1.out];omega⟩
    |m+2,h=>omega)
   have HI0:=q7 hi0;clear qb0 e10 HSW hv4 hb4 hf4 hro hrd hi0 hi1 hi2 HI qav HL3 HA3 HC3 HOA HU1 HU2 qcC qcB;go_wp2;generalize wr.alloc (.cells #[.slice o1 n1 c1,.slice o2 n2 c2] 66)=w5 at*;generalize wr.heap.size=rb at*
   go_loopg [41] 3 (fun gk i W=>∃m,m<=2/\i=.int .i64 (m:Nat)/\WSt w5 B g vb4 (stI m) W/\gk=3-m)
   case atStart=>exact⟨0,qc _,rfl,by rw[HI0.out];exact HS5.out,rfl⟩
   case round=>
    clear HS5 HI0;obtain⟨m,hm,rfl,hs,hgk⟩:=hrel;have HSW:=q7 hs;clear hs
    by_cases hlt:m<2
    ·have hmi:(m:Int)<2:=by omega
     obtain⟨o,n,c,l,qb9,hul,hnl,h15,hst,qj9,hle⟩:=HKEY.out m hlt;have qep:=HSW.out.own HRO.out (fun e=>by have e2:some rb=some g:=e;injection e2 with e2;omega) (fun q hq e=>by have e2:some rb=some q:=hq;injection e2 with e2;have:=qiR q e;omega)
     have hcell:=qep.cell (i:=m) (by simpa using hlt)
     rw[qb9]at hcell;have qj1:=qep.blk.2;have hix:=fun W=>qkn.out W m hlt
     simp only[Nat.zero_add,Int.toNat_natCast]at hix;have HUL:=q7 hul;have HNL:=q7 hnl;have H15:=q7 h15;have qkh:=q7 hst;clear qb9 hul hnl h15 hst qep;go_wp2
     go_loopg [47] (n+1) (fun gq i W=>∃q,q<=n/\i=.int .i64 (q:Nat)/\WSt w5 B g vb4 (jh (aV (l.take q)) (stI m)) W/\gq=n+1-q)
     case atStart=>exact⟨0,qc _,rfl,by simpa[aV,jh]using HSW.out,rfl⟩
     case round=>
      clear HSW hcell qj1 hix;obtain⟨q,hq,rfl,hs2,hgq⟩:=hrel;have HSQ:=q7 hs2;clear hs2
      by_cases hlq:q<n
      ·have hqi:(q:Int)<(n:Int):=by omega
       have hql:q<l.length:=by have:=HNL.out;omega
       obtain⟨oa',cap',b',off',hv',hd',hc'⟩:=(HUL.out _ (HBW.out.trans HSQ.out.bel)).open;rw[qB,<-HNL.out]at hv' hd';rw[qB]at hc';injection hv' with q1 q2 q3
       subst q1 q3;have q9a:=qQ (P:=Tryz.prog) 66 3 Tryz.underlying66 (by kernel_rfl) hd'
       have hbb:=hd'.hblk (by omega)
       have hx:=hc' q hql;rw[jb]at hx;have qae:=H15.out q hql;have HCK:Hid (jh (aV (l.take (q+1))) (stI m)=((jh (aV (l.take q)) (stI m)).1+jj (l.getD q 0) 4*2^(jh (aV (l.take q)) (stI m)).2,(jh (aV (l.take q)) (stI m)).2+4)):=q7 (by rw[kE l q hql,cT])
       have hlen:(jh (aV (l.take q)) (stI m)).2<=500000000:=by rw[dS,List.length_take];omega
       have qa9:l.getD q 0<2^4:=by omega
       have HPC:=q7 (q7E HSQ.out (l.getD q 0) 4 qa9 (by omega) (by omega))
       rw[show((4:Nat):Int)=4 from rfl]at HPC
       have hm':=hd'.len;clear hc' hd' H15 qa9;generalize l.getD q 0=y at*
       go_wp2_with(go_at_call 141;(with_reducible refine HPC.out.mono ?_);rintro e w6 ⟨rfl,hqq⟩;have HQ:=q7 hqq;clear hqq)
       go_roundg (n+1-(q+1))
       case measure=>omega
       case rel=>exact⟨q+1,by omega,by go_num,by rw[HCK.out];exact HQ.out,rfl⟩
      ·obtain rfl:q=n:=by omega
       have HF:Hid (jh (aV (l.take q)) (stI m)=stI (m+1)):=q7 (by rw[List.take_of_length_le (by have:=HNL.out;omega)];exact qkh.out)
       rw[HF.out]at HSQ;clear hlq;go_wp2
       go_roundg (3-(m+1))
       case measure=>omega
       case rel=>exact⟨m+1,by omega,by go_num,HSQ.out,rfl⟩
    ·obtain rfl:m=2:=by omega
     clear hlt;go_wp2
     go_end0
     refine⟨rfl,?_⟩;rw[HE.out,<-HI2.out];obtain⟨vb,h1,h2,h3⟩:=HSW.out
     exact⟨vb,h1,HBW.out.trans h2,HFR.out.trans h3⟩
theorem uS{l:List Int}{o:Bool}(h:bJ l o=0):bE l=0:=by
 apply qf;intro hn
 rw[kD o hn]at h;exact hn h
theorem F9{l1 l2:List Int}(h:bI l1 l2=0):bE l1=0/\bE l2=0:=by
 unfold bI at h;split at h
 ·cases h
 ·split at h
  ·rename_i h1;exact absurd h h1
  ·rename_i h1;exact⟨uS (by simpa using h1),uS h⟩
theorem N5{l:List Int}(h:bE l=0):l=nls (l.map Int.toNat)/\∀x∈l.map Int.toNat,x<=15:=by
 obtain⟨L,rfl,-,h15,-⟩:=gM h;rw[jm];exact⟨rfl,h15⟩
theorem nK{z:Int}{l1 l2:List Int}(h:fH 2 z l1 l2=0):257<=l1.length/\l1.length<=286/\1<=l2.length/\l2.length<=30/\l1=nls (l1.map Int.toNat)/\l2=nls (l2.map Int.toNat)/\(∀x∈l1.map Int.toNat,x<=15)/\(∀x∈l2.map Int.toNat,x<=15)/\bI l1 l2=0:=by
 unfold fH at h;rw[if_neg (by decide),if_neg (by decide),if_pos rfl]at h
 by_cases hc:l1.length<257\/286<l1.length\/l2.length<1\/30<l2.length
 ·rw[if_pos hc]at h;cases h
 ·rw[if_neg hc]at h
  obtain⟨e1,e2⟩:=F9 h;obtain⟨a1,a2⟩:=N5 e1;obtain⟨b1,b2⟩:=N5 e2
  exact⟨by omega,by omega,by omega,by omega,a1,b1,a2,b2,h⟩
def wrI(f:Bool)(k z:Int)(l1 l2:List Int)(st:Nat×Nat):Nat×Nat:=
 if k=0 then jh [(z.toNat,16),(65535-z.toNat,16)] (jo (jh [(wC f,1),(0,2)] st))
 else if k=1 then jh [(wC f,1),(1,2)] st
 else jh (pV (l1.map Int.toNat) (l2.map Int.toNat)) (jh [(wC f,1),(2,2)] st)
theorem WSt.from1{w w1 W:World}{B g:Nat}{vb0:Value}{st:Nat×Nat}(h:WSt w1 B g vb0 st W)(hb:Below w.heap.size w w1)(hB:B<=w.heap.size):WSt w B g vb0 st W:=by
 obtain⟨vb,h1,h2,h3⟩:=h
 exact⟨vb,h1,(hb.mono hB).trans h2,((Fr.refl g vb0 w).below hb).trans h3⟩
theorem q4E{w:World}{B g N L:Nat}{vb0:Value}(h:pS w B g N L vb0)(f:Bool)(k z:Int)(u1 u2:Value)(l1 l2:List Int)(hu1:∀W,Below B w W->qT W u1 l1)(hu2:∀W,Below B w W->qT W u2 l2)(hL:L<=100000000):
  Calls Tryz.prog 53 #[.pointer (some ⟨g,0,none⟩),.agg #[.bool f,.int .i64 k,.int .i64 z,u1,u2]] w fun e w'=>e=.returned (.int .i64 (fH k z l1 l2:Nat))/\WSt w B g vb0 (if fH k z l1 l2=0 then wrI f k z l1 l2 (N,L)else(N,L)) w':=by
 have hBw:B<=w.heap.size:=by have:=h.ge;have:=h.box.lt;omega
 have hgw:=h.box.lt;have hvb:∀q,vb0.ownBlock=some q->q<w.heap.size:=fun q hq=>(h.own.lt q hq).2
 have HU1:=q7 hu1;have HU2:=q7 hu2;obtain⟨o1,c1,b1,f1,hv1,-⟩:=(hu1 w (qj _ _)).open;obtain⟨o2,c2,b2,f2,hv2,-⟩:=(hu2 w (qj _ _)).open;subst hv1 hv2;obtain⟨n1,hn1⟩:∃n,n=l1.length:=⟨_,rfl⟩;obtain⟨n2,hn2⟩:∃n,n=l2.length:=⟨_,rfl⟩;rw[<-hn1]at HU1⊢;rw[<-hn2]at HU2⊢;clear hu1 hu2 hn1 hn2;have qfB:=q7 (fun(W:World) (hb:Below B w W)=>q8F f k z _ _ l1 l2 W (HU1.out W hb) (HU2.out W hb))
 obtain⟨w1,hw1⟩:∃w1,w1=w.alloc (.cells #[.bool f,.int .i64 k,.int .i64 z,.slice o1 n1 c1,.slice o2 n2 c2] 112):=⟨_,rfl⟩;have hA:=q2E w f k z o1 o2 n1 n2 c1 c2 112;rw[<-hw1]at hA;have hb1:Below w.heap.size w w1:=by rw[hw1];exact qn _ _
 have HB1:=q7 hb1;have HS1:=q7 (WSt.start (h.up hb1));have HA:=q7 hA;have HW1:=q7 hw1;have HA3:Hid (∀st W,WSt w1 B g vb0 st W->Own W w.heap.size 112 (.slice (some ⟨w.heap.size,0,none⟩) 5 5) [.bool f,.int .i64 k,.int .i64 z,.slice o1 n1 c1,.slice o2 n2 c2]):=q7 (fun st W h=>h.own HA.out (fun e=>by have e2:some w.heap.size=some g:=e;injection e2 with e2;omega) (fun q hq e=>by have e2:some w.heap.size=some q:=hq;injection e2 with e2;have:=hvb q e;omega))
 have HBL:Hid (∀st W,WSt w1 B g vb0 st W->Below B w W):=q7 (fun st W h=>(HB1.out.mono hBw).trans h.bel)
 have HP0:Hid (Calls Tryz.prog 96 #[.pointer (some ⟨g,0,none⟩),.int .i64 0,.int .i64 0] w1 fun e w'=>e=.returned (.int .i64 0)/\WSt w1 B g vb0 (N,L) w'):=q7 ((zA HS1.out 0 0 (by decide) (by omega) (by simp only;omega)).mono fun e w' ⟨he,hs⟩=>⟨he,by simpa using hs⟩)
 clear h hw1 hA hb1 HA;obtain⟨r,hr⟩:∃r,r=fH k z l1 l2:=⟨_,rfl⟩;rw[<-hr];rw[<-hr]at qfB;obtain⟨D,hD⟩:∃D,D=if r=0 then wrI f k z l1 l2 (N,L)else(N,L):=⟨_,rfl⟩
 rw[<-hD];have HD:=q7 hD;clear hD;have HR:=q7 hr;clear hr
 go_enter Tryz.func53,Tryz.ntmps53
 go_upto_region 5 with(first|(go_at_call 96;rw[<-HW1.out];(with_reducible refine HP0.out.mono ?_);rintro e w2 ⟨rfl,hq⟩;(have HS2:=q7 hq;obtain⟨A,hA,hAs,hAl⟩:=(HA3.out _ _ hq).whole;have hAe:A=#[.bool f,.int .i64 k,.int .i64 z,.slice o1 n1 c1,.slice o2 n2 c2]:=(by rw[<-Array.toArray_toList (xs:=A),hAl]);subst hAe;clear hq hAs hAl HP0))|(refine qI rfl 112 5 _ rfl w.heap.size rfl #[.bool f,.int .i64 k,.int .i64 z,.slice o1 n1 c1,.slice o2 n2 c2] rfl hA _ Tryz.underlying112 rfl (by kernel_rfl) ?_)|(go_at_call 97;(with_reducible refine(qfB.out _ (HBL.out _ _ HS2.out)).mono ?_);rintro e w3 ⟨rfl,hb3⟩;(have HS3:=q7 (HS2.out.up hb3 (qa hBw (HBL.out _ _ HS2.out).size));clear hb3 hA HS2 qfB)))
 by_cases hr0:r=0
 ·subst hr0
  cases f with
  |false=>
   have HP1:Hid (Calls Tryz.prog 96 #[.pointer (some ⟨g,0,none⟩),.int .i64 0,.int .i64 1] w3 fun e w'=>e=.returned (.int .i64 0)/\WSt w1 B g vb0 (N+0*2^L,L+1) w'):=q7 (zA HS3.out 0 1 (by decide) (by omega) (by simp only;omega))
   have x0:=(HA3.out _ _ HS3.out).cell (i:=0) (by simp)
   have y0:=(HA3.out _ _ HS3.out).blk.2
   by_cases hk0:k=0
   ·subst hk0
    have hz:0<=z/\z<=65535:=by
     have h:=HR.out;unfold fH at h;rw[if_pos rfl]at h
     apply qf;intro hn
     rw[if_pos (by omega)]at h
     cases h
    obtain⟨zn,rfl⟩:∃zn:Nat,z=(zn:Int):=⟨z.toNat,by omega⟩
    have hzn:zn<=65535:=by omega
    have HPK:Hid (∀(W:World) (st:Nat×Nat),WSt w1 B g vb0 st W->st.2+2<=300000000->Calls Tryz.prog 96 #[.pointer (some ⟨g,0,none⟩),.int .i64 0,.int .i64 2] W fun e w'=>e=.returned (.int .i64 0)/\WSt w1 B g vb0 (st.1+0*2^st.2,st.2+2) w'):=q7 (fun W st h hl=>zA h 0 2 (by decide) (by omega) (by omega))
    have HDE:Hid (D=jh [(zn,16),(65535-zn,16)] (jo (jh [(0,1),(0,2)] (N,L)))):=q7 (by rw[HD.out,if_pos rfl];unfold wrI;rw[if_pos rfl,Int.toNat_natCast];rfl)
    have hxr:=sG zn (by omega)
    have HAL:=q7 (fun(W:World) (st:Nat×Nat) (h:WSt w1 B g vb0 st W) (hl:st.2<=300000000)=>F7 h hl)
    have HP6:=q7 (fun(W:World) (st:Nat×Nat) (v:Nat) (h:WSt w1 B g vb0 st W) (hv:v<2^16) (hl:st.2+16<=34359738368)=>zA h v 16 hv (by omega) hl)
    rw[show((16:Nat):Int)=16 from rfl]at HP6
    have hal:(jo (N+0*2^L+0*2^(L+1),L+1+2)).2<=150000000:=by show qO (L+1+2)<=150000000;unfold qO;omega
    clear HD HR;have qaF:65535-zn<2^16:=by omega
    have q9U:zn<2^16:=by omega
    generalize hzt:65535-zn=zt at*
    go_wp2_with(first|(go_at_call 96;first|((with_reducible refine HP1.out.mono ?_);rintro e w4 ⟨rfl,hq⟩;(have HS4:=q7 hq;have x1:=(HA3.out _ _ hq).cell (i:=1) (by simp);have y1:=(HA3.out _ _ hq).blk.2;have HP2:=q7 (HPK.out _ _ hq (by simp only;omega));clear hq HP1))|((with_reducible refine HP2.out.mono ?_);rintro e w5 ⟨rfl,hq⟩;(have HS5:=q7 hq;have x2:=(HA3.out _ _ hq).cell (i:=1) (by simp);have y2:=(HA3.out _ _ hq).blk.2;have HA5:=q7 (HAL.out _ _ hq (by simp only;omega));clear hq HP2 HS4 x1 y1))|((with_reducible refine HPZ.out.mono ?_);rintro e w7 ⟨rfl,hq⟩;(have HS7:=q7 hq;have x4:=(HA3.out _ _ hq).cell (i:=2) (by simp);have y4:=(HA3.out _ _ hq).blk.2;have HPY:=q7 (HP6.out _ _ zt hq qaF (by simp only;omega));clear hq HPZ HS6 x3 y3))|((with_reducible refine HPY.out.mono ?_);rintro e w8 ⟨rfl,hq⟩;(have HS8:=q7 hq;clear hq HPY)))|(go_at_call 98;(with_reducible refine HA5.out.mono ?_);rintro e w6 ⟨rfl,hq⟩;(have HS6:=q7 hq;have x3:=(HA3.out _ _ hq).cell (i:=2) (by simp);have y3:=(HA3.out _ _ hq).blk.2;have HPZ:=q7 (HP6.out _ _ zn hq q9U (by omega));clear hq HA5)))
    go_ret;rw[HDE.out]
    exact⟨rfl,HS8.out.from1 HB1.out hBw⟩
   ·have qdK:(k==0)=false:=by simpa using hk0
    by_cases hk1:k=1
    ·subst hk1
     have HPK:Hid (∀(W:World) (st:Nat×Nat),WSt w1 B g vb0 st W->st.2+2<=300000000->Calls Tryz.prog 96 #[.pointer (some ⟨g,0,none⟩),.int .i64 1,.int .i64 2] W fun e w'=>e=.returned (.int .i64 0)/\WSt w1 B g vb0 (st.1+1*2^st.2,st.2+2) w'):=q7 (fun W st h hl=>zA h 1 2 (by decide) (by omega) (by omega))
     have HDE:Hid (D=jh [(0,1),(1,2)] (N,L)):=q7 (by rw[HD.out,if_pos rfl];unfold wrI;rw[if_neg hk0,if_pos rfl];rfl)
     clear HD HR
     go_wp2_with(go_at_call 96;first|((with_reducible refine HP1.out.mono ?_);rintro e w4 ⟨rfl,hq⟩;(have HS4:=q7 hq;have x1:=(HA3.out _ _ hq).cell (i:=1) (by simp);have y1:=(HA3.out _ _ hq).blk.2;have HP2:=q7 (HPK.out _ _ hq (by simp only;omega));clear hq HP1))|((with_reducible refine HP2.out.mono ?_);rintro e w5 ⟨rfl,hq⟩;(have HS5:=q7 hq;have x2:=(HA3.out _ _ hq).cell (i:=1) (by simp);have y2:=(HA3.out _ _ hq).blk.2;clear hq HP2 HS4 x1 y1)))
     go_ret;rw[HDE.out]
     exact⟨rfl,HS5.out.from1 HB1.out hBw⟩
    ·have hk2:k=2:=by
      have h:=HR.out;unfold fH at h;rw[if_neg hk0,if_neg hk1]at h
      apply qf;intro hn
      rw[if_neg hn]at h
      cases h
     subst hk2;have HPK:Hid (∀(W:World) (st:Nat×Nat),WSt w1 B g vb0 st W->st.2+2<=300000000->Calls Tryz.prog 96 #[.pointer (some ⟨g,0,none⟩),.int .i64 2,.int .i64 2] W fun e w'=>e=.returned (.int .i64 0)/\WSt w1 B g vb0 (st.1+2*2^st.2,st.2+2) w'):=q7 (fun W st h hl=>zA h 2 2 (by decide) (by omega) (by omega))
     have HDE:Hid (D=jh (pV (l1.map Int.toNat) (l2.map Int.toNat)) (jh [(0,1),(2,2)] (N,L))):=q7 (by rw[HD.out,if_pos rfl];unfold wrI;rw[if_neg hk0,if_neg hk1];rfl)
     obtain⟨m1,m2,m3,m4,m5,m6,m7,m8,-⟩:=nK HR.out.symm;have qfE:Hid (∀(W:World) (st:Nat×Nat),WSt w1 B g vb0 st W->st.2<=200000000->Calls Tryz.prog 99 #[.pointer (some ⟨g,0,none⟩),.agg #[.bool false,.int .i64 2,.int .i64 z,.slice o1 n1 c1,.slice o2 n2 c2]] W fun e w'=>e=.returned (.tuple #[])/\WSt w1 B g vb0 (jh (pV (l1.map Int.toNat) (l2.map Int.toNat)) st) w'):=q7 (fun W st h hl=>h.join (Q:=fun e=>e=.returned (.tuple #[])) fun vb hb=>N0 hb _ _ _ _ _ _ _ (fun W' hb'=>by rw[<-m5];exact HU1.out W' ((HBL.out _ _ h).trans hb')) (fun W' hb'=>by rw[<-m6];exact HU2.out W' ((HBL.out _ _ h).trans hb')) (by simpa using m1) (by simpa using m2) (by simpa using m3) (by simpa using m4) m7 m8 hl)
     clear HD HR m1 m2 m3 m4 m5 m6 m7 m8
     go_wp2_with(first|(go_at_call 96;first|((with_reducible refine HP1.out.mono ?_);rintro e w4 ⟨rfl,hq⟩;(have HS4:=q7 hq;have x1:=(HA3.out _ _ hq).cell (i:=1) (by simp);have y1:=(HA3.out _ _ hq).blk.2;have HP2:=q7 (HPK.out _ _ hq (by simp only;omega));clear hq HP1))|((with_reducible refine HP2.out.mono ?_);rintro e w5 ⟨rfl,hq⟩;(have HS5:=q7 hq;have x2:=(HA3.out _ _ hq).cell (i:=1) (by simp);have y2:=(HA3.out _ _ hq).blk.2;obtain⟨A,hA,hAs,hAl⟩:=(HA3.out _ _ hq).whole;have hAe:A=#[.bool false,.int .i64 2,.int .i64 z,.slice o1 n1 c1,.slice o2 n2 c2]:=(by rw[<-Array.toArray_toList (xs:=A),hAl]);subst hAe;have HLN:=q7 (qfE.out _ _ hq (by simp only;omega));clear hq HP2 HS4 x1 y1)))|(refine qI rfl 112 5 _ rfl w.heap.size rfl #[.bool false,.int .i64 2,.int .i64 z,.slice o1 n1 c1,.slice o2 n2 c2] rfl hA _ Tryz.underlying112 rfl (by kernel_rfl) ?_)|(go_at_call 99;(with_reducible refine HLN.out.mono ?_);rintro e w7 ⟨rfl,hq⟩;(have HS7:=q7 hq;clear hq)))
     go_ret;rw[HDE.out]
     exact⟨rfl,HS7.out.from1 HB1.out hBw⟩
  |true=>
   have HP1:Hid (Calls Tryz.prog 96 #[.pointer (some ⟨g,0,none⟩),.int .i64 1,.int .i64 1] w3 fun e w'=>e=.returned (.int .i64 0)/\WSt w1 B g vb0 (N+1*2^L,L+1) w'):=q7 (zA HS3.out 1 1 (by decide) (by omega) (by simp only;omega))
   have x0:=(HA3.out _ _ HS3.out).cell (i:=0) (by simp)
   have y0:=(HA3.out _ _ HS3.out).blk.2
   by_cases hk0:k=0
   ·subst hk0
    have hz:0<=z/\z<=65535:=by
     have h:=HR.out;unfold fH at h;rw[if_pos rfl]at h
     apply qf;intro hn
     rw[if_pos (by omega)]at h
     cases h
    obtain⟨zn,rfl⟩:∃zn:Nat,z=(zn:Int):=⟨z.toNat,by omega⟩
    have hzn:zn<=65535:=by omega
    have HPK:Hid (∀(W:World) (st:Nat×Nat),WSt w1 B g vb0 st W->st.2+2<=300000000->Calls Tryz.prog 96 #[.pointer (some ⟨g,0,none⟩),.int .i64 0,.int .i64 2] W fun e w'=>e=.returned (.int .i64 0)/\WSt w1 B g vb0 (st.1+0*2^st.2,st.2+2) w'):=q7 (fun W st h hl=>zA h 0 2 (by decide) (by omega) (by omega))
    have HDE:Hid (D=jh [(zn,16),(65535-zn,16)] (jo (jh [(1,1),(0,2)] (N,L)))):=q7 (by rw[HD.out,if_pos rfl];unfold wrI;rw[if_pos rfl,Int.toNat_natCast];rfl)
    have hxr:=sG zn (by omega)
    have HAL:=q7 (fun(W:World) (st:Nat×Nat) (h:WSt w1 B g vb0 st W) (hl:st.2<=300000000)=>F7 h hl)
    have HP6:=q7 (fun(W:World) (st:Nat×Nat) (v:Nat) (h:WSt w1 B g vb0 st W) (hv:v<2^16) (hl:st.2+16<=34359738368)=>zA h v 16 hv (by omega) hl)
    rw[show((16:Nat):Int)=16 from rfl]at HP6
    have hal:(jo (N+1*2^L+0*2^(L+1),L+1+2)).2<=150000000:=by show qO (L+1+2)<=150000000;unfold qO;omega
    clear HD HR;have qaF:65535-zn<2^16:=by omega
    have q9U:zn<2^16:=by omega
    generalize hzt:65535-zn=zt at*
    go_wp2_with(first|(go_at_call 96;first|((with_reducible refine HP1.out.mono ?_);rintro e w4 ⟨rfl,hq⟩;(have HS4:=q7 hq;have x1:=(HA3.out _ _ hq).cell (i:=1) (by simp);have y1:=(HA3.out _ _ hq).blk.2;have HP2:=q7 (HPK.out _ _ hq (by simp only;omega));clear hq HP1))|((with_reducible refine HP2.out.mono ?_);rintro e w5 ⟨rfl,hq⟩;(have HS5:=q7 hq;have x2:=(HA3.out _ _ hq).cell (i:=1) (by simp);have y2:=(HA3.out _ _ hq).blk.2;have HA5:=q7 (HAL.out _ _ hq (by simp only;omega));clear hq HP2 HS4 x1 y1))|((with_reducible refine HPZ.out.mono ?_);rintro e w7 ⟨rfl,hq⟩;(have HS7:=q7 hq;have x4:=(HA3.out _ _ hq).cell (i:=2) (by simp);have y4:=(HA3.out _ _ hq).blk.2;have HPY:=q7 (HP6.out _ _ zt hq qaF (by simp only;omega));clear hq HPZ HS6 x3 y3))|((with_reducible refine HPY.out.mono ?_);rintro e w8 ⟨rfl,hq⟩;(have HS8:=q7 hq;clear hq HPY)))|(go_at_call 98;(with_reducible refine HA5.out.mono ?_);rintro e w6 ⟨rfl,hq⟩;(have HS6:=q7 hq;have x3:=(HA3.out _ _ hq).cell (i:=2) (by simp);have y3:=(HA3.out _ _ hq).blk.2;have HPZ:=q7 (HP6.out _ _ zn hq q9U (by omega));clear hq HA5)))
    go_ret;rw[HDE.out]
    exact⟨rfl,HS8.out.from1 HB1.out hBw⟩
   ·have qdK:(k==0)=false:=by simpa using hk0
    by_cases hk1:k=1
    ·subst hk1
     have HPK:Hid (∀(W:World) (st:Nat×Nat),WSt w1 B g vb0 st W->st.2+2<=300000000->Calls Tryz.prog 96 #[.pointer (some ⟨g,0,none⟩),.int .i64 1,.int .i64 2] W fun e w'=>e=.returned (.int .i64 0)/\WSt w1 B g vb0 (st.1+1*2^st.2,st.2+2) w'):=q7 (fun W st h hl=>zA h 1 2 (by decide) (by omega) (by omega))
     have HDE:Hid (D=jh [(1,1),(1,2)] (N,L)):=q7 (by rw[HD.out,if_pos rfl];unfold wrI;rw[if_neg hk0,if_pos rfl];rfl)
     clear HD HR
     go_wp2_with(go_at_call 96;first|((with_reducible refine HP1.out.mono ?_);rintro e w4 ⟨rfl,hq⟩;(have HS4:=q7 hq;have x1:=(HA3.out _ _ hq).cell (i:=1) (by simp);have y1:=(HA3.out _ _ hq).blk.2;have HP2:=q7 (HPK.out _ _ hq (by simp only;omega));clear hq HP1))|((with_reducible refine HP2.out.mono ?_);rintro e w5 ⟨rfl,hq⟩;(have HS5:=q7 hq;have x2:=(HA3.out _ _ hq).cell (i:=1) (by simp);have y2:=(HA3.out _ _ hq).blk.2;clear hq HP2 HS4 x1 y1)))
     go_ret;rw[HDE.out]
     exact⟨rfl,HS5.out.from1 HB1.out hBw⟩
    ·have hk2:k=2:=by
      have h:=HR.out;unfold fH at h;rw[if_neg hk0,if_neg hk1]at h
      apply qf;intro hn
      rw[if_neg hn]at h
      cases h
     subst hk2;have HPK:Hid (∀(W:World) (st:Nat×Nat),WSt w1 B g vb0 st W->st.2+2<=300000000->Calls Tryz.prog 96 #[.pointer (some ⟨g,0,none⟩),.int .i64 2,.int .i64 2] W fun e w'=>e=.returned (.int .i64 0)/\WSt w1 B g vb0 (st.1+2*2^st.2,st.2+2) w'):=q7 (fun W st h hl=>zA h 2 2 (by decide) (by omega) (by omega))
     have HDE:Hid (D=jh (pV (l1.map Int.toNat) (l2.map Int.toNat)) (jh [(1,1),(2,2)] (N,L))):=q7 (by rw[HD.out,if_pos rfl];unfold wrI;rw[if_neg hk0,if_neg hk1];rfl)
     obtain⟨m1,m2,m3,m4,m5,m6,m7,m8,-⟩:=nK HR.out.symm;have qfE:Hid (∀(W:World) (st:Nat×Nat),WSt w1 B g vb0 st W->st.2<=200000000->Calls Tryz.prog 99 #[.pointer (some ⟨g,0,none⟩),.agg #[.bool true,.int .i64 2,.int .i64 z,.slice o1 n1 c1,.slice o2 n2 c2]] W fun e w'=>e=.returned (.tuple #[])/\WSt w1 B g vb0 (jh (pV (l1.map Int.toNat) (l2.map Int.toNat)) st) w'):=q7 (fun W st h hl=>h.join (Q:=fun e=>e=.returned (.tuple #[])) fun vb hb=>N0 hb _ _ _ _ _ _ _ (fun W' hb'=>by rw[<-m5];exact HU1.out W' ((HBL.out _ _ h).trans hb')) (fun W' hb'=>by rw[<-m6];exact HU2.out W' ((HBL.out _ _ h).trans hb')) (by simpa using m1) (by simpa using m2) (by simpa using m3) (by simpa using m4) m7 m8 hl)
     clear HD HR m1 m2 m3 m4 m5 m6 m7 m8
     go_wp2_with(first|(go_at_call 96;first|((with_reducible refine HP1.out.mono ?_);rintro e w4 ⟨rfl,hq⟩;(have HS4:=q7 hq;have x1:=(HA3.out _ _ hq).cell (i:=1) (by simp);have y1:=(HA3.out _ _ hq).blk.2;have HP2:=q7 (HPK.out _ _ hq (by simp only;omega));clear hq HP1))|((with_reducible refine HP2.out.mono ?_);rintro e w5 ⟨rfl,hq⟩;(have HS5:=q7 hq;have x2:=(HA3.out _ _ hq).cell (i:=1) (by simp);have y2:=(HA3.out _ _ hq).blk.2;obtain⟨A,hA,hAs,hAl⟩:=(HA3.out _ _ hq).whole;have hAe:A=#[.bool true,.int .i64 2,.int .i64 z,.slice o1 n1 c1,.slice o2 n2 c2]:=(by rw[<-Array.toArray_toList (xs:=A),hAl]);subst hAe;have HLN:=q7 (qfE.out _ _ hq (by simp only;omega));clear hq HP2 HS4 x1 y1)))|(refine qI rfl 112 5 _ rfl w.heap.size rfl #[.bool true,.int .i64 2,.int .i64 z,.slice o1 n1 c1,.slice o2 n2 c2] rfl hA _ Tryz.underlying112 rfl (by kernel_rfl) ?_)|(go_at_call 99;(with_reducible refine HLN.out.mono ?_);rintro e w7 ⟨rfl,hq⟩;(have HS7:=q7 hq;clear hq)))
     go_ret;rw[HDE.out]
     exact⟨rfl,HS7.out.from1 HB1.out hBw⟩
 ·have qll:((r:Int) != 0)=true:=by simpa using hr0
  have HDE:Hid (D=(N,L)):=q7 (by rw[HD.out,if_neg hr0])
  clear HR hr0;go_wp2;go_ret;rw[HDE.out]
  exact⟨rfl,HS3.out.from1 HB1.out hBw⟩
def RSt(w0:World)(B g:Nat)(vb0:Value)(st:Nat×Nat)(W:World):Prop:=∃vb,aJ W B g st.1 st.2 vb/\Below B w0 W/\Fr g vb0 vb w0 W
theorem RSt.start{w:World}{B g N L:Nat}{vb:Value}(h:aJ w B g N L vb):RSt w B g vb (N,L) w:=⟨vb,h,qj _ _,Fr.refl _ _ _⟩
theorem RSt.up{w0 W W':World}{B g:Nat}{vb0:Value}{st:Nat×Nat}(h:RSt w0 B g vb0 st W)(hb:Below W.heap.size W W')(hB:B<=W.heap.size):RSt w0 B g vb0 st W':=by
 obtain⟨vb,h1,h2,h3⟩:=h
 exact⟨vb,h1.up hb,h2.trans (hb.mono hB),h3.below hb⟩
theorem RSt.bel{w0 W:World}{B g:Nat}{vb0:Value}{st:Nat×Nat}(h:RSt w0 B g vb0 st W):Below B w0 W:=by
 obtain⟨vb,h1,h2,h3⟩:=h;exact h2
theorem RSt.size{w0 W:World}{B g:Nat}{vb0:Value}{st:Nat×Nat}(h:RSt w0 B g vb0 st W):w0.heap.size<=W.heap.size:=h.bel.size
theorem RSt.own{w0 W:World}{B g B' E:Nat}{vb0 v:Value}{st:Nat×Nat}{xs:List Value}(h:RSt w0 B g vb0 st W)(ho:Own w0 B' E v xs)(h1:v.ownBlock≠some g)(h2:∀k,v.ownBlock=some k->vb0.ownBlock≠some k):Own W B' E v xs:=by
 obtain⟨vb,-,-,h3⟩:=h
 exact ho.of_blk fun k hk=>h3.1 k (ho.lt k hk).2 (fun e=>h1 (by rw[hk,e])) (h2 k hk)
theorem RSt.join{w0 W:World}{B g:Nat}{vb0:Value}{st st':Nat×Nat}{P:Program}{f:FuncId}{args:Array Value}{Q:Ending->Prop}(h:RSt w0 B g vb0 st W)
  (hc:∀vb,aJ W B g st.1 st.2 vb->Calls P f args W fun e w'=>Q e/\RSt W B g vb st' w'):Calls P f args W fun e w'=>Q e/\RSt w0 B g vb0 st' w':=by
 obtain⟨vb,h1,h2,h3⟩:=h
 exact(hc vb h1).mono fun e w' ⟨hq,vb',g1,g2,g3⟩=>⟨hq,vb',g1,h2.trans g2,h3.trans g3⟩
theorem RSt.from1{w w1 W:World}{B g:Nat}{vb0:Value}{st:Nat×Nat}(h:RSt w1 B g vb0 st W)(hb:Below w.heap.size w w1)(hB:B<=w.heap.size):RSt w B g vb0 st W:=by
 obtain⟨vb,h1,h2,h3⟩:=h
 exact⟨vb,h1,(hb.mono hB).trans h2,((Fr.refl g vb0 w).below hb).trans h3⟩
def iT(l:qK)(st:Nat×Nat):Nat×Nat:=jh (l.map fun b=>(b.toNat,8)) st
theorem q0D(l:qK)(b:UInt8)(st:Nat×Nat):iT (l++[b]) st=((iT l st).1+b.toNat*2^(iT l st).2,(iT l st).2+8):=by
 unfold iT;rw[List.map_append];exact cT _ _ _
theorem rI(l:qK)(st:Nat×Nat):(iT l st).2=st.2+8*l.length:=by
 unfold iT;rw[jR]
 congr 1
 induction l with
 |nil=>rfl
 |cons b l ih=>simp only[List.map_cons,List.sum_cons,ih,List.length_cons];omega
theorem zB{l:qK}{k:Nat}(hk:k<l.length)(st:Nat×Nat):iT (l.take (k+1)) st=((iT (l.take k) st).1+(l.getD k 0).toNat*2^(iT (l.take k) st).2,(iT (l.take k) st).2+8):=by
 rw[List.take_succ_eq_append_getElem hk,q0D];have:l.getD k 0=l[k]:=by simp[List.getD,hk]
 rw[this]
theorem q2F{N L v:Nat}(hN:N<2^L)(h8:L%8=0)(hv:v<256):
  jN (N+v*2^L) ((L+8)/8)=jN N (L/8)++[.int .u8 (v:Nat)]/\N+v*2^L<2^(L+8)/\(L+8)%8=0:=by
 have e1:(L+8)/8=L/8+1:=by omega
 have e2:256^(L/8)=2^L:=by rw[dW];congr 1;omega
 refine⟨?_,oP hN hv,by omega⟩
 rw[e1,lV,uH]
 congr 2
 unfold jz;rw[e2,Nat.add_mul_div_right _ _ (Nat.two_pow_pos L),Nat.div_eq_of_lt hN,Nat.zero_add,Nat.mod_eq_of_lt hv]
theorem q2G{N L:Nat}(hN:N<2^L)(h8:L%8=0)(l:qK):
  jN (iT l (N,L)).1 ((iT l (N,L)).2/8)=jN N (L/8)++qD l/\(iT l (N,L)).1<2^(iT l (N,L)).2/\(iT l (N,L)).2%8=0:=by
 have key:∀n,n<=l.length->jN (iT (l.take n) (N,L)).1 ((iT (l.take n) (N,L)).2/8)=jN N (L/8)++qD (l.take n)/\(iT (l.take n) (N,L)).1<2^(iT (l.take n) (N,L)).2/\(iT (l.take n) (N,L)).2%8=0:=by
  intro n
  induction n with
  |zero=>intro _;exact⟨by simp[iT,M7,qD],hN,h8⟩
  |succ n ih=>
   intro hn;obtain⟨i1,i2,i3⟩:=ih (by omega)
   rw[zB (by omega)]
   have hb:(l.getD n 0).toNat<256:=UInt8.toNat_lt _;obtain⟨p1,p2,p3⟩:=q2F i2 i3 hb;refine⟨?_,p2,p3⟩;rw[p1,i1,qh,List.take_succ_eq_append_getElem (by omega),jC]
   congr 2
   have:l.getD n 0=l[n]:=by simp[List.getD,show n<l.length by omega]
   rw[this]
   rfl
 have h:=key l.length (q9 _)
 rwa [List.take_length]at h
theorem N7(st:Nat×Nat):(jo st).2%8=0:=by unfold jo qO;simp only;omega
theorem zC{st:Nat×Nat}(h:st.1<2^st.2):(jo st).1<2^(jo st).2:=
 qd h (qe (by decide) (by unfold jo qO;simp only;omega))
theorem q4G{w0 W:World}{B g:Nat}{vb0:Value}{st:Nat×Nat}(h:WSt w0 B g vb0 st W)(s:ByteArray)(hs:s.size<=1000000)(hL:st.2<=200000000):
  Calls Tryz.prog 54 #[.pointer (some ⟨g,0,none⟩),.string s] W fun e w'=>e=.returned (.tuple #[])/\WSt w0 B g vb0 (iT (bys s) (jo st)) w':=by
 have HA:=q7 (F7 h (by omega))
 obtain⟨vbx,hx,-,-⟩:=h;have HB:=q7 hx.box;have hlt:st.1<2^st.2:=hx.lt;have q97:=q7 (q2G (zC hlt) (N7 st) (bys s));have HAL:Hid ((jo st).2<=200000010):=q7 (by unfold jo qO;simp only;omega)
 have HA8:=q7 (N7 st);have qiE:=q7 (zC hlt);clear hx hlt;obtain⟨D,hD⟩:∃D,D=iT (bys s) (jo st):=⟨_,rfl⟩;rw[<-hD];rw[show((jo st).1,(jo st).2)=jo st from rfl,<-hD]at q97
 clear hD;generalize jo st=sa at*;obtain⟨Na,La⟩:=sa;obtain⟨N',L'⟩:=D;simp only at q97 HAL HA8 qiE
 go_enter Tryz.func54,Tryz.ntmps54
 go_upto_region 2 with(first
  |(go_at_call 100;refine(uI HB.out).mono ?_;rintro e w' ⟨rfl,hw'⟩;rw[hw'];clear hw')
  |(go_at_call 98;(with_reducible refine HA.out.mono ?_);rintro e w2 ⟨rfl,hq⟩;have HQ:=q7 hq;clear hq))
 obtain⟨vb2,hv2,hb2,hf2⟩:=HQ.out;simp only at hv2;have HV2:=q7 hv2;have HB2:=q7 hb2;have HF2:=q7 hf2;have c1:=hv2.box.c1;have f1:=hv2.box.free 1;have hg2:=hv2.box.lt;have hBg:B<=w2.heap.size:=by have:=hv2.ge;omega
 have HT3:Hid ((jN Na (La/8)).length+s.size<=4294967296):=q7 (by rw[cM];have:=HAL.out;omega)
 have HT4:=q7 hBg;clear hv2 hb2 hf2 hBg HA HB
 go_wp2_with(at_builtin;refine dQ rfl (.tmp 12) (.tmp 13) 49 9 rfl B 5 (.int .u8 0) 1 Tryz.underlying49 Tryz.underlying9 (by kernel_rfl) rfl (by decide) vb2 (jN Na (La/8)) rfl HV2.out.own s rfl HT3.out HT4.out ?_;intro v' w5 hown1 hg1 hk1;have HO1:=q7 hown1;have HG1:=q7 hg1;have HK1:=q7 hk1;have qch:=HV2.out.box.keep hg1 HV2.out.ne;have qmz:=q7 qch;have c15:=qch.c1;have f15:=qch.free 1;have hg5:=qch.lt;obtain⟨o5,k5,q5,hv5,-⟩:=hown1.cases;subst hv5;generalize (jN Na (La/8)++qD s.data.toList).length=l5 at*;have HST:=q7 (qch.set1 (.slice o5 l5 k5));clear hown1 hg1 hk1 qch)
 go_end0
 have hne:(Value.slice o5 l5 k5).ownBlock≠some g:=fun e=>by
  rcases HK1.out _ e with h|h
  ·exact HV2.out.ne h
  ·omega
 obtain⟨r1,r2,r3⟩:=q97.out
 have e0:N'/256^(L'/8)=0:=by
  rw[dW,show 8*(L'/8)=L' by omega]
  exact Nat.div_eq_of_lt r2
 have e1:Na/256^(La/8)=0:=by
  have:=HA8.out;rw[dW,show 8*(La/8)=La by omega]
  exact Nat.div_eq_of_lt qiE.out
 refine⟨rfl,_,⟨?_,?_,hne,HV2.out.ge,r2⟩,?_,?_⟩
 ·have hb:=HST.out.1
  rw[e1,HA8.out]at hb;simp only[e0,r3]
  exact hb
 ·simp only[r1]
  exact HO1.out.keep HST.out.2 (.inr hne)
 ·exact((jL HB2.out HT4.out HV2.out.own HG1.out)).grown HST.out.2 (qa HT4.out HG1.out.size) (fun k e=>by cases e;exact HV2.out.ge)
 ·exact(((HF2.out.step HG1.out (fun k e=>.inr e)).val HK1.out HF2.out.2.2).step HST.out.2 (fun k e=>by cases e;exact .inl rfl))
def gB(l:List Int)(sym:Int)(bits v:Nat)(x:Nat×Nat×Nat):Nat×Nat×Nat:=
 if x.1≠0 then x else if gK l sym≠0 then(gK l sym,x.2)else(0,(fG l sym x.2).1+v*2^(fG l sym x.2).2,(fG l sym x.2).2+bits)
def cOp(l1 l2:List Int)(o:OpN)(x:Nat×Nat×Nat):Nat×Nat×Nat:=
 if o.len=0 then gB l1 o.lit 0 0 x else gB l2 (aM o.dist).s (aM o.dist).b (aM o.dist).v (gB l1 (aA o.len).s (aA o.len).b (aA o.len).v x)
def cC(l1 l2:List Int)(ops:List OpN)(x:Nat×Nat×Nat):Nat×Nat×Nat:=ops.foldl (fun x o=>cOp l1 l2 o x) x
def lJ(l1 l2:List Int)(ops:List OpN)(st:Nat×Nat):Nat×Nat×Nat:=gB l1 256 0 0 (cC l1 l2 ops (0,st))
theorem cD{l:List Int}{sym:Int}{bits v:Nat}{x:Nat×Nat×Nat}(h:x.1≠0):gB l sym bits v x=x:=if_pos h
theorem q0G{l1 l2:List Int}{o:OpN}{x:Nat×Nat×Nat}(h:x.1≠0):cOp l1 l2 o x=x:=by
 unfold cOp;rw[cD h,cD h,cD h];split<;>rfl
theorem kZ{l1 l2:List Int}{x:Nat×Nat×Nat}(h:x.1≠0):∀ops,cC l1 l2 ops x=x
 |[]=>rfl
 |o::ops=>by unfold cC;rw[List.foldl_cons,q0G h];exact kZ h ops
theorem nO{l1 l2:List Int}{x:Nat×Nat×Nat}(ops:List OpN)(o:OpN):cC l1 l2 (ops++[o]) x=cOp l1 l2 o (cC l1 l2 ops x):=by unfold cC;rw[List.foldl_append];rfl
theorem rJ(l:List Int)(sym:Int)(st:Nat×Nat):st.2<=(fG l sym st).2/\(fG l sym st).2<=st.2+15:=by
 unfold fG
 by_cases h:gK l sym=0
 ·rw[if_pos h]
  refine⟨Nat.le_add_right _ _,Nat.add_le_add_left ?_ _⟩
  have h0:bE l=0:=by
   apply qf;intro hn
   rw[kW hn]at h;exact hn h
  obtain⟨L,rfl,-,h15,-⟩:=gL h0;rw[jb,Int.toNat_natCast]
  rcases Nat.lt_or_ge sym.toNat L.length with h1|h1
  ·exact h15 _ (jT L _ 0 h1)
  ·rw[List.getD_eq_getElem?_getD,List.getElem?_eq_none h1];exact qc _
 ·rw[if_neg h];exact⟨q9 _,Nat.le_add_right _ _⟩
theorem nP(l:List Int)(sym:Int)(bits v:Nat)(x:Nat×Nat×Nat):x.2.2<=(gB l sym bits v x).2.2/\(gB l sym bits v x).2.2<=x.2.2+15+bits:=by
 have:=rJ l sym x.2;unfold gB;split
 ·exact⟨q9 _,by omega⟩
 ·split
  ·exact⟨q9 _,by simp only;omega⟩
  ·simp only;omega
theorem G3(n:Int):(aA n).b<=5/\(aA n).v<2^(aA n).b:=by
 by_cases h:n<3\/258<n
 ·unfold aA;rw[if_pos h];exact⟨qc _,by decide⟩
 ·exact⟨(oK h).2.1,(oK h).1⟩
theorem G5(n:Int):(aM n).b<=13/\(aM n).v<2^(aM n).b:=by
 by_cases h:n<1\/32768<n
 ·unfold aM;rw[if_pos h];exact⟨qc _,by decide⟩
 ·exact⟨(oL h).2.1,(oL h).1⟩
theorem q4K(l1 l2:List Int)(o:OpN)(x:Nat×Nat×Nat):x.2.2<=(cOp l1 l2 o x).2.2/\(cOp l1 l2 o x).2.2<=x.2.2+48:=by
 unfold cOp;split
 ·have:=nP l1 o.lit 0 0 x;omega
 ·have h1:=nP l1 (aA o.len).s (aA o.len).b (aA o.len).v x
  have h2:=nP l2 (aM o.dist).s (aM o.dist).b (aM o.dist).v (gB l1 (aA o.len).s (aA o.len).b (aA o.len).v x);have h3:=(G3 o.len).1;have h4:=(G5 o.dist).1;omega
theorem lA(l1 l2:List Int):∀(ops:List OpN) (x:Nat×Nat×Nat),x.2.2<=(cC l1 l2 ops x).2.2/\(cC l1 l2 ops x).2.2<=x.2.2+48*ops.length
 |[],x=>⟨q9 _,Nat.le_add_right _ _⟩
 |o::ops,x=>by
  have h1:=q4K l1 l2 o x;have h2:=lA l1 l2 ops (cOp l1 l2 o x);have e:cC l1 l2 (o::ops) x=cC l1 l2 ops (cOp l1 l2 o x):=rfl;rw[e,List.length_cons];omega
def FrC(g gc:Nat)(vb vb':Value)(w w':World):Prop:=(∀k,k<w.heap.size->k≠g->k≠gc->vb.ownBlock≠some k->w'.heap[k]? =w.heap[k]?)/\(∀k,vb'.ownBlock=some k->vb.ownBlock=some k\/w.heap.size<=k)/\w.heap.size<=w'.heap.size
theorem FrC.of{g gc:Nat}{vb vb':Value}{w w':World}(h:Fr g vb vb' w w'):FrC g gc vb vb' w w':=⟨fun k hk h1 _ h3=>h.1 k hk h1 h3,h.2⟩
theorem FrC.refl(g gc:Nat)(vb:Value)(w:World):FrC g gc vb vb w w:=⟨fun _ _ _ _ _=>rfl,fun _ h=>.inl h,q9 _⟩
theorem FrC.trans{g gc:Nat}{vb vb' vc:Value}{w w1 w2:World}(h:FrC g gc vb vb' w w1)(k:FrC g gc vb' vc w1 w2):FrC g gc vb vc w w2:=by
 refine⟨fun q hq h1 h2 h3=>?_,fun q hq=>?_,qa h.2.2 k.2.2⟩
 ·rw[k.1 q (qd hq h.2.2) h1 h2 ?_,h.1 q hq h1 h2 h3]
  intro e
  rcases h.2.1 q e with z|z
  ·exact h3 z
  ·omega
 ·rcases k.2.1 q hq with z|z
  ·exact h.2.1 q z
  ·exact .inr (qa h.2.2 z)
theorem FrC.below{g gc:Nat}{vb vb':Value}{w w1 w2:World}(h:FrC g gc vb vb' w w1)(hb:Below w1.heap.size w1 w2):FrC g gc vb vb' w w2:=
 ⟨fun k hk h1 h2 h3=>by rw[hb.block k (qd hk h.2.2),h.1 k hk h1 h2 h3],h.2.1,qa h.2.2 hb.size⟩
theorem FrC.cell{g gc:Nat}{vb:Value}{w:World}(c:Nat)(v:Value):FrC g gc vb vb w (w.setCell ⟨gc,c,none⟩ v):=
 ⟨fun k _ _ h2 _=>by rw[heap_setCell_other _ _ _ _ (by exact h2)],fun _ h=>.inl h,by simp⟩
def O1(g gc:Nat)(vb:Value)(w:World)(v:Value)(l:List Int):Prop:=∀W vb',FrC g gc vb vb' w W->qT W v l
theorem O1.next{g gc:Nat}{vb vb':Value}{w w':World}{v:Value}{l:List Int}(h:O1 g gc vb w v l)(hf:FrC g gc vb vb' w w'):O1 g gc vb' w' v l:=fun W vc hc=>h W vc (hf.trans hc)
structure CdV(w:World)(B g gc:Nat)(vb vl vd:Value)(x:Nat×Nat×Nat):Prop where
 wr:pS w B g x.2.1 x.2.2 vb
 cd:Own w B 171 (.slice (some ⟨gc,0,none⟩) 4 4) [.pointer (some ⟨g,0,none⟩),vl,vd,.int .i64 (x.1:Nat)]
 ne:vb.ownBlock≠some gc
 gg:gc≠g
theorem CdV.up{w w':World}{B g gc:Nat}{vb vl vd:Value}{x:Nat×Nat×Nat}(h:CdV w B g gc vb vl vd x)(hb:Below w.heap.size w w'):CdV w' B g gc vb vl vd x:=⟨h.wr.up hb,h.cd.up hb,h.ne,h.gg⟩
theorem CdV.told{w w1:World}{B g gc N L:Nat}{vb vb1 vl vd:Value}{x:Nat×Nat×Nat}(h:CdV w B g gc vb vl vd x)(hw:pS w1 B g N L vb1)(hf:Fr g vb vb1 w w1)(hb:Below B w w1)(er:Nat):
  CdV (w1.setCell ⟨gc,3,none⟩ (.int .i64 (er:Nat))) B g gc vb1 vl vd (er,N,L)/\FrC g gc vb vb1 w (w1.setCell ⟨gc,3,none⟩ (.int .i64 (er:Nat)))/\Below B w (w1.setCell ⟨gc,3,none⟩ (.int .i64 (er:Nat))):=by
 have hcd:Own w1 B 171 (.slice (some ⟨gc,0,none⟩) 4 4) [.pointer (some ⟨g,0,none⟩),vl,vd,.int .i64 (x.1:Nat)]:=h.cd.of_blk fun k hk=>by
  have e:some gc=some k:=hk;injection e with e
  subst e
  exact hf.1 gc h.cd.blk.2 h.gg h.ne
 have hne:vb1.ownBlock≠some gc:=fun e=>by
  rcases hf.2.1 gc e with q|q
  ·exact h.ne q
  ·have:=h.cd.blk.2;omega
 have hst:=hcd.store 3 (.int .i64 (er:Nat));refine⟨⟨⟨hw.box.keep hst.2 (fun e=>h.gg (ql e)),hw.own.keep hst.2 (.inr hne),hw.ne,hw.ge,hw.lt⟩,hst.1,hne,h.gg⟩,(FrC.of hf).trans (FrC.cell 3 _),hb.grown hst.2 (qa (by have:=h.wr.ge;have:=h.wr.box.lt;omega) hb.size) (fun k e=>by cases e;exact h.cd.blk.1)⟩
theorem CdV.wrote{w w1:World}{B g gc N L:Nat}{vb vb1 vl vd:Value}{x:Nat×Nat×Nat}(h:CdV w B g gc vb vl vd x)(hw:pS w1 B g N L vb1)(hf:Fr g vb vb1 w w1):CdV w1 B g gc vb1 vl vd (x.1,N,L):=by
 refine⟨hw,h.cd.of_blk fun k hk=>?_,fun e=>?_,h.gg⟩
 ·have e:some gc=some k:=hk
  injection e with e
  subst e
  exact hf.1 gc h.cd.blk.2 h.gg h.ne
 ·rcases hf.2.1 gc e with q|q
  ·exact h.ne q
  ·have:=h.cd.blk.2;omega
theorem q0H{w:World}{B g gc:Nat}{vb vl vd:Value}{x:Nat×Nat×Nat}(h:CdV w B g gc vb vl vd x)(v:Value)(l:List Int)(hs:O1 g gc vb w v l)(sym:Int)(bits z:Nat)(hz:z<2^bits)(hb:bits<=13)(hL:x.2.2<=1000000000):
  Calls Tryz.prog 104 #[.pointer (some ⟨gc,0,none⟩),v,.int .i64 sym,.int .i64 bits,.int .i64 z] w fun e w'=>e=.returned (.tuple #[])/\∃vb',CdV w' B g gc vb' vl vd (gB l sym bits z x)/\FrC g gc vb vb' w w'/\Below B w w':=by
 have c0:w.cell? ⟨gc,0,none⟩=some (.pointer (some ⟨g,0,none⟩)):=h.cd.cell (by simp)
 have c3:w.cell? ⟨gc,3,none⟩=some (.int .i64 (x.1:Nat)):=h.cd.cell (by simp)
 have f3:=h.cd.free 3;have hgc:=h.cd.blk.2;have HW:=q7 (q4x v l sym (hs w vb (FrC.refl _ _ _ _)) (fun W vb' hf=>hs W vb' (FrC.of hf)) h.wr (by omega))
 have HH:=q7 h;have HNL:=q7 (rJ l sym x.2);obtain⟨er,N,L⟩:=x;simp only at hL c3 HW HNL;unfold M2 at HW
 by_cases hx:er=0
 ·subst hx
  obtain⟨y,hy⟩:∃y,y=gB l sym bits z (0,N,L):=⟨_,rfl⟩;rw[<-hy];have HY:=q7 hy;unfold gB at HY;rw[if_neg (fun h=>h rfl)]at HY
  clear hy h hs;generalize hnw:fG l sym (N,L)=nl at*;obtain⟨N1,L1⟩:=nl;simp only at HW HNL HY
  by_cases he:gK l sym=0
  ·rw[he]at HW
   have HYE:Hid (y=(0,N1+z*2^L1,L1+bits)):=q7 (by rw[HY.out,if_neg (by omega)])
   have HPT:=q7 (fun(W:World) (vb1:Value) (hv:pS W B g N1 L1 vb1)=>q7j hv z bits hz (by omega) (by have:=HNL.out;omega))
   have qdL:=HH.out.gg;clear HY hnw he
   go_enter Tryz.func104,Tryz.ntmps104
   go_wp2_with(first
    |(go_at_call 145;(with_reducible refine HW.out.mono ?_);rintro e w1 ⟨rfl,vb1,hq1,hq2,hf1⟩;obtain⟨ht1,ht2,ht3⟩:=HH.out.told hq1 hf1 hq2 0;have HT1:=q7 ht1;have HT2:=q7 ht2;have HT3:=q7 ht3;have qas:=HH.out.cd.of_blk (w':=w1) (fun k hk=>by have e:some gc=some k:=hk;injection e with e;subst e;exact hf1.1 gc HH.out.cd.blk.2 HH.out.gg HH.out.ne);have f31:=qas.free 3;have c31:w1.cell? ⟨gc,3,none⟩=some (.int .i64 0):=qas.cell (by simp);have c01:w1.cell? ⟨gc,0,none⟩=some (.pointer (some ⟨g,0,none⟩)):=qas.cell (by simp);have qjy:=qas.blk.2;rw[show((0:Nat):Int)=0 from rfl]at HT1 HT2 HT3;clear hq1 hq2 hf1 ht1 ht2 ht3 qas)
    |(go_at_call 96;(with_reducible refine(HPT.out _ _ HT1.out.wr).mono ?_);rintro e w2 ⟨rfl,vb2,hq1,hq2,hf1⟩;have HQ1:=q7 hq1;have HQ2:=q7 hq2;have HF1:=q7 hf1;clear hq1 hq2 hf1))
   go_end0
   refine⟨rfl,vb2,?_,HT2.out.trans (FrC.of HF1.out),HT3.out.trans HQ2.out⟩;rw[HYE.out]
   exact HT1.out.wrote HQ1.out HF1.out
  ·have HYE:Hid (y=(gK l sym,N,L)):=q7 (by rw[HY.out,if_pos he])
   have qj6:(N1,L1)=(N,L):=by rw[<-hnw];exact kV he
   injection qj6 with e1 e2
   subst e1 e2;clear HY hnw HNL;generalize gK l sym=q at*;have hqi:((q:Int)==0)=false:=by simpa using he
   clear he
   go_enter Tryz.func104,Tryz.ntmps104
   go_wp2_with(go_at_call 145;(with_reducible refine HW.out.mono ?_);rintro e w1 ⟨rfl,vb1,hq1,hq2,hf1⟩;obtain⟨ht1,ht2,ht3⟩:=HH.out.told hq1 hf1 hq2 q;have HT1:=q7 ht1;have HT2:=q7 ht2;have HT3:=q7 ht3;have qas:=HH.out.cd.of_blk (w':=w1) (fun k hk=>by have e:some gc=some k:=hk;injection e with e;subst e;exact hf1.1 gc HH.out.cd.blk.2 HH.out.gg HH.out.ne);have f31:=qas.free 3;have c31:w1.cell? ⟨gc,3,none⟩=some (.int .i64 0):=qas.cell (by simp);have c01:w1.cell? ⟨gc,0,none⟩=some (.pointer (some ⟨g,0,none⟩)):=qas.cell (by simp);have qjy:=qas.blk.2;clear hq1 hq2 hf1 ht1 ht2 ht3 qas)
   go_end0
   refine⟨rfl,vb1,?_,HT2.out,HT3.out⟩;rw[HYE.out]
   exact HT1.out
 ·have HE:Hid (gB l sym bits z (er,N,L)=(er,N,L)):=q7 (cD hx)
  have hxi:((er:Int)==0)=false:=by simpa using hx
  rw[HE.out];clear HW hx HNL h hs
  go_enter Tryz.func104,Tryz.ntmps104
  go_wp2
  go_end0
  exact⟨rfl,vb,HH.out,FrC.refl _ _ _ _,qj _ _⟩
theorem q8u{w:World}{B g gc:Nat}{vb vl vd:Value}{x:Nat×Nat×Nat}(h:CdV w B g gc vb vl vd x)(l1 l2:List Int)(hs1:O1 g gc vb w vl l1)(hs2:O1 g gc vb w vd l2)(o:OpN)(ho:o.lit<256)(hn1: -9223372036854775808<=o.len)(hn2:o.len<=9223372036854775807)(hd1: -9223372036854775808<=o.dist)(hd2:o.dist<=9223372036854775807)(hL:x.2.2<=900000000):
  Calls Tryz.prog 103 #[.pointer (some ⟨gc,0,none⟩),.agg #[.int .u8 o.lit,.int .i64 o.len,.int .i64 o.dist]] w fun e w'=>e=.returned (.tuple #[])/\∃vb',CdV w' B g gc vb' vl vd (cOp l1 l2 o x)/\FrC g gc vb vb' w w'/\Below B w w':=by
 obtain⟨ol,on,od⟩:=o;simp only at ho hn1 hn2 hd1 hd2;obtain⟨w1,hw1⟩:∃w1,w1=w.alloc (.cells #[.int .u8 (ol:Nat),.int .i64 on,.int .i64 od] 64):=⟨_,rfl⟩;have hb1:Below w.heap.size w w1:=by rw[hw1];exact qn _ _
 have hop:=M5 w ol on od;rw[<-hw1]at hop;have HW1:=q7 hw1;have HH:=q7 (h.up hb1);have HF:=q7 ((FrC.refl g gc vb w).below hb1);have hBw:B<=w.heap.size:=by have:=h.cd.blk;omega
 have HBL:=q7 (hb1.mono hBw);have HOP:=q7 hop;have p0:w1.cell? ⟨w.heap.size,0,none⟩=some (.int .u8 (ol:Nat)):=hop.cell (by simp[opV])
 have p1:w1.cell? ⟨w.heap.size,1,none⟩=some (.int .i64 on):=hop.cell (by simp[opV])
 have hp:=hop.blk.2;have hgc:=HH.out.cd.blk.2;have c1:w1.cell? ⟨gc,1,none⟩=some vl:=HH.out.cd.cell (by simp)
 obtain⟨y,hy⟩:∃y,y=cOp l1 l2 ⟨ol,on,od⟩ x:=⟨_,rfl⟩;rw[<-hy];have HY:=q7 hy;unfold cOp at HY;simp only at HY;have HS1:=q7 (hs1.next HF.out)
 have HS2:=q7 (hs2.next HF.out)
 have hqb:w.heap.size≠g:=by have:=h.wr.box.lt;omega
 have hqc:w.heap.size≠gc:=by have:=h.cd.blk.2;omega
 have HVQ:Hid (vb.ownBlock≠some w.heap.size):=q7 (fun e=>by have:=(h.wr.own.lt _ e).2;omega)
 clear hy hw1 hb1 hop h hs1 hs2
 by_cases hn:on=0
 ·rw[if_pos hn]at HY
  subst hn;have HP:=q7 (fun(W:World) (hb:Below w1.heap.size w1 W)=>q0H (HH.out.up hb) vl l1 (HS1.out.next ((FrC.refl g gc vb w1).below hb)) ol 0 0 (by decide) (by omega) (by omega))
  rw[show((0:Nat):Int)=0 from rfl,<-HY.out]at HP
  go_enter Tryz.func103,Tryz.ntmps103
  go_upto_region 1 with fail
  rw[<-HW1.out];go_wp2;refine qZ [0,1,2,3,4,5,6,7] [] [8] (by kernel_rfl) (by kernel_rfl) ?_
  simp only[pk]
  repeat(go_big_quiet_step (fail))
  refine wpQuiet_nil ?_;unfold qy;unfold qy
  go_wp2_with(go_at_call 104;(with_reducible refine(HP.out _ (qS (qj _ _))).mono ?_);rintro e w3 ⟨rfl,vb3,hq1,hq2,hq3⟩;have HQ1:=q7 hq1;have HQ2:=q7 hq2;have HQ3:=q7 hq3;clear hq1 hq2 hq3)
  refine⟨trivial,?_⟩;unfold qy;go_wp2
  ((try simp only[Exit.inBlock,Exit.then]);refine bodyPost_ret (results_none rfl _ _ _) rfl ?_)
  exact⟨rfl,vb3,HQ1.out,((HF.out.below (qC w1 1)).trans (World.drew_is_drewN w1▸HQ2.out)),(HBL.out.trans ((qC w1 1).mono (qa hBw (Nat.le_of_lt hp)))).trans (World.drew_is_drewN w1▸HQ3.out)⟩
 ·rw[if_neg hn]at HY
  have hni:(on==0)=false:=by simpa using hn
  obtain⟨hlb,hlv⟩:=G3 on;obtain⟨hdb,hdv⟩:=G5 od;have HOL:=q7 (q6m on hn1 hn2);have HOD:=q7 (q6n od hd1 hd2);obtain⟨s,hs⟩:∃s,s=aA on:=⟨_,rfl⟩;obtain⟨d,hd⟩:∃d,d=aM od:=⟨_,rfl⟩;rw[<-hs]at hlb hlv HOL HY;rw[<-hd]at hdb hdv HOD HY;clear hs hd hn;obtain⟨ss,sb,sv,se⟩:=s;obtain⟨ds,db,dv,de⟩:=d;simp only at hlb hlv hdb hdv HY;unfold q25 at HOL HOD;simp only at HOL HOD;have HP1:=q7 (fun(W:World) (hb:Below w1.heap.size w1 W)=>q0H (HH.out.up hb) vl l1 (HS1.out.next ((FrC.refl g gc vb w1).below hb)) ss sb sv hlv (by omega) (by omega))
  have HLN:=q7 (nP l1 ss sb sv x);generalize hx1:gB l1 ss sb sv x=x1 at*
  have HP2:Hid (∀(W:World) (vb1:Value),CdV W B g gc vb1 vl vd x1->FrC g gc vb vb1 w1 W->Calls Tryz.prog 104 #[.pointer (some ⟨gc,0,none⟩),vd,.int .i64 ds,.int .i64 db,.int .i64 dv] W fun e w'=>e=.returned (.tuple #[])/\∃vb',CdV w' B g gc vb' vl vd y/\FrC g gc vb1 vb' W w'/\Below B W w'):=q7 (fun W vb1 hc hf=>by
   rw[HY.out]
   exact q0H hc vd l2 (HS2.out.next hf) ds db dv hdv (by omega) (by have:=HLN.out;omega))
  clear hx1 HY HLN
  go_enter Tryz.func103,Tryz.ntmps103
  go_upto_region 1 with fail
  rw[<-HW1.out]
  go_upto_region 4 with(go_at_call 143;(with_reducible refine(HOL.out _).mono ?_);rintro e w2 ⟨rfl,x2,rfl⟩)
  have hX2:=qu w1 x2;have HX2:=q7 hX2;have c12:(ext w1 x2).cell? ⟨gc,1,none⟩=some vl:=(hX2.cell (p:=⟨gc,1,none⟩) hgc).trans c1;have qdL:gc<(ext w1 x2).heap.size:=qd hgc hX2.size;clear hX2 c1 p0 p1 hgc;generalize ext w1 x2=w2 at*
  go_upto_region 5 with(go_at_call 104;(with_reducible refine(HP1.out _ HX2.out).mono ?_);rintro e w3 ⟨rfl,vb3,hq1,hq2,hq3⟩;have HQ1:=q7 hq1;have HQ2:=q7 (((FrC.refl g gc vb w1).below HX2.out).trans hq2);have HQ3:=q7 ((HBL.out.trans (HX2.out.mono (qa hBw (Nat.le_of_lt hp)))).trans hq3);clear hq1 hq2 hq3)
  have qeu:Own w3 w.heap.size 64 (.slice (some ⟨w.heap.size,0,none⟩) 3 3) (opV ⟨ol,on,od⟩):=HOP.out.of_blk fun k hk=>by
   have e:some w.heap.size=some k:=hk;injection e with e
   subst e
   exact HQ2.out.1 _ hp hqb hqc HVQ.out
  have p2:w3.cell? ⟨w.heap.size,2,none⟩=some (.int .i64 od):=qeu.cell (by simp[opV])
  have hp3:=qeu.blk.2;clear qeu c12 qdL
  go_upto_region 6 with(go_at_call 144;(with_reducible refine(HOD.out _).mono ?_);rintro e w4 ⟨rfl,x4,rfl⟩)
  have hX4:=qu w3 x4;have HX4:=q7 hX4;have c2:(ext w3 x4).cell? ⟨gc,2,none⟩=some vd:=(HQ1.out.up hX4).cd.cell (by simp)
  have qlW:=(HQ1.out.up hX4).cd.blk.2;clear hX4 p2;generalize ext w3 x4=w4 at*
  go_wp2_with(go_at_call 104;(with_reducible refine(HP2.out _ _ (HQ1.out.up HX4.out) (HQ2.out.below HX4.out)).mono ?_);rintro e w5 ⟨rfl,vb5,hq1,hq2,hq3⟩;have HR1:=q7 hq1;have HR2:=q7 hq2;have HR3:=q7 hq3;clear hq1 hq2 hq3)
  go_end0
  exact⟨rfl,vb5,HR1.out,(HF.out.trans (HQ2.out.below HX4.out)).trans HR2.out,(HQ3.out.trans (HX4.out.mono (qa hBw (Nat.le_of_lt hp3)))).trans HR3.out⟩
theorem q0I{w W:World}{v:Value}{l:List Value}(h:Sl w v l)(hb:∀k,k<w.heap.size->W.heap[k]? =w.heap[k]?)(hs:w.heap.size<=W.heap.size):Sl W v l:=by
 obtain⟨oa,cap,b,off,rfl,hd,hc⟩:=h;refine⟨oa,cap,b,off,rfl,⟨hd.hat,hd.hcap,hd.hmax,hd.hsml,fun h=>qd (hd.hblk h) hs⟩,fun i hi=>?_⟩
 rw[World.cell?_of_block (w:=w) (w':=W) (hb b (hd.hblk (by omega)))]
 exact hc i hi
theorem q2I{k:Nat}{w W:World}{v:Value}{l:List (List Value)}(h:SlK k w v l)(hb:∀k,k<w.heap.size->W.heap[k]? =w.heap[k]?)(hs:w.heap.size<=W.heap.size):SlK k W v l:=by
 obtain⟨oa,cap,b,off,rfl,hd,hc⟩:=h;refine⟨oa,cap,b,off,rfl,⟨hd.hat,hd.hcap,hd.hmax,hd.hsml,fun h=>qd (hd.hblk h) hs⟩,fun i hi c hcl=>?_⟩
 rw[World.cell?_of_block (w:=w) (w':=W) (hb b (hd.hblk (by omega)))]
 exact hc i hi c hcl
theorem FrC.low{w0 w W:World}{B g gc N L:Nat}{vb vb':Value}(hf:FrC g gc vb vb' w W)(hw:pS w B g N L vb)(hgc:B<=gc)(hB0:w0.heap.size<=B)(hb0:Below w0.heap.size w0 w):(∀k,k<w0.heap.size->W.heap[k]? =w0.heap[k]?)/\w0.heap.size<=W.heap.size:=by
 refine⟨fun k hk=>?_,qa hb0.size hf.2.2⟩
 rw[hf.1 k (qd hk hb0.size) (by have:=hw.ge;omega) (by omega) (fun e=>by have:=(hw.own.lt k e).1;omega),hb0.block k hk]
theorem O1.low{w0 w:World}{B g gc N L:Nat}{vb v:Value}{l:List Int}(h:qT w0 v l)(hw:pS w B g N L vb)(hgc:B<=gc)(hB0:w0.heap.size<=B)(hb0:Below w0.heap.size w0 w):O1 g gc vb w v l:=fun W vb' hf=>by
 obtain⟨h1,h2⟩:=hf.low hw hgc hB0 hb0
 exact q0I h h1 h2
theorem O1.own{w:World}{B' g gc:Nat}{vb v:Value}{l:List Int}(h:Own w B' 3 v (ints l))(hk:∀k,v.ownBlock=some k->k≠g/\k≠gc/\vb.ownBlock≠some k):O1 g gc vb w v l:=fun W _vb' hf=>
 (h.of_blk (w':=W) fun k e=>hf.1 k (h.lt k e).2 (hk k e).1 (hk k e).2.1 (hk k e).2.2).sl
theorem CdV.setl{w:World}{B g gc:Nat}{vb vl vd:Value}{x:Nat×Nat×Nat}(h:CdV w B g gc vb vl vd x)(v:Value):CdV (w.setCell ⟨gc,1,none⟩ v) B g gc vb v vd x/\w.grownBy (w.setCell ⟨gc,1,none⟩ v) (some gc):=by
 have hst:=h.cd.store 1 v
 exact⟨⟨⟨h.wr.box.keep hst.2 (fun e=>h.gg (ql e)),h.wr.own.keep hst.2 (.inr h.ne),h.wr.ne,h.wr.ge,h.wr.lt⟩,hst.1,h.ne,h.gg⟩,hst.2⟩
theorem CdV.setd{w:World}{B g gc:Nat}{vb vl vd:Value}{x:Nat×Nat×Nat}(h:CdV w B g gc vb vl vd x)(v:Value):CdV (w.setCell ⟨gc,2,none⟩ v) B g gc vb vl v x/\w.grownBy (w.setCell ⟨gc,2,none⟩ v) (some gc):=by
 have hst:=h.cd.store 2 v
 exact⟨⟨⟨h.wr.box.keep hst.2 (fun e=>h.gg (ql e)),h.wr.own.keep hst.2 (.inr h.ne),h.wr.ne,h.wr.ge,h.wr.lt⟩,hst.1,h.ne,h.gg⟩,hst.2⟩
def fJ(p:PtN):List Int:=if p.kind=1 then nls lM else p.lits
def bO(p:PtN):List Int:=if p.kind=1 then nls oH else p.dists
structure pL(o:OpN):Prop where
 lit:o.lit<256
 n1: -9223372036854775808<=o.len
 n2:o.len<=9223372036854775807
 d1: -9223372036854775808<=o.dist
 d2:o.dist<=9223372036854775807
theorem q6o{w0 w:World}{B g N L:Nat}{vb:Value}(h:pS w B g N L vb)(hB0:w0.heap.size<=B)(hb0:Below w0.heap.size w0 w)(p:PtN)(oo o1 o2:Option Addr)(oc c1 c2:Nat)
  (hvo:SlK 3 w0 (.slice oo p.ops.length oc) (p.ops.map opV)) (hv1:qT w0 (.slice o1 p.lits.length c1) p.lits) (hv2:qT w0 (.slice o2 p.dists.length c2) p.dists) (hok:∀o∈p.ops,pL o) (hL:L+48*p.ops.length<=800000000):
  Calls Tryz.prog 55 #[.pointer (some ⟨g,0,none⟩),.agg #[.int .i64 p.kind,.string p.text,.slice oo p.ops.length oc,.slice o1 p.lits.length c1,.slice o2 p.dists.length c2]] w fun e w'=>
   e=.returned (.int .i64 ((lJ (fJ p) (bO p) p.ops (N,L)).1:Nat))/\WSt w B g vb (lJ (fJ p) (bO p) p.ops (N,L)).2 w':=by
 obtain⟨kd,tx,ops,lits,dists⟩:=p;simp only at hvo hv1 hv2 hok hL;unfold fJ bO;simp only;have hBw:B<=w.heap.size:=by have:=h.ge;have:=h.box.lt;omega
 have hgw:=h.box.lt;have hge:=h.ge;obtain⟨q,hq⟩:∃q,q=w.heap.size:=⟨_,rfl⟩;obtain⟨w1,hw1⟩:∃w1,w1=w.alloc (.cells #[.int .i64 kd,.string tx,.slice oo ops.length oc,.slice o1 lits.length c1,.slice o2 dists.length c2] 68):=⟨_,rfl⟩;have hb1:Below w.heap.size w w1:=by rw[hw1];exact qn _ _
 have hs1:w1.heap.size=w.heap.size+1:=by rw[hw1];simp
 have hpt:=qE w w.heap.size #[.int .i64 kd,.string tx,.slice oo ops.length oc,.slice o1 lits.length c1,.slice o2 dists.length c2] 68 (by simp) (q9 _)
 rw[<-hw1]at hpt;obtain⟨w2,hw2⟩:∃w2,w2=w1.alloc (.cells #[.pointer (some ⟨g,0,none⟩),.slice o1 lits.length c1,.slice o2 dists.length c2,.int .i64 0] 171):=⟨_,rfl⟩;have hb2:Below w1.heap.size w1 w2:=by rw[hw2];exact qn _ _
 have hcd:=qE w1 B #[.pointer (some ⟨g,0,none⟩),.slice o1 lits.length c1,.slice o2 dists.length c2,.int .i64 0] 171 (by simp) (by omega)
 rw[<-hw2,hs1]at hcd;have q9E:Below w.heap.size w w2:=hb1.trans (hb2.mono hb1.size);have qcj:∀k,vb.ownBlock=some k->k<w.heap.size:=fun k e=>(h.own.lt k e).2
 have hcv:CdV w2 B g (w.heap.size+1) vb (.slice o1 lits.length c1) (.slice o2 dists.length c2) (0,N,L):=⟨h.up q9E,hcd,fun e=>by have:=qcj _ e;omega,by omega⟩
 have HCV:=q7 hcv;have HF2:Hid (FrC g (w.heap.size+1) vb vb w w2):=q7 ((FrC.refl g (w.heap.size+1) vb w).below q9E);have HB2:=q7 (q9E.mono hBw);have HW1:=q7 hw1;have HW2:=q7 hw2;have HPT:=q7 (hpt.up hb2);have HVB:=q7 qcj
 have qa4:Hid (∀W vb',FrC g (w.heap.size+1) vb vb' w2 W->SlK 3 W (.slice oo ops.length oc) (ops.map opV)):=q7 (fun W vb' hf=>by
  obtain⟨h1,h2⟩:=hf.low hcv.wr (by omega) hB0 (hb0.trans (q9E.mono hb0.size))
  exact q2I hvo h1 h2)
 have qcn:=q7 (O1.low hv1 hcv.wr (gc:=w.heap.size+1) (by omega) hB0 (hb0.trans (q9E.mono hb0.size)))
 have q95:=q7 (O1.low hv2 hcv.wr (gc:=w.heap.size+1) (by omega) hB0 (hb0.trans (q9E.mono hb0.size)))
 have hno:ops.length<=9223372036854775807:=by omega
 have p0:w1.cell? ⟨w.heap.size,0,none⟩=some (.int .i64 kd):=hpt.cell (by simp)
 have p3:w1.cell? ⟨w.heap.size,3,none⟩=some (.slice o1 lits.length c1):=hpt.cell (by simp)
 have p4:w1.cell? ⟨w.heap.size,4,none⟩=some (.slice o2 dists.length c2):=hpt.cell (by simp)
 have hp1:=hpt.blk.2;have q0:w2.cell? ⟨w.heap.size,0,none⟩=some (.int .i64 kd):=HPT.out.cell (by simp)
 have q2:w2.cell? ⟨w.heap.size,2,none⟩=some (.slice oo ops.length oc):=HPT.out.cell (by simp)
 have hq2:=HPT.out.blk.2;have HS1:=q7 hs1;clear hq h hvo hv1 hv2 hw1 hw2 hb1 hb2 q9E hpt hcd hcv qcj hs1 hB0 hb0;obtain⟨ya,hya⟩:∃ya,ya=lJ (if kd=1 then nls lM else lits) (if kd=1 then nls oH else dists) ops (N,L):=⟨_,rfl⟩
 rw[<-hya];have HYA:=q7 hya;clear hya
 by_cases hk:kd=1
 ·rw[if_pos hk,if_pos hk]at HYA
  subst hk;clear qcn q95
  go_enter Tryz.func55,Tryz.ntmps55
  go_upto_region 1 with fail
  rw[<-HW1.out]
  go_upto_region 2 with fail
  rw[<-HW2.out,HS1.out];clear p0 p3 p4 hp1;have hc0:w2.cell? ⟨w.heap.size+1,0,none⟩=some (.pointer (some ⟨g,0,none⟩)):=HCV.out.cd.cell (by simp)
  have qdL:=HCV.out.cd.blk.2
  go_upto_region 4 with(first
   |(go_at_call 101;(with_reducible refine(q6d _).mono ?_);rintro e w3 ⟨v3,rfl,ho3,hb3⟩;have HO3:=q7 ho3;have HB3:=q7 hb3;obtain⟨oa3,ca3,ga3,hv3,-⟩:=ho3.cases;subst hv3;generalize (ints (nls lM)).length=n3 at*;clear ho3 hb3)
   |(go_at_call 102;(with_reducible refine(q6e _).mono ?_);rintro e w4 ⟨v4,rfl,ho4,hb4⟩;have HO4:=q7 ho4;have HB4:=q7 hb4;obtain⟨oa4,ca4,ga4,hv4,-⟩:=ho4.cases;subst hv4;generalize (ints (nls oH)).length=n4 at*;have HC4:=q7 ((HCV.out.up HB3.out).up HB4.out);have f41:=HC4.out.cd.free 1;have f42:=HC4.out.cd.free 2;have c41:w4.cell? ⟨w.heap.size+1,1,none⟩=some (.slice o1 lits.length c1):=HC4.out.cd.cell (by simp);have c42:w4.cell? ⟨w.heap.size+1,2,none⟩=some (.slice o2 dists.length c2):=HC4.out.cd.cell (by simp);have hg4:=HC4.out.cd.blk.2;clear ho4 hb4))
  have hC5:=HC4.out.setl (.slice oa3 n3 ca3);have hC6:=hC5.1.setd (.slice oa4 n4 ca4);have HC5:=q7 hC6.1;have hgr:=qp hC5.2 hC6.2;have hl3:∀k,(Value.slice oa3 n3 ca3).ownBlock=some k->w2.heap.size<=k/\k<w3.heap.size:=fun k e=>HO3.out.lt k e
  have hl4:∀k,(Value.slice oa4 n4 ca4).ownBlock=some k->w3.heap.size<=k/\k<w4.heap.size:=fun k e=>HO4.out.lt k e
  have h23:=HB3.out.size;have h34:=HB4.out.size
  have ho3:=(HO3.out.up HB4.out).keep hgr (by cases h:(Value.slice oa3 n3 ca3).ownBlock with
   |none=>exact .inl rfl
   |some k=>exact .inr (by intro e;injection e with e;have:=hl3 k h;omega))
  have ho4:=HO4.out.keep hgr (by cases h:(Value.slice oa4 n4 ca4).ownBlock with
   |none=>exact .inl rfl
   |some k=>exact .inr (by intro e;injection e with e;have:=hl4 k h;omega))
  have qfd:FrC g (w.heap.size+1) vb vb w2 ((w4.setCell ⟨w.heap.size+1,1,none⟩ (.slice oa3 n3 ca3)).setCell ⟨w.heap.size+1,2,none⟩ (.slice oa4 n4 ca4)):=(((FrC.refl g (w.heap.size+1) vb w2).below (HB3.out.trans (HB4.out.mono h23))).trans (FrC.cell 1 _)).trans (FrC.cell 2 _);have HF5:=q7 (HF2.out.trans qfd);have HB5:Hid (Below B w ((w4.setCell ⟨w.heap.size+1,1,none⟩ (.slice oa3 n3 ca3)).setCell ⟨w.heap.size+1,2,none⟩ (.slice oa4 n4 ca4))):=q7 (((HB2.out.trans (HB3.out.mono (qa hBw HF2.out.2.2))).trans (HB4.out.mono (by omega))).grown hgr (by omega) (fun k e=>by cases e;omega))
  have qbt:=O1.own (g:=g) (gc:=w.heap.size+1) (vb:=vb) ho3 (fun k e=>by have:=hl3 k e;refine⟨by omega,by omega,fun e2=>?_⟩;have:=HVB.out k e2;omega)
  have q9V:=O1.own (g:=g) (gc:=w.heap.size+1) (vb:=vb) ho4 (fun k e=>by have:=hl4 k e;refine⟨by omega,by omega,fun e2=>?_⟩;have:=HVB.out k e2;omega)
  have HT1:=q7 qbt;have HT2:=q7 q9V;have hp5:=((HPT.out.up HB3.out).up HB4.out).keep hgr (.inr (by intro e;have e2:some w.heap.size=some (w.heap.size+1):=e;injection e2 with e2;omega))
  have HP5:=q7 hp5;have qfD:Hid (∀W vb',FrC g (w.heap.size+1) vb vb' ((w4.setCell ⟨w.heap.size+1,1,none⟩ (.slice oa3 n3 ca3)).setCell ⟨w.heap.size+1,2,none⟩ (.slice oa4 n4 ca4)) W->SlK 3 W (.slice oo ops.length oc) (ops.map opV)):=q7 (fun W vb' hf=>qa4.out W vb' (qfd.trans hf))
  clear hC5 hC6 hgr hl3 hl4 ho3 ho4 qfd qbt q9V hp5 HC4 HO3 HO4 HB3 HB4 HCV HF2 HB2 HPT qa4 hc0 qdL f41 f42 c41 c42 hg4 q0 q2 hq2;generalize (w4.setCell ⟨w.heap.size+1,1,none⟩ (.slice oa3 n3 ca3)).setCell ⟨w.heap.size+1,2,none⟩ (.slice oa4 n4 ca4)=w5 at*;have q2:w5.cell? ⟨w.heap.size,2,none⟩=some (.slice oo ops.length oc):=HP5.out.cell (by simp)
  have hq2:=HP5.out.blk.2;obtain⟨l1,hl1⟩:∃l1,l1=nls lM:=⟨_,rfl⟩;obtain⟨l2,hl2⟩:∃l2,l2=nls oH:=⟨_,rfl⟩;rw[<-hl1]at HYA HT1;rw[<-hl2]at HYA HT2;obtain⟨vl,hvl⟩:∃vl,vl=Value.slice oa3 n3 ca3:=⟨_,rfl⟩;obtain⟨vd,hvd⟩:∃vd,vd=Value.slice oa4 n4 ca4:=⟨_,rfl⟩;rw[<-hvl]at HC5 HT1;rw[<-hvd]at HC5 HT2;clear hl1 hl2 hvl hvd;have HTK:Hid (∀k,(hk:k<ops.length)->cC l1 l2 (ops.take (k+1)) (0,N,L)=cOp l1 l2 ops[k] (cC l1 l2 (ops.take k) (0,N,L))):=q7 (fun k hk=>by rw[List.take_succ_eq_append_getElem hk,nO])
  have HLN:Hid (∀k,k<=ops.length->(cC l1 l2 (ops.take k) (0,N,L)).2.2<=800000000):=q7 (fun k hk=>by
   have:=(lA l1 l2 (ops.take k) (0,N,L)).2;rw[List.length_take]at this;have h2:min k ops.length<=ops.length:=Nat.min_le_right _ _;have h3:48*min k ops.length<=48*ops.length:=Nat.mul_le_mul_left _ h2;simp only at this;omega)
  have qa2:Hid (∀k,(hk:k<ops.length)->pL ops[k]):=q7 (fun k hk=>hok _ (List.getElem_mem hk))
  have HQC:Hid (∀(W:World) (vb1:Value) (x:Nat×Nat×Nat) (o:OpN),CdV W B g (w.heap.size+1) vb1 vl vd x->FrC g (w.heap.size+1) vb vb1 w5 W->pL o->x.2.2<=800000000->Calls Tryz.prog 103 #[.pointer (some ⟨w.heap.size+1,0,none⟩),.agg #[.int .u8 o.lit,.int .i64 o.len,.int .i64 o.dist]] W fun e w'=>e=.returned (.tuple #[])/\∃vb',CdV w' B g (w.heap.size+1) vb' vl vd (cOp l1 l2 o x)/\FrC g (w.heap.size+1) vb1 vb' W w'/\Below B W w'):=q7 (fun W vb1 x o hc hf ho hl=>q8u hc l1 l2 (HT1.out.next hf) (HT2.out.next hf) o ho.lit ho.n1 ho.n2 ho.d1 ho.d2 (by omega))
  have HPC:Hid (∀(W:World) (vb1:Value) (x:Nat×Nat×Nat),CdV W B g (w.heap.size+1) vb1 vl vd x->FrC g (w.heap.size+1) vb vb1 w5 W->x.2.2<=800000000->Calls Tryz.prog 104 #[.pointer (some ⟨w.heap.size+1,0,none⟩),vl,.int .i64 256,.int .i64 0,.int .i64 0] W fun e w'=>e=.returned (.tuple #[])/\∃vb',CdV w' B g (w.heap.size+1) vb' vl vd (gB l1 256 0 0 x)/\FrC g (w.heap.size+1) vb1 vb' W w'/\Below B W w'):=q7 (fun W vb1 x hc hf hl=>q0H hc vl l1 (HT1.out.next hf) 256 0 0 (by decide) (by omega) (by omega))
  clear HT1 HT2 hok;go_wp2
  go_loopg [29] (ops.length+1) (fun gk iv wr=>∃(k:Nat) (vb1:Value),iv=.int .i64 k/\k<=ops.length/\CdV wr B g (w.heap.size+1) vb1 vl vd (cC l1 l2 (ops.take k) (0,N,L))/\FrC g (w.heap.size+1) vb vb1 w5 wr/\Below B w wr/\gk=ops.length+1-k)
  case atStart=>exact⟨0,vb,rfl,qc _,HC5.out,FrC.refl _ _ _ _,HB5.out,rfl⟩
  case round=>
   clear HC5 HB5 HP5 q2 hq2;obtain⟨k,vb1,rfl,hk,hc,hf,hbl,rfl⟩:=hrel;have HC:=q7 hc;have HF:=q7 hf;have HBL:=q7 hbl;have hsz:=hbl.size;have hln:=HLN.out k hk;clear hc hf hbl
   by_cases hlt:k<ops.length
   ·obtain⟨oo',oc',ob',off',hv',hdo,hco⟩:=cP (qfD.out wr vb1 HF.out)
    obtain⟨rfl,-,rfl⟩:oo=oo'/\ops.length=ops.length/\oc=oc':=by
     injection hv' with e1 e2 e3;exact⟨e1,rfl,e3⟩
    have hix:=jy (P:=Tryz.prog) 3 65 64 Tryz.underlying65 (by kernel_rfl) hdo
    have q9a:=fun W kd=>hix W kd (k:Int) (by omega) (by omega)
    simp only[Int.toNat_natCast]at q9a;have hcc:=hco k hlt;have hbb:=hdo.hblk (by omega)
    have q9o:=q7 (HTK.out k hlt);have hal:=qn wr (.cells #[.int .u8 (ops[k].lit:Nat),.int .i64 ops[k].len,.int .i64 ops[k].dist] 64);have HQ:=q7 (HQC.out _ _ _ ops[k] (HC.out.up hal) (HF.out.below hal) (qa2.out k hlt) hln);have HF6:=q7 (HF.out.below hal);have HB6:=q7 (HBL.out.trans (hal.mono (qa hBw hsz)));generalize ops[k]=o at*;obtain⟨ol,on,od⟩:=o;simp only at HQ HF6 HB6
    have HC3:Hid (∀c,c<3->wr.cell? ⟨ob',off'+k*3+c,none⟩=some ((#[.int .u8 (ol:Nat),.int .i64 on,.int .i64 od]:Array Value).getD c undef)):=q7 (fun c hc=>by
     rw[hcc c hc]
     match c,hc with
     |0,_=>rfl
     |1,_=>rfl
     |2,_=>rfl)
    clear hco hix hdo hv' hcc HTK HLN qa2 HQC HPC hal HC
    go_wp2_with(first
     |(refine qG rfl 64 _ rfl ob' (off'+k*3) 3 rfl #[.int .u8 (ol:Nat),.int .i64 on,.int .i64 od] _ HC3.out rfl Tryz.underlying64 rfl (by kernel_rfl) ?_)
     |(go_at_call 103;(with_reducible refine HQ.out.mono ?_);rintro e w6 ⟨rfl,vb6,hq1,hq2,hq3⟩;have HR1:=q7 hq1;have HR2:=q7 hq2;have HR3:=q7 hq3;clear hq1 hq2 hq3))
    go_roundg (ops.length+1-(k+1))
    case measure=>omega
    case rel=>exact⟨k+1,vb6,by go_num,by omega,by rw[q9o.out];exact HR1.out,HF6.out.trans HR2.out,HB6.out.trans HR3.out,rfl⟩
   ·obtain rfl:k=ops.length:=by omega
    have HX:=q7 (HPC.out _ _ _ HC.out HF.out hln);rw[List.take_length]at HX;have HYB:Hid (gB l1 256 0 0 (cC l1 l2 ops (0,N,L))=ya):=q7 HYA.out.symm;rw[HYB.out]at HX;have hcl:wr.cell? ⟨w.heap.size+1,1,none⟩=some vl:=HC.out.cd.cell (by simp)
    have hgc:=HC.out.cd.blk.2;clear hlt HTK HLN qa2 HQC HPC HYB HC
    go_wp2_with(go_at_call 104;(with_reducible refine HX.out.mono ?_);rintro e w6 ⟨rfl,vb6,hq1,hq2,hq3⟩;have HR1:=q7 hq1;have HR2:=q7 hq2;have HR3:=q7 hq3;have c63:w6.cell? ⟨w.heap.size+1,3,none⟩=some (.int .i64 (ya.1:Nat)):=hq1.cd.cell (by simp);have hg6:=hq1.cd.blk.2;clear hq1 hq2 hq3)
    go_ret;have hfr:=(HF5.out.trans HF.out).trans HR2.out;refine⟨rfl,vb6,HR1.out.wr,HBL.out.trans HR3.out,⟨fun q hq h1 h2=>hfr.1 q hq h1 (by omega) h2,hfr.2⟩⟩
 ·rw[if_neg hk,if_neg hk]at HYA
  have hki:(kd==1)=false:=by simpa using hk
  have qfD:=qa4;have HC5:=HCV;have HF5:=HF2;have HB5:=HB2;have HP5:=HPT;have HT1:=qcn;have HT2:=q95;clear hk qa4 HCV HF2 HB2 HPT qcn q95
  go_enter Tryz.func55,Tryz.ntmps55
  go_upto_region 1 with fail
  rw[<-HW1.out]
  go_upto_region 2 with fail
  rw[<-HW2.out,HS1.out]
  go_upto_region 4 with fail
  clear p0 p3 p4 hp1 q0;generalize w2=w5 at*;obtain⟨l1,hl1⟩:∃l1,l1=lits:=⟨_,rfl⟩;obtain⟨l2,hl2⟩:∃l2,l2=dists:=⟨_,rfl⟩;rw[<-hl1]at HYA;rw[<-hl2]at HYA;obtain⟨vl,hvl⟩:∃vl,vl=Value.slice o1 lits.length c1:=⟨_,rfl⟩;obtain⟨vd,hvd⟩:∃vd,vd=Value.slice o2 dists.length c2:=⟨_,rfl⟩;rw[<-hvl,<-hl1]at HT1;rw[<-hvd,<-hl2]at HT2;rw[<-hvl,<-hvd]at HC5;clear hl1 hl2 hvl hvd;have HTK:Hid (∀k,(hk:k<ops.length)->cC l1 l2 (ops.take (k+1)) (0,N,L)=cOp l1 l2 ops[k] (cC l1 l2 (ops.take k) (0,N,L))):=q7 (fun k hk=>by rw[List.take_succ_eq_append_getElem hk,nO])
  have HLN:Hid (∀k,k<=ops.length->(cC l1 l2 (ops.take k) (0,N,L)).2.2<=800000000):=q7 (fun k hk=>by
   have:=(lA l1 l2 (ops.take k) (0,N,L)).2;rw[List.length_take]at this;have h2:min k ops.length<=ops.length:=Nat.min_le_right _ _;have h3:48*min k ops.length<=48*ops.length:=Nat.mul_le_mul_left _ h2;simp only at this;omega)
  have qa2:Hid (∀k,(hk:k<ops.length)->pL ops[k]):=q7 (fun k hk=>hok _ (List.getElem_mem hk))
  have HQC:Hid (∀(W:World) (vb1:Value) (x:Nat×Nat×Nat) (o:OpN),CdV W B g (w.heap.size+1) vb1 vl vd x->FrC g (w.heap.size+1) vb vb1 w5 W->pL o->x.2.2<=800000000->Calls Tryz.prog 103 #[.pointer (some ⟨w.heap.size+1,0,none⟩),.agg #[.int .u8 o.lit,.int .i64 o.len,.int .i64 o.dist]] W fun e w'=>e=.returned (.tuple #[])/\∃vb',CdV w' B g (w.heap.size+1) vb' vl vd (cOp l1 l2 o x)/\FrC g (w.heap.size+1) vb1 vb' W w'/\Below B W w'):=q7 (fun W vb1 x o hc hf ho hl=>q8u hc l1 l2 (HT1.out.next hf) (HT2.out.next hf) o ho.lit ho.n1 ho.n2 ho.d1 ho.d2 (by omega))
  have HPC:Hid (∀(W:World) (vb1:Value) (x:Nat×Nat×Nat),CdV W B g (w.heap.size+1) vb1 vl vd x->FrC g (w.heap.size+1) vb vb1 w5 W->x.2.2<=800000000->Calls Tryz.prog 104 #[.pointer (some ⟨w.heap.size+1,0,none⟩),vl,.int .i64 256,.int .i64 0,.int .i64 0] W fun e w'=>e=.returned (.tuple #[])/\∃vb',CdV w' B g (w.heap.size+1) vb' vl vd (gB l1 256 0 0 x)/\FrC g (w.heap.size+1) vb1 vb' W w'/\Below B W w'):=q7 (fun W vb1 x hc hf hl=>q0H hc vl l1 (HT1.out.next hf) 256 0 0 (by decide) (by omega) (by omega))
  clear HT1 HT2 hok;go_wp2
  go_loopg [29] (ops.length+1) (fun gk iv wr=>∃(k:Nat) (vb1:Value),iv=.int .i64 k/\k<=ops.length/\CdV wr B g (w.heap.size+1) vb1 vl vd (cC l1 l2 (ops.take k) (0,N,L))/\FrC g (w.heap.size+1) vb vb1 w5 wr/\Below B w wr/\gk=ops.length+1-k)
  case atStart=>exact⟨0,vb,rfl,qc _,HC5.out,FrC.refl _ _ _ _,HB5.out,rfl⟩
  case round=>
   clear HC5 HB5 HP5 q2 hq2;obtain⟨k,vb1,rfl,hk,hc,hf,hbl,rfl⟩:=hrel;have HC:=q7 hc;have HF:=q7 hf;have HBL:=q7 hbl;have hsz:=hbl.size;have hln:=HLN.out k hk;clear hc hf hbl
   by_cases hlt:k<ops.length
   ·obtain⟨oo',oc',ob',off',hv',hdo,hco⟩:=cP (qfD.out wr vb1 HF.out)
    obtain⟨rfl,-,rfl⟩:oo=oo'/\ops.length=ops.length/\oc=oc':=by
     injection hv' with e1 e2 e3;exact⟨e1,rfl,e3⟩
    have hix:=jy (P:=Tryz.prog) 3 65 64 Tryz.underlying65 (by kernel_rfl) hdo
    have q9a:=fun W kd=>hix W kd (k:Int) (by omega) (by omega)
    simp only[Int.toNat_natCast]at q9a;have hcc:=hco k hlt;have hbb:=hdo.hblk (by omega)
    have q9o:=q7 (HTK.out k hlt);have hal:=qn wr (.cells #[.int .u8 (ops[k].lit:Nat),.int .i64 ops[k].len,.int .i64 ops[k].dist] 64);have HQ:=q7 (HQC.out _ _ _ ops[k] (HC.out.up hal) (HF.out.below hal) (qa2.out k hlt) hln);have HF6:=q7 (HF.out.below hal);have HB6:=q7 (HBL.out.trans (hal.mono (qa hBw hsz)));generalize ops[k]=o at*;obtain⟨ol,on,od⟩:=o;simp only at HQ HF6 HB6
    have HC3:Hid (∀c,c<3->wr.cell? ⟨ob',off'+k*3+c,none⟩=some ((#[.int .u8 (ol:Nat),.int .i64 on,.int .i64 od]:Array Value).getD c undef)):=q7 (fun c hc=>by
     rw[hcc c hc]
     match c,hc with
     |0,_=>rfl
     |1,_=>rfl
     |2,_=>rfl)
    clear hco hix hdo hv' hcc HTK HLN qa2 HQC HPC hal HC
    go_wp2_with(first
     |(refine qG rfl 64 _ rfl ob' (off'+k*3) 3 rfl #[.int .u8 (ol:Nat),.int .i64 on,.int .i64 od] _ HC3.out rfl Tryz.underlying64 rfl (by kernel_rfl) ?_)
     |(go_at_call 103;(with_reducible refine HQ.out.mono ?_);rintro e w6 ⟨rfl,vb6,hq1,hq2,hq3⟩;have HR1:=q7 hq1;have HR2:=q7 hq2;have HR3:=q7 hq3;clear hq1 hq2 hq3))
    go_roundg (ops.length+1-(k+1))
    case measure=>omega
    case rel=>exact⟨k+1,vb6,by go_num,by omega,by rw[q9o.out];exact HR1.out,HF6.out.trans HR2.out,HB6.out.trans HR3.out,rfl⟩
   ·obtain rfl:k=ops.length:=by omega
    have HX:=q7 (HPC.out _ _ _ HC.out HF.out hln);rw[List.take_length]at HX;have HYB:Hid (gB l1 256 0 0 (cC l1 l2 ops (0,N,L))=ya):=q7 HYA.out.symm;rw[HYB.out]at HX;have hcl:wr.cell? ⟨w.heap.size+1,1,none⟩=some vl:=HC.out.cd.cell (by simp)
    have hgc:=HC.out.cd.blk.2;clear hlt HTK HLN qa2 HQC HPC HYB HC
    go_wp2_with(go_at_call 104;(with_reducible refine HX.out.mono ?_);rintro e w6 ⟨rfl,vb6,hq1,hq2,hq3⟩;have HR1:=q7 hq1;have HR2:=q7 hq2;have HR3:=q7 hq3;have c63:w6.cell? ⟨w.heap.size+1,3,none⟩=some (.int .i64 (ya.1:Nat)):=hq1.cd.cell (by simp);have hg6:=hq1.cd.blk.2;clear hq1 hq2 hq3)
    go_ret;have hfr:=(HF5.out.trans HF.out).trans HR2.out;refine⟨rfl,vb6,HR1.out.wr,HBL.out.trans HR3.out,⟨fun q hq h1 h2=>hfr.1 q hq h1 (by omega) h2,hfr.2⟩⟩
def tQ(n i:Nat)(p:PtN)(st:Nat×Nat):Nat×Nat×Nat:=
 if fH p.kind p.text.size p.lits p.dists≠0 then(fH p.kind p.text.size p.lits p.dists,st)
 else if p.kind=0 then(0,iT (bys p.text) (jo (wrI (decide (i+1=n)) p.kind p.text.size p.lits p.dists st)))
 else lJ (fJ p) (bO p) p.ops (wrI (decide (i+1=n)) p.kind p.text.size p.lits p.dists st)
def aX(l:List PtN):Nat->Nat×Nat×Nat
 |0=>(0,0,0)
 |k+1=>if(aX l k).1≠0 then aX l k else tQ l.length k (l.getD k zPt) (aX l k).2
theorem nQ{l:List PtN}{k:Nat}(h:(aX l k).1=0):aX l (k+1)=tQ l.length k (l.getD k zPt) (aX l k).2:=by
 show(if(aX l k).1≠0 then aX l k else _)=_
 rw[if_neg (by omega)]
theorem gP{l:List PtN}{k:Nat}(h:(aX l k).1≠0):∀m,aX l (k+m)=aX l k
 |0=>rfl
 |m+1=>by
  show(if(aX l (k+m)).1≠0 then aX l (k+m)else _)=_
  rw[gP h m,if_pos h]
def eN(l:List PtN):Nat×qK:=
 if(jq 10 17 l).1≠0 then((jq 10 17 l).1,[])
 else if(aX l l.length).1≠0 then((aX l l.length).1,[])
 else(0,fI (aX l l.length).2.1 (aX l l.length).2.2)
structure q5W(p:PtN):Prop where
 ops:p.ops.length<=1000000
 text:p.text.size<=1000000
theorem G6{f:Bool}{k z:Int}{l1 l2:List Int}{st:Nat×Nat}(hm:fH k z l1 l2=0):(wrI f k z l1 l2 st).2<=st.2+1400:=by
 unfold wrI
 by_cases k0:k=0
 ·rw[if_pos k0,jR]
  have h1:=jR [(wC f,1),(0,2)] st;have e:(jo (jh [(wC f,1),(0,2)] st)).2=qO (jh [(wC f,1),(0,2)] st).2:=rfl;rw[e,h1];simp only[List.map_cons,List.map_nil,List.sum_cons,List.sum_nil];unfold qO;omega
 ·rw[if_neg k0]
  by_cases k1:k=1
  ·rw[if_pos k1,jR]
   simp only[List.map_cons,List.map_nil,List.sum_cons,List.sum_nil];omega
  ·rw[if_neg k1]
   have hk:k=2:=by
    unfold fH at hm;rw[if_neg k0,if_neg k1]at hm
    apply qf;intro hn
    rw[if_neg hn]at hm
    cases hm
   subst hk;obtain⟨m1,m2,m3,m4,-⟩:=nK hm;unfold pV;rw[jM,jM,jM,dS,dS,jR aY,jR (M8 _ _),jR [(wC f,1),(2,2)]];have e1:(aY.map Prod.snd).sum=57:=by decide
   rw[e1];unfold M8;simp only[List.map_cons,List.map_nil,List.sum_cons,List.sum_nil,List.length_map];omega
theorem q2J(n i:Nat)(p:PtN)(st:Nat×Nat):(tQ n i p st).2.2<=st.2+1500+8*p.text.size+48*p.ops.length:=by
 unfold tQ
 by_cases hm:fH p.kind p.text.size p.lits p.dists≠0
 ·rw[if_pos hm];simp only;omega
 ·rw[if_neg hm]
  have hw:=G6 (f:=decide (i+1=n)) (st:=st) (show fH p.kind p.text.size p.lits p.dists=0 by omega)
  generalize wrI (decide (i+1=n)) p.kind p.text.size p.lits p.dists st=s1 at*
  by_cases hk:p.kind=0
  ·rw[if_pos hk]
   simp only[rI,qF];unfold jo qO;simp only;omega
  ·rw[if_neg hk]
   unfold lJ;have h1:=(lA (fJ p) (bO p) p.ops (0,s1)).2;have h2:=(nP (fJ p) 256 0 0 (cC (fJ p) (bO p) p.ops (0,s1))).2;simp only at h1;omega
theorem wI{l:List PtN}{M:Nat}(h:∀p∈l,1500+8*p.text.size+48*p.ops.length<=M):∀k,k<=l.length->(aX l k).2.2<=k*M
 |0,_=>qc _
 |k+1,hk=>by
  have ih:=wI h k (by omega)
  show(if(aX l k).1≠0 then aX l k else tQ l.length k (l.getD k zPt) (aX l k).2).2.2<=_
  rw[Nat.succ_mul];split
  ·omega
  ·have h1:=q2J l.length k (l.getD k zPt) (aX l k).2
   have h2:l.getD k zPt=l[k]:=by simp[List.getD,show k<l.length by omega]
   have h3:=h _ (List.getElem_mem (show k<l.length by omega))
   rw[h2]at h1⊢;omega
end Go.Cm
namespace Go.Cm
theorem iK{N T n:Nat}{st:Nat×Nat}(h:st.2<=T):st.2<=(xb N T n st).2.2/\(xb N T n st).2.2<=T:=by
 obtain⟨e,p⟩:=st;unfold xb;split
 ·have:=bF (N:=N) (n:=n) (show p<=T from h)
  exact⟨this.2,this.1⟩
 ·exact⟨q9 _,h⟩
theorem wZ(e:Nat)(st:Nat×Nat):(xf e st).2=st.2:=by unfold xf;split<;>rfl
theorem uX{N T c:Nat}{x:List Nat×(Nat×Nat)}(h:x.2.2<=T):∀k,x.2.2<=(jO N T c k x).2.2/\(jO N T c k x).2.2<=T
 |0=>⟨q9 _,h⟩
 |k+1=>by
  have ih:=uX (N:=N) (c:=c) h k;rw[gN];split
  ·have:=iK (N:=N) (n:=3) ih.2
   exact⟨qa ih.1 this.1,this.2⟩
  ·exact ih
theorem q15{N T a:Nat}{l:List Nat}{st:Nat×Nat}(h:st.2<=T):st.2<=(cN N T a l st).2.2.2/\(cN N T a l st).2.2.2<=T:=by
 unfold cN;split
 ·exact iK h
 ·split
  ·split
   ·show st.2<=(xf 4 st).2/\(xf 4 st).2<=T
    rw[wZ];exact⟨q9 _,h⟩
   ·exact iK h
  ·exact iK h
theorem sW{N T:Nat}{L:List Nat}{n:Nat}:∀(f:Nat) (l:List Nat) (st:Nat×Nat),st.2<=T->st.2<=(bM N T L n f l st).2.2/\(bM N T L n f l st).2.2<=T
 |0,_,_,h=>⟨q9 _,h⟩
 |f+1,l,st,h=>by
  by_cases hc:st.1=0/\l.length<n
  ·obtain⟨en,p⟩:=st
   obtain⟨h0,hlt⟩:=hc;simp only at h0;subst h0;rw[nG N T L n f l p hlt];have hf:=(iE L (N/2^p) (T-p)).2.1;generalize j9 L (N/2^p) (T-p)=r at*;have hd:p+r.2.2<=T:=by simp only at h;omega
   unfold iF;split
   ·exact⟨q9 _,h⟩
   ·split
    ·have:=sW (N:=N) (L:=L) (n:=n) f (l++[r.1]) (0,p+r.2.2) hd
     exact⟨qa (Nat.le_add_right _ _) this.1,this.2⟩
    ·have hm:=q15 (N:=N) (a:=r.1) (l:=l) (st:=(0,p+r.2.2)) hd
     generalize cN N T r.1 l (0,p+r.2.2)=m at*;split
     ·show p<=(xf 3 m.2.2).2/\(xf 3 m.2.2).2<=T
      rw[wZ]
      exact⟨qa (Nat.le_add_right _ _) hm.1,hm.2⟩
     ·have:=sW (N:=N) (L:=L) (n:=n) f (l++List.replicate m.1 m.2.1) m.2.2 hm.2
      exact⟨qa (qa (Nat.le_add_right _ _) hm.1) this.1,this.2⟩
  ·rw[dY _ _ _ _ _ _ _ hc]
   exact⟨q9 _,h⟩
theorem q58{N T a b:Nat}{k:List Nat×(Nat×Nat)}(h:(dynL N T a b k).2.2.1=0)(hp:k.2.2<=T):
  (dynL N T a b k).1.length=257+a/\(dynL N T a b k).2.1.length=1+b/\cY (dynL N T a b k).1 (dynL N T a b k).2.1=0/\k.2.2<=(dynL N T a b k).2.2.2/\(dynL N T a b k).2.2.2<=T/\k.2.1=0:=by
 unfold dynL at h⊢;split at h
 ·rename_i h1;exact absurd h h1
 ·rename_i h1
  rw[if_neg h1];split at h
  ·rename_i h2;exact absurd h h2
  ·rename_i h2
   rw[if_neg h2];split at h
   ·rename_i h3;exact absurd h h3
   ·rename_i h3
    rw[if_neg h3];have hl:=wA N T k.1 (257+a+(1+b)) (257+a+(1+b)+1) [] k.2 (qc _) (by simp) (by simpa using h3)
    have hm:=sW (N:=N) (T:=T) (L:=k.1) (n:=257+a+(1+b)) (257+a+(1+b)+1) [] k.2 hp;generalize bM N T k.1 (257+a+(1+b)) (257+a+(1+b)+1) [] k.2=r at*;refine⟨?_,?_,h,hm.1,hm.2,by simpa using h1⟩
    ·rw[List.length_take];omega
    ·rw[List.length_drop];omega
theorem q6N{st:Nat×Nat}:(xf 3 st).1≠0:=by
 unfold xf;split
 ·exact Nat.succ_ne_zero 2
 ·assumption
theorem q31{N T c:Nat}{x:List Nat×(Nat×Nat)}(h:(jO N T c 19 x).2.1=0):x.2.1=0:=by
 apply qf;intro hn
 rw[nH N T c 19 x hn]at h;exact hn h
theorem q59{N T p:Nat}(h:(dynN N T (0,p)).2.2.1=0)(hp:p<=T):
  257<=(dynN N T (0,p)).1.length/\(dynN N T (0,p)).1.length<=286/\1<=(dynN N T (0,p)).2.1.length/\(dynN N T (0,p)).2.1.length<=30/\cY (dynN N T (0,p)).1 (dynN N T (0,p)).2.1=0/\p<=(dynN N T (0,p)).2.2.2/\(dynN N T (0,p)).2.2.2<=T:=by
 unfold dynN at h⊢;have m1:=iK (N:=N) (n:=5) (st:=(0,p)) hp;generalize xb N T 5 (0,p)=r1 at*;have m2:=iK (N:=N) (n:=5) (st:=r1.2) m1.2;generalize xb N T 5 r1.2=r2 at*;have m3:=iK (N:=N) (n:=4) (st:=r2.2) m2.2;generalize xb N T 4 r2.2=r3 at*;unfold dynM at h⊢;generalize hst:(if 286<257+r1.1\/30<1+r2.1 then xf 3 r3.2 else r3.2)=st at*
 have q9V:st.2=r3.2.2:=by rw[<-hst];split;exact wZ _ _;rfl
 have mk:=uX (N:=N) (T:=T) (c:=r3.1) (x:=(List.replicate 19 0,st)) (by show st.2<=T;rw[q9V];exact m3.2) 19
 obtain⟨a1,a2,a3,a4,a5,a6⟩:=q58 h mk.2;have h0:=q31 a6
 have hnb:¬(286<257+r1.1\/30<1+r2.1):=fun hc=>by
  rw[if_pos hc]at hst;rw[<-hst]at h0
  exact q6N h0
 have mk1:st.2<=_:=mk.1;have m1':p<=r1.2.2:=m1.1;refine⟨by rw[a1];omega,by rw[a1];omega,by rw[a2];omega,by rw[a2];omega,a3,?_,a5⟩
 exact qa m1' (qa m2.1 (qa m3.1 (qa (Nat.le_of_eq q9V.symm) (qa mk1 a4))))
theorem V2{N T p:Nat}(h:(je N T (0,p)).2.1=0)(hp:qO p<=T):p<=(je N T (0,p)).2.2/\(je N T (0,p)).2.2<=T/\(je N T (0,p)).1<=65535:=by
 unfold je at h⊢
 dsimp only at h⊢
 have m1:=iK (N:=N) (n:=16) (st:=(0,qO p)) hp;have l1:=tP N T 16 (0,qO p);generalize xb N T 16 (0,qO p)=r1 at*;have m2:=iK (N:=N) (n:=16) (st:=r1.2) m1.2;generalize xb N T 16 r1.2=r2 at*;have ha:p<=qO p:=by unfold qO;omega
 have m1':qO p<=r1.2.2:=m1.1;split at h
 ·rename_i hc
  rw[if_pos hc]
  exact⟨qa ha (qa m1' m2.1),m2.2,by omega⟩
 ·rename_i hc
  exfalso
  unfold xf at h;split at h
  ·cases h
  ·rename_i h2;exact h2 h
theorem xA{N T p:Nat}(h8:8∣T)(_hp:p<=T)(h:(jk N T p).2.1=0):
  p+3<=(jk N T p).2.2/\(jk N T p).2.2<=T/\fH ((jk N T p).1.kind:Nat) ((jk N T p).1.size:Nat) (nls (jk N T p).1.lits) (nls (jk N T p).1.dists)=0:=by
 obtain⟨r1,h1⟩:∃r1,r1=jl N T p 1:=⟨_,rfl⟩;obtain⟨a,e1,p1⟩:=r1;obtain⟨r2,h2⟩:∃r2,r2=jl N T p1 2:=⟨_,rfl⟩;obtain⟨k,e2,p2⟩:=r2
 by_cases hb:e1≠0\/e2≠0
 ·rw[wG h1.symm h2.symm hb]at h;cases h
 ·obtain⟨q1,q2⟩:e1=0/\e2=0:=by omega
  subst q1 q2
  have hp1:p1=p+1/\p+1<=T:=by
   unfold jl at h1;split at h1
   ·rename_i hc
    injection h1 with _ h1
    injection h1 with _ h1
    exact⟨h1,hc⟩
   ·injection h1 with _ h1
    injection h1 with h1 _
    cases h1
  have hp2:p2=p+3/\p+3<=T:=by
   rw[hp1.1]at h2;unfold jl at h2;split at h2
   ·rename_i hc
    injection h2 with _ h2
    injection h2 with _ h2
    exact⟨h2,by omega⟩
   ·injection h2 with _ h2
    injection h2 with h2 _
    cases h2
  have hal:qO p2<=T:=by unfold qO;omega
  rw[gO h1.symm h2.symm]at h⊢;unfold dG at h⊢;rw[if_neg (fun z=>z rfl)]at h⊢
  by_cases k0:k=0
  ·rw[if_pos k0]at h⊢
   by_cases hs:(je N T (0,p2)).2.1≠0
   ·rw[if_pos hs]at h;exact absurd h hs
   ·rw[if_neg hs]
    have h0:(je N T (0,p2)).2.1=0:=by simpa using hs
    obtain⟨b1,b2,b3⟩:=V2 h0 hal;refine⟨by show p+3<=(je N T (0,p2)).2.2;omega,b2,?_⟩
    show fH 0 (((je N T (0,p2)).1:Nat):Int) _ _=0
    unfold fH;rw[if_pos rfl,if_neg (by omega)]
  ·rw[if_neg k0]at h⊢
   by_cases k1:k=1
   ·rw[if_pos k1]
    refine⟨by show p+3<=p2;omega,by show p2<=T;omega,?_⟩
    show fH 1 0 _ _=0
    unfold fH;rw[if_neg (by decide),if_pos rfl]
   ·rw[if_neg k1]at h⊢
    by_cases k2:k=2
    ·rw[if_pos k2]at h⊢
     by_cases hs:(dynN N T (0,p2)).2.2.1≠0
     ·rw[if_pos hs]at h;exact absurd h hs
     ·rw[if_neg hs]
      have h0:(dynN N T (0,p2)).2.2.1=0:=by simpa using hs
      obtain⟨b1,b2,b3,b4,b5,b6,b7⟩:=q59 h0 (show p2<=T by omega)
      refine⟨by show p+3<=(dynN N T (0,p2)).2.2.2;omega,b7,?_⟩
      show fH 2 0 (nls (dynN N T (0,p2)).1) (nls (dynN N T (0,p2)).2.1)=0
      unfold fH;rw[if_neg (by decide),if_neg (by decide),if_pos rfl,qB,qB,if_neg (by omega),sM,b5]
    ·rw[if_neg k2]at h;cases h
def bP(s:Nat):Nat×Nat×Bool:=if s=285 then(258,0,true)else if 257<=s/\s<285 then(qL 3 4 (s-257),spB 4 (s-257),true)else(0,0,false)
def gX(s:Nat):Nat×Nat×Bool:=if s<30 then(qL 1 2 s,spB 2 s,true)else(0,0,false)
structure IS where
 md:Nat
 fin:Bool
 left:Nat
 li:List Nat
 di:List Nat
 p:Nat
 h:qK
 st:List (Nat×Nat)
def cE(z:IS):IS:={z with md:=if z.fin then 3 else 0}
def numB(N T p:Nat)(y:Nat×Nat×Bool):Nat×Nat×Nat:=if y.2.2=false then(0,9,p)else(y.1+(jl N T p y.2.1).1,(jl N T p y.2.1).2.1,(jl N T p y.2.1).2.2)
noncomputable def iR(N T pre:Nat)(z:IS):Nat×IS:=
 if(jk N T z.p).2.1≠0 then((jk N T z.p).2.1,z)
 else(0,⟨if(jk N T z.p).1.kind=0 then 1 else 2,(jk N T z.p).1.fin,(jk N T z.p).1.size,(jk N T z.p).1.lits,(jk N T z.p).1.dists,(jk N T z.p).2.2,z.h,z.st++[(z.p,z.h.length-pre)]⟩)
def dI(T:Nat)(bs:qK)(z:IS):Nat×IS:=
 if z.left=0 then(0,cE z)else if min z.left ((T-z.p)/8)=0 then(2,z)
 else(0,{z with left:=z.left-min z.left ((T-z.p)/8),p:=z.p+8*min z.left ((T-z.p)/8),h:=z.h++(bs.drop (z.p/8)).take (min z.left ((T-z.p)/8))})
def nV(z:IS)(n:Nat)(y:Nat×Nat×Nat):Nat×IS:=
 if y.2.1≠0 then(y.2.1,z)else if min z.h.length 32768<y.1 then(10,z)else(0,{z with p:=y.2.2,h:=ju z.h y.1 n})
noncomputable def pZ(N T:Nat)(z:IS)(n p:Nat):Nat×IS:=
 if(j9 z.di (N/2^p) (T-p)).2.1≠0 then((j9 z.di (N/2^p) (T-p)).2.1,z)
 else nV z n (numB N T (p+(j9 z.di (N/2^p) (T-p)).2.2) (gX (j9 z.di (N/2^p) (T-p)).1))
noncomputable def iQ(N T:Nat)(z:IS)(s p:Nat):Nat×IS:=
 if(numB N T p (bP s)).2.1≠0 then((numB N T p (bP s)).2.1,z)else pZ N T z (numB N T p (bP s)).1 (numB N T p (bP s)).2.2
noncomputable def oT(N T:Nat)(z:IS)(r:Nat×Nat×Nat):Nat×IS:=
 if r.2.1≠0 then(r.2.1,z)else if r.1=256 then(0,cE {z with p:=z.p+r.2.2})
 else if 256<r.1 then iQ N T z r.1 (z.p+r.2.2)
 else(0,{z with p:=z.p+r.2.2,h:=z.h++[UInt8.ofNat r.1]})
noncomputable def oU(N T:Nat)(z:IS):Nat×IS:=oT N T z (j9 z.li (N/2^z.p) (T-z.p))
noncomputable def stI(N T pre:Nat)(bs:qK)(z:IS):Nat×IS:=
 if z.md=0 then iR N T pre z else if z.md=1 then dI T bs z else if z.md=2 then oU N T z else(0,z)
def lF(pre:Nat)(y:Nat×IS):Nat×IS:=
 if y.1≠0 then y else if 16777216<y.2.h.length-pre then(3,{y.2 with h:=y.2.h.take (pre+16777216)})else y
noncomputable def j5(N T pre:Nat)(bs:qK)(z0:IS):Nat->Nat×IS
 |0=>(0,z0)
 |k+1=>if(j5 N T pre bs z0 k).1≠0\/(j5 N T pre bs z0 k).2.md=3 then j5 N T pre bs z0 k else lF pre (stI N T pre bs (j5 N T pre bs z0 k).2)
structure IOk(T pre:Nat)(z:IS):Prop where
 p:z.p<=T
 md:z.md<=3
 al:z.md=1->z.p%8=0
 left:z.left<=65535
 li:bE (nls z.li)=0\/z.md≠2
 di:bE (nls z.di)=0\/z.md≠2
 hpre:pre<=z.h.length
 big:z.h.length-pre<=16777216
theorem fT{N T p n:Nat}(h:(jl N T p n).2.1=0):(jl N T p n).2.2=p+n/\p+n<=T:=by
 unfold jl at h⊢;split at h
 ·rename_i hc
  rw[if_pos hc];exact⟨rfl,hc⟩
 ·cases h
theorem V3{N T p:Nat}(h:(je N T (0,p)).2.1=0):(je N T (0,p)).2.2%8=0:=by
 have ha:qO p%8=0:=by unfold qO;omega
 unfold je xb xf at h⊢;simp only at h⊢;generalize qO p=q at*;simp only[if_true]at h⊢
 by_cases h1:(jl N T q 16).2.1=0
 ·obtain⟨e1,-⟩:=fT h1
  simp only[h1,if_true]at h⊢
  by_cases h2:(jl N T (jl N T q 16).2.2 16).2.1=0
  ·obtain⟨e2,-⟩:=fT h2
   split at h
   ·rename_i hc
    rw[if_pos hc];rw[e2,e1];omega
   ·exact absurd h (by simp)
  ·split at h
   ·exact absurd h h2
   ·simp[h2]at h
 ·simp only[h1,if_false]at h
  split at h
  ·exact absurd h h1
  ·exact absurd h h1
theorem lG{N T p:Nat}(h:(jk N T p).2.1=0):
  ((jk N T p).1.kind=0/\(jk N T p).2.2%8=0)\/((jk N T p).1.kind=1/\(jk N T p).1.lits=lM/\(jk N T p).1.dists=oH)\/(jk N T p).1.kind=2:=by
 unfold jk at h⊢;generalize decide ((xb N T 1 (0,p)).1=1)=fin at*;generalize (xb N T 2 (xb N T 1 (0,p)).2).1=k at*;generalize (xb N T 2 (xb N T 1 (0,p)).2).2=st at*;unfold dG at h⊢
 by_cases h0:st.1≠0
 ·rw[if_pos h0]at h;exact absurd h h0
 rw[if_neg h0]at h⊢;obtain⟨a,b⟩:=st;obtain rfl:a=0:=by simpa using h0
 by_cases k0:k=0
 ·rw[if_pos k0]at h⊢
  by_cases h1:(je N T (0,b)).2.1≠0
  ·rw[if_pos h1]at h;exact absurd h h1
  ·rw[if_neg h1]
   exact .inl ⟨rfl,V3 (by simpa using h1)⟩
 rw[if_neg k0]at h⊢
 by_cases k1:k=1
 ·rw[if_pos k1];exact .inr (.inl ⟨rfl,rfl,rfl⟩)
 rw[if_neg k1]at h⊢
 by_cases k2:k=2
 ·rw[if_pos k2]at h⊢
  by_cases h1:(dynN N T (0,b)).2.2.1≠0
  ·rw[if_pos h1]at h;exact absurd h h1
  ·rw[if_neg h1];exact .inr (.inr rfl)
 ·rw[if_neg k2]at h;cases h
theorem q32:bE (nls lM)=0:=by decide+kernel
theorem q33:bE (nls oH)=0:=by decide+kernel
theorem zW{l:List Int}{b:Bool}(h:bJ l b=0):bE l=0:=by
 unfold bJ at h
 by_cases h1:bE l≠0
 ·rw[if_pos h1]at h;exact absurd h h1
 ·simpa using h1
theorem P1{N T p:Nat}(h8:8∣T)(hp:p<=T)(h:(jk N T p).2.1=0):(jk N T p).1.kind≠0->bE (nls (jk N T p).1.lits)=0/\bE (nls (jk N T p).1.dists)=0:=by
 intro hk;obtain⟨-,-,hm⟩:=xA h8 hp h
 rcases lG h with⟨h0,-⟩|⟨h1,h2,h3⟩|h2
 ·exact absurd h0 hk
 ·rw[h2,h3];exact⟨q32,q33⟩
 ·rw[h2]at hm
  change fH 2 _ _ _=0 at hm
  unfold fH at hm;rw[if_neg (by decide),if_neg (by decide),if_pos rfl]at hm
  split at hm
  ·cases hm
  ·unfold bI at hm
   split at hm
   ·cases hm
   ·split at hm
    ·rename_i h4;exact absurd hm h4
    ·rename_i h4
     exact⟨zW (by simpa using h4),zW hm⟩
theorem zX{N T p:Nat}(h8:8∣T)(hp:p<=T)(h:(jk N T p).2.1=0):(jk N T p).1.size<=65535:=by
 obtain⟨-,-,hm⟩:=xA h8 hp h
 rcases lG h with⟨h0,-⟩|⟨h1,-⟩|h2
 ·rw[h0]at hm
  change fH 0 _ _ _=0 at hm
  unfold fH at hm;rw[if_pos rfl]at hm;split at hm
  ·cases hm
  ·omega
 ·unfold jk dG at h1⊢
  split
  ·exact qc _
  ·rename_i h0
   rw[if_neg h0]at h1;split
   ·rename_i k0
    rw[if_pos k0]at h1;split
    ·exact qc _
    ·rename_i hs;rw[if_neg hs]at h1;cases h1
   ·split
    ·exact qc _
    ·split
     ·split<;>exact qc _
     ·exact qc _
 ·unfold jk dG at h2⊢
  split
  ·exact qc _
  ·rename_i h0
   rw[if_neg h0]at h2;split
   ·rename_i k0
    rw[if_pos k0]at h2;split
    ·exact qc _
    ·rename_i hs;rw[if_neg hs]at h2;cases h2
   ·split
    ·exact qc _
    ·split
     ·split<;>exact qc _
     ·exact qc _
def muI(T:Nat)(z:IS):Nat:=2*(T-z.p)+(if z.md=1 then 1 else 0)
structure uY(T pre:Nat)(z z':IS):Prop where
 p:z'.p<=T
 md:z'.md<=3
 al:z'.md=1->z'.p%8=0
 left:z'.left<=65535
 li:bE (nls z'.li)=0\/z'.md≠2
 di:bE (nls z'.di)=0\/z'.md≠2
 mu:muI T z'<muI T z
 ap:∃c,z'.h=z.h++c/\c.length<=65535
theorem mL{N T p:Nat}{y:Nat×Nat×Bool}(h:(numB N T p y).2.1=0):y.2.2=true/\(numB N T p y).2.2=p+y.2.1/\p+y.2.1<=T/\(numB N T p y).1=y.1+dF N p y.2.1:=by
 unfold numB at h⊢
 by_cases h1:y.2.2=false
 ·rw[if_pos h1]at h;cases h
 ·rw[if_neg h1]at h⊢
  obtain⟨h2,h3⟩:=fT h;refine⟨by simpa using h1,h2,h3,?_⟩
  show y.1+(jl N T p y.2.1).1=_
  unfold jl;rw[if_pos h3]
theorem P2(L:List Nat)(V left:Nat):(j9 L V left).2.2<=left:=rX (dP L V left)
theorem q16{L:List Nat}{V left:Nat}(h:(j9 L V left).2.1=0):1<=(j9 L V left).2.2/\(j9 L V left).1<L.length/\(j9 L V left).2.2=L.getD (j9 L V left).1 0/\lQ L V (j9 L V left).1:=by
 rcases dP L V left with⟨h1,h2,h3,h4,h5⟩|⟨h1,h2,h3,h4⟩
 ·have:=h2.1
  exact⟨by rw[h5];omega,h1,h5,h2⟩
 ·rw[h]at h4;split at h4<;>cases h4
theorem nW(b:qK)(d:Nat):∀k,∃c,ju b d k=b++c/\c.length=k
 |0=>⟨[],by simp[ju],rfl⟩
 |k+1=>by
  obtain⟨c,h1,h2⟩:=nW b d k;refine⟨c++[(ju b d k).getD ((ju b d k).length-d) 0],?_,by simp[h2]⟩
  rw[ju,h1]
  simp
theorem xB(z:IS):(cE z).md=3\/(cE z).md=0:=by unfold cE;simp only;split<;>simp
theorem xC(z:IS):(cE z).md≠1/\(cE z).md≠2:=by rcases xB z with h|h<;>rw[h]<;>decide
theorem I4{s:Nat}(h:(bP s).2.2=true):(bP s).1<=258/\(bP s).2.1<=5/\3<=(bP s).1/\(bP s).1+2^(bP s).2.1<=259:=by
 unfold bP at h⊢
 by_cases h1:s=285
 ·rw[if_pos h1];decide
 ·rw[if_neg h1]at h⊢
  by_cases h2:257<=s/\s<285
  ·rw[if_pos h2]
   have hk:∀i,i<28->qL 3 4 i<=258/\spB 4 i<=5/\3<=qL 3 4 i/\qL 3 4 i+2^spB 4 i<=259:=by decide+kernel
   have h3:s-257<28:=by omega
   generalize s-257=i at*
   exact hk i h3
  ·rw[if_neg h2]at h;cases h
theorem I5{s:Nat}(h:(gX s).2.2=true):1<=(gX s).1/\(gX s).2.1<=13/\(gX s).1+2^(gX s).2.1<=32769:=by
 unfold gX at h⊢
 by_cases h2:s<30
 ·rw[if_pos h2]
  have hk:∀i,i<30->1<=qL 1 2 i/\spB 2 i<=13/\qL 1 2 i+2^spB 2 i<=32769:=by decide+kernel
  exact hk s h2
 ·rw[if_neg h2]at h;cases h
theorem mM(N p n:Nat):dF N p n<2^n:=Nat.mod_lt _ (Nat.pow_pos (by decide))
theorem q34{T pre n:Nat}{z:IS}{y:Nat×Nat×Nat}(hi:IOk T pre z)(h2:z.md=2)(hn:n<=65535)(hy:y.2.1=0->z.p<y.2.2/\y.2.2<=T)(h:(nV z n y).1=0):uY T pre z (nV z n y).2:=by
 unfold nV at h⊢
 by_cases h0:y.2.1≠0
 ·rw[if_pos h0]at h;exact absurd h h0
 rw[if_neg h0]at h⊢;obtain⟨y1,y2⟩:=hy (by simpa using h0)
 by_cases h1:min z.h.length 32768<y.1
 ·rw[if_pos h1]at h;cases h
 rw[if_neg h1];obtain⟨c,c1,c2⟩:=nW z.h y.1 n;refine⟨y2,hi.md,fun e=>absurd (h2.symm.trans e) (by decide),hi.left,hi.li,hi.di,?_,c,c1,by omega⟩
 unfold muI;simp only[h2];have:=hi.p
 simp
 omega
theorem q5a{N T pre s p:Nat}{z:IS}(hi:IOk T pre z)(h2:z.md=2)(hp:z.p<p)(h:(iQ N T z s p).1=0):uY T pre z (iQ N T z s p).2:=by
 unfold iQ at h⊢
 by_cases h0:(numB N T p (bP s)).2.1≠0
 ·rw[if_pos h0]at h;exact absurd h h0
 rw[if_neg h0]at h⊢;obtain⟨n1,n2,n3,n4⟩:=mL (by simpa using h0)
 obtain⟨l1,l2,l3,l4⟩:=I4 n1;have hv:=mM N p (bP s).2.1;unfold pZ at h⊢
 by_cases h3:(j9 z.di (N/2^(numB N T p (bP s)).2.2) (T-(numB N T p (bP s)).2.2)).2.1≠0
 ·rw[if_pos h3]at h;exact absurd h h3
 rw[if_neg h3]at h⊢;have hl:=P2 z.di (N/2^(numB N T p (bP s)).2.2) (T-(numB N T p (bP s)).2.2);refine q34 hi h2 (by rw[n4];omega) (fun e=>?_) h
 obtain⟨m1,m2,m3,-⟩:=mL e;rw[m2]
 exact⟨by omega,m3⟩
theorem q5b{N T pre:Nat}{z:IS}(hi:IOk T pre z)(h2:z.md=2)(h:(oU N T z).1=0):uY T pre z (oU N T z).2:=by
 unfold oU at h⊢;have hl:=P2 z.li (N/2^z.p) (T-z.p);have q9P:=q16 (L:=z.li) (V:=N/2^z.p) (left:=T-z.p);generalize j9 z.li (N/2^z.p) (T-z.p)=r at*;have:=hi.p;unfold oT at h⊢
 by_cases h0:r.2.1≠0
 ·rw[if_pos h0]at h;exact absurd h h0
 rw[if_neg h0]at h⊢;obtain⟨h1,-⟩:=q9P (by simpa using h0)
 by_cases h3:r.1=256
 ·rw[if_pos h3]
  obtain⟨g1,g2⟩:=xC {z with p:=z.p+r.2.2}
  refine⟨by show z.p+r.2.2<=T;omega,by rcases xB {z with p:=z.p+r.2.2}with e|e<;>rw[e]<;>decide,fun e=>absurd e g1,hi.left,.inr g2,.inr g2,?_,[],by simp[cE],by simp⟩
  unfold muI;rw[if_neg g1,if_neg (by rw[h2];decide)]
  show 2*(T-(z.p+r.2.2))+0<_
  omega
 rw[if_neg h3]at h⊢
 by_cases h4:256<r.1
 ·rw[if_pos h4]at h⊢
  exact q5a hi h2 (by omega) h
 rw[if_neg h4];refine⟨by show z.p+r.2.2<=T;omega,hi.md,fun e=>absurd (h2.symm.trans e) (by decide),hi.left,hi.li,hi.di,?_,_,rfl,by simp⟩
 unfold muI;simp only[h2]
 simp
 omega
theorem q35{T pre:Nat}{bs:qK}{z:IS}(hi:IOk T pre z)(h1:z.md=1)(h:(dI T bs z).1=0):uY T pre z (dI T bs z).2:=by
 unfold dI at h⊢
 by_cases h0:z.left=0
 ·rw[if_pos h0]
  obtain⟨g1,g2⟩:=xC z;refine⟨hi.p,by rcases xB z with e|e<;>rw[e]<;>decide,fun e=>absurd e g1,hi.left,.inr g2,.inr g2,?_,[],by simp[cE],by simp⟩
  unfold muI;rw[if_neg g1,if_pos h1]
  show 2*(T-z.p)+0<_
  omega
 rw[if_neg h0]at h⊢
 by_cases h2:min z.left ((T-z.p)/8)=0
 ·rw[if_pos h2]at h;cases h
 rw[if_neg h2];have hp:=hi.p;have ha:=hi.al h1;have hl:=hi.left;refine⟨by show z.p+8*min z.left ((T-z.p)/8)<=T;omega,hi.md,fun _=>by show(z.p+8*min z.left ((T-z.p)/8))%8=0;omega,by show z.left-_<=_;omega,hi.li,hi.di,?_,_,rfl,by rw[List.length_take];omega⟩
 unfold muI;simp only[h1]
 simp
 omega
theorem q36{N T pre:Nat}{z:IS}(h8:8∣T)(hi:IOk T pre z)(h1:z.md=0)(h:(iR N T pre z).1=0):uY T pre z (iR N T pre z).2:=by
 unfold iR at h⊢
 by_cases h0:(jk N T z.p).2.1≠0
 ·rw[if_pos h0]at h;exact absurd h h0
 rw[if_neg h0];have he:(jk N T z.p).2.1=0:=by simpa using h0
 obtain⟨b1,b2,-⟩:=xA h8 hi.p he;have hk:=lG he;have hr:=P1 h8 hi.p he;have hz:=zX h8 hi.p he;refine⟨b2,by show(if _ then 1 else 2)<=3;split<;>decide,fun e=>?_,hz,?_,?_,?_,[],by simp,by simp⟩
 ·have e':(if(jk N T z.p).1.kind=0 then 1 else 2)=1:=e
  rcases hk with⟨-,k2⟩|⟨k1,-⟩|k1
  ·exact k2
  ·rw[k1]at e';cases e'
  ·rw[k1]at e';cases e'
 ·show bE (nls (jk N T z.p).1.lits)=0\/(if(jk N T z.p).1.kind=0 then 1 else 2)≠2
  by_cases k:(jk N T z.p).1.kind=0
  ·rw[if_pos k];exact .inr (by decide)
  ·exact .inl (hr k).1
 ·show bE (nls (jk N T z.p).1.dists)=0\/(if(jk N T z.p).1.kind=0 then 1 else 2)≠2
  by_cases k:(jk N T z.p).1.kind=0
  ·rw[if_pos k];exact .inr (by decide)
  ·exact .inl (hr k).2
 ·unfold muI
  show 2*(T-(jk N T z.p).2.2)+(if(if(jk N T z.p).1.kind=0 then 1 else 2)=1 then 1 else 0)<_
  rw[if_neg (show¬z.md=1 by rw[h1];decide)]
  have:(if(if(jk N T z.p).1.kind=0 then 1 else 2)=1 then 1 else 0)<=1:=by
   generalize (if(jk N T z.p).1.kind=0 then 1 else 2)=q
   by_cases hq:q=1
   ·rw[if_pos hq];exact q9 _
   ·rw[if_neg hq];exact qc _
  omega
theorem q17{N T pre:Nat}{bs:qK}{z:IS}(h8:8∣T)(hi:IOk T pre z)(hm:z.md≠3)(h:(stI N T pre bs z).1=0):uY T pre z (stI N T pre bs z).2:=by
 unfold stI at h⊢
 by_cases h0:z.md=0
 ·rw[if_pos h0]at h⊢;exact q36 h8 hi h0 h
 rw[if_neg h0]at h⊢
 by_cases h1:z.md=1
 ·rw[if_pos h1]at h⊢;exact q35 hi h1 h
 rw[if_neg h1]at h⊢
 by_cases h2:z.md=2
 ·rw[if_pos h2]at h⊢;exact q5b hi h2 h
 ·have:=hi.md;omega
end Go.Cm
namespace Go.Cm
def kI(K:Nat)(l:qK):qK:=l.drop (l.length-K)
theorem zY(K:Nat)(l:qK):(kI K l).length=min l.length K:=by unfold kI;rw[List.length_drop];omega
theorem zZ{K:Nat}{l:qK}(h:l.length<=K):kI K l=l:=by unfold kI;rw[show l.length-K=0 by omega,List.drop_zero]
theorem uZ{K:Nat}{l:qK}{k:Nat}(h:k+K<=l.length):kI K (l.drop k)=kI K l:=by
 unfold kI;rw[List.drop_drop,List.length_drop,show k+(l.length-k-K)=l.length-K by omega]
theorem q18(K:Nat)(x c:qK):kI K (x++c)=kI K (kI K x++c):=by
 by_cases h:x.length<=K
 ·rw[zZ h]
 ·have e:kI K x++c=(x++c).drop (x.length-K):=by
   unfold kI;rw[List.drop_append,show x.length-K-x.length=0 by omega,List.drop_zero]
  rw[e,uZ (by rw[qg];omega)]
theorem q37{K:Nat}{l:qK}{d:Nat}(_h1:1<=d)(h2:d<=l.length)(h3:d<=K):l.getD (l.length-d) 0=(kI K l).getD ((kI K l).length-d) 0:=by
 rw[zY];unfold kI;simp only[List.getD,List.getElem?_drop];rw[show l.length-K+(min l.length K-d)=l.length-d by omega]
def j8(l:qK):qK:=kI 32768 l
theorem nX(l:qK):(j8 l).length=min l.length 32768:=zY _ l
theorem gT{l:qK}(h:l.length<=32768):j8 l=l:=zZ h
theorem V4(l:qK):j8 (j8 l)=j8 l:=gT (by rw[nX];omega)
theorem V5{l:qK}{k:Nat}(h:k+32768<=l.length):j8 (l.drop k)=j8 l:=uZ h
theorem A0(x c:qK):j8 (x++c)=j8 (j8 x++c):=q18 _ x c
theorem lH{b H:qK}(h:j8 b=j8 H)(c:qK):j8 (b++c)=j8 (H++c):=by rw[A0 b,h,<-A0]
theorem nY{b H:qK}(h:j8 b=j8 H):min b.length 32768=min H.length 32768:=by rw[<-nX,<-nX,h]
theorem P3{l:qK}{d:Nat}(h1:1<=d)(h2:d<=l.length)(h3:d<=32768):l.getD (l.length-d) 0=(j8 l).getD ((j8 l).length-d) 0:=q37 h1 h2 h3
theorem sX{b H:qK}{d:Nat}(h:j8 b=j8 H)(h1:1<=d)(h2:d<=H.length)(h3:d<=32768):∀k,∃c,ju b d k=b++c/\ju H d k=H++c/\c.length=k
 |0=>⟨[],by simp[ju],by simp[ju],rfl⟩
 |k+1=>by
  obtain⟨c,e1,e2,e3⟩:=sX h h1 h2 h3 k;have hm:=nY h;have hc:=lH h c
  have q1:(b++c).getD ((b++c).length-d) 0=(H++c).getD ((H++c).length-d) 0:=by
   have a1:=P3 (l:=b++c) h1 (by rw[qg];omega) h3
   have a2:=P3 (l:=H++c) h1 (by rw[qg];omega) h3
   rw[a1,a2,hc]
  refine⟨c++[(b++c).getD ((b++c).length-d) 0],?_,?_,by simp[e3]⟩
  ·rw[ju,e1,qh]
  ·rw[ju,e2,q1,qh]
theorem sY(b:qK)(d m:Nat):∀k,ju b d (m+k)=ju (ju b d m) d k
 |0=>rfl
 |k+1=>by rw[<-Nat.add_assoc,ju,ju,sY b d m k]
theorem vA{x:qK}{d:Nat}(hd:d<=x.length):∀m,m<=d->ju x d m=x++(x.drop (x.length-d)).take m
 |0,_=>by simp[ju]
 |m+1,hm=>by
  have ih:=vA hd m (by omega)
  rw[ju,ih];have hl:((x.drop (x.length-d)).take m).length=m:=by rw[List.length_take,List.length_drop];omega
  have e:(x++(x.drop (x.length-d)).take m).getD ((x++(x.drop (x.length-d)).take m).length-d) 0=x.getD (x.length-d+m) 0:=by
   rw[qg,hl];simp only[List.getD];rw[List.getElem?_append_left (by omega)]
   congr 2;omega
  rw[e,qh];refine congrArg (x++ ·) ?_
  have hlt:m<(x.drop (x.length-d)).length:=by rw[List.length_drop];omega
  rw[List.take_succ_eq_append_getElem hlt,List.getElem_drop];simp only[List.getD];rw[List.getElem?_eq_getElem (by omega),Option.getD_some]
theorem q19{N T pre:Nat}{bs:qK}{z:IS}(h:(stI N T pre bs z).1≠0):(stI N T pre bs z).2=z:=by
 unfold stI at h⊢
 by_cases h0:z.md=0
 ·rw[if_pos h0]at h⊢
  unfold iR at h⊢;split
  ·rfl
  ·rename_i hc;rw[if_neg hc]at h;exact absurd rfl h
 rw[if_neg h0]at h⊢
 by_cases h1:z.md=1
 ·rw[if_pos h1]at h⊢
  unfold dI at h⊢;split
  ·rename_i hc;rw[if_pos hc]at h;exact absurd rfl h
  ·rename_i hc
   rw[if_neg hc]at h;split
   ·rfl
   ·rename_i hd;rw[if_neg hd]at h;exact absurd rfl h
 rw[if_neg h1]at h⊢
 by_cases h2:z.md=2
 ·rw[if_pos h2]at h⊢
  unfold oU oT at h⊢;split
  ·rfl
  ·rename_i hc
   rw[if_neg hc]at h;split
   ·rename_i hd;rw[if_pos hd]at h;exact absurd rfl h
   ·rename_i hd
    rw[if_neg hd]at h;split
    ·rename_i he
     rw[if_pos he]at h;unfold iQ at h⊢;split
     ·rfl
     ·rename_i hf
      rw[if_neg hf]at h;unfold pZ at h⊢;split
      ·rfl
      ·rename_i hg
       rw[if_neg hg]at h;unfold nV at h⊢;split
       ·rfl
       ·rename_i hh
        rw[if_neg hh]at h;split
        ·rfl
        ·rename_i hj;rw[if_neg hj]at h;exact absurd rfl h
    ·rename_i he;rw[if_neg he]at h;exact absurd rfl h
 ·rw[if_neg h2]
section
variable {N T pre : Nat} {bs : qK} {z0 : IS}
abbrev aK(y:Nat×IS):Prop:=y.1≠0\/y.2.md=3
theorem fD{k:Nat}(h:¬aK (j5 N T pre bs z0 k)):j5 N T pre bs z0 (k+1)=lF pre (stI N T pre bs (j5 N T pre bs z0 k).2):=if_neg h
theorem bQ{k:Nat}(h:aK (j5 N T pre bs z0 k)):∀m,j5 N T pre bs z0 (k+m)=j5 N T pre bs z0 k
 |0=>rfl
 |m+1=>by
  show(if aK (j5 N T pre bs z0 (k+m))then j5 N T pre bs z0 (k+m)else _)=_
  rw[bQ h m,if_pos h]
theorem cW(h8:8∣T)(hi:IOk T pre z0):∀k,(pre<=(j5 N T pre bs z0 k).2.h.length/\(j5 N T pre bs z0 k).2.h.length-pre<=16777216)/\((j5 N T pre bs z0 k).1=0->IOk T pre (j5 N T pre bs z0 k).2/\(aK (j5 N T pre bs z0 k)\/muI T (j5 N T pre bs z0 k).2+k<=muI T z0))/\∃c,(j5 N T pre bs z0 (k+1)).2.h=(j5 N T pre bs z0 k).2.h++c:=by
 have step:∀k,((pre<=(j5 N T pre bs z0 k).2.h.length/\(j5 N T pre bs z0 k).2.h.length-pre<=16777216)/\((j5 N T pre bs z0 k).1=0->IOk T pre (j5 N T pre bs z0 k).2/\(aK (j5 N T pre bs z0 k)\/muI T (j5 N T pre bs z0 k).2+k<=muI T z0)))->
   ((pre<=(j5 N T pre bs z0 (k+1)).2.h.length/\(j5 N T pre bs z0 (k+1)).2.h.length-pre<=16777216)/\((j5 N T pre bs z0 (k+1)).1=0->IOk T pre (j5 N T pre bs z0 (k+1)).2/\(aK (j5 N T pre bs z0 (k+1))\/muI T (j5 N T pre bs z0 (k+1)).2+(k+1)<=muI T z0)))/\∃c,(j5 N T pre bs z0 (k+1)).2.h=(j5 N T pre bs z0 k).2.h++c:=by
  intro k ⟨⟨a1,a2⟩,a3⟩
  by_cases hs:aK (j5 N T pre bs z0 k)
  ·have e:=bQ hs 1
   rw[e]
   exact⟨⟨⟨a1,a2⟩,fun h=>⟨(a3 h).1,.inl hs⟩⟩,[],by simp⟩
  ·rw[fD hs]
   generalize j5 N T pre bs z0 k=y at*;obtain⟨er,z⟩:=y;simp only at hs a1 a2 a3⊢;obtain rfl:er=0:=by omega
   obtain⟨iok,hmu⟩:=a3 rfl;have hm3:z.md≠3:=fun e=>hs (.inr e)
   have qgE:muI T z+k<=muI T z0:=by
    rcases hmu with h|h
    ·exact absurd h hs
    ·exact h
   by_cases he:(stI N T pre bs z).1=0
   ·obtain⟨b1,b2,b3,b4,b5,b6,b7,c,b8,b9⟩:=q17 (bs:=bs) (pre:=pre) h8 iok hm3 he
    unfold lF;generalize hM:(16777216:Nat)=M at*;rw[if_neg (by rw[he];exact fun h=>h rfl)]
    have hl:(stI N T pre bs z).2.h.length=z.h.length+c.length:=by rw[b8,qg]
    by_cases hb:M<(stI N T pre bs z).2.h.length-pre
    ·rw[if_pos hb]
     refine⟨⟨⟨by show pre<=(List.take _ _).length;rw[List.length_take];omega,by show(List.take _ _).length-pre<=_;rw[List.length_take];omega⟩,fun h=>by cases h⟩,c.take (pre+M-z.h.length),?_⟩
     show(stI N T pre bs z).2.h.take (pre+M)=_
     rw[b8,List.take_append,List.take_of_length_le (by omega)]
    ·rw[if_neg hb]
     refine⟨⟨⟨by omega,by omega⟩,fun _=>⟨⟨b1,b2,b3,b4,b5,b6,by omega,by omega⟩,.inr (by omega)⟩⟩,c,b8⟩
   ·have e:=q19 he
    unfold lF;rw[if_pos he,e]
    exact⟨⟨⟨a1,a2⟩,fun h=>absurd h he⟩,[],by simp⟩
 have all:∀k,((pre<=(j5 N T pre bs z0 k).2.h.length/\(j5 N T pre bs z0 k).2.h.length-pre<=16777216)/\((j5 N T pre bs z0 k).1=0->IOk T pre (j5 N T pre bs z0 k).2/\(aK (j5 N T pre bs z0 k)\/muI T (j5 N T pre bs z0 k).2+k<=muI T z0))):=by
  intro k
  induction k with
  |zero=>exact⟨⟨hi.hpre,hi.big⟩,fun _=>⟨hi,.inr (q9 _)⟩⟩
  |succ k ih=>exact(step k ih).1
 exact fun k=>⟨(all k).1,(all k).2,(step k (all k)).2⟩
noncomputable def q44(N T pre:Nat)(bs:qK)(z0:IS):Nat×IS:=j5 N T pre bs z0 (2*T+2)
theorem xD(h8:8∣T)(hi:IOk T pre z0):aK (q44 N T pre bs z0):=by
 apply qf
 intro hn;obtain⟨-,h,-⟩:=cW (N:=N) (bs:=bs) h8 hi (2*T+2)
 have he:(j5 N T pre bs z0 (2*T+2)).1=0:=by
  apply qf
  intro h0;exact hn (.inl h0)
 rcases(h he).2 with h1|h1
 ·exact hn h1
 ·have:muI T z0<=2*T+1:=by unfold muI;split<;>omega
  omega
theorem vB(h8:8∣T)(hi:IOk T pre z0){k:Nat}(h:aK (j5 N T pre bs z0 k)):q44 N T pre bs z0=j5 N T pre bs z0 k:=by
 have hf:=xD (N:=N) (bs:=bs) h8 hi;unfold q44 at hf⊢
 rcases Nat.le_total k (2*T+2)with hle|hle
 ·obtain⟨m,hm⟩:=Nat.exists_eq_add_of_le hle
  rw[hm,bQ h m]
 ·obtain⟨m,hm⟩:=Nat.exists_eq_add_of_le hle
  rw[hm,bQ hf m]
theorem P4(h8:8∣T)(hi:IOk T pre z0)(k:Nat):∀m,∃c,(j5 N T pre bs z0 (k+m)).2.h=(j5 N T pre bs z0 k).2.h++c
 |0=>⟨[],by simp⟩
 |m+1=>by
  obtain⟨c,h1⟩:=P4 h8 hi k m;obtain⟨-,-,d,h2⟩:=cW (N:=N) (bs:=bs) h8 hi (k+m)
  exact⟨c++d,by rw[<-Nat.add_assoc,h2,h1,qh]⟩
theorem q5c(h8:8∣T)(hi:IOk T pre z0)(k:Nat):∃c,(q44 N T pre bs z0).2.h=(j5 N T pre bs z0 k).2.h++c:=by
 have hf:=xD (N:=N) (bs:=bs) h8 hi;obtain⟨c,h1⟩:=P4 (N:=N) (bs:=bs) h8 hi k (2*T+2);refine⟨c,?_⟩;rw[<-h1,Nat.add_comm];unfold q44 at hf⊢;rw[bQ hf k]
end
end Go.Cm
namespace Go.Cm
open Go.RowKit Go.Proofs
structure E2(w:World)(B gw:Nat)(vb:Value)(b:qK):Prop where
 box:Own w B 232 (.slice (some ⟨gw,0,none⟩) 2 2) [.bool true,vb]
 own:Own w B 5 vb (qD b)
 ne:vb.ownBlock≠some gw
theorem E2.up{w w':World}{B gw:Nat}{vb:Value}{b:qK}(h:E2 w B gw vb b)(hb:Below w.heap.size w w'):E2 w' B gw vb b:=⟨h.box.up hb,h.own.up hb,h.ne⟩
theorem E2.fx{S:Nat->Prop}{w w':World}{B gw:Nat}{vb:Value}{b:qK}(h:E2 w B gw vb b)(hf:Fx S w w')(h1:¬S gw)(h2:∀k,vb.ownBlock=some k->¬S k):E2 w' B gw vb b:=
 ⟨hf.own h.box (fun k hk=>by injection hk with hk;subst hk;exact h1),hf.own h.own h2,h.ne⟩
def iS(w:World)(B gw:Nat)(vb:Value)(H:qK):Prop:=∃b,E2 w B gw vb b/\j8 b=j8 H/\b.length<=131072
theorem iS.up{w w':World}{B gw:Nat}{vb:Value}{H:qK}(h:iS w B gw vb H)(hb:Below w.heap.size w w'):iS w' B gw vb H:=by obtain⟨b,h1,h2⟩:=h;exact⟨b,h1.up hb,h2⟩
theorem iS.fx{S:Nat->Prop}{w w':World}{B gw:Nat}{vb:Value}{H:qK}(h:iS w B gw vb H)(hf:Fx S w w')(h1:¬S gw)(h2:∀k,vb.ownBlock=some k->¬S k):iS w' B gw vb H:=by obtain⟨b,h3,h4⟩:=h;exact⟨b,h3.fx hf h1 h2,h4⟩
abbrev WFx(gw:Nat)(vb:Value)(w w':World):Prop:=Fx (fun k=>k=gw\/vb.ownBlock=some k) w w'
theorem Own.trim{w:World}{B E q n cap m:Nat}{xs:List Value}(h:Own w B E (.slice (some ⟨q,0,none⟩) n cap) xs)(hm:m<=n):
  ∃cur,w.heap[q]? =some (.cells cur E (0,0))/\(∀(j:Nat) (v:Value),(xs.drop (n-m))[j]? =some v->w.cell? ((⟨q,n-m,none⟩:Addr).add j)=some v)/\m<=cur.size/\(xs.drop (n-m)).length=m/\
   Own (w.setRow q ((xs.drop (n-m))++cur.toList.drop m).toArray) B E (.slice (some ⟨q,0,none⟩) m cap) (xs.drop (n-m))/\w.grownBy (w.setRow q ((xs.drop (n-m))++cur.toList.drop m).toArray) (some q):=by
 have hl:=h.len;have hsm:=h.2;have hc:∀i,i<xs.length->w.cell? ⟨q,i,none⟩=some (xs.getD i undef):=fun i hi=>h.cell hi
 obtain⟨⟨h0,h1⟩,-⟩:=h
 rcases h1 with⟨e,-⟩|⟨g,cap',cur,e,hb,hg,hnc,hcm,hcs,q91⟩
 ·cases e
 ·injection e with e1 e2 e3
  injection e1 with e1
  injection e1 with e1
  subst e1;subst e3;subst hl;have hdl:(xs.drop (xs.length-m)).length=m:=by rw[List.length_drop];omega
  refine⟨cur,hg,fun j v hj=>?_,by omega,hdl,⟨⟨by omega,.inr ⟨q,cap,_,by rw[hdl],hb,setRow_heap w q cur _ E _ hg,by omega,hcm,?_,?_⟩⟩,by omega⟩,?_⟩
  ·have hjl:=(List.getElem?_eq_some_iff.1 hj).1
   rw[List.length_drop]at hjl;rw[aZ,hc _ (by omega)]
   rw[List.getElem?_drop]at hj;rw[List.getD_eq_getElem?_getD,hj];rfl
  ·simp only[List.size_toArray,qg,List.length_drop,Array.length_toList];omega
  ·show List.take _ _=_
   rw[show(xs.drop (xs.length-m)).length*1=(xs.drop (xs.length-m)).length by omega,List.take_append_of_le_length (q9 _),List.take_length]
  ·exact⟨rfl,rfl,rfl,by simp[World.setRow],fun k hk hne=>setRow_other w q k _ (fun e=>hne (by rw[e]))⟩
theorem oV{P:Program}{w:World}{ops:Array Oper}{rest:List Oper}{o:Oper}{a:Act}{Q:Exit->Act->World->Prop}(hgd:o.guard=none)(d s:Operand)(dT sT:TypeId)
  (ho:o.op=.call {callee:=.builtin .copy,args:=#[d,s],argTypes:=#[dT,sT]}) (elem:TypeId) (hu:P.underlying dT=some (.slice elem)) (hsz:(P.info? elem).map (·.size)=some 1)
  (g dLen dCap:Nat) (ad:Addr) (sLen sCap:Nat) (hd:a.eval d=.slice (some ⟨g,0,none⟩) dLen dCap) (hs:a.eval s=.slice (some ad) sLen sCap)
  (cur:Array Value) (t:TypeId) (hg:w.heap[g]? =some (.cells cur t (0,0))) (cs:List Value) (m:Nat) (hm:cs.length=m) (hn:m=Nat.min sLen dLen)
  (qdC:∀(j:Nat) (v:Value),cs[j]? =some v->w.cell? (ad.add j)=some v) (qcf:m<=cur.size) (h1:∀v∈cs,v.oneCell'=true)
  (h:wpList P ops Q rest (a.put o.dst (.int .i64 (m:Nat))) (w.setRow g (cs++cur.toList.drop m).toArray)):wpList P ops Q (o::rest) a w:=by
 subst hm;refine wpList_copy_own hgd d s dT sT ho elem hu hsz g 0 dLen dCap ad sLen sCap hd hs cur t hg cs hn qdC (by omega) h1 ?_
 simpa[goInt]using h
theorem I6{w:World}{B gw:Nat}{vb:Value}{b:qK}(h:E2 w B gw vb b):Calls Tryz.prog 176 #[.pointer (some ⟨gw,0,none⟩)] w fun e w'=>e=.returned (.bool true)/\w'=w:=by
 have c0:w.cell? ⟨gw,0,none⟩=some (.bool true):=h.box.cell (by simp)
 go_enter Tryz.func176,Tryz.ntmps176
 go_wp2;go_ret
 exact⟨rfl,rfl⟩
theorem q7R{w:World}{B gw:Nat}{vb:Value}{H:qK}(h:iS w B gw vb H):Calls Tryz.prog 213 #[.pointer (some ⟨gw,0,none⟩)] w fun e w'=>e=.returned (.int .i64 (min H.length 32768:Nat))/\w'=w:=by
 obtain⟨b,hV,hl,hm⟩:=h;have HT:=q7 (I6 hV);obtain⟨oa,cap,q,hv,hd,-⟩:=hV.own.cases;rw[qz]at hv hd;have c1:w.cell? ⟨gw,1,none⟩=some vb:=hV.box.cell (by simp)
 subst hv;obtain⟨k,hk⟩:∃k,k=min H.length 32768:=⟨_,rfl⟩;have hk2:k=min b.length 32768:=by rw[hk,<-nY hl]
 rw[<-hk];have HK:=q7 hk2;clear hk hk2 hd hl
 go_enter Tryz.func213,Tryz.ntmps213
 go_wp2_with(first|((with_reducible go_at_call 176);(with_reducible refine HT.out.mono ?_);rintro e w' ⟨rfl,hw⟩;subst hw)|((with_reducible show wpList _ _ _ (Oper.mk _ (.call _) _ _ _ _::_) _ _);refine iH rfl (.tmp 10) (.const (.int .i64 32768)) 3 3 rfl b.length 32768 k rfl rfl HK.out ?_))
 go_ret
 exact⟨rfl,rfl⟩
theorem q45{w:World}{B gw:Nat}{vb:Value}{b:qK}(h:E2 w B gw vb b)(hlen:b.length<=100000000):Calls Tryz.prog 177 #[.pointer (some ⟨gw,0,none⟩)] w fun e w'=>e=.returned (.tuple #[])/\∃vb',iS w' B gw vb' b/\vb'.ownBlock=vb.ownBlock/\WFx gw vb w w':=by
 have c1:w.cell? ⟨gw,1,none⟩=some vb:=h.box.cell (by simp)
 have f1:=h.box.free 1;have hgw:=h.box.blk.2
 by_cases q90:131072<b.length
 ·have HV:=q7 h
  obtain⟨oa,cap,q,hv,hd,ho,-⟩:=h.own.cases;rw[qz]at hv hd ho;have hoa:=hd.hat (by omega)
  subst hoa;have hcap:=hd.hcap;have hm:=hd.len;subst hv;have hqb:=(h.own.blk).2;have hne:gw≠q:=fun e=>h.ne (by rw[e];rfl)
  have hbi:(b.length:Int)>131072:=by omega
  obtain⟨n0,hn0⟩:∃n0,n0=b.length-32768:=⟨_,rfl⟩;have hni:(b.length:Int)-32768=(n0:Nat):=by omega
  have HT:=q7 ((h.up (qC w 1)).own.trim (m:=32768) (by omega))
  rw[<-World.drew_is_drewN,<-hn0,iG]at HT;have HN0:=q7 hn0;have HLB:Hid (j8 (b.drop n0)=j8 b/\(b.drop n0).length<=131072):=q7 ⟨V5 (by omega),by rw[List.length_drop];omega⟩
  have hsl:∀W:World,(Instr.sliceAt 49 (.slice (some ⟨q,0,none⟩) b.length cap) (some (.int .i64 (n0:Int))) none none).run Tryz.prog W=.ok (.slice (some ⟨q,n0,none⟩) 32768 (cap-n0)) W:=fun W=>by
   obtain⟨h1,h2⟩:=vY (P:=Tryz.prog) 49 5 Tryz.underlying49 (by kernel_rfl)
   rw[run_sliceAt_slice (P:=Tryz.prog) (t:=49) (h:=h1),run_slice_l (t:=49) (ht:=h1) (h0:=by omega) (h1:=by omega),h2]
   simp only[Result.andThen];unfold sliced;rw[Int.toNat_natCast,if_neg (by omega),show b.length-n0=32768 by omega]
   simp[aZ]
  have hs2:∀W:World,(Instr.sliceAt 49 (.slice (some ⟨q,0,none⟩) b.length cap) none (some (.int .i64 ((32768:Nat):Int))) none).run Tryz.prog W=.ok (.slice (some ⟨q,0,none⟩) 32768 cap) W:=fun W=>by
   obtain⟨h1,h2⟩:=vY (P:=Tryz.prog) 49 5 Tryz.underlying49 (by kernel_rfl)
   rw[run_sliceAt_slice (P:=Tryz.prog) (t:=49) (h:=h1),run_slice_h (t:=49) (ht:=h1) (h0:=by omega) (h2:=by omega),h2]
   simp only[Result.andThen];unfold sliced;rw[Int.toNat_natCast,if_neg (by omega)]
   simp[aZ]
  have HS2:=q7 hs2;clear h hd ho q90 hn0 hs2
  go_enter Tryz.func177,Tryz.ntmps177
  go_wp2;refine jw (fun w'=>∃x,w'=ext w x) [0,1,2,3,4,5,6,7,8,9,10,11,12,13,14] [] [15,16] (by kernel_rfl) (by kernel_rfl) (qt (qC w 1)) ?_
  simp only[pk]
  repeat(go_big_quiet_step (fail))
  refine wpQuiet_nil ?_;obtain⟨cur,hrow,qdC,hcs,hdl,qex,hgr⟩:=HT.out;have HRW:=q7 hrow;have HSR:=q7 qdC;have HCS:=q7 hcs;have HDL:=q7 hdl;have HNW:=q7 qex;have HGR:=q7 hgr;clear hrow qdC hcs hdl qex hgr HT;unfold qy;unfold qy
  go_wp2_with((refine oV rfl (.tmp 12) (.tmp 23) 49 49 rfl 5 Tryz.underlying49 (by kernel_rfl) q b.length cap ⟨q,n0,none⟩ 32768 (cap-n0) rfl rfl cur 5 HRW.out (qD (b.drop n0)) 32768 HDL.out (Nat.min_eq_left (by omega)).symm HSR.out HCS.out (gC _) ?_))
  refine⟨trivial,?_⟩;have HBX:=q7 ((HV.out.box.up (qC w 1)));rw[<-World.drew_is_drewN]at HBX;have HB2:=q7 (HBX.out.keep HGR.out (.inr (fun e=>hne (by injection e))))
  have qku:=HNW
  have HF2:Hid (WFx gw (.slice (some ⟨q,0,none⟩) b.length cap) w (w.drew.setRow q (qD (b.drop n0)++cur.toList.drop 32768).toArray)):=q7 (by
   have h1:w.grownBy w.drew none:=qV w none
   exact(jn h1 (by intro k e;cases e)).grown HGR.out (fun k e=>.inl (.inr (by rw[<-e];rfl))))
  generalize w.drew.setRow q (qD (b.drop n0)++cur.toList.drop 32768).toArray=w2 at*;have c1:w2.cell? ⟨gw,1,none⟩=some (.slice (some ⟨q,0,none⟩) b.length cap):=HB2.out.cell (by simp)
  have f1:=HB2.out.free 1;have hgw:=HB2.out.blk.2;have hs2:=HS2.out;have HST:=q7 (HB2.out.store 1 (.slice (some ⟨q,0,none⟩) 32768 cap));clear HV HSR HRW HCS HDL HGR HNW HBX hsl HS2
  (unfold qy;go_wp2;refine⟨trivial,?_⟩)
  unfold qy;go_wp2
  go_end0
  have hqg:(Value.slice (some ⟨q,0,none⟩) 32768 cap).ownBlock≠some gw:=fun e=>hne (by injection e with e;exact e.symm)
  exact⟨rfl,_,⟨b.drop n0,⟨by simpa using HST.out.1,qku.out.keep HST.out.2 (.inr hqg),hqg⟩,HLB.out.1,HLB.out.2⟩,rfl,HF2.out.grown HST.out.2 (fun k e=>.inl (.inl (by injection e with e;exact e.symm)))⟩
 ·have hbi:¬(b.length:Int)>131072:=by omega
  obtain⟨oa,cap,q,hv,hd,-⟩:=h.own.cases;rw[qz]at hv hd;have hm:=hd.len;have HA:Hid (iS w B gw vb b):=q7 ⟨b,h,rfl,by omega⟩
  clear h hd;subst hv
  go_enter Tryz.func177,Tryz.ntmps177
  go_wp2
  go_end0
  exact⟨rfl,_,HA.out,rfl,Fx.refl _ _⟩
theorem E2.push{w w5:World}{B gw:Nat}{vb v':Value}{b c:qK}(h:E2 w B gw vb b)(hown:Own w5 B 5 v' (qD b++qD c))(hg:w.grownBy w5 vb.ownBlock)(hk:∀k,v'.ownBlock=some k->vb.ownBlock=some k\/w.heap.size<=k):
  E2 (w5.setCell ⟨gw,1,none⟩ v') B gw v' (b++c)/\WFx gw vb w (w5.setCell ⟨gw,1,none⟩ v'):=by
 have hbx:=h.box.keep hg (.inr (fun e=>h.ne e.symm))
 have hst:=hbx.store 1 v'
 have hne:v'.ownBlock≠some gw:=fun e=>by
  rcases hk gw e with h1|h1
  ·exact h.ne h1
  ·have:=h.box.blk.2;omega
 refine⟨⟨by simpa using hst.1,?_,hne⟩,(jn hg (fun k e=>.inr e)).grown hst.2 (fun k e=>.inl (.inl (by injection e with e;exact e.symm)))⟩
 rw[jC]
 exact hown.keep hst.2 (.inr hne)
theorem WFx.next{gw:Nat}{vb vb':Value}{w w1 w2:World}(h:WFx gw vb w w1)(hk:∀k,vb'.ownBlock=some k->vb.ownBlock=some k\/w.heap.size<=k)(k:WFx gw vb' w1 w2):WFx gw vb w w2:=
 ⟨k.os.trans h.os,k.tape.trans h.tape,k.output.trans h.output,qa h.size k.size,fun i hi h1=>by
  rw[k.block i (qd hi h.size) (fun e=>?_),h.block i hi h1]
  rcases e with e|e
  ·exact h1 (.inl e)
  ·rcases hk i e with h2|h2
   ·exact h1 (.inr h2)
   ·omega⟩
theorem q5d{w:World}{B gw:Nat}{vb:Value}{H:qK}(h:iS w B gw vb H)(hB:B<=w.heap.size)(s:ByteArray)(hs:s.size<=50000000):Calls Tryz.prog 154 #[.pointer (some ⟨gw,0,none⟩),.string s] w fun e w'=>e=.returned (.tuple #[])/\∃vb',iS w' B gw vb' (H++bys s)/\(∀k,vb'.ownBlock=some k->vb.ownBlock=some k\/w.heap.size<=k)/\WFx gw vb w w':=by
 obtain⟨b,hV,hl,hm⟩:=h;have HT:=q7 (I6 hV);have HV:=q7 hV;have c1:w.cell? ⟨gw,1,none⟩=some vb:=hV.box.cell (by simp)
 have f1:=hV.box.free 1;have hgw:=hV.box.blk.2;have HL:=q7 hl;have HB:=q7 hB;have HLN:Hid ((qD b).length+s.size<=4294967296):=q7 (by rw[qz];omega)
 have HLM:Hid ((b++s.data.toList).length<=100000000):=q7 (by rw[qg];have:=qF s;unfold bys at this;omega)
 clear hV hl hB hm hs
 go_enter Tryz.func154,Tryz.ntmps154
 go_wp2_with(first|((with_reducible go_at_call 176);(with_reducible refine HT.out.mono ?_);rintro e w' ⟨rfl,hw⟩;subst hw)|(at_builtin;go_loud (refine dQ rfl (.tmp 10) (.tmp 11) 49 9 rfl B 5 (.int .u8 0) 1 Tryz.underlying49 Tryz.underlying9 (by kernel_rfl) rfl (by decide) vb (qD b) rfl HV.out.own s rfl HLN.out HB.out ?_);intro v' w5 hown1 hg1 hk1;obtain⟨hW,hF⟩:=HV.out.push hown1 hg1 hk1;have hb5:=HV.out.box.keep hg1 (.inr (fun e=>HV.out.ne e.symm));have c5:w5.cell? ⟨gw,1,none⟩=some vb:=hb5.cell (by simp);have f5:=hb5.free 1;have g5:=hb5.blk.2;obtain⟨o5,k5,q5,hv5,-⟩:=hown1.cases;obtain⟨l5,hl5⟩:∃l5,l5=(qD b++qD s.data.toList).length:=⟨_,rfl⟩;rw[<-hl5]at hv5;subst hv5;have HW:=q7 hW;have HF:=q7 hF;have HK:=q7 hk1;clear hown1 hg1 hk1 hb5 hl5 hW hF)|((with_reducible go_at_call 177);(with_reducible refine(q45 HW.out HLM.out).mono ?_);rintro e w7 ⟨rfl,v7,hw7,ho7,hf7⟩;have HW7:=q7 hw7;have HO7:=q7 ho7;have HF7:=q7 hf7;clear hw7 ho7 hf7))
 go_end0
 obtain⟨b7,h1,h2,h3⟩:=HW7.out;refine⟨rfl,v7,⟨b7,h1,h2.trans (lH HL.out _),h3⟩,fun k e=>HK.out k (by rw[<-HO7.out];exact e),HF.out.next HK.out HF7.out⟩
theorem E2.B{w:World}{B gw:Nat}{vb:Value}{b:qK}(h:E2 w B gw vb b):B<=gw/\gw<w.heap.size:=h.box.blk
theorem q7S(s:ByteArray)(hs:s.size<=50000000)(w:World):Calls Tryz.prog 123 #[.string s] w fun e w'=>∃gw vb,e=.returned (.pointer (some ⟨gw,0,none⟩))/\iS w' w.heap.size gw vb (bys s)/\w.heap.size<=gw/\gw<w'.heap.size/\Below w.heap.size w w':=by
 have hw1:iS (w.alloc (.cells #[.bool true,.slice none 0 0] 232)) w.heap.size w.heap.size (.slice none 0 0) []:=by
  have h:=qE w w.heap.size #[.bool true,.slice none 0 0] 232 (by simp) (q9 _)
  exact⟨[],⟨by simpa using h,Own.nil _ _ _,by simp[Value.ownBlock]⟩,rfl,by simp⟩
 have HP:=q7 (q5d hw1 (qn w _).size s hs);have HA:=q7 (qn w (.cells #[.bool true,.slice none 0 0] 232));clear hw1
 go_enter Tryz.func123,Tryz.ntmps123
 go_wp2_with(first|((with_reducible go_at_call 154);(with_reducible refine HP.out.mono ?_);rintro e w7 ⟨rfl,v7,hw7,ho7,hf7⟩;have HW7:=q7 hw7;have HO7:=q7 ho7;have HF7:=q7 hf7;clear hw7 ho7 hf7))
 go_ret;refine⟨_,v7,rfl,by simpa using HW7.out,q9 _,?_,?_⟩
 ·obtain⟨b,h,-⟩:=HW7.out
  exact h.B.2
 ·exact HF7.out.below HA.out HA.out.size (fun k e=>by
   rcases e with e|e
   ·omega
   ·simp[Value.ownBlock]at e)
def I7(B gw:Nat)(vb:Value)(H:qK)(d n:Nat)(w:World)(e:Ending)(w':World):Prop:=
 if min H.length 32768<d then e=.returned (.tuple #[.string ⟨#[]⟩,.int .i64 10])/\w'=w
 else∃c vb',e=.returned (.tuple #[.string ⟨c.toArray⟩,.int .i64 0])/\ju H d n=H++c/\c.length=n/\iS w' B gw vb' (H++c)/\(∀k,vb'.ownBlock=some k->vb.ownBlock=some k\/w.heap.size<=k)/\WFx gw vb w w'
theorem q6O{w:World}{B gw:Nat}{vb:Value}{H:qK}(h:iS w B gw vb H)(hB:B<=w.heap.size)(d n:Nat)(hd1:1<=d)(hd2:d<=40000)(hn:n<=65536):Calls Tryz.prog 211 #[.pointer (some ⟨gw,0,none⟩),.int .i64 (d:Nat),.int .i64 (n:Nat)] w (I7 B gw vb H d n w):=by
 have HL0:=q7 (q7R h);obtain⟨b,hV,hl,hm⟩:=h;have HT:=q7 (I6 hV);have HV:=q7 hV;have HL:=q7 hl;have HB:=q7 hB;have HN:=q7 hn;have hn1:decide ((n:Int)<0)=false:=by rw[qm];omega
 have hn2:decide ((n:Int)>65536)=false:=by rw[qm];omega
 have hd3:decide ((d:Int)<1)=false:=by rw[qm];omega
 unfold I7
 by_cases q90:min H.length 32768<d
 ·simp only[if_pos q90]
  generalize min H.length 32768=k at*;have hbi:(d:Int)>(k:Int):=by omega
  clear hV hl hB hn hd2 hm q90
  go_enter Tryz.func211,Tryz.ntmps211
  go_wp2_with(first|((with_reducible go_at_call 176);(with_reducible refine HT.out.mono ?_);rintro e w' ⟨rfl,hw⟩;rw[hw];clear hw)|((with_reducible go_at_call 213);(with_reducible refine HL0.out.mono ?_);rintro e w' ⟨rfl,hw⟩;rw[hw];clear hw))
  go_ret2
  exact⟨rfl,rfl⟩
 ·simp only[if_neg q90]
  have hdH:d<=H.length/\d<=32768:=by omega
  have hdb:d<=b.length:=by have:=nY hl;omega
  obtain⟨C,hc1,hc2,hc3⟩:=sX hl hd1 hdH.1 hdH.2 n;have HC1:=q7 hc1;have HC2:=q7 hc2;have HC3:=q7 hc3;have HDB:=q7 hdb;have HM:=q7 hm;generalize min H.length 32768=k at*;have hbi:decide (k<d)=false:=by rw[qm];omega
  obtain⟨o0,k0,q0,hv0,-⟩:=hV.own.cases;rw[qz]at hv0;have c1:w.cell? ⟨gw,1,none⟩=some vb:=hV.box.cell (by simp)
  have hgw:=hV.box.blk.2;have HVB:=q7 hv0;rw[hv0]at c1;clear hV hl hB hdb hdH q90 hc1 hc2 hc3 hm hv0 hn hd2
  go_enter Tryz.func211,Tryz.ntmps211
  go_wp2_with(first|((with_reducible go_at_call 176);(with_reducible refine HT.out.mono ?_);rintro e w' ⟨rfl,hw⟩;rw[hw];clear hw)|((with_reducible go_at_call 213);(with_reducible refine HL0.out.mono ?_);rintro e w' ⟨rfl,hw⟩;rw[hw];clear hw))
  go_loopg [9] (n+1) (fun gk lv wr=>∃(i:Nat) (vi:Value),lv=.int .i64 ((n-i:Nat):Int)/\i<=n/\E2 wr B gw vi (ju b d i)/\(∀k,vi.ownBlock=some k->vb.ownBlock=some k\/w.heap.size<=k)/\WFx gw vb w wr/\gk=n-i+1)
  case atStart=>exact⟨0,vb,rfl,qc _,HV.out,fun k e=>.inl e,Fx.refl _ _,rfl⟩
  case round=>
   obtain⟨i,vi,rfl,hi,hvi,hki,hfi,rfl⟩:=hrel;have HVI:=q7 hvi;have HKI:=q7 hki;have HFI:=q7 hfi;have HSZ:Hid (B<=wr.heap.size):=q7 (qa HB.out hfi.size);obtain⟨ci,qha,qh9⟩:=nW b d i;have hxl:(ju b d i).length=b.length+i:=by rw[qha,qg,qh9]
   obtain⟨ox,kx,qx,hvx,hdx,-⟩:=hvi.own.cases;rw[qz]at hvx hdx;have hmx:=hdx.len;have c1:wr.cell? ⟨gw,1,none⟩=some vi:=hvi.box.cell (by simp)
   have f1:=hvi.box.free 1;have g1:=hvi.box.blk.2
   have HPC:Hid (∀m,m<=d->m<=n-i->ju b d (i+m)=ju b d i++((ju b d i).drop ((ju b d i).length-d)).take m):=q7 (fun m h1 _=>by
    rw[sY,vA (by rw[hxl];have:=HDB.out;omega) m h1])
   have qeR:d<=(ju b d i).length:=by rw[hxl];have:=HDB.out;omega
   have HXL:Hid ((ju b d i).length<=131072+65536):=q7 (by rw[hxl];have:=HM.out;have:=HN.out;omega)
   clear hki hfi qha qh9 hxl;obtain⟨x,hx⟩:∃x,x=ju b d i:=⟨_,rfl⟩;rw[<-hx]at HPC qeR hvi HVI hvx hdx hmx HXL;have HX:=q7 hx;clear hx;subst hvx
   by_cases hlt:i<n
   ·obtain⟨r,hr⟩:∃r,r=n-i:=⟨_,rfl⟩
    rw[<-hr]at HPC⊢;have hr0:0<r:=by omega
    obtain⟨n1,hn1⟩:∃n1,n1=x.length-d:=⟨_,rfl⟩;have hni:(x.length:Int)-(d:Int)=(n1:Nat):=by omega
    obtain⟨m,hm⟩:∃m,m=min r d:=⟨_,rfl⟩;have hm2:m<=r:=by omega
    obtain⟨u,hu,huS⟩:=hvi.own.sl.high (P:=Tryz.prog) 49 5 Tryz.underlying49 (by kernel_rfl) n1 (by rw[qz];omega)
    rw[iG]at huS;obtain⟨u2,hu2,qdz⟩:=huS.low (P:=Tryz.prog) 49 5 Tryz.underlying49 (by kernel_rfl) m (by rw[qz,List.length_drop];omega)
    rw[F6]at qdz;have hpl:((x.drop n1).take m).length=m:=by rw[List.length_take,List.length_drop];omega
    obtain⟨o2,k2,b2,f2,hv2,hd2,-⟩:=id qdz;rw[qz,hpl]at hv2 hd2;have hml:=hd2.len;have HSL:=q7 qdz;obtain⟨ou,ku,bu,fu,hvu,-⟩:=id huS;rw[qz,List.length_drop,show x.length-n1=d by omega]at hvu
    have HE:Hid (x++(x.drop n1).take m=ju b d (i+m)):=q7 (by rw[hn1];exact(HPC.out m (by omega) hm2).symm)
    have HLP:Hid ((qD x).length+(qD ((x.drop n1).take m)).length<=4294967296):=q7 (by rw[qz,qz,hpl];have:=HXL.out;have:=HN.out;omega)
    have HMM:=q7 hm;have hrm:(r:Int)-(m:Int)=((r-m:Nat):Int):=by omega
    have HM1:Hid (1<=m):=q7 (by omega)
    have HR:=q7 hr;have HPL:=q7 hpl;clear qdz huS hdx hd2 HPC hn1 hm hr hpl hvi qeR;subst hv2;subst hvu;have HU2:=q7 hu2;clear hu2
    go_wp2_with(fail)
    refine qY (by kernel_rfl) (by kernel_rfl) ?_
    repeat(go_big_quiet_step (fail))
    refine wpQuiet_nil ?_;rintro w1 ⟨y,rfl⟩;have HB1:=q7 (qu wr y);have HV1:=q7 (HVI.out.up HB1.out);have HS1:=q7 (HSL.out.up HB1.out);have HZ1:Hid (B<=(ext wr y).heap.size):=q7 (qa HSZ.out HB1.out.size);generalize ext wr y=w1 at*;have c1:w1.cell? ⟨gw,1,none⟩=some (.slice ox x.length kx):=HV1.out.box.cell (by simp)
    have g1:=HV1.out.box.blk.2
    go_wp2_with(first|((with_reducible show wpList _ _ _ (Oper.mk _ (.call _) _ _ _ _::_) _ _);refine iH rfl (.tmp 54) (.tmp 55) 3 3 rfl r d m rfl rfl HMM.out ?_)|((with_reducible show wpList _ _ _ (Oper.mk _ (.slice _ _ _ _ _) _ _ _ _::_) _ _);refine jQ rfl 49 (.tmp 53) none (some (.tmp 56)) none rfl _ (HU2.out _) ?_)|(at_builtin;go_loud (refine jt rfl (.tmp 62) (.tmp 63) 49 rfl B 5 (.int .u8 0) 1 Tryz.underlying49 (by kernel_rfl) rfl (by decide) _ (qD x) rfl HV1.out.own _ _ rfl HS1.out (gC _) HLP.out HZ1.out ?_);intro v' w5 hown1 hg1 hk1;obtain⟨hW,hF⟩:=HV1.out.push hown1 hg1 hk1;have hb5:=HV1.out.box.keep hg1 (.inr (fun e=>HV1.out.ne e.symm));have c5:w5.cell? ⟨gw,1,none⟩=some (.slice ox x.length kx):=hb5.cell (by simp);have f5:=hb5.free 1;have g5:=hb5.blk.2;obtain⟨o5,k5,q5,hv5,-⟩:=hown1.cases;obtain⟨l5,hl5⟩:∃l5,l5=(qD x++qD ((x.drop n1).take m)).length:=⟨_,rfl⟩;rw[<-hl5]at hv5;subst hv5;have HW:=q7 hW;have HF:=q7 hF;have HK:=q7 hk1;clear hown1 hg1 hk1 hb5 hl5 hW hF))
    have hNI:n-(i+m)=r-m:=by have:=HR.out;omega
    have hr6:r-m<=100000:=by have:=HR.out;have:=HN.out;omega
    have HW2:Hid (E2 (w5.setCell ⟨gw,1,none⟩ (.slice o5 l5 k5)) B gw (.slice o5 l5 k5) (ju b d (i+m))):=q7 (by rw[<-HE.out];exact HW.out)
    have HKK:Hid (∀k,(Value.slice o5 l5 k5).ownBlock=some k->vb.ownBlock=some k\/w.heap.size<=k):=q7 (fun k e=>by
     rcases HK.out k e with h|h
     ·exact HKI.out k h
     ·exact .inr (qa HFI.out.size (qa HB1.out.size h)))
    have HFF:Hid (WFx gw vb w (w5.setCell ⟨gw,1,none⟩ (.slice o5 l5 k5))):=q7 (HFI.out.next HKI.out ((qP HB1.out).trans (HF.out.mono (fun k hk=>hk))))
    have hmm:=HM1.out;have qkW:Hid (wrap64 ((r-m:Nat):Int)=((n-(i+m):Nat):Int)):=q7 (by rw[hNI,IntWalk.wrap64_in _ ⟨by omega,by omega⟩])
    go_roundg (n-(i+m)+1)
    case measure=>have:=HR.out;omega
    case rel=>exact⟨i+m,_,by rw[qkW.out],by have:=HR.out;omega,HW2.out,HKK.out,HFF.out,rfl⟩
   ·obtain rfl:i=n:=by omega
    have HCX:Hid (x=b++C):=q7 (by rw[HX.out,HC1.out])
    obtain⟨u,hu,huS⟩:=hvi.own.sl.high (P:=Tryz.prog) 49 5 Tryz.underlying49 (by kernel_rfl) b.length (by rw[qz,HCX.out,qg];omega)
    rw[iG,show x.drop b.length=C by rw[HCX.out,List.drop_left]]at huS
    have HCV:=q7 (j7 (P:=Tryz.prog) wr 49 9 5 Tryz.underlying49 Tryz.underlying5 Tryz.underlying9 u C huS);have HU:=q7 hu;have HTR:=q7 (q45 HVI.out (by have:=HXL.out;omega))
    have hz:((i-i:Nat):Int)=0:=by rw[Nat.sub_self];rfl
    rw[hz];clear hu huS hvi hdx HPC qeR
    go_wp2_with(first|((with_reducible show wpList _ _ _ (Oper.mk _ (.slice _ _ _ _ _) _ _ _ _::_) _ _);refine jQ rfl 49 (.tmp 74) (some (.tmp 75)) none none rfl _ (HU.out _) ?_)|((with_reducible show wpList _ _ _ (Oper.mk _ (.convert _ _ _) _ _ _ _::_) _ _);refine aD rfl 49 9 (.tmp 76) rfl _ HCV.out ?_)|((with_reducible go_at_call 177);(with_reducible refine HTR.out.mono ?_);rintro e w7 ⟨rfl,v7,hw7,ho7,hf7⟩;have HW7:=q7 hw7;have HO7:=q7 ho7;have HF7:=q7 hf7;clear hw7 ho7 hf7))
    go_ret2
    obtain⟨b7,h1,h2,h3⟩:=HW7.out;refine⟨C,v7,rfl,HC2.out,HC3.out,⟨b7,h1,h2.trans (by rw[HCX.out];exact lH HL.out _),h3⟩,fun k e=>HKI.out k (by rw[<-HO7.out];exact e),HFI.out.next HKI.out HF7.out⟩
theorem q1a{P:Program}{C:World->Prop}{o:Oper}{a:Act}{K:Act->Prop}(x y:Operand)(t1 t2:TypeId)(ho:o.op=.call {callee:=.builtin .min,args:=#[x,y],argTypes:=#[t1,t2]})(m n k:Nat)(hx:a.eval x=.int .i64 m)(hy:a.eval y=.int .i64 n)(hk:k=min m n)(h:K (a.put o.dst (.int .i64 k))):o.quiet P a C K:=by
 refine⟨.int .i64 k,fun w' _=>?_,h⟩
 have hr:=run_min_int2 (P:=P) (w:=w') #[t1,t2] o.type .i64 .i64 (m:Int) (n:Int);have hkk:(if(n:Int)<(m:Int)then(n:Int)else(m:Int))=(k:Int):=by rw[hk];split<;>omega
 rw[hkk]at hr;unfold Oper.quietAt execOp;simp only[ho,resolve,invoke,builtin,Sem.run_bind,Sem.run_pure,Result.andThen_ok,List.map_toArray,List.map_cons,List.map_nil,hx,hy,hr,Oper.quietUpon]
 exact⟨trivial,trivial⟩
theorem mN{P:Program}{C:World->Prop}{o:Oper}{a:Act}{K:Act->Prop}(t:TypeId)(x:Operand)(lo hi mx:Option Operand)(ho:o.op=.slice t x lo hi mx)(v:Value)(hr:∀w',C w'->(Instr.sliceAt t (a.eval x) (lo.map a.eval) (hi.map a.eval) (mx.map a.eval)).run P w'=.ok v w')(h:K (a.put o.dst v)):o.quiet P a C K:=by
 refine⟨v,fun w' hw'=>?_,h⟩
 unfold Oper.quietAt execOp;simp only[ho,Sem.run_bind,Sem.run_pure,Result.andThen_ok,hr w' hw',Oper.quietUpon]
 exact⟨trivial,trivial⟩
end Go.Cm
namespace Go.Cm
def C6(N T:Nat):List (Nat×Nat)->Nat->Prop
 |[],_=>True
 |x::xs,p=>dF N p x.2=x.1/\p+x.2<=T/\C6 N T xs (p+x.2)
theorem q4d{a p v n:Nat}(h:a<2^p)(hv:v<2^n):a+v*2^p<2^(p+n):=by
 have h1:(v+1)*2^p<=2^n*2^p:=Nat.mul_le_mul_right _ hv;rw[Nat.add_mul,Nat.one_mul,Nat.mul_comm (2^n),<-Nat.pow_add]at h1;omega
theorem xN{N L p M:Nat}(h:N%2^L=M)(hp:p<=L):N%2^p=M%2^p:=by
 rw[<-h,Nat.mod_mod_of_dvd _ (Nat.pow_dvd_pow 2 hp)]
theorem Q8(xs:List (Nat×Nat)):∀(st:Nat×Nat),st.1<2^st.2->(∀x∈xs,x.1<2^x.2)->(jh xs st).1<2^(jh xs st).2/\(jh xs st).1%2^st.2=st.1/\st.2<=(jh xs st).2:=by
 induction xs with
 |nil=>intro st h _;exact⟨h,Nat.mod_eq_of_lt h,q9 _⟩
 |cons x xs ih=>
  intro st h hx;rw[sJ];have h1:=q4d h (hx x (List.mem_cons_self ..));obtain⟨i1,i2,i3⟩:=ih (st.1+x.1*2^st.2,st.2+x.2) h1 (fun y hy=>hx y (List.mem_cons_of_mem _ hy))
  simp only at i2 i3;refine⟨i1,?_,by omega⟩
  rw[xN i2 (Nat.le_add_right _ _),Nat.add_mul_mod_self_right,Nat.mod_eq_of_lt h]
theorem iL(N T:Nat)(xs:List (Nat×Nat)):∀(st:Nat×Nat),st.1<2^st.2->(∀x∈xs,x.1<2^x.2)->N%2^(jh xs st).2=(jh xs st).1->(jh xs st).2<=T->C6 N T xs st.2:=by
 induction xs with
 |nil=>intro st _ _ _ _;trivial
 |cons x xs ih=>
  intro st h hx hN hT;rw[sJ]at hN hT;have h1:=q4d h (hx x (List.mem_cons_self ..));have hx':∀y∈xs,y.1<2^y.2:=fun y hy=>hx y (List.mem_cons_of_mem _ hy)
  obtain⟨i1,i2,i3⟩:=Q8 xs (st.1+x.1*2^st.2,st.2+x.2) h1 hx';have i4:=ih (st.1+x.1*2^st.2,st.2+x.2) h1 hx' hN hT;simp only at i2 i3 i4;refine⟨?_,by omega,i4⟩
  have e:=xN hN i3;rw[i2]at e;unfold dF;rw[<-Nat.mod_mul_right_div_self,<-Nat.pow_add,e,Nat.add_mul_div_right _ _ (Nat.two_pow_pos _),Nat.div_eq_of_lt h,Nat.zero_add]
theorem mP(l m:List UInt8):kB (l++m)=kB l+256^l.length*kB m:=by
 induction l with
 |nil=>simp[kB]
 |cons b l ih=>
  show b.toNat+256*kB (l++m)=(b.toNat+256*kB l)+256^(l.length+1)*kB m
  rw[ih,Nat.pow_succ,Nat.mul_add,Nat.mul_comm (256^l.length) 256,Nat.mul_assoc];omega
theorem oA(N k:Nat):(dX N k).length=k:=by simp[dX]
theorem W2(N k:Nat):kB (dX N k)=N%256^k:=by
 induction k with
 |zero=>simp[dX,kB,Nat.mod_one]
 |succ k ih=>
  have e:dX N (k+1)=dX N k++[UInt8.ofNat (jz N k)]:=by simp[dX,List.range_succ]
  rw[e,mP,ih,oA,Nat.pow_succ,Nat.mod_mul]
  congr 1
  have:kB [UInt8.ofNat (jz N k)]=jz N k:=by
   show(UInt8.ofNat (jz N k)).toNat+256*0=_
   rw[UInt8.toNat_ofNat',Nat.mod_eq_of_lt (s7 N k)];omega
  rw[this];rfl
theorem t9(N L:Nat):fI N L=dX N ((L+7)/8):=rfl
theorem pO(N L:Nat):(fI N L).length=(L+7)/8:=by rw[t9,oA]
theorem q1H{N L:Nat}(h:N<2^L):kB (fI N L)=N:=by
 rw[t9,W2,dW,Nat.mod_eq_of_lt]
 exact qd h (qe (by decide) (by omega))
theorem kM{N T p v n:Nat}{xs:List (Nat×Nat)}(h:C6 N T ((v,n)::xs) p):xb N T n (0,p)=(v,(0,p+n)):=by
 obtain⟨h1,h2,-⟩:=h;simp only at h1 h2;unfold xb jl;rw[if_pos rfl];simp only[if_pos h2,h1]
theorem tA{N T:Nat}{ys:List (Nat×Nat)}:∀{xs:List (Nat×Nat)} {p:Nat},C6 N T (xs++ys) p->C6 N T xs p
 |[],_,_=>trivial
 |_::_,_,h=>⟨h.1,h.2.1,tA h.2.2⟩
theorem pC{N T:Nat}{ys:List (Nat×Nat)}:∀{xs:List (Nat×Nat)} {p:Nat},C6 N T (xs++ys) p->C6 N T ys (p+(xs.map Prod.snd).sum)
 |[],p,h=>by simpa using h
 |x::xs,p,h=>by
  have:=pC (xs:=xs) h.2.2;rw[List.map_cons,List.sum_cons,<-Nat.add_assoc]
  exact this
theorem q1I{N T:Nat}:∀{xs:List (Nat×Nat)} {p k:Nat},C6 N T xs p->(∀x∈xs,x.2=3)->k<xs.length->xb N T 3 (0,p+3*k)=((xs.getD k (0,0)).1,(0,p+3*(k+1)))
 |x::xs,p,0,h,h3,_=>by
  obtain⟨v,n⟩:=x;have e:n=3:=h3 _ (List.mem_cons_self ..);subst e;have:=kM h
  simpa using this
 |x::xs,p,k+1,h,h3,hk=>by
  have e:x.2=3:=h3 x (List.mem_cons_self ..);have h':=h.2.2;rw[e]at h';have:=q1I (k:=k) h' (fun y hy=>h3 y (List.mem_cons_of_mem _ hy)) (by simpa using hk)
  rw[show p+3*(k+1)=p+3+3*k by omega,this,List.getD_cons_succ,show p+3+3*(k+1)=p+3*(k+1+1) by omega]
def q3k:List Nat:=List.replicate 16 4++List.replicate 3 0
theorem q1J:(List.range 19).foldl (fun l j=>l.set (eZ.getD j 0) (aY.getD j (0,0)).1) (List.replicate 19 0)=q3k:=by decide
theorem C7{N T p:Nat}(h:C6 N T aY p):∀k,k<=19->jO N T 15 k (List.replicate 19 0,(0,p))=((List.range k).foldl (fun l j=>l.set (eZ.getD j 0) (aY.getD j (0,0)).1) (List.replicate 19 0),(0,p+3*k))
 |0,_=>rfl
 |k+1,hk=>by
  rw[jO,C7 h k (by omega),if_pos ⟨by omega,rfl⟩,q1I h (by decide) (by have:aY.length=19:=(by decide);omega),List.range_succ,List.foldl_append]
  rfl
theorem q3l{N T p:Nat}(h:C6 N T aY p):jO N T 15 19 (List.replicate 19 0,(0,p))=(q3k,(0,p+57)):=by
 rw[C7 h 19 (q9 _),q1J]
theorem q1K:bJ (nls q3k) false=0:=by decide
theorem q1L:∀n,n<16->jB q3k n=n/\q3k.getD n 0=4:=by decide
theorem q1M{N T p n:Nat}(hn:n<=15)(h1:dF N p 4=jj n 4)(h2:p+4<=T):j9 q3k (N/2^p) (T-p)=(n,0,4):=by
 obtain⟨c1,c2⟩:=q1L n (by omega)
 have h:pR q3k (N/2^p) (T-p) n 0 4:=by
  refine .inl ⟨by have:q3k.length=19:=(by decide);omega,⟨by omega,?_⟩,by omega,rfl,c2.symm⟩
  rw[c1,c2,<-dV _ 4 4 (q9 _)]
  show n=jj (dF N p 4) 4
  rw[h1,bB n 4 (by omega)]
 exact iC h
theorem Q9{N T n:Nat}:∀(xs:List Nat) (f:Nat) (l:List Nat) (p:Nat),(∀x∈xs,x<=15)->C6 N T (aV xs) p->l.length+xs.length=n->xs.length<f->bM N T q3k n f l (0,p)=(l++xs,(0,p+4*xs.length))
 |[],f+1,l,p,_,_,hl,_=>by
  rw[bM,if_neg (by simp at hl;simp;omega)]
  simp
 |x::xs,f+1,l,p,hx,hs,hl,hf=>by
  have hs':C6 N T ((jj x 4,4)::aV xs) p:=hs;have hr:=q1M (hx x (List.mem_cons_self ..)) hs'.1 hs'.2.1;rw[bM,if_pos ⟨rfl,by simp at hl;omega⟩]
  simp only[hr];rw[if_neg (by simp),if_pos (by have:=hx x (List.mem_cons_self ..);omega),Q9 xs f (l++[x]) (p+4) (fun y hy=>hx y (List.mem_cons_of_mem _ hy)) hs'.2.2 (by simp at hl⊢;omega) (by simp at hf;omega)]
  rw[qh,List.singleton_append,List.length_cons,show p+4+4*xs.length=p+4*(xs.length+1) by omega]
theorem tB(a b:List Nat):aV a++aV b=aV (a++b):=by unfold aV;rw[List.map_append]
theorem R0(n m:Nat):((M8 n m).map Prod.snd).sum=14:=by simp[M8]
theorem R1:(aY.map Prod.snd).sum=57:=by decide
theorem q3m{N T p:Nat}{l1 l2:List Nat}(h:C6 N T (pV l1 l2) p)(hn1:257<=l1.length)(qcc:l1.length<=286)(hn2:1<=l2.length)(qcN:l2.length<=30)(h1:∀x∈l1,x<=15)(h2:∀x∈l2,x<=15):
  dynN N T (0,p)=(l1,l2,(cY l1 l2,p+(71+4*(l1.length+l2.length)))):=by
 unfold pV at h;have s1:=tA h;have s2:=pC h;rw[R0]at s2;have s3:=tA s2;have s4:=pC s2;rw[R1,tB]at s4;unfold M8 at s1;unfold dynN;rw[kM s1];simp only;rw[kM s1.2.2];simp only;rw[kM s1.2.2.2.2];simp only;unfold dynM;rw[if_neg (by omega)]
 rw[show p+5+5+4=p+14 by omega]
 rw[q3l s3];unfold dynL;have e:257+(l1.length-257)+(1+(l2.length-1))=l1.length+l2.length:=by omega
 have e1:257+(l1.length-257)=l1.length:=by omega
 rw[e,e1];have hr:=Q9 (N:=N) (T:=T) (n:=l1.length+l2.length) (l1++l2) (l1.length+l2.length+1) [] (p+14+57) (fun x hx=>by rcases List.mem_append.1 hx with q|q;exact h1 x q;exact h2 x q) s4 (by simp) (by simp)
 simp only[hr];rw[if_neg (by simp),if_neg (by simp[q1K]),if_neg (by simp)]
 simp only[List.nil_append,List.take_left',List.drop_left',qg];rw[show p+14+57+4*(l1.length+l2.length)=p+(71+4*(l1.length+l2.length)) by omega]
def mQ(f:Bool)(k z:Int)(l1 l2:List Int):aI:=if k=0 then⟨f,0,z.toNat,[],[]⟩else if k=1 then⟨f,1,0,lM,oH⟩else⟨f,2,0,l1.map Int.toNat,l2.map Int.toNat⟩
theorem q3n(f:Bool):decide (wC f=1)=f:=by cases f<;>rfl
theorem q5D(f:Bool):wC f<2^1:=by cases f<;>decide
theorem xO(p:Nat):p<=qO p/\qO p<p+8:=by unfold qO;omega
theorem q5E{l1 l2:List Nat}(hn1:257<=l1.length)(qcc:l1.length<=286)(hn2:1<=l2.length)(qcN:l2.length<=30):∀x∈pV l1 l2,x.1<2^x.2:=by
 have hc:∀(l:List Nat),∀x∈aV l,x.1<2^x.2:=fun l x hx=>by
  unfold aV at hx;obtain⟨n,-,rfl⟩:=List.mem_map.1 hx
  exact aF n 4
 have ho:∀x∈aY,x.1<2^x.2:=by decide
 intro x hx;unfold pV at hx
 rcases List.mem_append.1 hx with h|h
 ·unfold M8 at h
  simp only[List.mem_cons,List.not_mem_nil,or_false]at h
  rcases h with rfl|rfl|rfl
  ·show l1.length-257<32;omega
  ·show l2.length-1<32;omega
  ·decide
 ·rcases List.mem_append.1 h with h|h
  ·exact ho x h
  ·rcases List.mem_append.1 h with h|h
   ·exact hc _ x h
   ·exact hc _ x h
theorem xP{N T p:Nat}{f:Bool}{k:Nat}(h:C6 N T [(wC f,1),(k,2)] p):jk N T p=dG N T p f k (0,p+3):=by
 unfold jk;rw[kM h];simp only;rw[kM h.2.2,q3n]
structure pD(st st':Nat×Nat):Prop where
 lt:st'.1<2^st'.2
 low:st'.1%2^st.2=st.1
 le:st.2<=st'.2
theorem pD.refl{st:Nat×Nat}(h:st.1<2^st.2):pD st st:=⟨h,Nat.mod_eq_of_lt h,q9 _⟩
theorem pD.trans{a b c:Nat×Nat}(h:pD a b)(k:pD b c):pD a c:=⟨k.lt,by rw[xN k.low h.le,h.low],qa h.le k.le⟩
structure Pre(N T:Nat)(st:Nat×Nat):Prop where
 low:N%2^st.2=st.1
 le:st.2<=T
theorem Pre.of{N T:Nat}{a b:Nat×Nat}(h:Pre N T b)(g:pD a b):Pre N T a:=⟨by rw[xN h.low g.le,g.low],qa g.le h.le⟩
theorem fF{xs:List (Nat×Nat)}{st:Nat×Nat}(h:st.1<2^st.2)(hx:∀x∈xs,x.1<2^x.2):pD st (jh xs st):=by
 obtain⟨a,b,c⟩:=Q8 xs st h hx
 exact⟨a,b,c⟩
theorem R2{st:Nat×Nat}{v n:Nat}(h:st.1<2^st.2)(hv:v<2^n):pD st (st.1+v*2^st.2,st.2+n):=
 fF (xs:=[(v,n)]) h (by simpa using hv)
theorem W3{st:Nat×Nat}(h:st.1<2^st.2):pD st (jo st):=
 ⟨qd h (qe (by decide) (xO st.2).1),Nat.mod_eq_of_lt h,(xO st.2).1⟩
theorem R3{N T:Nat}{st:Nat×Nat}{v n:Nat}(h:st.1<2^st.2)(hv:v<2^n)(hp:Pre N T (st.1+v*2^st.2,st.2+n)):dF N st.2 n=v:=by
 have:=iL N T [(v,n)] st h (by simpa using hv) hp.low hp.le
 exact this.1
theorem q1N{N T:Nat}{st:Nat×Nat}{v n:Nat}(h:st.1<2^st.2)(hv:v<2^n)(hp:Pre N T (st.1+v*2^st.2,st.2+n)):jl N T st.2 n=(v,0,st.2+n):=by
 have h1:=R3 h hv hp;have h2:=hp.le;unfold jl;rw[if_pos h2,h1]
theorem W4{f:Bool}{k z:Int}{l1 l2:List Int}{st:Nat×Nat}{N T:Nat}(h0:st.1<2^st.2)(hm:fH k z l1 l2=0):
  pD st (wrI f k z l1 l2 st)/\(Pre N T (wrI f k z l1 l2 st)->jk N T st.2=(mQ f k z l1 l2,0,(wrI f k z l1 l2 st).2)):=by
 have hb:∀k,k<4->∀x∈[(wC f,1),(k,2)],x.1<2^x.2:=fun k hk x hx=>by
  simp only[List.mem_cons,List.not_mem_nil,or_false]at hx
  rcases hx with rfl|rfl
  ·exact q5D f
  ·exact hk
 unfold wrI mQ at*
 by_cases k0:k=0
 ·subst k0
  simp only[if_true]at*;have g1:=fF h0 (hb 0 (by decide))
  have e3:(jh [(wC f,1),(0,2)] st).2=st.2+3:=by rw[jR];rfl
  have hs0:=fun N hN hT=>iL N T [(wC f,1),(0,2)] st h0 (hb 0 (by decide)) hN hT
  generalize jh [(wC f,1),(0,2)] st=s1 at*
  have hz:z.toNat<=65535:=by
   unfold fH at hm;rw[if_pos rfl]at hm
   by_cases c:z<0\/65535<z
   ·rw[if_pos c]at hm;cases hm
   ·omega
  generalize z.toNat=zn at*;have hal:=xO s1.2
  have hx:∀x∈[(zn,16),(65535-zn,16)],x.1<2^x.2:=fun x hx=>by
   simp only[List.mem_cons,List.not_mem_nil,or_false]at hx
   rcases hx with rfl|rfl
   ·show zn<65536;omega
   ·show 65535-zn<65536;omega
  have g2:=W3 g1.lt;have g3:=fF g2.lt hx;have e32:(jh [(zn,16),(65535-zn,16)] (jo s1)).2=qO s1.2+32:=by rw[jR];rfl
  have hs2:=fun hN hT=>iL N T [(zn,16),(65535-zn,16)] (jo s1) g2.lt hx hN hT
  generalize jh [(zn,16),(65535-zn,16)] (jo s1)=s2 at*;refine⟨(g1.trans g2).trans g3,fun hp=>?_⟩
  have p1:=hp.of (g2.trans g3);have hs1:=hs0 N p1.low p1.le;rw[xP hs1];have qdD:C6 N T [(zn,16),(65535-zn,16)] (qO (st.2+3)):=by rw[<-e3];exact hs2 hp.low hp.le
  unfold dG je;rw[if_neg (by simp),if_pos rfl]
  have hq:65535-zn+zn=65535:=by omega
  simp only[kM qdD,kM qdD.2.2,hq,if_true,ne_eq,not_true_eq_false,if_false];rw[e32,e3]
 ·rw[if_neg k0]at*
  by_cases k1:k=1
  ·subst k1
   simp only[if_true]at*;have g1:=fF h0 (hb 1 (by decide))
   have e3:(jh [(wC f,1),(1,2)] st).2=st.2+3:=by rw[jR];rfl
   refine⟨g1,fun hp=>?_⟩
   have hs:=iL N T [(wC f,1),(1,2)] st h0 (hb 1 (by decide)) hp.low hp.le
   rw[xP hs,e3]
   rfl
  ·rw[if_neg k1]at*
   have hk:k=2:=by
    unfold fH at hm;rw[if_neg k0,if_neg k1]at hm
    apply qf;intro hn
    rw[if_neg hn]at hm
    cases hm
   subst hk;obtain⟨m1,m2,m3,m4,q1,q2,m5,m6,m7⟩:=nK hm
   have hf:cY (l1.map Int.toNat) (l2.map Int.toNat)=0:=by
    rw[q1,q2,sM]at m7;exact m7
   have g1:(l1.map Int.toNat).length=l1.length:=by simp
   have g2:(l2.map Int.toNat).length=l2.length:=by simp
   generalize l1.map Int.toNat=n1 at*;generalize l2.map Int.toNat=n2 at*;have r1:=fF h0 (hb 2 (by decide))
   have e3:(jh [(wC f,1),(2,2)] st).2=st.2+3:=by rw[jR];rfl
   have hs0:=fun N hN hT=>iL N T [(wC f,1),(2,2)] st h0 (hb 2 (by decide)) hN hT
   generalize jh [(wC f,1),(2,2)] st=s1 at*;have hx:=q5E (l1:=n1) (l2:=n2) (by omega) (by omega) (by omega) (by omega)
   have r2:=fF r1.lt hx
   have e4:(jh (pV n1 n2) s1).2=s1.2+(71+4*(n1.length+n2.length)):=by
    rw[jR];unfold pV;rw[List.map_append,List.sum_append,List.map_append,List.sum_append,R0,R1,tB]
    have:∀l:List Nat,((aV l).map Prod.snd).sum=4*l.length:=fun l=>by
     induction l with
     |nil=>rfl
     |cons x l ih=>rw[show aV (x::l)=(jj x 4,4)::aV l from rfl,List.map_cons,List.sum_cons,ih,List.length_cons];omega
    rw[this,qg];omega
   have hs2:=fun hN hT=>iL N T (pV n1 n2) s1 r1.lt hx hN hT
   generalize jh (pV n1 n2) s1=s2 at*;refine⟨r1.trans r2,fun hp=>?_⟩
   have p1:=hp.of r2;have hs1:=hs0 N p1.low p1.le;rw[xP hs1];have qdD:C6 N T (pV n1 n2) (st.2+3):=by rw[<-e3];exact hs2 hp.low hp.le
   have hd:=q3m qdD (by omega) (by omega) (by omega) (by omega) m5 m6
   unfold dG;rw[if_neg (by simp),if_neg (by decide),if_neg (by decide),if_pos rfl]
   simp only[hd];rw[if_neg (by simp[hf]),e4,e3]
   rfl
theorem q3o{l:List Int}{n:Int}(h:gK l n=0):∃L:List Nat,∃i:Nat,l=nls L/\n=(i:Int)/\i<L.length/\L.getD i 0≠0/\(∀x∈L,x<=15)/\jp L<=32768:=by
 have he:bE l=0:=by
  apply qf;intro hn
  rw[kW hn]at h;exact hn h
 obtain⟨L,rfl,-,h15,hk⟩:=gL he
 apply qf;intro hno
 have h2:¬(0<=n/\n<(nls L).length/\(nls L).getD n.toNat 0≠0):=by
  rintro⟨h1,h2,h3⟩;rw[qB]at h2;rw[jb]at h3
  exact hno ⟨L,n.toNat,rfl,by omega,by omega,by omega,h15,hk⟩
 rw[vP he h2]at h
 cases h
theorem q3p{l:List Int}{n:Int}{st:Nat×Nat}{N T:Nat}(h0:st.1<2^st.2)(he:gK l n=0):
  pD st (fG l n st)/\(Pre N T (fG l n st)->j9 (l.map Int.toNat) (N/2^st.2) (T-st.2)=(n.toNat,0,(fG l n st).2-st.2)):=by
 obtain⟨L,i,rfl,rfl,hi,hne,h15,hk⟩:=q3o he
 have hw:fG (nls L) (i:Int) st=(st.1+jj (jB L i) (L.getD i 0)*2^st.2,st.2+L.getD i 0):=by
  unfold fG;rw[if_pos he,jm,Int.toNat_natCast,jb,Int.toNat_natCast]
 rw[hw,jm,Int.toNat_natCast];have hc:jB L i<2^L.getD i 0:=iA h15 hk i hi;refine⟨R2 h0 (aF _ _),fun hp=>?_⟩
 have hv:=R3 h0 (aF _ _) hp;have hle:=hp.le;simp only at hle;refine iC (.inl ⟨hi,⟨hne,?_⟩,by omega,rfl,by simp⟩)
 rw[<-dV (N/2^st.2) _ _ (q9 _)]
 show jB L i=jj (dF N st.2 (L.getD i 0)) (L.getD i 0)
 rw[hv,bB _ _ hc]
theorem oB{l:List Int}{sym:Int}{bits v:Nat}{st:Nat×Nat}{N T:Nat}(h0:st.1<2^st.2)(hv:v<2^bits)(he:(gB l sym bits v (0,st)).1=0):
  gK l sym=0/\pD st (gB l sym bits v (0,st)).2/\(Pre N T (gB l sym bits v (0,st)).2->j9 (l.map Int.toNat) (N/2^st.2) (T-st.2)=(sym.toNat,0,(fG l sym st).2-st.2)/\st.2<=(fG l sym st).2/\jl N T (fG l sym st).2 bits=(v,0,(gB l sym bits v (0,st)).2.2)):=by
 have hE:gK l sym=0:=by
  apply qf;intro hn
  unfold gB at he;rw[if_neg (by simp),if_pos hn]at he
  exact hn he
 have hcp:gB l sym bits v (0,st)=(0,(fG l sym st).1+v*2^(fG l sym st).2,(fG l sym st).2+bits):=by
  unfold gB;rw[if_neg (by simp),if_neg (by omega)]
 rw[hcp];obtain⟨g1,r1⟩:=q3p (N:=N) (T:=T) h0 hE;have g2:=R2 g1.lt hv
 exact⟨hE,g1.trans g2,fun hp=>⟨r1 (hp.of g2),g1.le,q1N g1.lt hv hp⟩⟩
end Go.Cm
