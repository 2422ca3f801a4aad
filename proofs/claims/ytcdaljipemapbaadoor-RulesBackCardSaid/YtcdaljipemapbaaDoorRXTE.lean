/- Walks of functions and plain facts, joined and squeezed by a program. Conditions: as each says. -/
import Derived.Deep.CutBlock
import Derived.Test.YtcdaljipemapbaaDoorRXTB
import Derived.Test.YtcdaljipemapbaaDoorRXTD
import Derived.Test.YtcdaljipemapbaaDoorRXTC
set_option maxHeartbeats 8000000
set_option maxRecDepth 100000
set_option linter.unusedSimpArgs false
namespace Go.Cm
open Go.RowKit Go.Proofs
theorem m1(s:qM)(frm:Nat)(z:PS):(bC s frm z).1<2^256:=by
 have hc:=lY s z;have hr:=fQ;unfold bC;generalize 2^256=M at*;simp only;split
 ·cases nxR s (qz s 45 (jZ s z).2).2 with
  |none=>exact hc
  |some c=>
   simp only;split
   ·exact hc
   ·split
    ·exact hc
    ·split
     ·exact hc
     ·have h1:=hr (Nat.log2 (jZ s z).1.1) (Nat.log2 (jZ s (qz s 45 (jZ s z).2).2).1.1)
      dsimp only
      exact h1
 ·exact hc
theorem nZ{x:Nat}(hx:x<2^256)(Z:Array Value)(hZ:Z=z4)(W:World):(binOp .eql 72 (qW x) (.agg Z)).run Tryd.prog W=.ok (.bool (decide (x=0))) W:=by
 have:=lF W (wdR x 0:Nat) (wdR x 1:Nat) (wdR x 2:Nat) (wdR x 3:Nat) 0 0 0 0;rw[hZ];refine Eq.trans this ?_
 congr 2
 refine decide_eq_decide.2 ⟨fun h=>?_,fun h=>by subst h;simp[d9]⟩
 refine oV hx (by decide) fun i hi=>?_
 rw[d9];obtain rfl|rfl|rfl|rfl:i=0\/i=1\/i=2\/i=3:=by omega
 all_goals omega
theorem m2(W:World)(o:BinOp)(x y:Operand)(a:Nat)(Z:Array Value):(eqGuard o 72 x y (qW a) (.agg Z)).run Tryd.prog W=.ok () W:=b6 W o x y _ _
theorem uP{w:World}{g frm:Nat}{s:ByteArray}{z:PS}(h:qO w g s z)(hs:s.size<=1000000)(hT:jn w)(hzs:z.p<=s.size)(hfs:frm<=s.size):
  Calls Tryd.prog 69 #[.pointer (some ⟨g,0,none⟩),.int .i64 frm] w (jM (qW (iZ (bys s) frm z).1) g s (iZ (bys s) frm z).2 w):=by
 have hgt:=hT.ne h;have HT:=q9 hT;have hz:=aD;obtain⟨Z,hZ⟩:∃Z,Z=z4:=⟨_,rfl⟩;rw[<-hZ]at hz;have HNW:Hid (∀W:World,jp (W.alloc (.cells Z 72)) W.heap.size 0):=q9 (fun W=>qV W Z hZ)
 have HCM:Hid (∀x,x<2^256->∀W,(binOp .eql 72 (qW x) (.agg Z)).run Tryd.prog W=.ok (.bool (decide (x=0))) W):=q9 (fun x hx W=>nZ hx Z hZ W)
 have hgd:=m2;have HE0:Hid (Esc w (w.alloc (.cells Z 72)) g s z w.heap.size 0):=q9 ⟨h.up (qo _ _),qV w Z hZ,qs (qo _ _) _,qa _,h.lt⟩;have hgl:=h.lt;have HT1:Hid (∀W,qO W g s z->Calls Tryd.prog 43 #[.pointer (some ⟨g,0,none⟩),.int .u8 94] W (jM (.bool (qz (bys s) 94 z).1) g s (qz (bys s) 94 z).2 W)):=q9 (fun W h=>gY h hs 94)
 have HT2:Hid (∀W y,qO W g s y->Calls Tryd.prog 43 #[.pointer (some ⟨g,0,none⟩),.int .u8 93] W (jM (.bool (qz (bys s) 93 y).1) g s (qz (bys s) 93 y).2 W)):=q9 (fun W y h=>gY h hs 93)
 have HIT:Hid (∀W y,qO W g s y->jn W->Calls Tryd.prog 77 #[.pointer (some ⟨g,0,none⟩),.int .i64 frm] W (jM (qW (bC (bys s) frm y).1) g s (bC (bys s) frm y).2 W)):=q9 (fun W y h hT=>uO h hs hT)
 have wA:Hid (∀W y,qO W g s y->Calls Tryd.prog 31 #[.pointer (some ⟨g,0,none⟩),.int .i64 16,.int .i64 frm] W (jM (.tuple #[]) g s (qC 16 frm y) W)):=q9 (fun W y h=>bY h 16 frm)
 have wG:Hid (∀W y,qO W g s y->Calls Tryd.prog 31 #[.pointer (some ⟨g,0,none⟩),.int .i64 17,.int .i64 frm] W (jM (.tuple #[]) g s (qC 17 frm y) W)):=q9 (fun W y h=>bY h 17 frm)
 obtain⟨R,hR⟩:∃R,R=iZ (bys s) frm z:=⟨_,rfl⟩;rw[<-hR];unfold iZ at hR;simp only at hR;have HST:=q9 ((j3 (bys s) 94 z).len (by rw[qt];exact hzs))
 generalize qz (bys s) 94 z=T1 at*;obtain⟨bt,zt⟩:=T1;simp only at hR HT1 HST;have HR:=q9 hR;obtain⟨L,hL⟩:∃L,L=fE (bys s) frm ((bys s).length+1) 0 zt:=⟨_,rfl⟩;rw[<-hL]at HR;rw[qt]at HST hL;have HL:=q9 hL.symm;clear h hZ hT hR hL hzs
 cases bt
 ·go_enter Tryd.func69,Tryd.ntmps69
  go_wp2_with(first
   |((with_reducible refine(HT1.out _ HE0.out.box).mono ?_);rintro e w1 ⟨rfl,hB,hg⟩;have HE1:=q9 (HE0.out.act hB hg);have hba:=qo w1 (.cells Z 72);have HE2:=q9 (HE1.out.below hba);have HN2:=q9 (HNW.out w1);have hs2:=HE1.out.set.lt;have hsg:g<w1.heap.size:=HE1.out.box.lt;clear hB hg hba))
  go_loopg [9] (s.size+1) (fun gk _ wr=>∃(f a:Nat) (y:PS),gk=f/\Esc w wr g s y w.heap.size 0/\jp wr w1.heap.size a/\Hid (a<2^256)/\Hid (fE (bys s) frm f a y=L)/\Hid (y.p<=s.size)/\((y.e≠0/\1<=f)\/s.size+1<=f+y.p))
  case atStart=>exact⟨s.size+1,0,zt,rfl,HE2.out,HN2.out,q9 tP,HL,HST,.inr (by omega)⟩
  case round=>
   obtain⟨f0,af,y,hgk,hE,hA,HAL,HCL,HYP,hfu⟩:=hrel;obtain⟨f,hf0⟩:∃f,f0=f+1:=⟨f0-1,by have:=HYP.out;omega⟩
   subst hf0;subst hgk;have HE:=q9 hE;have HA:=q9 hA;have ce:=hE.box.c2;clear hE hA HST HL HE0 HE1 HE2 HN2 HT1
   by_cases he:y.e=0
   ·have heb:((y.e:Int)==0)=true:=by rw[he];rfl
    have HTK:=q9 (HT2.out);have xY:=q9 (j3 (bys s) 93 y)
    cases htk:qz (bys s) 93 y with
    |mk b1 y1=>
    have HTK:Hid (∀W,qO W g s y->Calls Tryd.prog 43 #[.pointer (some ⟨g,0,none⟩),.int .u8 93] W (jM (.bool b1) g s y1 W)):=q9 (fun W h=>by
     have:=HT2.out W y h
     rwa [htk]at this)
    have vL:Hid (L=if b1 then(af,y1)else if s.size<=y1.p then(af,qC 16 frm y1)else fE (bys s) frm f (af|||(bC (bys s) frm y1).1) (bC (bys s) frm y1).2):=q9 (by
     rw[<-HCL.out]
     show fE (bys s) frm (f+1) af y=_
     rw[fE,if_neg (fun h=>h he),htk,qt])
    have HY1:Hid (b1=false->y1=y):=q9 (fun hb=>by
     have:=bV (s:=bys s) (c:=93) (z:=y) (by rw[htk];exact hb)
     rw[htk]at this;exact this)
    have HEE:=q9 he;clear HCL htk xY he
    cases b1
    ·obtain rfl:=HY1.out rfl
     by_cases hp:s.size<=y1.p
     ·have hpi:(y1.p:Int)≥(s.size:Int):=by omega
      obtain⟨zf,hzf⟩:∃zf,zf=qC 16 frm y1:=⟨_,rfl⟩;have HLR:Hid (L=(af,zf)):=q9 (by rw[vL.out,hzf];simp only[Bool.false_eq_true,if_false];rw[if_pos hp])
      have HFZ:Hid (∀W,qO W g s y1->Calls Tryd.prog 31 #[.pointer (some ⟨g,0,none⟩),.int .i64 16,.int .i64 frm] W (jM (.tuple #[]) g s zf W)):=q9 (fun W h=>by rw[hzf];exact wA.out W y1 h)
      clear vL wA hzf hp HIT HT2 HY1
      go_wp2_with((with_reducible refine(HTK.out _ HE.out.box).mono ?_);rintro e v1 ⟨rfl,hB,hg⟩;have HV1:=q9 (HE.out.act hB hg);have wE:=q9 (HA.out.keepP hg (by omega));have cp:=HV1.out.box.c1;have cs:=HV1.out.box.c0;clear hB hg)
      go_simp
      go_quiet (fail)
      have HV2:=q9 (HV1.out.below (qy v1 nq));have vY:=q9 (wE.out.up (qy v1 nq));generalize v1.drewN nq=v2 at*
      go_upto_region 7 with((with_reducible refine(HFZ.out _ HV2.out.box).mono ?_);rintro e v3 ⟨rfl,hB,hg⟩;have HX:=q9 (HV2.out.act hB hg);have HXA:=q9 (vY.out.keepP hg (by omega));clear hB hg)
      clear HV1 wE HV2 vY HE HA HTK HFZ HYP;have HRR:Hid (R=(af,if af=0 then qC 17 frm zf else zf)):=q9 (by rw[HR.out,HLR.out];rfl)
      have hcm:=HCM.out af HAL.out
      by_cases h0:af=0
      ·rw[if_pos h0]at HRR
       rw[decide_eq_true h0]at hcm;clear h0 HCM
       go_wp2_with(first
        |(refine qw rfl _ rfl w1.heap.size rfl _ HXA.out ?_)
        |((with_reducible refine(wG.out _ _ HX.out.box).mono ?_);rintro e u3 ⟨rfl,hB,hg⟩;have HY3:=q9 (HX.out.act hB hg);have vW:=q9 (HXA.out.keepP hg (by omega));clear hB hg)
        |(refine qw rfl _ rfl w1.heap.size rfl _ vW.out ?_)
        |(refine qq rfl _ _ rfl w.heap.size rfl _ af rfl HY3.out.set ?_;intro u4 hB2 hg2;have HY4:=q9 (HY3.out.store hB2 hg2);clear hB2 hg2))
       refine qD (s:=4) (ad:=⟨w.heap.size,0,none⟩) (x:=qW af) rfl rfl rfl HY4.out.set.load ?_;rw[HRR.out]
       exact⟨rfl,HY4.out.box,HY4.out.gr⟩
      ·rw[if_neg h0]at HRR
       rw[decide_eq_false h0]at hcm;clear h0 HCM
       go_wp2_with(first
        |(refine qw rfl _ rfl w1.heap.size rfl _ HXA.out ?_)
        |(refine qq rfl _ _ rfl w.heap.size rfl _ af rfl HX.out.set ?_;intro u4 hB2 hg2;have HY4:=q9 (HX.out.store hB2 hg2);clear hB2 hg2))
       refine qD (s:=4) (ad:=⟨w.heap.size,0,none⟩) (x:=qW af) rfl rfl rfl HY4.out.set.load ?_;rw[HRR.out]
       exact⟨rfl,HY4.out.box,HY4.out.gr⟩
     ·have hpi:¬(y1.p:Int)≥(s.size:Int):=by omega
      have x7:Hid (fE (bys s) frm f (af|||(bC (bys s) frm y1).1) (bC (bys s) frm y1).2=L):=q9 (by rw[vL.out];simp only[Bool.false_eq_true,if_false];rw[if_neg hp])
      have HI:Hid (∀W,qO W g s y1->jn W->Calls Tryd.prog 77 #[.pointer (some ⟨g,0,none⟩),.int .i64 frm] W (jM (qW (bC (bys s) frm y1).1) g s (bC (bys s) frm y1).2 W)):=q9 (fun W h hT=>HIT.out W y1 h hT)
      have HIS:=q9 (gQ (s:=bys s) (frm:=frm) (by rw[qt];exact hfs) (z:=y1) (by rw[qt];omega))
      have HIL:=q9 (oP (s:=bys s) (frm:=frm) (z:=y1) (by rw[qt];omega))
      have HIA:=q9 (m1 (bys s) frm y1);clear vL hp HIT HT2 HY1 wA wG HCM HR;generalize bC (bys s) frm y1=I at*;obtain⟨ia,iz⟩:=I;simp only at x7 HI HIS HIL HIA;have HOR:Hid (∀W,Calls Tryd.prog 76 #[qW af,qW ia] W (qZ (af|||ia) W)):=q9 (fun W=>orP HAL.out HIA.out W)
      have yB:=q9 (jA HAL.out HIA.out)
      have HPL:Hid (iz.p<=s.size):=q9 (by
       have:=HIS.out.len (by rw[qt];exact HYP.out)
       rwa [qt]at this)
      generalize af|||ia=oa at*
      go_wp2_with((with_reducible refine(HTK.out _ HE.out.box).mono ?_);rintro e v1 ⟨rfl,hB,hg⟩;have HV1:=q9 (HE.out.act hB hg);have wE:=q9 (HA.out.keepP hg (by omega));have cp:=HV1.out.box.c1;have cs:=HV1.out.box.c0;clear hB hg)
      go_simp
      go_quiet (fail)
      have HV2:=q9 (HV1.out.below (qy v1 nq));have vY:=q9 (wE.out.up (qy v1 nq));generalize v1.drewN nq=v2 at*;go_wp2;refine jC (fun w'=>∃x,w'=chg v2 (some g) x) [0,1,2] [3,4] [5] (by kernel_rfl) (by kernel_rfl) (a9 (bU _ _)) ?_
      simp only[pk];go_simp
      repeat(first
       |(go_big_quiet_want;refine qN _ rfl w1.heap.size rfl af (fun w' hw=>by obtain⟨y,rfl⟩:=hw;exact vY.out.keepP (jF _ _ _) (by omega)) ?_;go_simp;go_big_quiet_on)
       |go_big_quiet_step (fail))
      refine wpQuiet_nil ?_;have hbd:=cY (qi v2.heap.size v2);have HV3:=q9 (HV2.out.below hbd);have xX:=q9 (vY.out.up hbd);have HG3:Hid (v2.grownBy v2.drew (some g)):=q9 (qs hbd _);have HT3:=q9 (jn.fx HT.out HV3.out.gr (fun e=>hgt (by injection e)))
      clear hbd;generalize v2.drew=v3 at*;unfold qX
      go_wp2_with((with_reducible refine(HI.out _ HV3.out.box HT3.out).mono ?_);rintro e v4 ⟨rfl,hB,hg⟩;have HV4:=q9 (HV3.out.act hB hg);have xW:=q9 (xX.out.keepP hg (by omega));have HG4:=q9 (qr HG3.out hg);clear hB hg)
      refine⟨a9 HG4.out,?_⟩;unfold qX
      go_wp2_with((with_reducible refine(HOR.out _).mono ?_);rintro e v5 ⟨rfl,hx⟩;have HV5:=q9 (HV4.out.ext hx);have xV:=q9 (xW.out.up (qn hx));have HG5:=q9 (qr HG4.out (qs (qn hx) (some g)));clear hx)
      refine⟨a9 HG5.out,?_⟩;unfold qX;unfold qX
      go_wp2_with(refine qq rfl _ _ rfl w1.heap.size rfl _ oa rfl xV.out ?_;intro v6 hB2 hg2;have HV6:=q9 (HV5.out.far hg2 (by omega) (by omega));have xU:=q9 hB2;clear hB2 hg2)
      refine⟨trivial,?_⟩;unfold qX;go_wp2
      go_roundg f
      case measure=>omega
      case rel=>exact⟨f,oa,iz,rfl,HV6.out,xU.out,yB,x7,HPL,by have h1:=HIL.out;have h2:=HYP.out;have h3:=HEE.out;rcases h1 with h1|h1<;>omega⟩
    ·have HLR:Hid (L=(af,y1)):=q9 (by rw[vL.out];rfl)
     obtain⟨zf,hzf⟩:∃zf,zf=y1:=⟨_,rfl⟩;rw[<-hzf]at HLR;clear vL wA HIT HT2 HY1
     go_upto_region 7 with((with_reducible refine(HTK.out _ HE.out.box).mono ?_);rintro e v1 ⟨rfl,hB,hg⟩;have HX:=q9 (HE.out.act hB hg);have HXA:=q9 (HA.out.keepP hg (by omega));clear hB hg)
     rw[<-hzf]at HX;clear hzf HE HA HTK HYP;have HRR:Hid (R=(af,if af=0 then qC 17 frm zf else zf)):=q9 (by rw[HR.out,HLR.out];rfl)
     have hcm:=HCM.out af HAL.out
     by_cases h0:af=0
     ·rw[if_pos h0]at HRR
      rw[decide_eq_true h0]at hcm;clear h0 HCM
      go_wp2_with(first
       |(refine qw rfl _ rfl w1.heap.size rfl _ HXA.out ?_)
       |((with_reducible refine(wG.out _ _ HX.out.box).mono ?_);rintro e u3 ⟨rfl,hB,hg⟩;have HY3:=q9 (HX.out.act hB hg);have vW:=q9 (HXA.out.keepP hg (by omega));clear hB hg)
       |(refine qw rfl _ rfl w1.heap.size rfl _ vW.out ?_)
       |(refine qq rfl _ _ rfl w.heap.size rfl _ af rfl HY3.out.set ?_;intro u4 hB2 hg2;have HY4:=q9 (HY3.out.store hB2 hg2);clear hB2 hg2))
      refine qD (s:=4) (ad:=⟨w.heap.size,0,none⟩) (x:=qW af) rfl rfl rfl HY4.out.set.load ?_;rw[HRR.out]
      exact⟨rfl,HY4.out.box,HY4.out.gr⟩
     ·rw[if_neg h0]at HRR
      rw[decide_eq_false h0]at hcm;clear h0 HCM
      go_wp2_with(first
       |(refine qw rfl _ rfl w1.heap.size rfl _ HXA.out ?_)
       |(refine qq rfl _ _ rfl w.heap.size rfl _ af rfl HX.out.set ?_;intro u4 hB2 hg2;have HY4:=q9 (HX.out.store hB2 hg2);clear hB2 hg2))
      refine qD (s:=4) (ad:=⟨w.heap.size,0,none⟩) (x:=qW af) rfl rfl rfl HY4.out.set.load ?_;rw[HRR.out]
      exact⟨rfl,HY4.out.box,HY4.out.gr⟩
   ·have heb:((y.e:Int)==0)=false:=by simpa using he
    have HLR:Hid (L=(af,y)):=q9 (by rw[<-HCL.out,fE,if_pos he])
    obtain⟨zf,hzf⟩:∃zf,zf=y:=⟨_,rfl⟩;rw[<-hzf]at HLR;clear HCL wA HIT HT2 he
    go_upto_region 7 with(fail)
    have HX:=HE;have HXA:=HA;rw[<-hzf]at HX;clear hzf HE HA HYP;have HRR:Hid (R=(af,if af=0 then qC 17 frm zf else zf)):=q9 (by rw[HR.out,HLR.out];rfl)
    have hcm:=HCM.out af HAL.out
    by_cases h0:af=0
    ·rw[if_pos h0]at HRR
     rw[decide_eq_true h0]at hcm;clear h0 HCM
     go_wp2_with(first
      |(refine qw rfl _ rfl w1.heap.size rfl _ HXA.out ?_)
      |((with_reducible refine(wG.out _ _ HX.out.box).mono ?_);rintro e u3 ⟨rfl,hB,hg⟩;have HY3:=q9 (HX.out.act hB hg);have vW:=q9 (HXA.out.keepP hg (by omega));clear hB hg)
      |(refine qw rfl _ rfl w1.heap.size rfl _ vW.out ?_)
      |(refine qq rfl _ _ rfl w.heap.size rfl _ af rfl HY3.out.set ?_;intro u4 hB2 hg2;have HY4:=q9 (HY3.out.store hB2 hg2);clear hB2 hg2))
     refine qD (s:=4) (ad:=⟨w.heap.size,0,none⟩) (x:=qW af) rfl rfl rfl HY4.out.set.load ?_;rw[HRR.out]
     exact⟨rfl,HY4.out.box,HY4.out.gr⟩
    ·rw[if_neg h0]at HRR
     rw[decide_eq_false h0]at hcm;clear h0 HCM
     go_wp2_with(first
      |(refine qw rfl _ rfl w1.heap.size rfl _ HXA.out ?_)
      |(refine qq rfl _ _ rfl w.heap.size rfl _ af rfl HX.out.set ?_;intro u4 hB2 hg2;have HY4:=q9 (HX.out.store hB2 hg2);clear hB2 hg2))
     refine qD (s:=4) (ad:=⟨w.heap.size,0,none⟩) (x:=qW af) rfl rfl rfl HY4.out.set.load ?_;rw[HRR.out]
     exact⟨rfl,HY4.out.box,HY4.out.gr⟩
 ·go_enter Tryd.func69,Tryd.ntmps69
  go_wp2_with(first
   |((with_reducible refine(HT1.out _ HE0.out.box).mono ?_);rintro e w1 ⟨rfl,hB,hg⟩;have HE1:=q9 (HE0.out.act hB hg);have hba:=qo w1 (.cells Z 72);have HE2:=q9 (HE1.out.below hba);have HN2:=q9 (HNW.out w1);have hs2:=HE1.out.set.lt;have hsg:g<w1.heap.size:=HE1.out.box.lt;clear hB hg hba))
  go_loopg [9] (s.size+1) (fun gk _ wr=>∃(f a:Nat) (y:PS),gk=f/\Esc w wr g s y w.heap.size 0/\jp wr w1.heap.size a/\Hid (a<2^256)/\Hid (fE (bys s) frm f a y=L)/\Hid (y.p<=s.size)/\((y.e≠0/\1<=f)\/s.size+1<=f+y.p))
  case atStart=>exact⟨s.size+1,0,zt,rfl,HE2.out,HN2.out,q9 tP,HL,HST,.inr (by omega)⟩
  case round=>
   obtain⟨f0,af,y,hgk,hE,hA,HAL,HCL,HYP,hfu⟩:=hrel;obtain⟨f,hf0⟩:∃f,f0=f+1:=⟨f0-1,by have:=HYP.out;omega⟩
   subst hf0;subst hgk;have HE:=q9 hE;have HA:=q9 hA;have ce:=hE.box.c2;clear hE hA HST HL HE0 HE1 HE2 HN2 HT1
   by_cases he:y.e=0
   ·have heb:((y.e:Int)==0)=true:=by rw[he];rfl
    have HTK:=q9 (HT2.out);have xY:=q9 (j3 (bys s) 93 y)
    cases htk:qz (bys s) 93 y with
    |mk b1 y1=>
    have HTK:Hid (∀W,qO W g s y->Calls Tryd.prog 43 #[.pointer (some ⟨g,0,none⟩),.int .u8 93] W (jM (.bool b1) g s y1 W)):=q9 (fun W h=>by
     have:=HT2.out W y h
     rwa [htk]at this)
    have vL:Hid (L=if b1 then(af,y1)else if s.size<=y1.p then(af,qC 16 frm y1)else fE (bys s) frm f (af|||(bC (bys s) frm y1).1) (bC (bys s) frm y1).2):=q9 (by
     rw[<-HCL.out]
     show fE (bys s) frm (f+1) af y=_
     rw[fE,if_neg (fun h=>h he),htk,qt])
    have HY1:Hid (b1=false->y1=y):=q9 (fun hb=>by
     have:=bV (s:=bys s) (c:=93) (z:=y) (by rw[htk];exact hb)
     rw[htk]at this;exact this)
    have HEE:=q9 he;clear HCL htk xY he
    cases b1
    ·obtain rfl:=HY1.out rfl
     by_cases hp:s.size<=y1.p
     ·have hpi:(y1.p:Int)≥(s.size:Int):=by omega
      obtain⟨zf,hzf⟩:∃zf,zf=qC 16 frm y1:=⟨_,rfl⟩;have HLR:Hid (L=(af,zf)):=q9 (by rw[vL.out,hzf];simp only[Bool.false_eq_true,if_false];rw[if_pos hp])
      have HFZ:Hid (∀W,qO W g s y1->Calls Tryd.prog 31 #[.pointer (some ⟨g,0,none⟩),.int .i64 16,.int .i64 frm] W (jM (.tuple #[]) g s zf W)):=q9 (fun W h=>by rw[hzf];exact wA.out W y1 h)
      clear vL wA hzf hp HIT HT2 HY1
      go_wp2_with((with_reducible refine(HTK.out _ HE.out.box).mono ?_);rintro e v1 ⟨rfl,hB,hg⟩;have HV1:=q9 (HE.out.act hB hg);have wE:=q9 (HA.out.keepP hg (by omega));have cp:=HV1.out.box.c1;have cs:=HV1.out.box.c0;clear hB hg)
      go_simp
      go_quiet (fail)
      have HV2:=q9 (HV1.out.below (qy v1 nq));have vY:=q9 (wE.out.up (qy v1 nq));generalize v1.drewN nq=v2 at*
      go_upto_region 7 with((with_reducible refine(HFZ.out _ HV2.out.box).mono ?_);rintro e v3 ⟨rfl,hB,hg⟩;have HX:=q9 (HV2.out.act hB hg);have HXA:=q9 (vY.out.keepP hg (by omega));clear hB hg)
      clear HV1 wE HV2 vY HE HA HTK HFZ HYP;have HRR:Hid (R=(cB af,if cB af=0 then qC 17 frm zf else zf)):=q9 (by rw[HR.out,HLR.out];rfl)
      have HNO:Hid (∀W,Calls Tryd.prog 70 #[qW af] W (qZ (cB af) W)):=q9 (fun W=>tI HAL.out W)
      have hcm:=HCM.out (cB af) (dA af);generalize cB af=xx at*
      by_cases h0:xx=0
      ·rw[if_pos h0]at HRR
       rw[decide_eq_true h0]at hcm;clear h0 HCM
       go_wp2_with(first
        |(refine qw rfl _ rfl w1.heap.size rfl _ HXA.out ?_)
        |((with_reducible refine(HNO.out _).mono ?_);rintro e u1 ⟨rfl,hx⟩;have HY1:=q9 (HX.out.ext hx);have vX:=q9 (HXA.out.up (qn hx));clear hx)
        |(refine qq rfl _ _ rfl w1.heap.size rfl _ xx rfl vX.out ?_;intro u2 hB2 hg2;have HY2:=q9 (HY1.out.far hg2 (by omega) (by omega));have vN:=q9 hB2;clear hB2 hg2)
        |(refine qw rfl _ rfl w1.heap.size rfl _ vN.out ?_)
        |((with_reducible refine(wG.out _ _ HY2.out.box).mono ?_);rintro e u3 ⟨rfl,hB,hg⟩;have HY3:=q9 (HY2.out.act hB hg);have vW:=q9 (vN.out.keepP hg (by omega));clear hB hg)
        |(refine qw rfl _ rfl w1.heap.size rfl _ vW.out ?_)
        |(refine qq rfl _ _ rfl w.heap.size rfl _ xx rfl HY3.out.set ?_;intro u4 hB2 hg2;have HY4:=q9 (HY3.out.store hB2 hg2);clear hB2 hg2))
       refine qD (s:=4) (ad:=⟨w.heap.size,0,none⟩) (x:=qW xx) rfl rfl rfl HY4.out.set.load ?_;rw[HRR.out]
       exact⟨rfl,HY4.out.box,HY4.out.gr⟩
      ·rw[if_neg h0]at HRR
       rw[decide_eq_false h0]at hcm;clear h0 HCM
       go_wp2_with(first
        |(refine qw rfl _ rfl w1.heap.size rfl _ HXA.out ?_)
        |((with_reducible refine(HNO.out _).mono ?_);rintro e u1 ⟨rfl,hx⟩;have HY1:=q9 (HX.out.ext hx);have vX:=q9 (HXA.out.up (qn hx));clear hx)
        |(refine qq rfl _ _ rfl w1.heap.size rfl _ xx rfl vX.out ?_;intro u2 hB2 hg2;have HY2:=q9 (HY1.out.far hg2 (by omega) (by omega));have vN:=q9 hB2;clear hB2 hg2)
        |(refine qw rfl _ rfl w1.heap.size rfl _ vN.out ?_)
        |(refine qq rfl _ _ rfl w.heap.size rfl _ xx rfl HY2.out.set ?_;intro u4 hB2 hg2;have HY4:=q9 (HY2.out.store hB2 hg2);clear hB2 hg2))
       refine qD (s:=4) (ad:=⟨w.heap.size,0,none⟩) (x:=qW xx) rfl rfl rfl HY4.out.set.load ?_;rw[HRR.out]
       exact⟨rfl,HY4.out.box,HY4.out.gr⟩
     ·have hpi:¬(y1.p:Int)≥(s.size:Int):=by omega
      have x7:Hid (fE (bys s) frm f (af|||(bC (bys s) frm y1).1) (bC (bys s) frm y1).2=L):=q9 (by rw[vL.out];simp only[Bool.false_eq_true,if_false];rw[if_neg hp])
      have HI:Hid (∀W,qO W g s y1->jn W->Calls Tryd.prog 77 #[.pointer (some ⟨g,0,none⟩),.int .i64 frm] W (jM (qW (bC (bys s) frm y1).1) g s (bC (bys s) frm y1).2 W)):=q9 (fun W h hT=>HIT.out W y1 h hT)
      have HIS:=q9 (gQ (s:=bys s) (frm:=frm) (by rw[qt];exact hfs) (z:=y1) (by rw[qt];omega))
      have HIL:=q9 (oP (s:=bys s) (frm:=frm) (z:=y1) (by rw[qt];omega))
      have HIA:=q9 (m1 (bys s) frm y1);clear vL hp HIT HT2 HY1 wA wG HCM HR;generalize bC (bys s) frm y1=I at*;obtain⟨ia,iz⟩:=I;simp only at x7 HI HIS HIL HIA;have HOR:Hid (∀W,Calls Tryd.prog 76 #[qW af,qW ia] W (qZ (af|||ia) W)):=q9 (fun W=>orP HAL.out HIA.out W)
      have yB:=q9 (jA HAL.out HIA.out)
      have HPL:Hid (iz.p<=s.size):=q9 (by
       have:=HIS.out.len (by rw[qt];exact HYP.out)
       rwa [qt]at this)
      generalize af|||ia=oa at*
      go_wp2_with((with_reducible refine(HTK.out _ HE.out.box).mono ?_);rintro e v1 ⟨rfl,hB,hg⟩;have HV1:=q9 (HE.out.act hB hg);have wE:=q9 (HA.out.keepP hg (by omega));have cp:=HV1.out.box.c1;have cs:=HV1.out.box.c0;clear hB hg)
      go_simp
      go_quiet (fail)
      have HV2:=q9 (HV1.out.below (qy v1 nq));have vY:=q9 (wE.out.up (qy v1 nq));generalize v1.drewN nq=v2 at*;go_wp2;refine jC (fun w'=>∃x,w'=chg v2 (some g) x) [0,1,2] [3,4] [5] (by kernel_rfl) (by kernel_rfl) (a9 (bU _ _)) ?_
      simp only[pk];go_simp
      repeat(first
       |(go_big_quiet_want;refine qN _ rfl w1.heap.size rfl af (fun w' hw=>by obtain⟨y,rfl⟩:=hw;exact vY.out.keepP (jF _ _ _) (by omega)) ?_;go_simp;go_big_quiet_on)
       |go_big_quiet_step (fail))
      refine wpQuiet_nil ?_;have hbd:=cY (qi v2.heap.size v2);have HV3:=q9 (HV2.out.below hbd);have xX:=q9 (vY.out.up hbd);have HG3:Hid (v2.grownBy v2.drew (some g)):=q9 (qs hbd _);have HT3:=q9 (jn.fx HT.out HV3.out.gr (fun e=>hgt (by injection e)))
      clear hbd;generalize v2.drew=v3 at*;unfold qX
      go_wp2_with((with_reducible refine(HI.out _ HV3.out.box HT3.out).mono ?_);rintro e v4 ⟨rfl,hB,hg⟩;have HV4:=q9 (HV3.out.act hB hg);have xW:=q9 (xX.out.keepP hg (by omega));have HG4:=q9 (qr HG3.out hg);clear hB hg)
      refine⟨a9 HG4.out,?_⟩;unfold qX
      go_wp2_with((with_reducible refine(HOR.out _).mono ?_);rintro e v5 ⟨rfl,hx⟩;have HV5:=q9 (HV4.out.ext hx);have xV:=q9 (xW.out.up (qn hx));have HG5:=q9 (qr HG4.out (qs (qn hx) (some g)));clear hx)
      refine⟨a9 HG5.out,?_⟩;unfold qX;unfold qX
      go_wp2_with(refine qq rfl _ _ rfl w1.heap.size rfl _ oa rfl xV.out ?_;intro v6 hB2 hg2;have HV6:=q9 (HV5.out.far hg2 (by omega) (by omega));have xU:=q9 hB2;clear hB2 hg2)
      refine⟨trivial,?_⟩;unfold qX;go_wp2
      go_roundg f
      case measure=>omega
      case rel=>exact⟨f,oa,iz,rfl,HV6.out,xU.out,yB,x7,HPL,by have h1:=HIL.out;have h2:=HYP.out;have h3:=HEE.out;rcases h1 with h1|h1<;>omega⟩
    ·have HLR:Hid (L=(af,y1)):=q9 (by rw[vL.out];rfl)
     obtain⟨zf,hzf⟩:∃zf,zf=y1:=⟨_,rfl⟩;rw[<-hzf]at HLR;clear vL wA HIT HT2 HY1
     go_upto_region 7 with((with_reducible refine(HTK.out _ HE.out.box).mono ?_);rintro e v1 ⟨rfl,hB,hg⟩;have HX:=q9 (HE.out.act hB hg);have HXA:=q9 (HA.out.keepP hg (by omega));clear hB hg)
     rw[<-hzf]at HX;clear hzf HE HA HTK HYP;have HRR:Hid (R=(cB af,if cB af=0 then qC 17 frm zf else zf)):=q9 (by rw[HR.out,HLR.out];rfl)
     have HNO:Hid (∀W,Calls Tryd.prog 70 #[qW af] W (qZ (cB af) W)):=q9 (fun W=>tI HAL.out W)
     have hcm:=HCM.out (cB af) (dA af);generalize cB af=xx at*
     by_cases h0:xx=0
     ·rw[if_pos h0]at HRR
      rw[decide_eq_true h0]at hcm;clear h0 HCM
      go_wp2_with(first
       |(refine qw rfl _ rfl w1.heap.size rfl _ HXA.out ?_)
       |((with_reducible refine(HNO.out _).mono ?_);rintro e u1 ⟨rfl,hx⟩;have HY1:=q9 (HX.out.ext hx);have vX:=q9 (HXA.out.up (qn hx));clear hx)
       |(refine qq rfl _ _ rfl w1.heap.size rfl _ xx rfl vX.out ?_;intro u2 hB2 hg2;have HY2:=q9 (HY1.out.far hg2 (by omega) (by omega));have vN:=q9 hB2;clear hB2 hg2)
       |(refine qw rfl _ rfl w1.heap.size rfl _ vN.out ?_)
       |((with_reducible refine(wG.out _ _ HY2.out.box).mono ?_);rintro e u3 ⟨rfl,hB,hg⟩;have HY3:=q9 (HY2.out.act hB hg);have vW:=q9 (vN.out.keepP hg (by omega));clear hB hg)
       |(refine qw rfl _ rfl w1.heap.size rfl _ vW.out ?_)
       |(refine qq rfl _ _ rfl w.heap.size rfl _ xx rfl HY3.out.set ?_;intro u4 hB2 hg2;have HY4:=q9 (HY3.out.store hB2 hg2);clear hB2 hg2))
      refine qD (s:=4) (ad:=⟨w.heap.size,0,none⟩) (x:=qW xx) rfl rfl rfl HY4.out.set.load ?_;rw[HRR.out]
      exact⟨rfl,HY4.out.box,HY4.out.gr⟩
     ·rw[if_neg h0]at HRR
      rw[decide_eq_false h0]at hcm;clear h0 HCM
      go_wp2_with(first
       |(refine qw rfl _ rfl w1.heap.size rfl _ HXA.out ?_)
       |((with_reducible refine(HNO.out _).mono ?_);rintro e u1 ⟨rfl,hx⟩;have HY1:=q9 (HX.out.ext hx);have vX:=q9 (HXA.out.up (qn hx));clear hx)
       |(refine qq rfl _ _ rfl w1.heap.size rfl _ xx rfl vX.out ?_;intro u2 hB2 hg2;have HY2:=q9 (HY1.out.far hg2 (by omega) (by omega));have vN:=q9 hB2;clear hB2 hg2)
       |(refine qw rfl _ rfl w1.heap.size rfl _ vN.out ?_)
       |(refine qq rfl _ _ rfl w.heap.size rfl _ xx rfl HY2.out.set ?_;intro u4 hB2 hg2;have HY4:=q9 (HY2.out.store hB2 hg2);clear hB2 hg2))
      refine qD (s:=4) (ad:=⟨w.heap.size,0,none⟩) (x:=qW xx) rfl rfl rfl HY4.out.set.load ?_;rw[HRR.out]
      exact⟨rfl,HY4.out.box,HY4.out.gr⟩
   ·have heb:((y.e:Int)==0)=false:=by simpa using he
    have HLR:Hid (L=(af,y)):=q9 (by rw[<-HCL.out,fE,if_pos he])
    obtain⟨zf,hzf⟩:∃zf,zf=y:=⟨_,rfl⟩;rw[<-hzf]at HLR;clear HCL wA HIT HT2 he
    go_upto_region 7 with(fail)
    have HX:=HE;have HXA:=HA;rw[<-hzf]at HX;clear hzf HE HA HYP;have HRR:Hid (R=(cB af,if cB af=0 then qC 17 frm zf else zf)):=q9 (by rw[HR.out,HLR.out];rfl)
    have HNO:Hid (∀W,Calls Tryd.prog 70 #[qW af] W (qZ (cB af) W)):=q9 (fun W=>tI HAL.out W)
    have hcm:=HCM.out (cB af) (dA af);generalize cB af=xx at*
    by_cases h0:xx=0
    ·rw[if_pos h0]at HRR
     rw[decide_eq_true h0]at hcm;clear h0 HCM
     go_wp2_with(first
      |(refine qw rfl _ rfl w1.heap.size rfl _ HXA.out ?_)
      |((with_reducible refine(HNO.out _).mono ?_);rintro e u1 ⟨rfl,hx⟩;have HY1:=q9 (HX.out.ext hx);have vX:=q9 (HXA.out.up (qn hx));clear hx)
      |(refine qq rfl _ _ rfl w1.heap.size rfl _ xx rfl vX.out ?_;intro u2 hB2 hg2;have HY2:=q9 (HY1.out.far hg2 (by omega) (by omega));have vN:=q9 hB2;clear hB2 hg2)
      |(refine qw rfl _ rfl w1.heap.size rfl _ vN.out ?_)
      |((with_reducible refine(wG.out _ _ HY2.out.box).mono ?_);rintro e u3 ⟨rfl,hB,hg⟩;have HY3:=q9 (HY2.out.act hB hg);have vW:=q9 (vN.out.keepP hg (by omega));clear hB hg)
      |(refine qw rfl _ rfl w1.heap.size rfl _ vW.out ?_)
      |(refine qq rfl _ _ rfl w.heap.size rfl _ xx rfl HY3.out.set ?_;intro u4 hB2 hg2;have HY4:=q9 (HY3.out.store hB2 hg2);clear hB2 hg2))
     refine qD (s:=4) (ad:=⟨w.heap.size,0,none⟩) (x:=qW xx) rfl rfl rfl HY4.out.set.load ?_;rw[HRR.out]
     exact⟨rfl,HY4.out.box,HY4.out.gr⟩
    ·rw[if_neg h0]at HRR
     rw[decide_eq_false h0]at hcm;clear h0 HCM
     go_wp2_with(first
      |(refine qw rfl _ rfl w1.heap.size rfl _ HXA.out ?_)
      |((with_reducible refine(HNO.out _).mono ?_);rintro e u1 ⟨rfl,hx⟩;have HY1:=q9 (HX.out.ext hx);have vX:=q9 (HXA.out.up (qn hx));clear hx)
      |(refine qq rfl _ _ rfl w1.heap.size rfl _ xx rfl vX.out ?_;intro u2 hB2 hg2;have HY2:=q9 (HY1.out.far hg2 (by omega) (by omega));have vN:=q9 hB2;clear hB2 hg2)
      |(refine qw rfl _ rfl w1.heap.size rfl _ vN.out ?_)
      |(refine qq rfl _ _ rfl w.heap.size rfl _ xx rfl HY2.out.set ?_;intro u4 hB2 hg2;have HY4:=q9 (HY2.out.store hB2 hg2);clear hB2 hg2))
     refine qD (s:=4) (ad:=⟨w.heap.size,0,none⟩) (x:=qW xx) rfl rfl rfl HY4.out.set.load ?_;rw[HRR.out]
     exact⟨rfl,HY4.out.box,HY4.out.gr⟩
abbrev qu(w:World)(B:Nat)(v:Value)(l:List Nd):Prop:=qJ 8 w B 74 v (l.map ndC)
def bN(w:World)(l:List Nd)(e:Ending)(w':World):Prop:=∃v,e=.returned v/\qu w' w.heap.size v l/\Below w.heap.size w w'
theorem qu.at{w:World}{B:Nat}{v:Value}{l:List Nd}(h:qu w B v l):j4 w v l:=h.sl
theorem r9(l:List Nd):∀x∈l.map ndC,x.length=8:=by
 intro x hx;obtain⟨y,-,rfl⟩:=List.mem_map.1 hx
 rfl
theorem rA(l:List Nd):∀u∈(l.map ndC).flatten,u.oneCell'=true:=by
 intro u hu;obtain⟨c,hc,hu⟩:=List.mem_flatten.1 hu;obtain⟨y,-,rfl⟩:=List.mem_map.1 hc;simp only[ndC,List.mem_cons,List.not_mem_nil,or_false]at hu
 rcases hu with rfl|rfl|rfl|rfl|rfl|rfl|rfl|rfl<;>rfl
theorem a7.setN{w:World}{b:Nat}{x:Nd}(h:a7 w b x)(n:Int):a7 (w.setCell ⟨b,1,none⟩ (.int .i64 n)) b {x with n:=n}/\w.grownBy (w.setCell ⟨b,1,none⟩ (.int .i64 n)) (some b):=by
 obtain⟨h1,h2⟩:=h.own.store 1 (.int .i64 n)
 exact⟨⟨h1⟩,h2⟩
theorem a7.heap{w:World}{b:Nat}{x:Nd}(h:a7 w b x):w.heap[b]? =some (.cells (ndA x) 74 (0,0)):=by
 obtain⟨A,hg,-,hA⟩:=h.own.whole;rw[hg,show ndA x=(ndC x).toArray from rfl,<-hA]
theorem aF{ops:Array Oper}{rest:List Oper}{o:Oper}{a:Act}{w:World}{Q:Exit->Act->World->Prop}(hgd:o.guard=none)(y:Operand)(ho:o.op=.load 74 y)
  (b:Nat) (hx:a.eval y=.pointer (some ⟨b,0,none⟩)) (x:Nd) (hown:a7 w b x)
  (h:wpList Tryd.prog ops Q rest (a.put o.dst (.agg (ndA x))) w):wpList Tryd.prog ops Q (o::rest) a w:=
 eM hgd 74 8 y ho b hx (ndA x) rfl hown.heap _ Tryd.underlying74 rfl (by kernel_rfl) h
theorem kF{ops:Array Oper}{rest:List Oper}{o:Oper}{a:Act}{w:World}{Q:Exit->Act->World->Prop}(hgd:o.guard=none)(y:Operand)(ho:o.op=.load 74 y)
  (b:Nat) (hx:a.eval y=.pointer (some ⟨b,0,none⟩)) (k n a1 b1 c1 d1 lo hi:Int) (hown:a7 w b ⟨k,n,a1,b1,c1,d1,lo,hi⟩)
  (h:wpList Tryd.prog ops Q rest (a.put o.dst (.agg #[.int .i64 k,.int .i64 n,.int .u64 a1,.int .u64 b1,.int .u64 c1,.int .u64 d1,.int .i64 lo,.int .i64 hi])) w):wpList Tryd.prog ops Q (o::rest) a w:=
 aF hgd y ho b hx _ hown h
theorem a7.free{w:World}{b:Nat}{x:Nd}(h:a7 w b x)(c:Nat):w.frozen? ⟨b,c,none⟩=false:=h.own.free c
theorem a7.c1{w:World}{b:Nat}{x:Nd}(h:a7 w b x):w.cell? ⟨b,1,none⟩=some (.int .i64 x.n):=h.own.cell (by simp[ndC])
theorem a7.lt{w:World}{b:Nat}{x:Nd}(h:a7 w b x):b<w.heap.size:=(h.own.lt b rfl).2
theorem kG{w:World}{x:Nd}{kv:Value}{vs:List Value}{ks:List (List Nd)}(hk:Sl w kv vs)(hl:vs.length=ks.length)(hn:∀i,i<ks.length->j4 w (vs.getD i undef) (ks.getD i []))(hb:ks.flatten.length<=500000000):
  Calls Tryd.prog 54 #[.agg (ndA x),kv] w (bN w (j1 x ks)):=by
 obtain⟨oa,cap,b,off,rfl,hd,hc⟩:=hk;rw[hl]at hd hc⊢;have hix:=fun(W:World) (i:Nat) (hi:i<ks.length)=>a8 (P:=Tryd.prog) 92 37 Tryd.underlying92 (by kernel_rfl) hd W .i64 i (by omega) (by omega)
 simp only[Int.toNat_natCast]at hix;have HIX:=q9 hix;have hm:=hd.len;have hblk:=hd.hblk;have HC:=q9 hc;have HN:=q9 hn;obtain⟨X,hX⟩:∃X:Array Value,X=ndA x:=⟨_,rfl⟩;have HB0:=q9 (bM w x X hX);have c1:=HB0.out.c1;have f1:=HB0.out.free 1;have hl0:=HB0.out.lt;obtain⟨k0,n0,a0,b0,c0,d0,l0,h0⟩:=x;have HN1:Hid (a7 (w.alloc (.cells (X.setIfInBounds 1 (.int .i64 (ks.length:Nat))) 74)) w.heap.size ⟨k0,(ks.length:Nat),a0,b0,c0,d0,l0,h0⟩):=q9 (bM w _ _ (by rw[hX];rfl))
 have HR:Hid (j1 ⟨k0,n0,a0,b0,c0,d0,l0,h0⟩ ks=⟨k0,(ks.length:Nat),a0,b0,c0,d0,l0,h0⟩::ks.flatten):=q9 rfl;rw[HR.out];obtain⟨K,hK⟩:∃K,K=ks.length:=⟨_,rfl⟩;have HK:=q9 hK;rw[<-hK]at hd HC HIX HN1 HN hm hblk⊢;obtain⟨w1,hw1⟩:∃w1,w1=w.alloc (.cells (X.setIfInBounds 1 (.int .i64 (K:Nat))) 74):=⟨_,rfl⟩;have hs1:w1.heap.size=w.heap.size+1:=by rw[hw1];simp
 have hb1:Below w.heap.size w w1:=by rw[hw1];exact qo w _
 obtain⟨x1,hx1⟩:∃x1:Nd,x1=⟨k0,(K:Nat),a0,b0,c0,d0,l0,h0⟩:=⟨_,rfl⟩;obtain⟨C,hC⟩:∃C:Array Value,C=#[.int .i64 k0,.int .i64 (K:Nat),.int .u64 a0,.int .u64 b0,.int .u64 c0,.int .u64 d0,.int .i64 l0,.int .i64 h0]:=⟨_,rfl⟩;have hCx:C=ndA x1:=by rw[hC,hx1];rfl
 have HB2:Hid (Below w.heap.size w (w1.alloc (.cells C 74))):=q9 (hb1.trans ((qo w1 _).mono (by omega)))
 have HO2:Hid (qu (w1.alloc (.cells C 74)) w.heap.size (.slice (some ⟨w.heap.size+1,0,none⟩) 1 1) [x1]):=q9 (by
  have:=nJ 8 w1 w.heap.size C 74 [ndC x1] (by rw[hCx];simp[nT]) (by intro y hy;simp at hy;subst hy;rfl) (by simp) (by omega)
  rw[hs1]at this
  exact this)
 rw[hw1,hC]at HB2 HO2;rw[<-hX,<-hx1];clear hix hd hc hn hl hX hw1 hs1 hb1 hC hCx;have HX1:=q9 hx1;clear hx1 hK
 go_enter Tryd.func54,Tryd.ntmps54
 go_wp2_with(refine kF rfl _ rfl w.heap.size rfl k0 (K:Nat) a0 b0 c0 d0 l0 h0 HN1.out ?_)
 generalize (w.alloc (.cells (X.setIfInBounds 1 (.int .i64 (K:Nat))) 74)).alloc (.cells #[.int .i64 k0,.int .i64 (K:Nat),.int .u64 a0,.int .u64 b0,.int .u64 c0,.int .u64 d0,.int .i64 l0,.int .i64 h0] 74)=w2 at*;clear HN1 c1 f1 hl0 HB0 HR
 go_loopg [5,15] (K+1) (fun gk lv iv wr=>∃i:Nat,i<=K/\iv=.int .i64 i/\qu wr w.heap.size lv (x1::(ks.take i).flatten)/\Below w.heap.size w wr/\gk=K+1-i)
 case atStart=>exact⟨0,qc _,rfl,by simpa using HO2.out,HB2.out,rfl⟩
 case round=>
  clear HO2 HB2;obtain⟨i,hi,rfl,hO,hB,hgk⟩:=hrel;subst hgk;have HO:=q9 hO;have HB:=q9 hB;clear hO hB
  by_cases hlt:i<K
  ·have vS:=fun W=>HIX.out W i hlt
   have hbw:=hblk (by omega)
   have hcell:=(HB.out.cell (p:=⟨b,off+i,none⟩) hbw).trans (HC.out i hlt);have D1:b<wr.heap.size:=by have:=HB.out.size;omega
   have HKI:=q9 (j4.up (HN.out i hlt) ((HB.out)))
   have HLE:Hid (((x1::(ks.take i).flatten).map ndC).length+((ks.getD i []).map ndC).length<=1000000000):=q9 (by
    have h1:((ks.take (i+1)).flatten).length<=ks.flatten.length:=by
     have:=List.take_append_drop (i+1) ks;rw[<-this,List.flatten_append,qg];rw[this];omega
    rw[qE ks i [] (by rw[<-HK.out];exact hlt),List.flatten_append,qg]at h1
    simp only[List.flatten_singleton]at h1;simp only[List.length_map,List.length_cons];omega)
   have HTS:Hid (x1::(ks.take (i+1)).flatten=(x1::(ks.take i).flatten)++ks.getD i []):=q9 (by
    rw[qE ks i [] (by rw[<-HK.out];exact hlt),List.flatten_append];simp)
   generalize vs.getD i undef=kv at*;generalize ks.getD i []=ki at*;generalize x1::(ks.take i).flatten=cur at*;clear HN HC
   go_wp2_with(at_builtin;refine d5 8 rfl (.tmp 19) (.tmp 20) 37 rfl w.heap.size 74 (.agg (ndA zN)) 64 Tryd.underlying37 (by kernel_rfl) rfl (by decide) (by decide) u5 _ rfl HO.out kv _ rfl HKI.out (r9 ki) (rA ki) HLE.out HB.out.size ?_;intro v' w5 hown1 hg1 hk1;have HO5:=q9 hown1;have HB5:=q9 (HB.out.grown hg1 HB.out.size (fun k hk=>(HO.out.lt k hk).1));clear hown1 hg1 hk1)
   go_roundg (K-i)
   case measure=>omega
   case rel=>exact⟨i+1,by omega,by go_num,by rw[HTS.out];unfold qu;rw[List.map_append];exact HO5.out,HB5.out,by omega⟩
  ·obtain rfl:i=K:=by omega
   rw[HK.out,List.take_length]at HO;go_wp2;go_ret
   exact⟨_,rfl,HO.out,HB.out⟩
theorem m3{ops:Array Oper}{rest:List Oper}{o:Oper}{a:Act}{w:World}{Q:Exit->Act->World->Prop}(hgd:o.guard=none)(x:Operand)(ho:o.op=.load 72 x)
  (g:Nat) (hx:a.eval x=.pointer (some ⟨g,0,none⟩)) (s:Nat) (hown:jp w g s)
  (h:wpList Tryd.prog ops Q rest (a.put o.dst (.agg #[.int .u64 (wdR s 0:Nat),.int .u64 (wdR s 1:Nat),.int .u64 (wdR s 2:Nat),.int .u64 (wdR s 3:Nat)])) w):wpList Tryd.prog ops Q (o::rest) a w:=
 qw hgd x ho g hx s hown h
theorem bN.up{w w1:World}{l:List Nd}{e:Ending}{w':World}(h:bN w1 l e w')(hb:Below w.heap.size w w1):bN w l e w':=by
 obtain⟨v,he,ho,hb2⟩:=h
 exact⟨v,he,ho.mono hb.size,hb.trans (hb2.mono hb.size)⟩
theorem uQ(x:Nat)(w:World):Calls Tryd.prog 67 #[qW x] w (bN w [setN x]):=by
 obtain⟨X,hX⟩:∃X,X=(wsV x).toArray:=⟨_,rfl⟩;have HB0:Hid (jp (w.alloc (.cells X 72)) w.heap.size x):=q9 (by rw[hX];exact jB w x)
 have HBL:Hid (Below w.heap.size w (w.alloc (.cells X 72))):=q9 (qo _ _);have HJ:Hid (∀W,Calls Tryd.prog 54 #[.agg #[.int .i64 1,.int .i64 0,.int .u64 (wdR x 0:Nat),.int .u64 (wdR x 1:Nat),.int .u64 (wdR x 2:Nat),.int .u64 (wdR x 3:Nat),.int .i64 0,.int .i64 0],.slice none 0 0] W (bN W [setN x])):=q9 (fun W=>kG (x:=setN x) (ks:=[]) (Sl.nil W) rfl (fun i hi=>absurd hi (Nat.not_lt_zero i)) (by simp))
 rw[show qW x=.agg X by rw[hX];rfl]
 clear hX;generalize setN x=sn at*
 go_enter Tryd.func67,Tryd.ntmps67
 go_wp2_with(first
  |(refine m3 rfl _ rfl w.heap.size rfl x HB0.out ?_)
  |((with_reducible refine(HJ.out _).mono ?_);rintro e w2 ⟨v,rfl,ho,hb⟩;have HO:=q9 (ho.mono (HBL.out.size));have HB:=q9 (HBL.out.trans (hb.mono HBL.out.size));clear ho hb))
 go_ret
 exact⟨v,rfl,HO.out,HB.out⟩
structure Prs(w0 w:World)(g:Nat)(s:ByteArray)(z:PS):Prop where
 box:qO w g s z
 gr:w0.grownBy w (some g)
 gl:g<w0.heap.size
section
variable {w0 w w' : World} {g : Nat} {s : ByteArray} {z : PS}
theorem Prs.ext(h:Prs w0 w g s z)(hx:∃y,w'=ext w y):Prs w0 w' g s z:=
 have hb:=qn hx
 ⟨h.box.up hb,qr h.gr (qs hb _),h.gl⟩
theorem Prs.below(h:Prs w0 w g s z)(hb:Below w.heap.size w w'):Prs w0 w' g s z:=⟨h.box.up hb,qr h.gr (qs hb _),h.gl⟩
theorem Prs.act{z':PS}(h:Prs w0 w g s z)(hB:qO w' g s z')(hg:w.grownBy w' (some g)):Prs w0 w' g s z':=⟨hB,qr h.gr hg,h.gl⟩
theorem Prs.far{row:Option Nat}(h:Prs w0 w g s z)(hg:w.grownBy w' row)(hq:∀q,row=some q->w0.heap.size<=q):Prs w0 w' g s z:=
 ⟨h.box.keep hg (fun e=>by have:=hq g e;have:=h.gl;omega),aE h.gr hg hq,h.gl⟩
theorem Prs.inc(h:Prs w0 w g s z):Prs w0 (w.setCell ⟨g,1,none⟩ (.int .i64 ((z.p:Int)+1))) g s (qH z):=h.act h.box.inc.1 h.box.inc.2
theorem Prs.tab(h:Prs w0 w g s z)(hT:jn w0)(hne:g≠6):jn w:=hT.fx h.gr (fun e=>hne (by injection e))
end
def kH(l:List Nd)(g:Nat)(s:ByteArray)(z:PS)(w:World)(e:Ending)(w':World):Prop:=∃v,e=.returned v/\qu w' w.heap.size v l/\qO w' g s z/\w.grownBy w' (some g)
def rB(g:Nat)(s:ByteArray)(lo:Nat)(alt:PS->List Nd×PS):Prop:=∀W z,qO W g s z->jn W->lo<z.p->z.p<=s.size->Calls Tryd.prog 29 #[.pointer (some ⟨g,0,none⟩)] W (kH (alt z).1 g s (alt z).2 W)
theorem qu.keepG{w w':World}{B g:Nat}{v:Value}{l:List Nd}(h:qu w B v l)(hg:w.grownBy w' (some g))(hB:g<B):qu w' B v l:=
 qJ.keep h hg (by
  cases hv:v.ownBlock with
  |none=>exact .inl rfl
  |some q=>right;intro e;have:=(h.lt q hv).1;have:=qk e;omega)
theorem uR{alt:PS->List Nd×PS}{w:World}{g lo:Nat}{s:ByteArray}{z:PS}{c:UInt8}(hA:rB g s lo alt)(hlo:lo<=z.p)(h:qO w g s z)(hs:s.size<=1000000)(hT:jn w)(hc:nxR (bys s) z=some c):
  Calls Tryd.prog 64 #[.pointer (some ⟨g,0,none⟩)] w (kH (eD (bys s) alt z).1 g s (eD (bys s) alt z).2 w):=by
 have hgt:=hT.ne h;have HT:=q9 hT;have hz:=aD;obtain⟨Z,hZ⟩:∃Z,Z=z4:=⟨_,rfl⟩;rw[<-hZ]at hz;have HNW:Hid (∀W:World,jp (W.alloc (.cells Z 72)) W.heap.size 0):=q9 (fun W=>qV W Z hZ)
 have HP0:Hid (Prs w w g s z):=q9 ⟨h,jo _ _,h.lt⟩;have c1:=h.c1;have hgl:=h.lt;have HX:Hid (∀W,qO W g s z->Calls Tryd.prog 30 #[.pointer (some ⟨g,0,none⟩)] W fun e w'=>e=.returned (nxV (nxR (bys s) z))/\∃x,w'=ext W x):=q9 (fun W h=>nxP h)
 rw[hc]at HX;unfold nxV at HX;have HES:Hid (∀W,qO W g s z->Calls Tryd.prog 66 #[.pointer (some ⟨g,0,none⟩)] W (jM (nC (cF (bys s) z)) g s (cF (bys s) z).2 W)):=q9 (fun W h=>uG h hs hc)
 have xE:Hid (∀(x:Nat) W,Calls Tryd.prog 67 #[qW x] W (bN W [setN x])):=q9 (fun x W=>uQ x W)
 obtain⟨hz0,hzp,-⟩:=qS hc;rw[qt]at hzp;obtain⟨R,hR⟩:∃R,R=eD (bys s) alt z:=⟨_,rfl⟩;rw[<-hR];unfold eD at hR;rw[hc]at hR;simp only[Option.getD_some,Option.isSome_some]at hR HX;clear h hZ hT hc hz0
 by_cases h1:c=92
 ·rw[if_pos h1]at hR
  have HR:=q9 hR;have hcb:((c.toNat:Int)==92)=true:=by rw[h1];rfl
  unfold nC at HES;generalize cF (bys s) z=E at*;obtain⟨⟨a,b⟩,z1⟩:=E;simp only at HES HR;clear hR h1 hA
  go_enter Tryd.func64,Tryd.ntmps64
  go_wp2_with(first
   |((with_reducible refine(HX.out _ HP0.out.box).mono ?_);rintro e w1 ⟨rfl,hx⟩;have HP1:=q9 (HP0.out.ext hx);clear hx)
   |((with_reducible refine(HES.out _ HP1.out.box).mono ?_);rintro e w2 ⟨rfl,hB,hg⟩;have HP2:=q9 (HP1.out.act hB hg);have hba:=qo w2 (.cells Z 72);have HP3:=q9 (HP2.out.below hba);have HN3:=q9 (HNW.out w2);have hs2:=HP2.out.gr.size;clear hB hg hba)
   |(refine qq rfl _ _ rfl w2.heap.size rfl _ a rfl HN3.out ?_;intro w4 hB2 hg2;have HP4:=q9 (HP3.out.far hg2 (fun q e=>by injection e with e;omega));have HN4:=q9 hB2;clear hB2 hg2)
   |(refine qw rfl _ rfl w2.heap.size rfl _ HN4.out ?_)
   |((with_reducible refine(xE.out _ _).mono ?_);rintro e w5 ⟨v,rfl,ho,hb⟩;have HP5:=q9 (HP4.out.below hb);have HO5:=q9 (ho.mono (HP4.out.gr.size));clear ho hb))
  go_ret;rw[HR.out]
  exact⟨v,rfl,HO5.out,HP5.out.box,HP5.out.gr⟩
 ·rw[if_neg h1]at hR
  have k1:¬c.toNat=92:=fun e=>h1 (UInt8.toNat_inj.1 e)
  clear h1 HES;have c1':=c1;have f1:=HP0.out.box.free 1
  by_cases h2:c=40
  ·rw[if_pos h2]at hR
   have hcb:((c.toNat:Int)==40)=true:=by rw[h2];rfl
   have HAL:Hid (∀W,qO W g s (qH z)->jn W->Calls Tryd.prog 29 #[.pointer (some ⟨g,0,none⟩)] W (kH (alt (qH z)).1 g s (alt (qH z)).2 W)):=q9 (fun W h hT=>hA W (qH z) h hT (Nat.lt_succ_of_le hlo) hzp)
   generalize alt (qH z)=L at*;obtain⟨l,z1⟩:=L;have HTK:Hid (∀W,qO W g s z1->Calls Tryd.prog 43 #[.pointer (some ⟨g,0,none⟩),.int .u8 41] W (jM (.bool (qz (bys s) 41 z1).1) g s (qz (bys s) 41 z1).2 W)):=q9 (fun W h=>gY h hs 41)
   have HF:Hid (∀W y,qO W g s y->Calls Tryd.prog 31 #[.pointer (some ⟨g,0,none⟩),.int .i64 16,.int .i64 z.p] W (jM (.tuple #[]) g s (qC 16 z.p y) W)):=q9 (fun W y h=>bY h 16 z.p)
   simp only at hR HAL;generalize qz (bys s) 41 z1=T1 at*;obtain⟨bt,z2⟩:=T1;have HR:=q9 hR;simp only at HR HTK;clear hR h2 hA
   cases bt
   all_goals
    go_enter Tryd.func64,Tryd.ntmps64
    go_wp2_with(first
     |((with_reducible refine(HX.out _ HP0.out.box).mono ?_);rintro e w1 ⟨rfl,hx⟩;have HP1:=q9 (HP0.out.ext hx);have c11:=HP1.out.box.c1;have f11:=HP1.out.box.free 1;have HI:=q9 HP1.out.inc;have HTI:=q9 (HI.out.tab HT.out hgt);clear hx)
     |((with_reducible refine(HAL.out _ HI.out.box HTI.out).mono ?_);rintro e w2 ⟨v,rfl,ho,hB,hg⟩;have HP2:=q9 (HI.out.act hB hg);have HO2:=q9 (ho.mono HI.out.gr.size);clear ho hB hg)
     |((with_reducible refine(HTK.out _ HP2.out.box).mono ?_);rintro e w3 ⟨rfl,hB,hg⟩;have HP3:=q9 (HP2.out.act hB hg);have HO3:=q9 (qu.keepG HO2.out hg hgl);clear hB hg)
     |((with_reducible refine(HF.out _ _ HP3.out.box).mono ?_);rintro e w4 ⟨rfl,hB,hg⟩;have HP4:=q9 (HP3.out.act hB hg);have HO4:=q9 (qu.keepG HO3.out hg hgl);clear hB hg))
    go_ret;rw[HR.out]
    first
     |exact⟨v,rfl,HO4.out,HP4.out.box,HP4.out.gr⟩
     |exact⟨v,rfl,HO3.out,HP3.out.box,HP3.out.gr⟩
  ·rw[if_neg h2]at hR
   have k2:¬c.toNat=40:=fun e=>h2 (UInt8.toNat_inj.1 e)
   clear h2 hA
   by_cases h3:c=91
   ·rw[if_pos h3]at hR
    have hcb:((c.toNat:Int)==91)=true:=by rw[h3];rfl
    have HCL:Hid (∀W,qO W g s (qH z)->jn W->Calls Tryd.prog 69 #[.pointer (some ⟨g,0,none⟩),.int .i64 z.p] W (jM (qW (iZ (bys s) z.p (qH z)).1) g s (iZ (bys s) z.p (qH z)).2 W)):=q9 (fun W h hT=>uP h hs hT hzp (by omega))
    generalize iZ (bys s) z.p (qH z)=L at*;obtain⟨a,z1⟩:=L;have HR:=q9 hR;simp only at HR HCL;clear hR h3
    go_enter Tryd.func64,Tryd.ntmps64
    go_wp2_with(first
     |((with_reducible refine(HX.out _ HP0.out.box).mono ?_);rintro e w1 ⟨rfl,hx⟩;have HP1:=q9 (HP0.out.ext hx);have c11:=HP1.out.box.c1;have f11:=HP1.out.box.free 1;have HI:=q9 HP1.out.inc;have HTI:=q9 (HI.out.tab HT.out hgt);clear hx)
     |((with_reducible refine(HCL.out _ HI.out.box HTI.out).mono ?_);rintro e w2 ⟨rfl,hB,hg⟩;have HP2:=q9 (HI.out.act hB hg);clear hB hg)
     |((with_reducible refine(xE.out _ _).mono ?_);rintro e w5 ⟨v,rfl,ho,hb⟩;have HP5:=q9 (HP2.out.below hb);have HO5:=q9 (ho.mono (HP2.out.gr.size));clear ho hb))
    go_ret;rw[HR.out]
    exact⟨v,rfl,HO5.out,HP5.out.box,HP5.out.gr⟩
   ·rw[if_neg h3]at hR
    have k3:¬c.toNat=91:=fun e=>h3 (UInt8.toNat_inj.1 e)
    clear h3
    by_cases h4:c=46
    ·rw[if_pos h4]at hR
     have hcb:((c.toNat:Int)==46)=true:=by rw[h4];rfl
     have HSI:Hid (∀W,Calls Tryd.prog 71 #[.int .u8 10] W (qZ (jH 10) W)):=q9 (fun W=>bZ 10 W)
     have HNO:Hid (∀W,Calls Tryd.prog 70 #[qW (jH 10)] W (qZ (cB (jH 10)) W)):=q9 (fun W=>tI (fR 10) W)
     have HR:=q9 hR;generalize cB (jH 10)=no at*;generalize jH 10=on at*;clear hR h4
     go_enter Tryd.func64,Tryd.ntmps64
     go_wp2_with(first
      |((with_reducible refine(HX.out _ HP0.out.box).mono ?_);rintro e w1 ⟨rfl,hx⟩;have HP1:=q9 (HP0.out.ext hx);have c11:=HP1.out.box.c1;have f11:=HP1.out.box.free 1;have HI:=q9 HP1.out.inc;clear hx)
      |((with_reducible refine(HSI.out _).mono ?_);rintro e w2 ⟨rfl,hx⟩;have HP2:=q9 (HI.out.ext hx);clear hx)
      |((with_reducible refine(HNO.out _).mono ?_);rintro e w3 ⟨rfl,hx⟩;have HP3:=q9 (HP2.out.ext hx);clear hx)
      |((with_reducible refine(xE.out _ _).mono ?_);rintro e w5 ⟨v,rfl,ho,hb⟩;have HP5:=q9 (HP3.out.below hb);have HO5:=q9 (ho.mono (HP3.out.gr.size));clear ho hb))
     go_ret;rw[HR.out]
     exact⟨v,rfl,HO5.out,HP5.out.box,HP5.out.gr⟩
    ·rw[if_neg h4]at hR
     have k4:¬c.toNat=46:=fun e=>h4 (UInt8.toNat_inj.1 e)
     have HW:Hid (∀W,Calls Tryd.prog 68 #[.string ⟨#[92,91,93,40,41,123,125,42,43,63,124,46]⟩,.int .u8 (c.toNat:Nat)] W fun e w'=>e=.returned (.bool (decide (c∈tH)))/\∃x,w'=ext W x):=q9 (fun W=>lX tH (by decide) c W)
     clear h4;have e2:((c.toNat:Int)==40)=false:=by simp;omega
     have e3:((c.toNat:Int)==91)=false:=by simp;omega
     have e4:((c.toNat:Int)==46)=false:=by simp;omega
     by_cases h5:c∈tH
     ·rw[if_pos h5]at hR
      rw[decide_eq_true h5]at HW;have HR:=q9 hR;have HF:Hid (∀W,qO W g s z->Calls Tryd.prog 31 #[.pointer (some ⟨g,0,none⟩),.int .i64 15,.int .i64 z.p] W (jM (.tuple #[]) g s (qC 15 z.p z) W)):=q9 (fun W h=>bY h 15 z.p)
      clear hR h5
      go_enter Tryd.func64,Tryd.ntmps64
      go_wp2_with(first
       |((with_reducible refine(HX.out _ HP0.out.box).mono ?_);rintro e w1 ⟨rfl,hx⟩;have HP1:=q9 (HP0.out.ext hx);clear hx)
       |((with_reducible refine(HW.out _).mono ?_);rintro e w2 ⟨rfl,hx⟩;have HP2:=q9 (HP1.out.ext hx);clear hx)
       |((with_reducible refine(HF.out _ HP2.out.box).mono ?_);rintro e w3 ⟨rfl,hB,hg⟩;have HP3:=q9 (HP2.out.act hB hg);clear hB hg))
      go_ret;rw[HR.out]
      exact⟨_,rfl,qJ.nil 8 w3 w.heap.size 74,HP3.out.box,HP3.out.gr⟩
     ·rw[if_neg h5]at hR
      rw[decide_eq_false h5]at HW;have HR:=q9 hR;have HSI:Hid (∀W,Calls Tryd.prog 71 #[.int .u8 (c.toNat:Nat)] W (qZ (jH c) W)):=q9 (fun W=>bZ c W)
      generalize jH c=on at*;clear hR h5
      go_enter Tryd.func64,Tryd.ntmps64
      go_wp2_with(first
       |((with_reducible refine(HX.out _ HP0.out.box).mono ?_);rintro e w1 ⟨rfl,hx⟩;have HP1:=q9 (HP0.out.ext hx);clear hx)
       |((with_reducible refine(HW.out _).mono ?_);rintro e w2 ⟨rfl,hx⟩;have HP2:=q9 (HP1.out.ext hx);have c11:=HP2.out.box.c1;have f11:=HP2.out.box.free 1;have HI:=q9 HP2.out.inc;clear hx)
       |((with_reducible refine(HSI.out _).mono ?_);rintro e w3 ⟨rfl,hx⟩;have HP3:=q9 (HI.out.ext hx);clear hx)
       |((with_reducible refine(xE.out _ _).mono ?_);rintro e w5 ⟨v,rfl,ho,hb⟩;have HP5:=q9 (HP3.out.below hb);have HO5:=q9 (ho.mono (HP3.out.gr.size));clear ho hb))
      go_ret;rw[HR.out]
      exact⟨v,rfl,HO5.out,HP5.out.box,HP5.out.gr⟩
theorem rC{w:World}{g:Nat}{s:ByteArray}{z:PS}(h:qO w g s z):Calls Tryd.prog 55 #[.pointer (some ⟨g,0,none⟩)] w fun e w'=>e=.returned (.bool (inR (bys s) z))/\∃x,w'=ext w x:=by
 have HX:=q9 (nxP h);unfold nxV at HX;unfold inR;clear h
 cases hn:nxR (bys s) z with
 |none=>
  rw[hn]at HX;clear hn
  go_enter Tryd.func55,Tryd.ntmps55
  go_wp2_with((with_reducible refine(HX.out).mono ?_);rintro e w1 ⟨rfl,hx⟩;have HB1:=q9 hx;clear hx)
  go_ret
  exact⟨rfl,HB1.out⟩
 |some c=>
  rw[hn]at HX;simp only[Option.getD_some,Option.isSome_some]at HX
  have HR:Hid (∀b1 b2,((c.toNat:Int)==124)=b1->((c.toNat:Int)==41)=b2->(decide (c≠124)&&decide (c≠41))=(!b1&& !b2)):=q9 (fun b1 b2 h1 h2=>by
   subst h1;subst h2;rw[Bool.eq_iff_iff];simp only[Bool.and_eq_true,decide_eq_true_eq,Bool.not_eq_true',beq_eq_false_iff_ne]
   constructor
   ·rintro⟨a,b⟩;exact⟨fun e=>a (UInt8.toNat_inj.1 (by exact_mod_cast e)),fun e=>b (UInt8.toNat_inj.1 (by exact_mod_cast e))⟩
   ·rintro⟨a,b⟩;exact⟨fun e=>a (by rw[e];rfl),fun e=>b (by rw[e];rfl)⟩)
  obtain⟨r,hr⟩:∃r,r=(decide (c≠124)&&decide (c≠41)):=⟨_,rfl⟩;have HRR:=q9 hr
  dsimp only
  rw[<-hr];clear hn hr
  cases hb1:((c.toNat:Int)==124)
  ·cases hb2:((c.toNat:Int)==41)
   ·have HE:Hid (r=true):=q9 (by rw[HRR.out,HR.out _ _ hb1 hb2];rfl)
    have hb3:((c.toNat:Int) != 124)=true:=by rw[bne,hb1];rfl
    have hb4:((c.toNat:Int) != 41)=true:=by rw[bne,hb2];rfl
    clear HR HRR
    go_enter Tryd.func55,Tryd.ntmps55
    go_wp2_with((with_reducible refine(HX.out).mono ?_);rintro e w1 ⟨rfl,hx⟩;have HB1:=q9 hx;clear hx)
    go_ret;rw[HE.out]
    exact⟨rfl,HB1.out⟩
   ·have HE:Hid (r=false):=q9 (by rw[HRR.out,HR.out _ _ hb1 hb2];rfl)
    have hb3:((c.toNat:Int) != 124)=true:=by rw[bne,hb1];rfl
    have hb4:((c.toNat:Int) != 41)=false:=by rw[bne,hb2];rfl
    clear HR HRR
    go_enter Tryd.func55,Tryd.ntmps55
    go_wp2_with((with_reducible refine(HX.out).mono ?_);rintro e w1 ⟨rfl,hx⟩;have HB1:=q9 hx;clear hx)
    go_ret;rw[HE.out]
    exact⟨rfl,HB1.out⟩
  ·have HE:Hid (r=false):=q9 (by rw[HRR.out,HR.out _ _ hb1 rfl];rfl)
   have hb3:((c.toNat:Int) != 124)=false:=by rw[bne,hb1];rfl
   clear HR HRR
   go_enter Tryd.func55,Tryd.ntmps55
   go_wp2_with((with_reducible refine(HX.out).mono ?_);rintro e w1 ⟨rfl,hx⟩;have HB1:=q9 hx;clear hx)
   go_ret;rw[HE.out]
   exact⟨rfl,HB1.out⟩
theorem qu.slice{w:World}{B:Nat}{v:Value}{l:List Nd}(h:qu w B v l):∃oa cap,v=.slice oa l.length cap:=by
 obtain⟨oa,cap,b,off,hv,-,-⟩:=qJ.sl h
 exact⟨oa,cap,by rw[hv,List.length_map]⟩
theorem a7.c0{w:World}{b:Nat}{x:Nd}(h:a7 w b x):w.cell? ⟨b,0,none⟩=some (.int .i64 x.kd):=h.own.cell (by simp[ndC])
theorem a7.setK{w:World}{b:Nat}{x:Nd}(h:a7 w b x)(n:Int):a7 (w.setCell ⟨b,0,none⟩ (.int .i64 n)) b {x with kd:=n}/\w.grownBy (w.setCell ⟨b,0,none⟩ (.int .i64 n)) (some b):=by
 obtain⟨h1,h2⟩:=h.own.store 0 (.int .i64 n)
 exact⟨⟨h1⟩,h2⟩
theorem W5{w0 w3:World}{g b:Nat}{s:ByteArray}{y:PS}{v:Value}{l:List Nd}(hP:Prs w0 w3 g s y)(hN:a7 w3 b zN)(hO:qu w3 w0.heap.size v l)(k:Int)(hb:w0.heap.size<=b)(hv:v.ownBlock=none\/v.ownBlock≠some b):
  Prs w0 ((w3.setCell ⟨b,0,none⟩ (.int .i64 k)).setCell ⟨g,1,none⟩ (.int .i64 ((y.p:Int)+1))) g s (qH y)/\
  a7 ((w3.setCell ⟨b,0,none⟩ (.int .i64 k)).setCell ⟨g,1,none⟩ (.int .i64 ((y.p:Int)+1))) b (kN k)/\
  qu ((w3.setCell ⟨b,0,none⟩ (.int .i64 k)).setCell ⟨g,1,none⟩ (.int .i64 ((y.p:Int)+1))) w0.heap.size v l:=by
 obtain⟨h1,h2⟩:=hN.setK k;have hgl:=hP.gl;have hP2:=hP.far h2 (fun q e=>by injection e with e;omega)
 have hi:=hP2.box.inc
 exact⟨hP2.inc,h1.keep hi.2 (fun e=>by injection e with e;omega),qu.keepG (qJ.keep hO h2 hv) hi.2 hgl⟩
theorem uS{alt:PS->List Nd×PS}{w:World}{g lo:Nat}{s:ByteArray}{z:PS}{c:UInt8}(hA:rB g s lo alt)(hlo:lo<=z.p)(hst:∀z,z.p<=(bys s).length->Stp (bys s) z (alt z).2)(hlen:∀z,z.p<=(bys s).length->(alt z).1.length+2*z.p<=2*(alt z).2.p+1)
  (h:qO w g s z) (hs:s.size<=1000000) (hT:jn w) (hc:nxR (bys s) z=some c):
  Calls Tryd.prog 56 #[.pointer (some ⟨g,0,none⟩)] w (kH (fG (bys s) alt z).1 g s (fG (bys s) alt z).2 w):=by
 have hgt:=hT.ne h;have HT:=q9 hT;have HP0:Hid (Prs w w g s z):=q9 ⟨h,jo _ _,h.lt⟩;have hgl:=h.lt;have HAT:Hid (∀W,qO W g s z->jn W->Calls Tryd.prog 64 #[.pointer (some ⟨g,0,none⟩)] W (kH (eD (bys s) alt z).1 g s (eD (bys s) alt z).2 W)):=q9 (fun W h hT=>uR hA hlo h hs hT hc)
 obtain⟨hz0,hzp,-⟩:=qS hc;have xA:=(l8 hst hc).1.len (by omega)
 have hsml:=(lA hlen hc).lt;rw[qt]at hzp xA;obtain⟨R,hR⟩:∃R,R=fG (bys s) alt z:=⟨_,rfl⟩;rw[<-hR];unfold fG at hR;rw[qt]at hR;have HR:=q9 hR.symm;clear h hT hc hz0 hR hst hlen hA hlo;generalize eD (bys s) alt z=A at*;obtain⟨l0,z0⟩:=A;simp only at HR HAT xA hsml;have hl0:l0.length<=2*s.size:=by rcases hsml with hsml|hsml<;>omega
 clear hsml;have HX:Hid (∀W y,qO W g s y->Calls Tryd.prog 30 #[.pointer (some ⟨g,0,none⟩)] W fun e w'=>e=.returned (nxV (nxR (bys s) y))/\∃x,w'=ext W x):=q9 (fun W y h=>nxP h)
 unfold nxV at HX
 have HJ:Hid (∀(x:Nd) W v (l:List Nd) q,W.heap.size=q->qu W w.heap.size v l->l.length<=4000000->Calls Tryd.prog 54 #[.agg (ndA x),.slice (some ⟨q,0,none⟩) 1 1] (W.alloc (.cells #[v] 37)) (bN (W.alloc (.cells #[v] 37)) (j1 x [l]))):=q9 (fun x W v l q hq ho hl=>by
  subst hq;have hsl:=dW W #[v] 37 (by simp)
  exact kG (vs:=[v]) (ks:=[l]) (by simpa using hsl) rfl (fun i hi=>by
   have:i=0:=by simpa using hi
   subst this
   exact(qu.at ho).up (qo W _)) (by simpa using(by omega:l.length<=500000000)))
 go_enter Tryd.func56,Tryd.ntmps56
 go_wp2_with((with_reducible refine(HAT.out _ HP0.out.box HT.out).mono ?_);rintro e w1 ⟨v0,rfl,ho,hB,hg⟩;have HP1:=q9 (HP0.out.act hB hg);have HO1:=q9 ho;clear ho hB hg)
 go_loopg [3] (s.size+1) (fun gk lv wr=>∃(f:Nat) (l:List Nd) (y:PS),gk=f/\Prs w wr g s y/\qu wr w.heap.size lv l/\Hid (fF (bys s) f l y=R)/\y.p<=s.size/\l.length<=2*s.size+y.p/\s.size+1<=f+y.p)
 case atStart=>exact⟨s.size+1,l0,z0,rfl,HP1.out,HO1.out,HR,xA,by omega,by omega⟩
 case round=>
  clear HP0 HP1 HO1 HR xA hl0 HAT;obtain⟨f0,l,y,hgk,hP,hO,HRL,hyp,hll,hf⟩:=hrel;obtain⟨f,hf0⟩:∃f,f0=f+1:=⟨f0-1,by omega⟩
  subst hf0;subst hgk;obtain⟨oa,cap,hv⟩:=qu.slice hO;subst hv;have HP:=q9 hP;have HO:=q9 hO;clear hO hP;obtain⟨ch,hch⟩:∃ch,ch=(nxR (bys s) y).getD 0:=⟨_,rfl⟩;have HXY:=q9 (HX.out · y)
  rw[<-hch]at HXY
  have vE:R=if ch=42 then fF (bys s) f (j1 (kN 5) [l]) (qH y)else if ch=43 then fF (bys s) f (j1 (kN 6) [l]) (qH y)else if ch=63 then fF (bys s) f (j1 (kN 7) [l]) (qH y)else if ch=123 then fF (bys s) f (j1 (gN (bys s) y).1 [l]) (gN (bys s) y).2 else(l,y):=by
   rw[<-HRL.out,fF,<-hch]
  have HNX:=q9 (fun(d:UInt8) (h:ch=d) (hd:d≠0)=>aR (s:=bys s) (z:=y) (by rw[<-hch];exact h) hd)
  generalize (nxR (bys s) y).isSome=cs at*;have HN0:Hid (a7 (wr.alloc (.cells #[.int .i64 0,.int .i64 0,.int .u64 0,.int .u64 0,.int .u64 0,.int .u64 0,.int .i64 0,.int .i64 0] 74)) wr.heap.size zN):=q9 (bM wr zN _ rfl);have HP1:=q9 (HP.out.below (qo wr (.cells #[.int .i64 0,.int .i64 0,.int .u64 0,.int .u64 0,.int .u64 0,.int .u64 0,.int .i64 0,.int .i64 0] 74)));have HO1:Hid (qu (wr.alloc (.cells #[.int .i64 0,.int .i64 0,.int .u64 0,.int .u64 0,.int .u64 0,.int .u64 0,.int .i64 0,.int .i64 0] 74)) w.heap.size (.slice oa l.length cap) l):=q9 (qJ.up HO.out (qo wr _));have hsw:=HP.out.gr.size;have HO0:=HO;clear HRL hch HX HP HO
  have HNE:Hid ((Value.slice oa l.length cap).ownBlock=none\/(Value.slice oa l.length cap).ownBlock≠some wr.heap.size):=q9 (by
   cases hq:(Value.slice oa l.length cap).ownBlock with
   |none=>exact .inl rfl
   |some q=>right;intro e;have h1:=qk e;have h2:=(qJ.lt HO0.out q hq).2;omega)
  by_cases h42:ch=42
  ·rw[if_pos h42]at vE
   obtain⟨hy0,hyl,-⟩:=qS (HNX.out 42 h42 (by decide))
   rw[qt]at hyl;have hcb:((ch.toNat:Int)==42)=true:=by rw[h42];rfl
   have HRL:=q9 vE.symm;clear vE hy0 h42 HNX HO0
   go_wp2_with(first
    |(refine jf rfl _ _ rfl wr.heap.size rfl _ zN rfl HN0.out ?_;intro w2 hB2 hg2;have HN2:=q9 hB2;have HP2:=q9 (HP1.out.far hg2 (fun q e=>by injection e with e;omega));have HO2:Hid (qu w2 w.heap.size (.slice oa l.length cap) l):=q9 (qJ.keep HO1.out hg2 HNE.out);clear hB2 hg2)
    |((with_reducible refine(HXY.out _ HP2.out.box).mono ?_);rintro e w3 ⟨rfl,hx⟩;have HP3:=q9 (HP2.out.ext hx);have HN3:=q9 (HN2.out.up (qn hx));have HO3:Hid (qu w3 w.heap.size (.slice oa l.length cap) l):=q9 (qJ.up HO2.out (qn hx));have c1:=HP3.out.box.c1;have f1:=HP3.out.box.free 1;have n0:=HN3.out.c0;have nf0:=HN3.out.free 0;have hl3:=HN3.out.lt;have xC:=HP3.out.box.lt;have HQ:=q9 (W5 HP3.out HN3.out HO3.out 5 (by omega) HNE.out);clear hx)
    |(refine aF rfl _ rfl wr.heap.size rfl (kN 5) HQ.out.2.1 ?_)
    |((with_reducible refine(HJ.out _ _ _ _ _ (by simp) HQ.out.2.2 (by omega)).mono ?_);rintro e w6 ⟨v6,rfl,ho,hb⟩;have hba:=qo ((w3.setCell ⟨wr.heap.size,0,none⟩ (.int .i64 5)).setCell ⟨g,1,none⟩ (.int .i64 ((y.p:Int)+1))) (.cells #[.slice oa l.length cap] 37);have HP6:=q9 ((HQ.out.1.below hba).below hb);have HO6:Hid (qu w6 w.heap.size v6 (j1 (kN 5) [l])):=q9 (qJ.mono ho (qb HQ.out.1.gr.size hba.size));clear ho hb hba))
   go_roundg f
   case measure=>omega
   case rel=>exact⟨f,j1 (kN 5) [l],qH y,rfl,HP6.out,HO6.out,HRL,hyl,by rw[bI];show jO [l]+1<=2*s.size+(y.p+1);simp only[jO,List.flatten_singleton];omega,by show s.size+1<=f+(y.p+1);omega⟩
  ·rw[if_neg h42]at vE
   have k42:¬ch.toNat=42:=fun e=>h42 (UInt8.toNat_inj.1 e)
   clear h42
   by_cases h43:ch=43
   ·rw[if_pos h43]at vE
    obtain⟨hy0,hyl,-⟩:=qS (HNX.out 43 h43 (by decide))
    rw[qt]at hyl;have hcb:((ch.toNat:Int)==43)=true:=by rw[h43];rfl
    have HRL:=q9 vE.symm;clear vE hy0 h43 HNX HO0
    go_wp2_with(first
     |(refine jf rfl _ _ rfl wr.heap.size rfl _ zN rfl HN0.out ?_;intro w2 hB2 hg2;have HN2:=q9 hB2;have HP2:=q9 (HP1.out.far hg2 (fun q e=>by injection e with e;omega));have HO2:Hid (qu w2 w.heap.size (.slice oa l.length cap) l):=q9 (qJ.keep HO1.out hg2 HNE.out);clear hB2 hg2)
     |((with_reducible refine(HXY.out _ HP2.out.box).mono ?_);rintro e w3 ⟨rfl,hx⟩;have HP3:=q9 (HP2.out.ext hx);have HN3:=q9 (HN2.out.up (qn hx));have HO3:Hid (qu w3 w.heap.size (.slice oa l.length cap) l):=q9 (qJ.up HO2.out (qn hx));have c1:=HP3.out.box.c1;have f1:=HP3.out.box.free 1;have n0:=HN3.out.c0;have nf0:=HN3.out.free 0;have hl3:=HN3.out.lt;have xC:=HP3.out.box.lt;have HQ:=q9 (W5 HP3.out HN3.out HO3.out 6 (by omega) HNE.out);clear hx)
     |(refine aF rfl _ rfl wr.heap.size rfl (kN 6) HQ.out.2.1 ?_)
     |((with_reducible refine(HJ.out _ _ _ _ _ (by simp) HQ.out.2.2 (by omega)).mono ?_);rintro e w6 ⟨v6,rfl,ho,hb⟩;have hba:=qo ((w3.setCell ⟨wr.heap.size,0,none⟩ (.int .i64 6)).setCell ⟨g,1,none⟩ (.int .i64 ((y.p:Int)+1))) (.cells #[.slice oa l.length cap] 37);have HP6:=q9 ((HQ.out.1.below hba).below hb);have HO6:Hid (qu w6 w.heap.size v6 (j1 (kN 6) [l])):=q9 (qJ.mono ho (qb HQ.out.1.gr.size hba.size));clear ho hb hba))
    go_roundg f
    case measure=>omega
    case rel=>exact⟨f,j1 (kN 6) [l],qH y,rfl,HP6.out,HO6.out,HRL,hyl,by rw[bI];show jO [l]+1<=2*s.size+(y.p+1);simp only[jO,List.flatten_singleton];omega,by show s.size+1<=f+(y.p+1);omega⟩
   ·rw[if_neg h43]at vE
    have k43:¬ch.toNat=43:=fun e=>h43 (UInt8.toNat_inj.1 e)
    clear h43
    by_cases h63:ch=63
    ·rw[if_pos h63]at vE
     obtain⟨hy0,hyl,-⟩:=qS (HNX.out 63 h63 (by decide))
     rw[qt]at hyl;have hcb:((ch.toNat:Int)==63)=true:=by rw[h63];rfl
     have HRL:=q9 vE.symm;clear vE hy0 h63 HNX HO0
     go_wp2_with(first
      |(refine jf rfl _ _ rfl wr.heap.size rfl _ zN rfl HN0.out ?_;intro w2 hB2 hg2;have HN2:=q9 hB2;have HP2:=q9 (HP1.out.far hg2 (fun q e=>by injection e with e;omega));have HO2:Hid (qu w2 w.heap.size (.slice oa l.length cap) l):=q9 (qJ.keep HO1.out hg2 HNE.out);clear hB2 hg2)
      |((with_reducible refine(HXY.out _ HP2.out.box).mono ?_);rintro e w3 ⟨rfl,hx⟩;have HP3:=q9 (HP2.out.ext hx);have HN3:=q9 (HN2.out.up (qn hx));have HO3:Hid (qu w3 w.heap.size (.slice oa l.length cap) l):=q9 (qJ.up HO2.out (qn hx));have c1:=HP3.out.box.c1;have f1:=HP3.out.box.free 1;have n0:=HN3.out.c0;have nf0:=HN3.out.free 0;have hl3:=HN3.out.lt;have xC:=HP3.out.box.lt;have HQ:=q9 (W5 HP3.out HN3.out HO3.out 7 (by omega) HNE.out);clear hx)
      |(refine aF rfl _ rfl wr.heap.size rfl (kN 7) HQ.out.2.1 ?_)
      |((with_reducible refine(HJ.out _ _ _ _ _ (by simp) HQ.out.2.2 (by omega)).mono ?_);rintro e w6 ⟨v6,rfl,ho,hb⟩;have hba:=qo ((w3.setCell ⟨wr.heap.size,0,none⟩ (.int .i64 7)).setCell ⟨g,1,none⟩ (.int .i64 ((y.p:Int)+1))) (.cells #[.slice oa l.length cap] 37);have HP6:=q9 ((HQ.out.1.below hba).below hb);have HO6:Hid (qu w6 w.heap.size v6 (j1 (kN 7) [l])):=q9 (qJ.mono ho (qb HQ.out.1.gr.size hba.size));clear ho hb hba))
     go_roundg f
     case measure=>omega
     case rel=>exact⟨f,j1 (kN 7) [l],qH y,rfl,HP6.out,HO6.out,HRL,hyl,by rw[bI];show jO [l]+1<=2*s.size+(y.p+1);simp only[jO,List.flatten_singleton];omega,by show s.size+1<=f+(y.p+1);omega⟩
    ·rw[if_neg h63]at vE
     have k63:¬ch.toNat=63:=fun e=>h63 (UInt8.toNat_inj.1 e)
     clear h63
     by_cases wM:ch=123
     ·rw[if_pos wM]at vE
      have hnx:=HNX.out 123 wM (by decide)
      have htl:=oO hnx;have hts:=(l5 hnx).len (by rw[qt];omega)
      rw[qt]at hts;have HTM:Hid (∀W,qO W g s y->Calls Tryd.prog 65 #[.pointer (some ⟨g,0,none⟩)] W (jM (.agg (ndA (gN (bys s) y).1)) g s (gN (bys s) y).2 W)):=q9 (fun W h=>uN h hs hnx)
      have hcb:((ch.toNat:Int)==123)=true:=by rw[wM];rfl
      have HRL:=q9 vE.symm;clear vE wM HNX HO0 hnx;generalize gN (bys s) y=T at*;obtain⟨tn,tz⟩:=T;simp only at HTM HRL htl hts
      go_wp2_with(first
       |(refine jf rfl _ _ rfl wr.heap.size rfl _ zN rfl HN0.out ?_;intro w2 hB2 hg2;have HN2:=q9 hB2;have HP2:=q9 (HP1.out.far hg2 (fun q e=>by injection e with e;omega));have HO2:Hid (qu w2 w.heap.size (.slice oa l.length cap) l):=q9 (qJ.keep HO1.out hg2 HNE.out);clear hB2 hg2)
       |((with_reducible refine(HXY.out _ HP2.out.box).mono ?_);rintro e w3 ⟨rfl,hx⟩;have HP3:=q9 (HP2.out.ext hx);have HN3:=q9 (HN2.out.up (qn hx));have HO3:Hid (qu w3 w.heap.size (.slice oa l.length cap) l):=q9 (qJ.up HO2.out (qn hx));have c1:=HP3.out.box.c1;have f1:=HP3.out.box.free 1;have n0:=HN3.out.c0;have nf0:=HN3.out.free 0;have hl3:=HN3.out.lt;have xC:=HP3.out.box.lt;clear hx)
       |((with_reducible refine(HTM.out _ HP3.out.box).mono ?_);rintro e w4 ⟨rfl,hB,hg⟩;have HP4:=q9 (HP3.out.act hB hg);have HN4:=q9 (HN3.out.keep hg (fun e=>by injection e with e;omega));have HO4:Hid (qu w4 w.heap.size (.slice oa l.length cap) l):=q9 (qu.keepG HO3.out hg hgl);clear hB hg)
       |(refine jf rfl _ _ rfl wr.heap.size rfl _ tn rfl HN4.out ?_;intro w5 hB2 hg2;have HN5:=q9 hB2;have HP5:=q9 (HP4.out.far hg2 (fun q e=>by injection e with e;omega));have HO5:Hid (qu w5 w.heap.size (.slice oa l.length cap) l):=q9 (qJ.keep HO4.out hg2 HNE.out);clear hB2 hg2)
       |(refine aF rfl _ rfl wr.heap.size rfl tn HN5.out ?_)
       |((with_reducible refine(HJ.out _ _ _ _ _ rfl HO5.out (by omega)).mono ?_);rintro e w6 ⟨v6,rfl,ho,hb⟩;have hba:=qo w5 (.cells #[.slice oa l.length cap] 37);have HP6:=q9 ((HP5.out.below hba).below hb);have HO6:Hid (qu w6 w.heap.size v6 (j1 tn [l])):=q9 (qJ.mono ho (qb HP5.out.gr.size hba.size));clear ho hb hba))
      go_roundg f
      case measure=>omega
      case rel=>exact⟨f,j1 tn [l],tz,rfl,HP6.out,HO6.out,HRL,hts,by rw[bI];simp only[jO,List.flatten_singleton];omega,by omega⟩
     ·rw[if_neg wM]at vE
      have k123:¬ch.toNat=123:=fun e=>wM (UInt8.toNat_inj.1 e)
      have HRR:=q9 vE;clear vE wM HNX HO0
      go_wp2_with(first
       |(refine jf rfl _ _ rfl wr.heap.size rfl _ zN rfl HN0.out ?_;intro w2 hB2 hg2;have HN2:=q9 hB2;have HP2:=q9 (HP1.out.far hg2 (fun q e=>by injection e with e;omega));have HO2:Hid (qu w2 w.heap.size (.slice oa l.length cap) l):=q9 (qJ.keep HO1.out hg2 HNE.out);clear hB2 hg2)
       |((with_reducible refine(HXY.out _ HP2.out.box).mono ?_);rintro e w3 ⟨rfl,hx⟩;have HP3:=q9 (HP2.out.ext hx);have HN3:=q9 (HN2.out.up (qn hx));have HO3:Hid (qu w3 w.heap.size (.slice oa l.length cap) l):=q9 (qJ.up HO2.out (qn hx));have c1:=HP3.out.box.c1;have f1:=HP3.out.box.free 1;have n0:=HN3.out.c0;have nf0:=HN3.out.free 0;have hl3:=HN3.out.lt;have xC:=HP3.out.box.lt;clear hx))
      go_ret;rw[HRR.out]
      exact⟨_,rfl,HO3.out,HP3.out.box,HP3.out.gr⟩
theorem m4{w:World}{B E:Nat}{v:Value}{xs:List Value}(h:Own w B E v xs):∀q,v.ownBlock=some q->∃cur,w.heap[q]? =some (.cells cur E (0,0)):=by
 intro q hq
 rcases h.1.2 with⟨h1,_⟩|⟨g,cap,cur,h1,_,hg,_⟩
 ·rw[h1]at hq;cases hq
 ·rw[h1]at hq
  have:g=q:=by simpa[Value.ownBlock]using hq
  subst this
  exact⟨cur,hg⟩
theorem kI{k:Nat}{w:World}{B E:Nat}{v:Value}{l:List (List Value)}(h:qJ k w B E v l):∀q,v.ownBlock=some q->∃cur,w.heap[q]? =some (.cells cur E (0,0)):=by
 intro q hq
 rcases h.1.2 with⟨h1,_⟩|⟨g,cap,cur,h1,_,hg,_⟩
 ·rw[h1]at hq;cases hq
 ·rw[h1]at hq
  have:g=q:=by simpa[Value.ownBlock]using hq
  subst this
  exact⟨cur,hg⟩
theorem dE{k:Nat}{w:World}{B B' E E':Nat}{v v':Value}{xs:List Value}{l:List (List Value)}(h:Own w B E v xs)(h':qJ k w B' E' v' l)(hne:E≠E'):v'.ownBlock=none\/v'.ownBlock≠v.ownBlock:=by
 cases hq:v'.ownBlock with
 |none=>exact .inl rfl
 |some q=>
  right
  intro e;obtain⟨c1,h1⟩:=kI h' q hq;obtain⟨c2,h2⟩:=m4 h q e.symm;rw[h1]at h2;injection h2 with h2
  injection h2 with _ h2
  exact hne h2.symm
theorem tS{w:World}{B E g:Nat}{v:Value}{xs:List Value}(hg:g<B)(h:Own w B E v xs):v.ownBlock=none\/v.ownBlock≠some g:=by
 cases hv:v.ownBlock with
 |none=>exact .inl rfl
 |some q=>right;intro e;have h1:=(h.lt q hv).1;have h2:=qk e;omega
def ja(w:World)(B:Nat)(vs:List Value)(ls:List (List Nd)):Prop:=vs.length=ls.length/\∀i,i<ls.length->qu w B (vs.getD i undef) (ls.getD i [])
theorem ja.nil(w:World)(B:Nat):ja w B [] []:=⟨rfl,fun i hi=>absurd hi (Nat.not_lt_zero i)⟩
theorem ja.all{w w':World}{B:Nat}{vs:List Value}{ls:List (List Nd)}(h:ja w B vs ls)(hk:∀v l,qu w B v l->qu w' B v l):ja w' B vs ls:=⟨h.1,fun i hi=>hk _ _ (h.2 i hi)⟩
theorem ja.snoc{w:World}{B:Nat}{vs:List Value}{ls:List (List Nd)}{v:Value}{l:List Nd}(h:ja w B vs ls)(hv:qu w B v l):ja w B (vs++[v]) (ls++[l]):=by
 refine⟨by simp[h.1],fun i hi=>?_⟩
 rw[qg,List.length_singleton]at hi
 by_cases hlt:i<ls.length
 ·have h1:=h.2 i hlt
  have e1:(vs++[v]).getD i undef=vs.getD i undef:=by simp[List.getD,List.getElem?_append,show i<vs.length by rw[h.1];exact hlt]
  have e2:(ls++[l]).getD i []=ls.getD i []:=by simp[List.getD,List.getElem?_append,hlt]
  rw[e1,e2];exact h1
 ·obtain rfl:i=ls.length:=by omega
  have e1:(vs++[v]).getD ls.length undef=v:=by simp[List.getD,<-h.1]
  have e2:(ls++[l]).getD ls.length []=l:=by simp[List.getD]
  rw[e1,e2];exact hv
theorem ja.nodes{w w':World}{B:Nat}{vs:List Value}{ls:List (List Nd)}(h:ja w B vs ls)(hb:Below w.heap.size w w'):∀i,i<ls.length->j4 w' (vs.getD i undef) (ls.getD i []):=fun i hi=>(qu.at (h.2 i hi)).up hb
theorem uT{alt:PS->List Nd×PS}{w:World}{g lo:Nat}{s:ByteArray}{z:PS}(hA:rB g s lo alt)(hlo:lo<=z.p)(hst:∀z,z.p<=(bys s).length->Stp (bys s) z (alt z).2)(hlen:∀z,z.p<=(bys s).length->(alt z).1.length+2*z.p<=2*(alt z).2.p+1)
  (h:qO w g s z) (hs:s.size<=1000000) (hT:jn w) (hzp:z.p<=s.size):
  Calls Tryd.prog 41 #[.int .i64 3,.func (.func 55) #[.pointer (some ⟨g,0,none⟩)] #[],.func (.func 56) #[.pointer (some ⟨g,0,none⟩)] #[]] w (kH (jg (bys s) alt z).1 g s (jg (bys s) alt z).2 w):=by
 have hgt:=hT.ne h;have HT:=q9 hT;have HP0:Hid (Prs w w g s z):=q9 ⟨h,jo _ _,h.lt⟩;have hgl:=h.lt;have HIN:Hid (∀W y,qO W g s y->Calls Tryd.prog 55 #[.pointer (some ⟨g,0,none⟩)] W fun e w'=>e=.returned (.bool (inR (bys s) y))/\∃x,w'=ext W x):=q9 (fun W y h=>rC h)
 have HRP:Hid (∀W y c,qO W g s y->jn W->lo<=y.p->nxR (bys s) y=some c->Calls Tryd.prog 56 #[.pointer (some ⟨g,0,none⟩)] W (kH (fG (bys s) alt y).1 g s (fG (bys s) alt y).2 W)):=q9 (fun W y c h hT hl hc=>uS hA hl hst hlen h hs hT hc)
 have HRS:=q9 (fun(y:PS) (c:UInt8) (h:nxR (bys s) y=some c)=>gR hst h)
 have HSM:=eH hst hlen ((bys s).length+1) [] z z (.inl (by simp[jO]))
 have HCS:=(eF hst ((bys s).length+1) [] z).len (by rw[qt];exact hzp)
 obtain⟨R,hR⟩:∃R,R=jg (bys s) alt z:=⟨_,rfl⟩;rw[<-hR];unfold jg at hR;obtain⟨L,hL⟩:∃L,L=gI (bys s) alt ((bys s).length+1) [] z:=⟨_,rfl⟩;rw[<-hL]at hR HSM HCS;rw[qt]at hL HCS;have HL:=q9 hL.symm;have HR:=q9 hR;have wC:jO L.1<=2*s.size+1:=by omega
 have vG:=q9 wC;clear h hT hR hL hst hlen hA HSM HCS wC
 have HJ:Hid (∀(x:Nd) W v (vs:List Value) (ls:List (List Nd)),Own W w.heap.size 37 v vs->ja W w.heap.size vs ls->jO ls<=4000000->Calls Tryd.prog 54 #[.agg (ndA x),v] W (bN W (j1 x ls))):=q9 (fun x W v vs ls ho hr hl=>by
  unfold jO at hl
  exact kG (x:=x) (ks:=ls) ho.sl hr.1 (hr.nodes (qi _ _)) (by omega))
 go_enter Tryd.func41,Tryd.ntmps41
 go_wp2
 go_loopg [7] (s.size+1) (fun gk lv wr=>∃(f:Nat) (ls:List (List Nd)) (vs:List Value) (y:PS),gk=f/\Prs w wr g s y/\Own wr w.heap.size 37 lv vs/\ja wr w.heap.size vs ls/\Hid (gI (bys s) alt f ls y=L)/\y.p<=s.size/\lo<=y.p/\(ls.length<=y.p\/(ls.length<=y.p+1/\y.e≠0))/\((y.e≠0/\1<=f)\/s.size+1<=f+y.p))
 case atStart=>exact⟨s.size+1,[],[],z,rfl,HP0.out,Own.nil _ _ _,ja.nil _ _,HL,hzp,hlo,.inl (qc _),.inr (by omega)⟩
 case round=>
  clear HP0 HL hzp;obtain⟨f0,ls,vs,y,hgk,hP,hO,hRW,HCL,hyp,xB,hll,hf⟩:=hrel;obtain⟨f,hf0⟩:∃f,f0=f+1:=⟨f0-1,by omega⟩
  subst hf0;subst hgk;have HP:=q9 hP;have HO:=q9 hO;have HRW:=q9 hRW;have hvl:vs.length<=2000000:=by rw[hRW.1];omega
  have HI:=q9 (HIN.out · y)
  have hC2:L=if inR (bys s) y then gI (bys s) alt f (ls++[(fG (bys s) alt y).1]) (fG (bys s) alt y).2 else(ls,y):=by rw[<-HCL.out,gI]
  clear hP hO hRW HCL HIN
  cases hin:inR (bys s) y with
  |true=>
   rw[hin]at HI hC2;rw[if_pos rfl]at hC2;obtain⟨c,hc,-⟩:=gS hin;obtain⟨hy0,hyl,-⟩:=qS hc;obtain⟨h1,h2⟩:=HRS.out y c hc;have h3:=h1.len (by omega)
   rw[qt]at hyl h3;have HRY:Hid (∀W,qO W g s y->jn W->Calls Tryd.prog 56 #[.pointer (some ⟨g,0,none⟩)] W (kH (fG (bys s) alt y).1 g s (fG (bys s) alt y).2 W)):=q9 (fun W h hT=>HRP.out W y c h hT xB hc)
   have HCL:=q9 hC2.symm;have hle:=h1.le;clear h1 hC2 hin hc HRP HRS HR HJ vG;generalize fG (bys s) alt y=P at*;obtain⟨pl,pz⟩:=P;simp only at HRY HCL h2 h3 hle
   go_wp2_with(first
    |((with_reducible refine(HI.out _ HP.out.box).mono ?_);rintro e w1 ⟨rfl,hx⟩;have HP1:=q9 (HP.out.ext hx);have HO1:=q9 (HO.out.up (qn hx));have HR1:Hid (ja w1 w.heap.size vs ls):=q9 (HRW.out.all (fun v l h=>qJ.up h (qn hx)));have HT1:=q9 (HP1.out.tab HT.out hgt);clear hx)
    |((with_reducible refine(HRY.out _ HP1.out.box HT1.out).mono ?_);rintro e w2 ⟨v2,rfl,ho,hB,hg⟩;have HN2:Hid (qu w2 w.heap.size v2 pl):=q9 (qJ.mono ho HP1.out.gr.size);have HP2:=q9 (HP1.out.act hB hg);have HO2:=q9 (HO1.out.keep hg (tS hgl HO1.out));have HR2:Hid (ja w2 w.heap.size vs ls):=q9 (HR1.out.all (fun v l h=>qu.keepG h hg hgl));clear ho hB hg;obtain⟨oa,cap,hv2⟩:=qu.slice HN2.out;subst hv2;have hba:=qo w2 (.cells #[.slice oa pl.length cap] 37);have HX3:Hid (Sl (w2.alloc (.cells #[.slice oa pl.length cap] 37)) (.slice (some ⟨w2.heap.size,0,none⟩) 1 1) [.slice oa pl.length cap]):=q9 (by simpa using dW w2 #[.slice oa pl.length cap] 37 (by simp));have HO3:=q9 (HO2.out.up hba);have HP3:=q9 (HP2.out.below hba);have HR3:Hid (ja (w2.alloc (.cells #[.slice oa pl.length cap] 37)) w.heap.size (vs++[.slice oa pl.length cap]) (ls++[pl])):=q9 ((HR2.out.snoc HN2.out).all (fun v l h=>qJ.up h hba));have HLE:Hid (vs.length+[Value.slice oa pl.length cap].length<=4294967296):=q9 (by simp;omega);clear hba)
    |(at_builtin;refine jG rfl (.tmp 10) (.tmp 13) 92 rfl w.heap.size 37 (.slice none 0 0) 24 Tryd.underlying92 (by kernel_rfl) rfl (by decide) u7 vs rfl HO3.out (.slice (some ⟨w2.heap.size,0,none⟩) 1 1) [.slice oa pl.length cap] rfl HX3.out (by intro u hu;simp only[List.mem_singleton]at hu;subst hu;rfl) HLE.out HP3.out.gr.size ?_;intro v' w5 hown1 hg1 hk1;have HO5:=q9 hown1;have HP5:=q9 (HP3.out.far hg1 (fun q e=>(HO3.out.lt q e).1));have HR5:Hid (ja w5 w.heap.size (vs++[.slice oa pl.length cap]) (ls++[pl])):=q9 (HR3.out.all (fun v l h=>qJ.keep h hg1 (dE HO3.out h (by decide))));clear hown1 hg1 hk1))
   go_roundg f
   case measure=>omega
   case rel=>exact⟨f,ls++[pl],vs++[.slice oa pl.length cap],pz,rfl,HP5.out,HO5.out,HR5.out,HCL,h3,by omega,by rw[qg,List.length_singleton];rcases h2 with h2|h2<;>omega,by rcases h2 with h2|h2<;>omega⟩
  |false=>
   rw[hin]at HI hC2;rw[if_neg (by simp)]at hC2
   have HR2:Hid (R=(f9 3 ls,y)):=q9 (by rw[HR.out,hC2])
   have HSL:Hid (jO ls<=4000000):=q9 (by have:=vG.out;rw[hC2]at this;show jO ls<=4000000;simp only at this;omega)
   have vP:=HRW.out.1;clear hC2 hin HRP HRS HR vG
   cases ls with
   |nil=>
    have hvs:vs=[]:=List.length_eq_zero_iff.1 vP;subst hvs;obtain⟨oa,cap,b,off,hv,-,-⟩:=HO.out.sl;have hv0:u7=.slice oa 0 cap:=hv;subst hv0;clear hv vP;have HJ2:Hid (∀W,Calls Tryd.prog 54 #[.agg #[.int .i64 2,.int .i64 0,.int .u64 0,.int .u64 0,.int .u64 0,.int .u64 0,.int .i64 0,.int .i64 0],.slice none 0 0] W (bN W (j1 (kN 2) []))):=q9 (fun W=>kG (x:=kN 2) (ks:=[]) (Sl.nil W) rfl (fun i hi=>absurd hi (Nat.not_lt_zero i)) (by simp))
    go_wp2_with(first
     |((with_reducible refine(HI.out _ HP.out.box).mono ?_);rintro e w1 ⟨rfl,hx⟩;have HP1:=q9 (HP.out.ext hx);clear hx)
     |((with_reducible refine(HJ2.out _).mono ?_);rintro e w2 ⟨v2,rfl,ho,hb⟩;have HP2:=q9 (HP1.out.below hb);have HN2:Hid (qu w2 w.heap.size v2 (j1 (kN 2) [])):=q9 (qJ.mono ho HP1.out.gr.size);clear ho hb))
    go_ret;rw[HR2.out]
    exact⟨v2,rfl,HN2.out,HP2.out.box,HP2.out.gr⟩
   |cons l1 ls1=>
    cases ls1 with
    |nil=>
     obtain⟨v1,hvs⟩:∃v1,vs=[v1]:=List.length_eq_one_iff.1 vP;subst hvs;obtain⟨oa,cap,b,off,hv,hd,hcl⟩:=HO.out.sl;have hv0:u7=.slice oa 1 cap:=hv;subst hv0;have hix:=fun W=>a8 (P:=Tryd.prog) 92 37 Tryd.underlying92 (by kernel_rfl) hd W .i64 0 (by omega) (by simp)
     have hcell:=hcl 0 (by simp)
     have hbl:=hd.hblk (by simp)
     have HN1:Hid (qu wr w.heap.size v1 l1):=q9 (HRW.out.2 0 (by simp))
     simp only[Int.toNat_zero,Nat.add_zero,List.length_singleton]at hix;have vV:wr.cell? ⟨b,off,none⟩=some v1:=hcell;clear hv vP hd hcl hcell
     go_wp2_with(first
      |((with_reducible refine(HI.out _ HP.out.box).mono ?_);rintro e w1 ⟨rfl,hx⟩;have HP1:=q9 (HP.out.ext hx);have HN2:Hid (qu w1 w.heap.size v1 l1):=q9 (qJ.up HN1.out (qn hx));have hce:=((qn hx).cell (p:=⟨b,off,none⟩) hbl).trans vV;clear hx))
     go_ret;rw[HR2.out]
     exact⟨v1,rfl,HN2.out,HP1.out.box,HP1.out.gr⟩
    |cons l2 ls2=>
     obtain⟨oa,cap,b,off,hv,-,-⟩:=HO.out.sl;rw[vP]at hv;have hv0:u7=.slice oa (ls2.length+1+1) cap:=hv;subst hv0;clear hv;have HR3:Hid (f9 3 (l1::l2::ls2)=j1 (kN 3) (l1::l2::ls2)):=q9 rfl;have HJ3:Hid (∀W,Own W w.heap.size 37 (.slice oa (ls2.length+1+1) cap) vs->ja W w.heap.size vs (l1::l2::ls2)->Calls Tryd.prog 54 #[.agg #[.int .i64 3,.int .i64 0,.int .u64 0,.int .u64 0,.int .u64 0,.int .u64 0,.int .i64 0,.int .i64 0],.slice oa (ls2.length+1+1) cap] W (bN W (j1 (kN 3) (l1::l2::ls2)))):=q9 (fun W ho hr=>HJ.out (kN 3) W _ vs _ ho hr HSL.out)
     have hn0:¬((ls2.length:Int)+1+1=0):=by omega
     have hn1:¬((ls2.length:Int)+1+1=1):=by omega
     clear vP;generalize l1::l2::ls2=lss at*;generalize ls2.length=m at*
     go_wp2_with(first
      |((with_reducible refine(HI.out _ HP.out.box).mono ?_);rintro e w1 ⟨rfl,hx⟩;have HP1:=q9 (HP.out.ext hx);have HO1:=q9 (HO.out.up (qn hx));have xZ:Hid (ja w1 w.heap.size vs lss):=q9 (HRW.out.all (fun v l h=>qJ.up h (qn hx)));clear hx)
      |((with_reducible refine(HJ3.out _ HO1.out xZ.out).mono ?_);rintro e w2 ⟨v2,rfl,ho,hb⟩;have HP2:=q9 (HP1.out.below hb);have HN2:Hid (qu w2 w.heap.size v2 (j1 (kN 3) lss)):=q9 (qJ.mono ho HP1.out.gr.size);clear ho hb))
     go_ret;rw[HR2.out,HR3.out]
     exact⟨v2,rfl,HN2.out,HP2.out.box,HP2.out.gr⟩
theorem uV{alt:PS->List Nd×PS}{w:World}{g lo:Nat}{s:ByteArray}{z:PS}(hA:rB g s lo alt)(hlo:lo<=z.p)(hst:∀z,z.p<=(bys s).length->Stp (bys s) z (alt z).2)(hlen:∀z,z.p<=(bys s).length->(alt z).1.length+2*z.p<=2*(alt z).2.p+1)
  (h:qO w g s z) (hs:s.size<=1000000) (hT:jn w) (hzp:z.p<=s.size):
  Calls Tryd.prog 44 #[.pointer (some ⟨g,0,none⟩)] w (kH (jg (bys s) alt z).1 g s (jg (bys s) alt z).2 w):=by
 have HR:=q9 (uT hA hlo hst hlen h hs hT hzp);clear h hT hzp hst hlen hA hlo
 go_enter Tryd.func44,Tryd.ntmps44
 go_wp2_with((with_reducible refine(HR.out).mono ?_);rintro e w1 ⟨v,rfl,ho,hB,hg⟩;have HO:=q9 ho;have HB:=q9 hB;have HG:=q9 hg;clear ho hB hg)
 go_ret
 exact⟨v,rfl,HO.out,HB.out,HG.out⟩
structure bQ(w0 w:World)(g:Nat)(s:ByteArray)(z:PS)(b q:Nat)(fb:Bool):Prop where
 box:qO w g s z
 fx:Fx (fun k=>k=g\/k=b) w0 w
 fst:Own w b 4 (.slice (some ⟨b,0,none⟩) 1 1) [.bool fb]
 ptr:w.cell? ⟨q,0,none⟩=some (.pointer (some ⟨g,0,none⟩))
 gl:g<w0.heap.size
 bl:b<w0.heap.size
 ql:q<w0.heap.size
 gb:g≠b
 gq:q≠g
 bq:q≠b
section
variable {w0 w w' : World} {g b q : Nat} {s : ByteArray} {z z' : PS} {fb fb' : Bool}
theorem bQ.up(h:bQ w0 w g s z b q fb)(hb:Below w.heap.size w w'):bQ w0 w' g s z b q fb:=
 ⟨h.box.up hb,h.fx.trans (o7 hb),h.fst.up hb,by rw[hb.cell (p:=⟨q,0,none⟩) (qd h.ql h.fx.size)];exact h.ptr,h.gl,h.bl,h.ql,h.gb,h.gq,h.bq⟩
theorem bQ.act(h:bQ w0 w g s z b q fb)(hB:qO w' g s z')(hg:w.grownBy w' (some g)):bQ w0 w' g s z' b q fb:=
 ⟨hB,h.fx.trans (bP hg (fun k e=>.inl (qk e).symm)),h.fst.keep hg (.inr (fun e=>h.gb (qk e).symm)),by rw[World.cell?_of_block (w:=w) (hg.block q (qd h.ql h.fx.size) (fun e=>h.gq (qk e)))];exact h.ptr,h.gl,h.bl,h.ql,h.gb,h.gq,h.bq⟩
theorem bQ.flag(h:bQ w0 w g s z b q fb)(v:Bool):bQ w0 (w.setCell ⟨b,0,none⟩ (.bool v)) g s z b q v:=by
 obtain⟨h1,h2⟩:=h.fst.store 0 (.bool v)
 exact⟨h.box.keep h2 (fun e=>h.gb (qk e).symm),h.fx.trans (bP h2 (fun k e=>.inr (qk e).symm)),h1,by rw[World.cell?_of_block (w:=w) (h2.block q (qd h.ql h.fx.size) (fun e=>h.bq (qk e)))];exact h.ptr,h.gl,h.bl,h.ql,h.gb,h.gq,h.bq⟩
theorem bQ.far{row:Option Nat}(h:bQ w0 w g s z b q fb)(hg:w.grownBy w' row)(hq:∀k,row=some k->w0.heap.size<=k):bQ w0 w' g s z b q fb:=
 ⟨h.box.keep hg (fun e=>by have:=hq g e;have:=h.gl;omega),h.fx.grown hg (fun k e=>.inr (hq k e)),h.fst.keep hg (by
  show some b=none\/some b≠row
  right;intro e;have:=hq b e.symm;have:=h.bl;omega),by rw[World.cell?_of_block (w:=w) (hg.block q (qd h.ql h.fx.size) (fun e=>by have:=hq q e.symm;have:=h.ql;omega))];exact h.ptr,h.gl,h.bl,h.ql,h.gb,h.gq,h.bq⟩
theorem bQ.tab(h:bQ w0 w g s z b q fb)(hT:jn w0)(hne:g≠6)(hbe:b≠6):jn w:=fun j hj=>by
 rw[h.fx.cell hT.lt (fun e=>e.elim (fun e=>hne e.symm) (fun e=>hbe e.symm))];exact hT j hj
theorem bQ.c0(h:bQ w0 w g s z b q fb):w.cell? ⟨b,0,none⟩=some (.bool fb):=h.fst.cell (i:=0) (by simp)
theorem bQ.f0(h:bQ w0 w g s z b q fb):w.frozen? ⟨b,0,none⟩=false:=h.fst.free 0
end
theorem tT{w0 w:World}{g b q:Nat}{s:ByteArray}{z:PS}(h:bQ w0 w g s z b q true):
  Calls Tryd.prog 42 #[.pointer (some ⟨b,0,none⟩),.pointer (some ⟨q,0,none⟩)] w fun e w'=>e=.returned (.bool true)/\bQ w0 w' g s z b q false/\Fx (fun k=>k=g\/k=b) w w':=by
 have c0:=h.c0;have f0:=h.f0;have HF:=q9 (h.flag false);have HX:Hid (Fx (fun k=>k=g\/k=b) w (w.setCell ⟨b,0,none⟩ (.bool false))):=q9 (bP (h.fst.store 0 (.bool false)).2 (fun k e=>.inr (qk e).symm))
 have hbl:=(h.fst.blk).2;clear h
 go_enter Tryd.func42,Tryd.ntmps42
 go_wp2;go_ret
 exact⟨rfl,HF.out,HX.out⟩
theorem tU{w0 w:World}{g b q:Nat}{s:ByteArray}{z:PS}(h:bQ w0 w g s z b q false)(hs:s.size<=1000000):
  Calls Tryd.prog 42 #[.pointer (some ⟨b,0,none⟩),.pointer (some ⟨q,0,none⟩)] w fun e w'=>e=.returned (.bool (qz (bys s) 124 z).1)/\bQ w0 w' g s (qz (bys s) 124 z).2 b q false/\Fx (fun k=>k=g\/k=b) w w':=by
 have c0:=h.c0;have cq:=h.ptr;have HP:=q9 h;have HTK:Hid (Calls Tryd.prog 43 #[.pointer (some ⟨g,0,none⟩),.int .u8 124] w (jM (.bool (qz (bys s) 124 z).1) g s (qz (bys s) 124 z).2 w)):=q9 (gY h.box hs 124);generalize qz (bys s) 124 z=T at*;obtain⟨bt,z1⟩:=T;simp only at HTK;clear h
 go_enter Tryd.func42,Tryd.ntmps42
 go_wp2_with((with_reducible refine(HTK.out).mono ?_);rintro e w1 ⟨rfl,hB,hg⟩;have HP1:=q9 (HP.out.act hB hg);have c10:=HP1.out.c0;have f10:=HP1.out.f0;have HF:=q9 (HP1.out.flag false);have HX:=q9 ((bP (S:=fun k=>k=g\/k=b) hg (fun k e=>.inl (qk e).symm)).trans (bP (HP1.out.fst.store 0 (.bool false)).2 (fun k e=>.inr (qk e).symm)));have hbl:=(HP1.out.fst.blk).2;clear hB hg)
 go_ret
 exact⟨rfl,HF.out,HX.out⟩
theorem eU{S:Nat->Prop}{w w1:World}{k B E:Nat}{v:Value}{l:List (List Value)}(h:Fx S w w1)(ho:qJ k w B E v l)(hv:∀q,B<=q->¬S q):qJ k w1 B E v l:=by
 refine⟨⟨ho.1.1,ho.1.2.imp id ?_⟩,ho.2⟩;rintro⟨g,cap,cur,h1,h2,h3,h4⟩
 exact⟨g,cap,cur,h1,h2,by rw[h.block g (Array.getElem?_eq_some_iff.1 h3).1 (hv g h2)];exact h3,h4⟩
def uW(l:List Nd)(g b:Nat)(s:ByteArray)(z:PS)(w:World)(e:Ending)(w':World):Prop:=∃v,e=.returned v/\qu w' w.heap.size v l/\qO w' g s z/\Fx (fun k=>k=g\/k=b) w w'
def tgA(s:qM)(alt:PS->List Nd×PS)(fb:Bool)(f:Nat)(ls:List (List Nd))(y:PS):List (List Nd)×PS:=if fb then aX s alt f [(jg s alt y).1] (jg s alt y).2 else aX s alt f ls y
def msA(fb:Bool)(f:Nat):Nat:=if fb then f+1 else f
theorem uX{alt:PS->List Nd×PS}{w:World}{g b0 q0 lo:Nat}{s:ByteArray}{z:PS}(hA:rB g s lo alt)(hlo:lo<=z.p)(hst:∀z,z.p<=(bys s).length->Stp (bys s) z (alt z).2)(hlen:∀z,z.p<=(bys s).length->(alt z).1.length+2*z.p<=2*(alt z).2.p+1)
  (h:bQ w w g s z b0 q0 true) (hs:s.size<=1000000) (hT:jn w) (hbt:b0≠6) (hzp:z.p<=s.size):
  Calls Tryd.prog 41 #[.int .i64 4,.func (.func 42) #[] #[.pointer (some ⟨b0,0,none⟩),.pointer (some ⟨q0,0,none⟩)],.func (.func 44) #[.pointer (some ⟨g,0,none⟩)] #[]] w (uW (f9 4 (aX (bys s) alt ((bys s).length+1) [(jg (bys s) alt z).1] (jg (bys s) alt z).2).1) g b0 s (aX (bys s) alt ((bys s).length+1) [(jg (bys s) alt z).1] (jg (bys s) alt z).2).2 w):=by
 have hgt:=hT.ne h.box;have HT:=q9 hT;have HP0:=q9 h;have hgl:=h.gl;have hbl:=h.bl;have HSN:Hid (∀q,w.heap.size<=q->¬(q=g\/q=b0)):=q9 (fun q hq e=>by rcases e with e|e<;>omega)
 have HI1:Hid (∀W y,bQ w W g s y b0 q0 true->Calls Tryd.prog 42 #[.pointer (some ⟨b0,0,none⟩),.pointer (some ⟨q0,0,none⟩)] W fun e w'=>e=.returned (.bool true)/\bQ w w' g s y b0 q0 false/\Fx (fun k=>k=g\/k=b0) W w'):=q9 (fun W y h=>tT h)
 have HI2:Hid (∀W y,bQ w W g s y b0 q0 false->Calls Tryd.prog 42 #[.pointer (some ⟨b0,0,none⟩),.pointer (some ⟨q0,0,none⟩)] W fun e w'=>e=.returned (.bool (qz (bys s) 124 y).1)/\bQ w w' g s (qz (bys s) 124 y).2 b0 q0 false/\Fx (fun k=>k=g\/k=b0) W w'):=q9 (fun W y h=>tU h hs)
 have HRP:Hid (∀W y,qO W g s y->jn W->lo<=y.p->y.p<=s.size->Calls Tryd.prog 44 #[.pointer (some ⟨g,0,none⟩)] W (kH (jg (bys s) alt y).1 g s (jg (bys s) alt y).2 W)):=q9 (fun W y h hT hl hy=>uV hA hl hst hlen h hs hT hy)
 have HRS:=q9 (fun(y:PS)=>d4 hst y)
 have HSM:=eI hst hlen ((bys s).length+1) [(jg (bys s) alt z).1] z (jg (bys s) alt z).2 (by
  have:=gT hst hlen z;simp only[jO,List.flatten_singleton,List.length_singleton];omega)
 have HCS:=(eG hst ((bys s).length+1) [(jg (bys s) alt z).1] (jg (bys s) alt z).2).len ((d4 hst z).len (by rw[qt];exact hzp))
 obtain⟨L,hL⟩:∃L,L=aX (bys s) alt ((bys s).length+1) [(jg (bys s) alt z).1] (jg (bys s) alt z).2:=⟨_,rfl⟩;rw[<-hL]at HSM HCS⊢;rw[qt]at hL HCS;have HL:Hid (tgA (bys s) alt true (s.size+1) [] z=L):=q9 hL.symm;have wC:jO L.1<=2*s.size+2:=by omega
 have vG:=q9 wC;clear h hT hL hst hlen hA HSM HCS wC
 have HJ:Hid (∀(x:Nd) W v (vs:List Value) (ls:List (List Nd)),Own W w.heap.size 37 v vs->ja W w.heap.size vs ls->jO ls<=4000000->Calls Tryd.prog 54 #[.agg (ndA x),v] W (bN W (j1 x ls))):=q9 (fun x W v vs ls ho hr hl=>by
  unfold jO at hl
  exact kG (x:=x) (ks:=ls) ho.sl hr.1 (hr.nodes (qi _ _)) (by omega))
 go_enter Tryd.func41,Tryd.ntmps41
 go_wp2
 go_loopg [7] (s.size+1+1) (fun gk lv wr=>∃(fb:Bool) (f:Nat) (ls:List (List Nd)) (vs:List Value) (y:PS),gk=msA fb f/\bQ w wr g s y b0 q0 fb/\Own wr w.heap.size 37 lv vs/\ja wr w.heap.size vs ls/\Hid (tgA (bys s) alt fb f ls y=L)/\y.p<=s.size/\lo<=y.p/\(fb=true->ls=[])/\ls.length<=y.p+1/\s.size+1<=f+y.p)
 case atStart=>exact⟨true,s.size+1,[],[],z,rfl,HP0.out,Own.nil _ _ _,ja.nil _ _,HL,hzp,hlo,fun _=>rfl,qc _,by omega⟩
 case round=>
  clear HP0 HL hzp;obtain⟨fb,f0,ls,vs,y,hgk,hP,hO,hRW,HCL,hyp,xB,hfb,hll,hf⟩:=hrel;obtain⟨f,hf0⟩:∃f,f0=f+1:=⟨f0-1,by omega⟩
  subst hf0;subst hgk;have HP:=q9 hP;have HO:=q9 hO;have HRW:=q9 hRW;have hvl:vs.length<=2000000:=by rw[hRW.1];omega
  clear hP hO hRW
  cases fb with
  |true=>
   have hls:=hfb rfl;subst hls;have hvs:vs=[]:=List.length_eq_zero_iff.1 HRW.out.1;subst hvs;have HRY:=q9 (fun W h hT=>HRP.out W y h hT xB hyp)
   have h1:=HRS.out y;have h3:=h1.len (by rw[qt];exact hyp)
   have hle:=h1.le;rw[qt]at h3;have vL:Hid (aX (bys s) alt (f+1) [(jg (bys s) alt y).1] (jg (bys s) alt y).2=L):=q9 HCL.out;clear h1 HRP HRS HJ vG HCL HI2;generalize jg (bys s) alt y=P at*;obtain⟨pl,pz⟩:=P;simp only at HRY vL h3 hle;have zA:([]:List Value).length<=2000000:=by simp
   clear hfb;obtain⟨ls,hls⟩:∃ls:List (List Nd),ls=[]:=⟨_,rfl⟩;obtain⟨vs,hvs⟩:∃vs:List Value,vs=[]:=⟨_,rfl⟩;have HLS:Hid (ls++[pl]=[pl]):=q9 (by rw[hls];rfl)
   have zI:ls.length=0:=by rw[hls];rfl
   rw[<-hls,<-hvs]at HRW;rw[<-hvs]at HO hvl zA;clear hls hvs hll
   go_wp2_with(first
    |((with_reducible refine(HI1.out _ _ HP.out).mono ?_);rintro e w1 ⟨rfl,hP1,hF1⟩;have HP1:=q9 (hP1);have HO1:=q9 (hF1.own HO.out (fun k hk=>HSN.out k (HO.out.lt k hk).1));have HR1:Hid (ja w1 w.heap.size vs ls):=q9 (HRW.out.all (fun v l h=>eU hF1 h HSN.out));have HT1:=q9 (HP1.out.tab HT.out hgt hbt);clear hP1 hF1)
    |((with_reducible refine(HRY.out _ HP1.out.box HT1.out).mono ?_);rintro e w2 ⟨v2,rfl,ho,hB,hg⟩;have HN2:Hid (qu w2 w.heap.size v2 pl):=q9 (qJ.mono ho HP1.out.fx.size);have HP2:=q9 (HP1.out.act hB hg);have HO2:=q9 (HO1.out.keep hg (tS hgl HO1.out));have HR2:Hid (ja w2 w.heap.size vs ls):=q9 (HR1.out.all (fun v l h=>qu.keepG h hg hgl));clear ho hB hg;obtain⟨oa,cap,hv2⟩:=qu.slice HN2.out;subst hv2;have hba:=qo w2 (.cells #[.slice oa pl.length cap] 37);have HX3:Hid (Sl (w2.alloc (.cells #[.slice oa pl.length cap] 37)) (.slice (some ⟨w2.heap.size,0,none⟩) 1 1) [.slice oa pl.length cap]):=q9 (by simpa using dW w2 #[.slice oa pl.length cap] 37 (by simp));have HO3:=q9 (HO2.out.up hba);have HP3:=q9 (HP2.out.up hba);have HR3:Hid (ja (w2.alloc (.cells #[.slice oa pl.length cap] 37)) w.heap.size (vs++[.slice oa pl.length cap]) (ls++[pl])):=q9 ((HR2.out.snoc HN2.out).all (fun v l h=>qJ.up h hba));have HLE:Hid (vs.length+[Value.slice oa pl.length cap].length<=4294967296):=q9 (by simp;omega);clear hba)
    |(at_builtin;refine jG rfl (.tmp 10) (.tmp 13) 92 rfl w.heap.size 37 (.slice none 0 0) 24 Tryd.underlying92 (by kernel_rfl) rfl (by decide) u7 vs rfl HO3.out (.slice (some ⟨w2.heap.size,0,none⟩) 1 1) [.slice oa pl.length cap] rfl HX3.out (by intro u hu;simp only[List.mem_singleton]at hu;subst hu;rfl) HLE.out HP3.out.fx.size ?_;intro v' w5 hown1 hg1 hk1;have HO5:=q9 hown1;have HP5:=q9 (HP3.out.far hg1 (fun q e=>(HO3.out.lt q e).1));have HR5:Hid (ja w5 w.heap.size (vs++[.slice oa pl.length cap]) (ls++[pl])):=q9 (HR3.out.all (fun v l h=>qJ.keep h hg1 (dE HO3.out h (by decide))));clear hown1 hg1 hk1))
   go_roundg (f+1)
   case measure=>show f+1<f+1+1;omega
   case rel=>exact⟨false,f+1,ls++[pl],vs++[.slice oa pl.length cap],pz,rfl,HP5.out,HO5.out,HR5.out,by rw[HLS.out];exact vL,h3,by omega,(by intro h;cases h),by rw[qg,List.length_singleton,zI];omega,by omega⟩
  |false=>
   have HTT:=q9 (fun h=>bG (s:=bys s) (c:=124) (z:=y) h)
   have HTF:=q9 (fun h=>bV (s:=bys s) (c:=124) (z:=y) h)
   have wZ:=q9 (HI2.out · y)
   have hC2:L=if(qz (bys s) 124 y).1 then aX (bys s) alt f (ls++[(jg (bys s) alt (qz (bys s) 124 y).2).1]) (jg (bys s) alt (qz (bys s) 124 y).2).2 else(ls,y):=by
    rw[<-HCL.out];show aX (bys s) alt (f+1) ls y=_;rw[aX]
   clear HCL hfb HI1 HI2;generalize qz (bys s) 124 y=T at*;obtain⟨bt,y1⟩:=T;simp only at HTT HTF wZ hC2
   cases bt with
   |true=>
    rw[if_pos rfl]at hC2;obtain⟨hnx,hy1⟩:=HTT.out rfl;obtain⟨hy0,hyl,-⟩:=qS hnx;rw[qt]at hyl;have B6:y1.p=y.p+1:=by rw[hy1];rfl
    have HRY:=q9 (fun W h hT=>HRP.out W y1 h hT (by omega) (by omega))
    have h1:=HRS.out y1;have h3:=h1.len (by rw[qt];omega)
    have hle:=h1.le;rw[qt]at h3;have HCL:=q9 hC2.symm;clear h1 HRP HRS HJ vG HTT HTF hnx hy1 hy0 hC2;generalize jg (bys s) alt y1=P at*;obtain⟨pl,pz⟩:=P;simp only at HRY HCL h3 hle
    go_wp2_with(first
     |((with_reducible refine(wZ.out _ HP.out).mono ?_);rintro e w1 ⟨rfl,hP1,hF1⟩;have HP1:=q9 (hP1);have HO1:=q9 (hF1.own HO.out (fun k hk=>HSN.out k (HO.out.lt k hk).1));have HR1:Hid (ja w1 w.heap.size vs ls):=q9 (HRW.out.all (fun v l h=>eU hF1 h HSN.out));have HT1:=q9 (HP1.out.tab HT.out hgt hbt);clear hP1 hF1)
     |((with_reducible refine(HRY.out _ HP1.out.box HT1.out).mono ?_);rintro e w2 ⟨v2,rfl,ho,hB,hg⟩;have HN2:Hid (qu w2 w.heap.size v2 pl):=q9 (qJ.mono ho HP1.out.fx.size);have HP2:=q9 (HP1.out.act hB hg);have HO2:=q9 (HO1.out.keep hg (tS hgl HO1.out));have HR2:Hid (ja w2 w.heap.size vs ls):=q9 (HR1.out.all (fun v l h=>qu.keepG h hg hgl));clear ho hB hg;obtain⟨oa,cap,hv2⟩:=qu.slice HN2.out;subst hv2;have hba:=qo w2 (.cells #[.slice oa pl.length cap] 37);have HX3:Hid (Sl (w2.alloc (.cells #[.slice oa pl.length cap] 37)) (.slice (some ⟨w2.heap.size,0,none⟩) 1 1) [.slice oa pl.length cap]):=q9 (by simpa using dW w2 #[.slice oa pl.length cap] 37 (by simp));have HO3:=q9 (HO2.out.up hba);have HP3:=q9 (HP2.out.up hba);have HR3:Hid (ja (w2.alloc (.cells #[.slice oa pl.length cap] 37)) w.heap.size (vs++[.slice oa pl.length cap]) (ls++[pl])):=q9 ((HR2.out.snoc HN2.out).all (fun v l h=>qJ.up h hba));have HLE:Hid (vs.length+[Value.slice oa pl.length cap].length<=4294967296):=q9 (by simp;omega);clear hba)
     |(at_builtin;refine jG rfl (.tmp 10) (.tmp 13) 92 rfl w.heap.size 37 (.slice none 0 0) 24 Tryd.underlying92 (by kernel_rfl) rfl (by decide) u7 vs rfl HO3.out (.slice (some ⟨w2.heap.size,0,none⟩) 1 1) [.slice oa pl.length cap] rfl HX3.out (by intro u hu;simp only[List.mem_singleton]at hu;subst hu;rfl) HLE.out HP3.out.fx.size ?_;intro v' w5 hown1 hg1 hk1;have HO5:=q9 hown1;have HP5:=q9 (HP3.out.far hg1 (fun q e=>(HO3.out.lt q e).1));have HR5:Hid (ja w5 w.heap.size (vs++[.slice oa pl.length cap]) (ls++[pl])):=q9 (HR3.out.all (fun v l h=>qJ.keep h hg1 (dE HO3.out h (by decide))));clear hown1 hg1 hk1))
    go_roundg f
    case measure=>show f<f+1;omega
    case rel=>exact⟨false,f,ls++[pl],vs++[.slice oa pl.length cap],pz,rfl,HP5.out,HO5.out,HR5.out,HCL,h3,by omega,(by intro h;cases h),by rw[qg,List.length_singleton];omega,by omega⟩
   |false=>
    have hy1:=HTF.out rfl;subst hy1;have HR2:Hid (L=(ls,y1)):=q9 hC2;have HSL:Hid (jO ls<=4000000):=q9 (by have:=vG.out;rw[HR2.out]at this;show jO ls<=4000000;simp only at this;omega)
    have vP:=HRW.out.1;clear hC2 HRP HRS vG HTT HTF
    cases ls with
    |nil=>
     have hvs:vs=[]:=List.length_eq_zero_iff.1 vP;subst hvs;obtain⟨oa,cap,b,off,hv,-,-⟩:=HO.out.sl;have hv0:u7=.slice oa 0 cap:=hv;subst hv0;clear hv vP;have HJ2:Hid (∀W,Calls Tryd.prog 54 #[.agg #[.int .i64 2,.int .i64 0,.int .u64 0,.int .u64 0,.int .u64 0,.int .u64 0,.int .i64 0,.int .i64 0],.slice none 0 0] W (bN W (j1 (kN 2) []))):=q9 (fun W=>kG (x:=kN 2) (ks:=[]) (Sl.nil W) rfl (fun i hi=>absurd hi (Nat.not_lt_zero i)) (by simp))
     go_wp2_with(first
      |((with_reducible refine(wZ.out _ HP.out).mono ?_);rintro e w1 ⟨rfl,hP1,hF1⟩;have HP1:=q9 hP1;clear hP1 hF1)
      |((with_reducible refine(HJ2.out _).mono ?_);rintro e w2 ⟨v2,rfl,ho,hb⟩;have HP2:=q9 (HP1.out.up hb);have HN2:Hid (qu w2 w.heap.size v2 (j1 (kN 2) [])):=q9 (qJ.mono ho HP1.out.fx.size);clear ho hb))
     go_ret;rw[HR2.out]
     exact⟨v2,rfl,HN2.out,HP2.out.box,HP2.out.fx⟩
    |cons l1 ls1=>
     cases ls1 with
     |nil=>
      obtain⟨v1,hvs⟩:∃v1,vs=[v1]:=List.length_eq_one_iff.1 vP;subst hvs;obtain⟨oa,cap,b,hv,hd,hob,hcl,-,-⟩:=HO.out.cases;have hbB:=(hob (by simp)).2
      obtain⟨off,wI⟩:∃off,off=0:=⟨_,rfl⟩;rw[<-wI]at hd;have hv0:u7=.slice oa 1 cap:=hv;subst hv0;have hix:=fun W=>a8 (P:=Tryd.prog) 92 37 Tryd.underlying92 (by kernel_rfl) hd W .i64 0 (by omega) (by simp)
      have wK:=hd.hblk (by simp)
      have hbn:¬(b=g\/b=b0):=HSN.out b hbB;have HN1:Hid (qu wr w.heap.size v1 l1):=q9 (HRW.out.2 0 (by simp))
      simp only[Int.toNat_zero,Nat.add_zero,List.length_singleton]at hix;have vV:wr.cell? ⟨b,off,none⟩=some v1:=by rw[wI];exact hcl 0 (by simp)
      clear hv vP hd hcl hob wI
      go_wp2_with(first
       |((with_reducible refine(wZ.out _ HP.out).mono ?_);rintro e w1 ⟨rfl,hP1,hF1⟩;have HP1:=q9 hP1;have HN2:Hid (qu w1 w.heap.size v1 l1):=q9 (eU hF1 HN1.out HSN.out);have hce:=(hF1.cell wK hbn).trans vV;clear hP1 hF1))
      go_ret;rw[HR2.out]
      exact⟨v1,rfl,HN2.out,HP1.out.box,HP1.out.fx⟩
     |cons l2 ls2=>
      obtain⟨oa,cap,b,off,hv,-,-⟩:=HO.out.sl;rw[vP]at hv;have hv0:u7=.slice oa (ls2.length+1+1) cap:=hv;subst hv0;clear hv;have HR3:Hid (f9 4 (l1::l2::ls2)=j1 (kN 4) (l1::l2::ls2)):=q9 rfl;have HJ3:Hid (∀W,Own W w.heap.size 37 (.slice oa (ls2.length+1+1) cap) vs->ja W w.heap.size vs (l1::l2::ls2)->Calls Tryd.prog 54 #[.agg #[.int .i64 4,.int .i64 0,.int .u64 0,.int .u64 0,.int .u64 0,.int .u64 0,.int .i64 0,.int .i64 0],.slice oa (ls2.length+1+1) cap] W (bN W (j1 (kN 4) (l1::l2::ls2)))):=q9 (fun W ho hr=>HJ.out (kN 4) W _ vs _ ho hr HSL.out)
      have hn0:¬((ls2.length:Int)+1+1=0):=by omega
      have hn1:¬((ls2.length:Int)+1+1=1):=by omega
      clear vP;generalize l1::l2::ls2=lss at*;generalize ls2.length=m at*
      go_wp2_with(first
       |((with_reducible refine(wZ.out _ HP.out).mono ?_);rintro e w1 ⟨rfl,hP1,hF1⟩;have HP1:=q9 hP1;have HO1:=q9 (hF1.own HO.out (fun k hk=>HSN.out k (HO.out.lt k hk).1));have xZ:Hid (ja w1 w.heap.size vs lss):=q9 (HRW.out.all (fun v l h=>eU hF1 h HSN.out));clear hP1 hF1)
       |((with_reducible refine(HJ3.out _ HO1.out xZ.out).mono ?_);rintro e w2 ⟨v2,rfl,ho,hb⟩;have HP2:=q9 (HP1.out.up hb);have HN2:Hid (qu w2 w.heap.size v2 (j1 (kN 4) lss)):=q9 (qJ.mono ho HP1.out.fx.size);clear ho hb))
      go_ret;rw[HR2.out,HR3.out]
      exact⟨v2,rfl,HN2.out,HP2.out.box,HP2.out.fx⟩
theorem uI{alt:PS->List Nd×PS}{w:World}{g lo:Nat}{s:ByteArray}{z:PS}(hA:rB g s lo alt)(hlo:lo<=z.p)(hst:∀z,z.p<=(bys s).length->Stp (bys s) z (alt z).2)(hlen:∀z,z.p<=(bys s).length->(alt z).1.length+2*z.p<=2*(alt z).2.p+1)
  (h:qO w g s z) (hs:s.size<=1000000) (hT:jn w) (hzp:z.p<=s.size):
  Calls Tryd.prog 29 #[.pointer (some ⟨g,0,none⟩)] w (kH (f9 4 (aX (bys s) alt ((bys s).length+1) [(jg (bys s) alt z).1] (jg (bys s) alt z).2).1) g s (aX (bys s) alt ((bys s).length+1) [(jg (bys s) alt z).1] (jg (bys s) alt z).2).2 w):=by
 have hgl:=h.lt;have htl:=hT.lt;obtain⟨w2,hw2⟩:∃w2,w2=(w.alloc (.cells #[.pointer (some ⟨g,0,none⟩)] 57)).alloc (.cells #[.bool true] 4):=⟨_,rfl⟩;have hb2:Below w.heap.size w w2:=by rw[hw2];exact qx (qo w _) _
 have hs2:w2.heap.size=w.heap.size+2:=by rw[hw2];simp
 have HP:Hid (bQ w2 w2 g s z (w.heap.size+1) w.heap.size true):=q9 ⟨h.up hb2,Fx.refl _ _,by
   have:=jj (w.alloc (.cells #[.pointer (some ⟨g,0,none⟩)] 57)) (w.heap.size+1) #[.bool true] 4 (by simp) (by simp)
   rw[hw2]
   simpa using this,by rw[hw2];simp,by omega,by omega,by omega,by omega,by omega,by omega⟩
 have HR:=q9 (uX hA hlo hst hlen HP.out hs (hT.up hb2) (by omega) hzp)
 have HB2:=q9 hb2;have HS2:=q9 hs2;rw[hw2]at HR;generalize f9 4 (aX (bys s) alt ((bys s).length+1) [(jg (bys s) alt z).1] (jg (bys s) alt z).2).1=L1 at*;generalize (aX (bys s) alt ((bys s).length+1) [(jg (bys s) alt z).1] (jg (bys s) alt z).2).2=L2 at*;have HW2:=q9 hw2;clear h hT hzp hst hlen hA hlo hb2 hs2 hw2
 go_enter Tryd.func29,Tryd.ntmps29
 go_wp2_with((with_reducible refine(HR.out).mono ?_);rintro e w3 ⟨v,rfl,ho,hB,hF⟩;rw[<-HW2.out]at ho hF;have HO:Hid (qu w3 w.heap.size v L1):=q9 (qJ.mono ho (by rw[HS2.out];omega));have HB:=q9 hB;have HG:Hid (w.grownBy w3 (some g)):=q9 ⟨hF.os.trans HB2.out.os,hF.tape.trans HB2.out.tape,hF.output.trans HB2.out.output,qb HB2.out.size hF.size,fun k hk hne=>by rw[hF.block k (qd hk HB2.out.size) (fun e=>e.elim (fun e=>hne (by rw[e])) (fun e=>by omega)),HB2.out.block k hk]⟩;clear ho hB hF)
 go_ret
 exact⟨v,rfl,HO.out,HB.out,HG.out⟩
theorem uJ(g:Nat)(s:ByteArray)(hs:s.size<=1000000):∀f lo,s.size<=f+lo->rB g s lo (jN (bys s) f)
 |0,lo,hf=>fun W z h hT hl hz=>absurd hl (by omega)
 |f+1,lo,hf=>fun W z h hT hl hz=>uI (lo:=lo+1) (uJ g s hs f (lo+1) (by omega)) hl (fun z _=>aY (bys s) f z) (fun z _=>eJ (bys s) f z) h hs hT hz
def mD(y:List Nd×Nat×Nat)(w:World)(e:Ending)(w':World):Prop:=∃v,e=.returned (.tuple #[v,.int .i64 (y.2.1:Nat),.int .i64 (y.2.2:Nat)])/\qu w' w.heap.size v y.1/\Below w.heap.size w w'
theorem pA{s:ByteArray}{w:World}(hT:jn w):Calls Tryd.prog 15 #[.string s] w (mD (gO (bys s)) w):=by
 obtain⟨R,hR⟩:∃R,R=gO (bys s):=⟨_,rfl⟩;rw[<-hR];unfold gO at hR;rw[qt]at hR
 by_cases wF:512<s.size
 ·rw[if_pos wF]at hR
  have HR:=q9 hR;clear hR;have hb:(s.size:Int)>512:=by omega
  go_enter Tryd.func15,Tryd.ntmps15
  go_wp2;refine bodyPost_ret (v:=.tuple #[.slice none 0 0,.int .i64 3,.int .i64 512]) (by simp[results,Tryd.results15,go_sem]) rfl ?_
  rw[HR.out]
  exact⟨_,rfl,qJ.nil 8 w w.heap.size 74,qi _ _⟩
 ·rw[if_neg wF]at hR
  have hb:¬(s.size:Int)>512:=by omega
  have hs:s.size<=1000000:=by omega
  obtain⟨w1,hw1⟩:∃w1,w1=w.alloc (.cells #[.string s,.int .i64 0,.int .i64 0,.int .i64 0] 59):=⟨_,rfl⟩;have hb1:Below w.heap.size w w1:=by rw[hw1];exact qo w _
  have hs1:w1.heap.size=w.heap.size+1:=by rw[hw1];simp
  have hB1:qO w1 w.heap.size s ⟨0,0,0⟩:=⟨by
   rw[hw1]
   simpa using jj w w.heap.size #[.string s,.int .i64 0,.int .i64 0,.int .i64 0] 59 (by simp) (qa _)⟩
  have HA:=q9 (uI (lo:=0) (uJ w.heap.size s hs s.size 0 (by omega)) (qa _) (fun z _=>aY (bys s) s.size z) (fun z _=>eJ (bys s) s.size z) hB1 hs (hT.up hb1) (qc _))
  have hL:jN (bys s) (s.size+1) ⟨0,0,0⟩=(f9 4 (aX (bys s) (jN (bys s) s.size) ((bys s).length+1) [(jg (bys s) (jN (bys s) s.size) ⟨0,0,0⟩).1] (jg (bys s) (jN (bys s) s.size) ⟨0,0,0⟩).2).1,(aX (bys s) (jN (bys s) s.size) ((bys s).length+1) [(jg (bys s) (jN (bys s) s.size) ⟨0,0,0⟩).1] (jg (bys s) (jN (bys s) s.size) ⟨0,0,0⟩).2).2):=rfl;rw[show kH (f9 4 (aX (bys s) (jN (bys s) s.size) ((bys s).length+1) [(jg (bys s) (jN (bys s) s.size) ⟨0,0,0⟩).1] (jg (bys s) (jN (bys s) s.size) ⟨0,0,0⟩).2).1) w.heap.size s (aX (bys s) (jN (bys s) s.size) ((bys s).length+1) [(jg (bys s) (jN (bys s) s.size) ⟨0,0,0⟩).1] (jg (bys s) (jN (bys s) s.size) ⟨0,0,0⟩).2).2 w1=kH (jN (bys s) (s.size+1) ⟨0,0,0⟩).1 w.heap.size s (jN (bys s) (s.size+1) ⟨0,0,0⟩).2 w1 by rw[hL]]at HA
  clear hL hB1 hT;have HLN:=q9 (eJ (bys s) (s.size+1) ⟨0,0,0⟩);have HPL:=q9 ((aY (bys s) (s.size+1) ⟨0,0,0⟩).len (qc _));generalize jN (bys s) (s.size+1) ⟨0,0,0⟩=A at*;obtain⟨l,z⟩:=A;simp only at hR HA HLN HPL;rw[qt]at HPL;have HX:Hid (∀W,qO W w.heap.size s z->Calls Tryd.prog 30 #[.pointer (some ⟨w.heap.size,0,none⟩)] W fun e w'=>e=.returned (nxV (nxR (bys s) z))/\∃x,w'=ext W x):=q9 (fun W h=>nxP h)
  unfold nxV at HX;have HF:Hid (∀W,qO W w.heap.size s z->Calls Tryd.prog 31 #[.pointer (some ⟨w.heap.size,0,none⟩),.int .i64 15,.int .i64 z.p] W (jM (.tuple #[]) w.heap.size s (qC 15 z.p z) W)):=q9 (fun W h=>bY h 15 z.p)
  generalize (nxR (bys s) z).getD 0=ch at*;generalize (nxR (bys s) z).isSome=cs at*;have hll:l.length<=1025:=by have h1:=HLN.out;have h2:=HPL.out;omega
  have HW1:=q9 hw1;rw[hw1]at HA;have HB1:=q9 hb1;have HS1:=q9 hs1;clear wF hw1 hb1 hs1 HLN HPL;have hR:R=if(if cs then qC 15 z.p z else z).e≠0 then([],(if cs then qC 15 z.p z else z).e,(if cs then qC 15 z.p z else z).b)else if 400<l.length then([],3,0)else(l,0,0):=hR
  cases cs with
  |false=>
   have hR:R=if z.e≠0 then([],z.e,z.b)else if 400<l.length then([],3,0)else(l,0,0):=hR
   by_cases he:z.e=0
   ·rw[if_neg (fun h=>h he)]at hR
    have heb:((z.e:Int) != 0)=false:=by rw[he];rfl
    clear he
    by_cases hbl:400<l.length
    ·rw[if_pos hbl]at hR
     have HR:=q9 hR;have hbi:(l.length:Int)>400:=by omega
     clear hR
     go_enter Tryd.func15,Tryd.ntmps15
     go_wp2_with(first
      |((with_reducible refine(HA.out).mono ?_);rintro e w2 ⟨v,rfl,ho,hB,hg⟩;rw[<-HW1.out]at ho hg;have HO2:Hid (qu w2 (w.heap.size+1) v l):=q9 (qJ.mono ho (by rw[HS1.out];exact qa _));have HP2:=q9 hB;have HG2:=q9 (HB1.out.grown hg (HB1.out.size) (fun k e=>by have:=qk e;omega));obtain⟨oa,cap,hv⟩:=qu.slice HO2.out;subst hv;clear ho hB hg)
      |((with_reducible refine(HX.out _ HP2.out).mono ?_);rintro e w3 ⟨rfl,hx⟩;have HP3:=q9 (HP2.out.up (qn hx));have HG3:=q9 (HG2.out.trans ((qn hx).mono HG2.out.size));have c2:=HP3.out.c2;clear hx))
     refine bodyPost_ret (v:=.tuple #[.slice none 0 0,.int .i64 3,.int .i64 0]) (by simp[results,Tryd.results15,go_sem]) rfl ?_
     rw[HR.out]
     exact⟨_,rfl,qJ.nil 8 w3 w.heap.size 74,HG3.out⟩
    ·rw[if_neg hbl]at hR
     have HR:=q9 hR;have hbi:¬(l.length:Int)>400:=by omega
     clear hR
     go_enter Tryd.func15,Tryd.ntmps15
     go_wp2_with(first
      |((with_reducible refine(HA.out).mono ?_);rintro e w2 ⟨v,rfl,ho,hB,hg⟩;rw[<-HW1.out]at ho hg;have HO2:Hid (qu w2 (w.heap.size+1) v l):=q9 (qJ.mono ho (by rw[HS1.out];exact qa _));have HP2:=q9 hB;have HG2:=q9 (HB1.out.grown hg (HB1.out.size) (fun k e=>by have:=qk e;omega));obtain⟨oa,cap,hv⟩:=qu.slice HO2.out;subst hv;clear ho hB hg)
      |((with_reducible refine(HX.out _ HP2.out).mono ?_);rintro e w3 ⟨rfl,hx⟩;have HP3:=q9 (HP2.out.up (qn hx));have HO3:Hid (qu w3 (w.heap.size+1) (.slice oa l.length cap) l):=q9 (qJ.up HO2.out (qn hx));have HG3:=q9 (HG2.out.trans ((qn hx).mono HG2.out.size));have c2:=HP3.out.c2;clear hx))
     refine bodyPost_ret (v:=.tuple #[.slice oa l.length cap,.int .i64 0,.int .i64 0]) (by simp[results,Tryd.results15,go_sem]) rfl ?_
     rw[HR.out]
     exact⟨_,rfl,qJ.mono HO3.out (Nat.le_succ _),HG3.out⟩
   ·rw[if_pos he]at hR
    have HR:=q9 hR;have heb:((z.e:Int) != 0)=true:=by simp;omega
    clear hR he
    go_enter Tryd.func15,Tryd.ntmps15
    go_wp2_with(first
     |((with_reducible refine(HA.out).mono ?_);rintro e w2 ⟨v,rfl,ho,hB,hg⟩;rw[<-HW1.out]at ho hg;have HP2:=q9 hB;have HG2:=q9 (HB1.out.grown hg (HB1.out.size) (fun k e=>by have:=qk e;omega));clear ho hB hg)
     |((with_reducible refine(HX.out _ HP2.out).mono ?_);rintro e w3 ⟨rfl,hx⟩;have HP3:=q9 (HP2.out.up (qn hx));have HG3:=q9 (HG2.out.trans ((qn hx).mono HG2.out.size));have c2:=HP3.out.c2;have c3:=HP3.out.c3;clear hx))
    go_simp
    go_quiet (fail)
    go_wp2;refine bodyPost_ret (v:=.tuple #[.slice none 0 0,.int .i64 z.e,.int .i64 z.b]) (by simp[results,Tryd.results15,go_sem]) rfl ?_
    rw[HR.out]
    exact⟨_,rfl,qJ.nil 8 _ w.heap.size 74,HG3.out.trans ((qy _ _).mono HG3.out.size)⟩
  |true=>
   obtain⟨z2,hz2⟩:∃z2,z2=qC 15 z.p z:=⟨_,rfl⟩;have hR:R=if z2.e≠0 then([],z2.e,z2.b)else if 400<l.length then([],3,0)else(l,0,0):=by rw[hz2];exact hR
   rw[<-hz2]at HF;clear hz2
   by_cases he:z2.e=0
   ·rw[if_neg (fun h=>h he)]at hR
    have heb:((z2.e:Int) != 0)=false:=by rw[he];rfl
    clear he
    by_cases hbl:400<l.length
    ·rw[if_pos hbl]at hR
     have HR:=q9 hR;have hbi:(l.length:Int)>400:=by omega
     clear hR
     go_enter Tryd.func15,Tryd.ntmps15
     go_wp2_with(first
      |((with_reducible refine(HA.out).mono ?_);rintro e w2 ⟨v,rfl,ho,hB,hg⟩;rw[<-HW1.out]at ho hg;have HO2:Hid (qu w2 (w.heap.size+1) v l):=q9 (qJ.mono ho (by rw[HS1.out];exact qa _));have HP2:=q9 hB;have HG2:=q9 (HB1.out.grown hg (HB1.out.size) (fun k e=>by have:=qk e;omega));obtain⟨oa,cap,hv⟩:=qu.slice HO2.out;subst hv;clear ho hB hg)
      |((with_reducible refine(HX.out _ HP2.out).mono ?_);rintro e w3 ⟨rfl,hx⟩;have HP3:=q9 (HP2.out.up (qn hx));have HG3:=q9 (HG2.out.trans ((qn hx).mono HG2.out.size));have c1:=HP3.out.c1;clear hx)
      |((with_reducible refine(HF.out _ HP3.out).mono ?_);rintro e w4 ⟨rfl,hB,hg⟩;have HP4:=q9 hB;have HG4:=q9 (HG3.out.grown hg (HG3.out.size) (fun k e=>by have:=qk e;omega));have c2:=HP4.out.c2;have c3:=HP4.out.c3;clear hB hg))
     refine bodyPost_ret (v:=.tuple #[.slice none 0 0,.int .i64 3,.int .i64 0]) (by simp[results,Tryd.results15,go_sem]) rfl ?_
     rw[HR.out]
     exact⟨_,rfl,qJ.nil 8 w4 w.heap.size 74,HG4.out⟩
    ·rw[if_neg hbl]at hR
     have HR:=q9 hR;have hbi:¬(l.length:Int)>400:=by omega
     clear hR
     go_enter Tryd.func15,Tryd.ntmps15
     go_wp2_with(first
      |((with_reducible refine(HA.out).mono ?_);rintro e w2 ⟨v,rfl,ho,hB,hg⟩;rw[<-HW1.out]at ho hg;have HO2:Hid (qu w2 (w.heap.size+1) v l):=q9 (qJ.mono ho (by rw[HS1.out];exact qa _));have HP2:=q9 hB;have HG2:=q9 (HB1.out.grown hg (HB1.out.size) (fun k e=>by have:=qk e;omega));obtain⟨oa,cap,hv⟩:=qu.slice HO2.out;subst hv;clear ho hB hg)
      |((with_reducible refine(HX.out _ HP2.out).mono ?_);rintro e w3 ⟨rfl,hx⟩;have HP3:=q9 (HP2.out.up (qn hx));have HO3:Hid (qu w3 (w.heap.size+1) (.slice oa l.length cap) l):=q9 (qJ.up HO2.out (qn hx));have HG3:=q9 (HG2.out.trans ((qn hx).mono HG2.out.size));have c1:=HP3.out.c1;clear hx)
      |((with_reducible refine(HF.out _ HP3.out).mono ?_);rintro e w4 ⟨rfl,hB,hg⟩;have HP4:=q9 hB;have HG4:=q9 (HG3.out.grown hg (HG3.out.size) (fun k e=>by have:=qk e;omega));have HO4:Hid (qu w4 (w.heap.size+1) (.slice oa l.length cap) l):=q9 (qu.keepG HO3.out hg (Nat.lt_succ_self _));have c2:=HP4.out.c2;have c3:=HP4.out.c3;clear hB hg))
     refine bodyPost_ret (v:=.tuple #[.slice oa l.length cap,.int .i64 0,.int .i64 0]) (by simp[results,Tryd.results15,go_sem]) rfl ?_
     rw[HR.out]
     exact⟨_,rfl,qJ.mono HO4.out (Nat.le_succ _),HG4.out⟩
   ·rw[if_pos he]at hR
    have HR:=q9 hR;have heb:((z2.e:Int) != 0)=true:=by simp;omega
    clear hR he
    go_enter Tryd.func15,Tryd.ntmps15
    go_wp2_with(first
     |((with_reducible refine(HA.out).mono ?_);rintro e w2 ⟨v,rfl,ho,hB,hg⟩;rw[<-HW1.out]at ho hg;have HP2:=q9 hB;have HG2:=q9 (HB1.out.grown hg (HB1.out.size) (fun k e=>by have:=qk e;omega));clear ho hB hg)
     |((with_reducible refine(HX.out _ HP2.out).mono ?_);rintro e w3 ⟨rfl,hx⟩;have HP3:=q9 (HP2.out.up (qn hx));have HG3:=q9 (HG2.out.trans ((qn hx).mono HG2.out.size));have c1:=HP3.out.c1;clear hx)
     |((with_reducible refine(HF.out _ HP3.out).mono ?_);rintro e w4 ⟨rfl,hB,hg⟩;have HP4:=q9 hB;have HG4:=q9 (HG3.out.grown hg (HG3.out.size) (fun k e=>by have:=qk e;omega));have c2:=HP4.out.c2;have c3:=HP4.out.c3;clear hB hg))
    go_simp
    go_quiet (fail)
    go_wp2;refine bodyPost_ret (v:=.tuple #[.slice none 0 0,.int .i64 z2.e,.int .i64 z2.b]) (by simp[results,Tryd.results15,go_sem]) rfl ?_
    rw[HR.out]
    exact⟨_,rfl,qJ.nil 8 _ w.heap.size 74,HG4.out.trans ((qy _ _).mono HG4.out.size)⟩
theorem Fx.far{S S':Nat->Prop}{w w1 w2:World}(h:Fx S w w1)(hg:Fx S' w1 w2)(hr:∀k,S' k->S k\/w.heap.size<=k):Fx S w w2:=
 ⟨hg.os.trans h.os,hg.tape.trans h.tape,hg.output.trans h.output,qb h.size hg.size,fun k hk h1=>by
  rw[hg.block k (qd hk h.size) (fun e=>(hr k e).elim h1 (fun z=>by omega)),h.block k hk h1]⟩
theorem mF{P:Program}(t E:TypeId)(ht:P.underlying t=some (.slice E))(hE:(P.info? E).map (·.size)=some 1):P.underlying t=some (.slice (P.elem t))/\∀W:World,(sizeOf (P.elem t)).run P W=.ok 1 W:=by
 have he:P.elem t=E:=by simp[Program.elem,ht]
 refine⟨by rw[he];exact ht,fun W=>?_⟩
 rw[he]
 cases hq:P.info? E with
 |none=>simp[hq]at hE
 |some inf=>
  have:inf.size=1:=by simpa[hq]using hE
  simp[sizeOf,typeInfo,hq,this]
theorem Sl.low{P:Program}{w:World}{v:Value}{l:List Value}(h:Sl w v l)(t E:TypeId)(ht:P.underlying t=some (.slice E))(hE:(P.info? E).map (·.size)=some 1)(n:Nat)(hn:n<=l.length):
  ∃u,(∀W:World,(Instr.sliceAt t v none (some (.int .i64 (n:Int))) none).run P W=.ok u W)/\Sl w u (l.take n):=by
 obtain⟨oa,cap,b,off,rfl,hd,hc⟩:=h;obtain⟨h1,h2⟩:=mF t E ht hE;have hcap:=hd.hcap;have hl:(l.take n).length=n:=by rw[List.length_take];omega
 refine⟨sliced oa 0 n cap 1,fun W=>?_,?_⟩
 ·rw[run_sliceAt_slice (P:=P) (t:=t) (h:=h1),run_slice_h (t:=t) (ht:=h1) (h0:=by omega) (h2:=by omega),h2]
  simp[Result.andThen]
 ·refine⟨if cap=0 then oa else oa.map (·.add (0*1)),cap,b,off,by rw[hl];simp[sliced],⟨fun h0=>?_,by omega,hd.hmax,by have:=hd.hsml;omega,fun h0=>hd.hblk (by omega)⟩,fun i hi=>?_⟩
  ·rw[hl]at h0
   rw[if_neg (by omega),hd.hat (by omega)]
   simp[aA]
  ·rw[hl]at hi
   rw[hc i (by omega)]
   simp[List.getD,hi]
theorem Sl.high{P:Program}{w:World}{v:Value}{l:List Value}(h:Sl w v l)(t E:TypeId)(ht:P.underlying t=some (.slice E))(hE:(P.info? E).map (·.size)=some 1)(n:Nat)(hn:n<=l.length):
  ∃u,(∀W:World,(Instr.sliceAt t v (some (.int .i64 (n:Int))) none none).run P W=.ok u W)/\Sl w u (l.drop n):=by
 obtain⟨oa,cap,b,off,rfl,hd,hc⟩:=h;obtain⟨h1,h2⟩:=mF t E ht hE;have hcap:=hd.hcap;have hl:(l.drop n).length=l.length-n:=by rw[List.length_drop]
 refine⟨sliced oa n l.length cap 1,fun W=>?_,?_⟩
 ·rw[run_sliceAt_slice (P:=P) (t:=t) (h:=h1),run_slice_l (t:=t) (ht:=h1) (h0:=by omega) (h1:=by omega),h2]
  simp[Result.andThen]
 ·refine⟨if cap=n then oa else oa.map (·.add (n*1)),cap-n,b,off+n,by rw[hl];simp[sliced],⟨fun h0=>?_,by omega,by have:=hd.hmax;omega,by have:=hd.hsml;omega,fun h0=>hd.hblk (by omega)⟩,fun i hi=>?_⟩
  ·rw[hl]at h0
   rw[if_neg (by omega),hd.hat (by omega)]
   simp[aA]
  ·rw[hl]at hi
   rw[Nat.add_assoc,hc (n+i) (by omega)]
   simp[List.getD]
def Und:List Nd->Prop
 |[]=>True
 |x::r=>0<=x.n/\x.n<=(bD r).length/\Und r
theorem mG(x:Nd)(r:List Nd):(bD (x::r)).length=(bD r).length-x.n.toNat+1:=by
 rw[bD];simp
theorem cO:∀(f:Fo) (P:List Nd),wf f->Und P->Und (cA f++P)/\(bD (cA f++P)).length=cnt f+(bD P).length
 |.nil,P,_,h=>by simp[cA,cnt,h]
 |.cons x k r,P,hw,h=>by
  obtain⟨hn,hk,hr⟩:=hw;obtain⟨h1,h2⟩:=cO r P hr h;obtain⟨h3,h4⟩:=cO k (cA r++P) hk h1;have e:cA (.cons x k r)++P=x::(cA k++(cA r++P)):=by simp[cA]
  rw[e];refine⟨⟨by omega,by omega,h3⟩,?_⟩
  rw[mG,h4,h2,hn];simp only[cnt];omega
theorem rH{l:List Nd}(h:Chk l):Und l:=by
 obtain⟨x,k,rfl,hn,hk,-⟩:=i8 h;have:=(cO (.cons x k .nil) [] ⟨hn,hk,trivial⟩ trivial).1
 simpa[cA]using this
theorem pB:∀{l:List Nd} {i:Nat},Und l->i<l.length->0<=(l.getD i zN).n/\(l.getD i zN).n<=(bD (l.drop (i+1))).length
 |x::r,0,h,_=>⟨h.1,h.2.1⟩
 |x::r,i+1,h,hi=>by
  have:=pB (l:=r) (i:=i) h.2.2 (by simpa using hi)
  simpa using this
theorem sW(l:List Nd):(bD l).length<=l.length:=by
 induction l with
 |nil=>simp[bD]
 |cons x r ih=>rw[mG,List.length_cons];omega
theorem mH{α:Type}(d:α){l:List α}{i:Nat}(h:i<l.length):l.drop i=l.getD i d::l.drop (i+1):=by
 rw[List.drop_eq_getElem_cons h];congr 1;simp[List.getD,h]
def bv(l:List Bool):List Value:=l.map Value.bool
theorem mJ(l:List Bool):(bv l).length=l.length:=by simp[bv]
theorem rI(l:List Bool)(i:Nat)(h:i<l.length):(bv l).getD i undef=.bool (l.getD i false):=by simp[bv,List.getD,h]
def rJ(x:Nd)(k:List Bool):Bool:=if x.kd=2\/x.kd=5\/x.kd=7 then true else if x.kd=3\/x.kd=6 then k.all id else if x.kd=4 then k.any id else if x.kd=8 then k.all id||decide (x.lo=0)else false
theorem o8(x:Nd)(r:List Nd):bD (x::r)=rJ x ((bD r).take x.n.toNat)::(bD r).drop x.n.toNat:=rfl
theorem Own.lowAny{P:Program}{w:World}{B:Nat}{v:Value}{xs:List Value}(T E:TypeId)(hT:P.underlying T=some (.slice E))(hE:(P.info? E).map (·.size)=some 1)(h:Own w B E v xs)(k:Nat)(hk:k<=xs.length):
  ∃u,(∀W:World,(Instr.sliceAt T v none (some (.int .i64 (k:Int))) none).run P W=.ok u W)/\Own w B E u (xs.take k)/\u.ownBlock=v.ownBlock:=by
 obtain⟨r1,r2⟩:=iD (P:=P) (k:=1) T E hT hE;obtain⟨⟨hz,hh⟩,hs⟩:=h;have ht:(xs.take k).length=k:=by rw[List.length_take];omega
 rcases hh with⟨h1,h0⟩|⟨g,cap,cur,h1,hb,hg,hnc,hcm,hcs,vC⟩
 ·have hx0:xs=[]:=List.length_eq_zero_iff.1 h0
  subst hx0;obtain rfl:k=0:=by simpa using hk
  refine⟨.slice none 0 0,fun W=>?_,Own.nil _ _ _,by rw[h1]⟩
  rw[h1,run_sliceAt_slice (P:=P) (t:=T) (h:=r1),run_slice_h (t:=T) (ht:=r1) (h0:=by omega) (h2:=by omega),r2]
  simp[Result.andThen,sliced]
 ·refine⟨.slice (some ⟨g,0,none⟩) k cap,fun W=>?_,⟨⟨by omega,.inr ⟨g,cap,cur,by rw[ht],hb,hg,by rw[ht];omega,hcm,hcs,?_⟩⟩,by omega⟩,by rw[h1];rfl⟩
  ·rw[h1,run_sliceAt_slice (P:=P) (t:=T) (h:=r1),run_slice_h (t:=T) (ht:=r1) (h0:=by omega) (h2:=by omega),r2]
   by_cases hc:cap=0
   ·subst hc
    obtain rfl:k=0:=by omega
    simp[Result.andThen,sliced]
   ·simp[Result.andThen,sliced,hc,aA]
  ·rw[ht]
   have:xs.take k=(cur.toList.take (xs.length*1)).take k:=by rw[vC]
   rw[this,List.take_take]
   congr 1
   omega
theorem a7.c6{w:World}{b:Nat}{x:Nd}(h:a7 w b x):w.cell? ⟨b,6,none⟩=some (.int .i64 x.lo):=h.own.cell (by simp[ndC])
theorem kM{w:World}{B E:Nat}{v:Value}{xs:List Value}(h:Own w B E v xs):∃oz nz cz,v=.slice oz nz cz:=by
 obtain⟨oa,cap,b,off,hv,-,-⟩:=h.sl
 exact⟨oa,_,cap,hv⟩
theorem sX{w:World}{v:Value}{l:List Nd}(h:j4 w v l)(hl:l.length<=100000)(_hne:l.length≠0)(h1:(bD l).length=1)(hu:Und l):
  Calls Tryd.prog 33 #[v] w fun e w'=>e=.returned (.bool ((bD l).headD false))/\∃x,w'=ext w x:=by
 obtain⟨oa,cap,b,off,rfl,hd,hc⟩:=h.open;have hix:=fun(W:World) (i:Nat) (hi:i<l.length)=>bX hd W .i64 i (by omega) (by omega)
 simp only[Int.toNat_natCast]at hix;have HIX:=q9 hix;have HC:=q9 hc;have HU:=q9 (fun i hi=>pB (l:=l) (i:=i) hu hi)
 have HSZ:=q9 (fun i=>sW (l.drop i))
 have HD:=q9 (fun i (hi:i<l.length)=>mH zN hi)
 have hbl:=hd.hblk;obtain⟨n,hn⟩:∃n,n=l.length:=⟨_,rfl⟩;have HN:=q9 hn;have HNB:Hid (∀W:World,a7 (W.alloc (.cells #[.int .i64 0,.int .i64 0,.int .u64 0,.int .u64 0,.int .u64 0,.int .u64 0,.int .i64 0,.int .i64 0] 74)) W.heap.size zN):=q9 (fun W=>bM W zN _ rfl)
 rw[<-hn]at hl hbl HIX HC HU HD⊢;have HH1:=q9 h1;clear h hix hc hd hu hn h1
 go_enter Tryd.func33,Tryd.ntmps33
 go_wp2
 go_loopg [3,4] n (fun gk lv iv wr=>∃j:Nat,j<=n/\iv=.int .i64 ((j:Int)-1)/\Own wr w.heap.size 4 lv (bv (bD (l.drop j)).reverse)/\Below w.heap.size w wr/\gk=j)
 case atStart=>exact⟨n,qa _,rfl,by rw[HN.out,List.drop_length];exact Own.nil _ _ _,qi _ _,rfl⟩
 case round=>
  obtain⟨j0,hj,rfl,hO,hB,hgk⟩:=hrel;have HGK:=q9 hgk;have HO:=q9 hO;have HB:=q9 hB;clear hO hB hgk
  rcases Nat.eq_zero_or_pos j0 with h0|vR
  ·subst h0
   obtain⟨a,har⟩:∃a,bD l=[a]:=List.length_eq_one_iff.1 HH1.out;have HR:Hid ((bD l).headD false=a):=q9 (by rw[har];rfl)
   rw[List.drop_zero,har]at HO;have HO1:Hid (Own wr w.heap.size 4 u3 [.bool a]):=q9 HO.out;obtain⟨oa2,cap2,b2,hv,hd2,-,hcl,-,-⟩:=HO1.out.cases;have hv0:u3=.slice oa2 1 cap2:=hv;subst hv0;obtain⟨off2,wI⟩:∃off2,off2=0:=⟨_,rfl⟩;rw[<-wI]at hd2;have hix:=fun W=>a8 (P:=Tryd.prog) 76 4 Tryd.underlying76 (by kernel_rfl) hd2 W .i64 0 (by omega) (by simp)
   have hcell:wr.cell? ⟨b2,off2,none⟩=some (.bool a):=by rw[wI];exact hcl 0 (by simp)
   simp only[Int.toNat_zero,Nat.add_zero,List.length_singleton]at hix;clear hd2 hcl wI hv HO HO1 har;go_wp2;go_ret
   exact⟨by rw[HR.out];rfl,qv HB.out⟩
  ·obtain⟨j,hj1⟩:∃j,j0=j+1:=⟨j0-1,by omega⟩
   subst hj1;obtain⟨hx0,hxn⟩:=HU.out j (by omega)
   have HDJ:=q9 (HD.out j (by omega))
   have hdl:=HSZ.out (j+1);have HCJ:=q9 (HC.out j (by omega))
   have C3:=fun W=>HIX.out W j (by omega)
   have hbb:=hbl (by omega)
   have hbw:b<wr.heap.size:=by have:=HB.out.size;omega
   have HCW:Hid (∀c,c<8->wr.cell? ⟨b,off+j*8+c,none⟩=some ((ndA (l.getD j zN)).getD c undef)):=q9 (fun c hc=>by
    rw[HB.out.cell (p:=⟨b,off+j*8+c,none⟩) hbb,HCJ.out c hc]
    rcases(show c=0\/c=1\/c=2\/c=3\/c=4\/c=5\/c=6\/c=7 by omega)with rfl|rfl|rfl|rfl|rfl|rfl|rfl|rfl<;>rfl)
   have HEV:Hid (bD (l.drop j)=rJ (l.getD j zN) ((bD (l.drop (j+1))).take (l.getD j zN).n.toNat)::(bD (l.drop (j+1))).drop (l.getD j zN).n.toNat):=q9 (by rw[HDJ.out,o8])
   have zQ:(l.drop (j+1)).length<=100000:=by rw[List.length_drop,<-HN.out];omega
   generalize l.getD j zN=x at*;generalize bD (l.drop (j+1))=D at*;clear HU HD HSZ HC HIX HDJ HCJ;obtain⟨kd,xn,xa,xb,xc,xd,lo,hi⟩:=x;simp only at hx0 hxn;obtain⟨k,hk⟩:∃k:Nat,xn=(k:Int):=⟨xn.toNat,by omega⟩
   subst hk;simp only[Int.toNat_natCast]at HEV;have hDl:D.length<=100000:=by omega
   have hkD:k<=D.length:=by omega
   have HDL:=q9 hdl;clear hdl zQ;have e1:((D.length:Nat):Int)-(k:Int)=((D.length-k:Nat):Int):=by omega
   obtain⟨m,hm⟩:∃m,m=D.length-k:=⟨_,rfl⟩;rw[<-hm]at e1;have hml:(bv D.reverse).length=D.length:=by rw[mJ,List.length_reverse]
   obtain⟨oz,cz,bz,fz,hv,-,-⟩:=HO.out.sl;rw[hml]at hv;have HV:=q9 hv;subst hv;obtain⟨u1,hu1,xH⟩:=HO.out.sl.high 76 4 Tryd.underlying76 (by kernel_rfl) m (by rw[hml];omega)
   obtain⟨u2,hu2,hO2,hb2⟩:=Own.lowAny (P:=Tryd.prog) 76 4 Tryd.underlying76 (by kernel_rfl) HO.out m (by rw[hml];omega)
   have HK1:Hid ((bv D.reverse).drop m=bv (D.take k).reverse):=q9 (by
    unfold bv;rw[<-List.map_drop,List.drop_reverse,hm];congr 3;omega)
   have HK2:Hid ((bv D.reverse).take m=bv (D.drop k).reverse):=q9 (by
    unfold bv;rw[<-List.map_take,List.take_reverse,hm];congr 3;omega)
   rw[HK1.out]at xH;rw[HK2.out]at hO2;have HU1:=q9 hu1;have HU2:=q9 hu2;have HS1:=q9 xH;have HO2:=q9 hO2;have HB2:=q9 hb2;have HE1:=q9 e1;have HN1:=q9 (HNB.out wr);have HM:=q9 hm;clear hu1 hu2 xH hO2 hb2 HK1 HK2 hml e1 HV hm
   go_upto_region 8 with(first
    |(refine qY rfl 74 _ rfl b (off+j*8) 8 rfl (ndA ⟨kd,(k:Int),xa,xb,xc,xd,lo,hi⟩) _ HCW.out rfl Tryd.underlying74 rfl (by kernel_rfl) ?_)
    |(refine jf rfl _ _ rfl wr.heap.size rfl _ ⟨kd,(k:Int),xa,xb,xc,xd,lo,hi⟩ rfl HN1.out ?_;intro w2 hB2 hg2;have HN2:=q9 hB2;have hbd:Below wr.heap.size wr w2:=(qo wr _).grown hg2 (by simp) (fun q e=>by injection e with e;omega);have HBD:=q9 hbd;have n0:=HN2.out.c0;have n1:=HN2.out.c1;have n6:=HN2.out.c6;have hnl:=HN2.out.lt;clear hB2 hg2 hbd))
   rw[HE1.out];obtain⟨o1,c1,b1,f1,hv1,hd1,xD⟩:=HS1.out;have yK:(bv (D.take k).reverse).length=k:=by rw[mJ,List.length_reverse,List.length_take];omega
   rw[yK]at hv1 hd1 xD;subst hv1;have hu1:=HU1.out;have xO:=fun(W:World) (i:Nat) (hi:i<k)=>a8 (P:=Tryd.prog) 76 4 Tryd.underlying76 (by kernel_rfl) hd1 W .i64 i (by omega) (by omega)
   simp only[Int.toNat_natCast]at xO;have yP:=q9 xO;have yL:=hd1.hblk;obtain⟨K,hK⟩:∃K,K=(D.take k).reverse:=⟨_,rfl⟩;have hKl:K.length=k:=by rw[hK,List.length_reverse,List.length_take];omega
   rw[<-hK]at xD;have yX:Hid (∀i,i<k->wr.cell? ⟨b1,f1+i,none⟩=some (.bool (K.getD i false))):=q9 (fun i hi=>by rw[xD i hi,rI _ _ (by omega)])
   have yU:Hid (rJ ⟨kd,(k:Int),xa,xb,xc,xd,lo,hi⟩ (D.take k)=rJ ⟨kd,(k:Int),xa,xb,xc,xd,lo,hi⟩ K):=q9 (by rw[hK];unfold rJ;simp)
   have HKL:=q9 hKl;have hB2:=HB.out.trans (HBD.out.mono HB.out.size);have HBB:=q9 hB2;clear hd1 xD xO hK hKl yK hB2;go_wp2;clear hu1;have yI:Hid (∀i,i<k->w2.cell? ⟨b1,f1+i,none⟩=some (.bool (K.getD i false))/\b1<w2.heap.size):=q9 (fun i hi=>⟨by rw[HBD.out.cell (p:=⟨b1,f1+i,none⟩) (yL (by omega)),yX.out i hi],qd (yL (by omega)) HBD.out.size⟩)
   go_loop [7,8,32] (fun al so ix=>∃i:Nat,i<=k/\ix=.int .i64 i/\al=.bool ((K.take i).all id)/\so=.bool ((K.take i).any id)) (fun _ _ ix=>k+1-(intOf ix).toNat)
   case atStart=>exact⟨0,qc _,rfl,rfl,rfl⟩
   case round=>
    obtain⟨i,hi',rfl,rfl,rfl⟩:=hrel
    by_cases hlt:i<k
    ·obtain⟨hce,D2⟩:=yI.out i hlt
     have vS:=fun W=>yP.out W i hlt
     have HTA:Hid ((K.take (i+1)).all id=((K.take i).all id&&K.getD i false)):=q9 (by rw[qE K i false (by rw[HKL.out];exact hlt),List.all_append];simp)
     have HTS:Hid ((K.take (i+1)).any id=((K.take i).any id||K.getD i false)):=q9 (by rw[qE K i false (by rw[HKL.out];exact hlt),List.any_append];simp)
     generalize K.getD i false=q at*;generalize (K.take i).all id=al at*;generalize (K.take i).any id=so at*
     cases al<;>cases so<;>cases q
     all_goals
      go_wp2
      go_round
      case rel=>exact⟨i+1,by omega,by go_num,by rw[HTA.out];rfl,by rw[HTS.out];rfl⟩
      case measure=>simp[intOf];omega
    ·obtain rfl:i=k:=by omega
     rw[show K.take i=K by rw[<-HKL.out,List.take_length]]
     obtain⟨oz2,nz2,cz2,hv2⟩:=kM HO2.out;subst hv2;have hu2:=HU2.out
     go_upto_block 4 with(fail)
     have HEW:Hid (rJ ⟨kd,(i:Int),xa,xb,xc,xd,lo,hi⟩ K=if kd=2\/kd=5\/kd=7 then true else if kd=3\/kd=6 then K.all id else if kd=4 then K.any id else if kd=8 then K.all id||decide (lo=0)else false):=q9 rfl
     obtain⟨V,hV⟩:∃V,V=rJ ⟨kd,(i:Int),xa,xb,xc,xd,lo,hi⟩ K:=⟨_,rfl⟩;rw[<-hV]at HEW yU;clear hV yP yX yI HKL;generalize K.all id=al at*;generalize K.any id=so at*
     go_cut [11] (fun x wx=>x=.bool V/\wx=w2)
     case first=>
      by_cases k2:kd=2
      ·subst k2
       go_wp2
       go_meet
       case rel=>exact⟨by rw[HEW.out];simp,rfl⟩
      ·by_cases k5:kd=5
       ·subst k5
        go_wp2
        go_meet
        case rel=>exact⟨by rw[HEW.out];simp,rfl⟩
       ·by_cases k7:kd=7
        ·subst k7
         go_wp2
         go_meet
         case rel=>exact⟨by rw[HEW.out];simp,rfl⟩
        ·have hn1:¬(kd=2\/kd=5\/kd=7):=by omega
         rw[if_neg hn1]at HEW
         by_cases k3:kd=3
         ·subst k3
          clear hn1 k2 k5 k7;go_wp2
          go_meet
          case rel=>exact⟨by rw[HEW.out];simp,rfl⟩
         ·by_cases k6:kd=6
          ·subst k6
           clear hn1 k2 k5 k7 k3;go_wp2
           go_meet
           case rel=>exact⟨by rw[HEW.out];simp,rfl⟩
          ·have hn2:¬(kd=3\/kd=6):=by omega
           rw[if_neg hn2]at HEW
           by_cases k4:kd=4
           ·subst k4
            clear hn1 hn2 k2 k5 k7 k3 k6;go_wp2
            go_meet
            case rel=>exact⟨by rw[HEW.out];simp,rfl⟩
           ·rw[if_neg k4]at HEW
            by_cases k8:kd=8
            ·subst k8
             clear hn1 hn2 k2 k5 k7 k3 k6 k4;rw[if_pos rfl]at HEW
             cases al
             ·by_cases hlo:lo=0
              ·subst hlo
               go_wp2
               go_meet
               case rel=>exact⟨by rw[HEW.out];rfl,rfl⟩
              ·have xB:(lo==0)=false:=by simpa using hlo
               have HLO:=q9 (decide_eq_false hlo);clear hlo;go_wp2
               go_meet
               case rel=>exact⟨by rw[HEW.out,HLO.out];rfl,rfl⟩
             ·go_wp2
              go_meet
              case rel=>exact⟨by rw[HEW.out];rfl,rfl⟩
            ·rw[if_neg k8]at HEW
             have q2:(kd==2)=false:=by simpa using k2
             have q5:(kd==5)=false:=by simpa using k5
             have q7:(kd==7)=false:=by simpa using k7
             have q3:(kd==3)=false:=by simpa using k3
             have q6:(kd==6)=false:=by simpa using k6
             have q4:(kd==4)=false:=by simpa using k4
             have q8:(kd==8)=false:=by simpa using k8
             clear hn1 hn2 k2 k5 k7 k3 k6 k4 k8;go_wp2
             go_meet
             case rel=>exact⟨by rw[HEW.out],rfl⟩
     case rest=>
      obtain⟨rfl,hwc⟩:=hcut;rw[hwc];clear hwc hu2 n0 n1 n6;have hu2:=HU2.out;have hba:=qo w2 (.cells #[.bool V] 4);have HBA:=q9 hba;have HX:Hid (Sl (w2.alloc (.cells #[.bool V] 4)) (.slice (some ⟨w2.heap.size,0,none⟩) 1 1) [.bool V]):=q9 (by simpa using dW w2 #[.bool V] 4 (by simp))
      have HO4:=q9 ((HO2.out.up HBD.out).up hba)
      have HLE:Hid ((bv (D.drop i).reverse).length+[Value.bool V].length<=4294967296):=q9 (by
       rw[mJ,List.length_reverse,List.length_drop];simp;omega)
      have HBC:=q9 (HBB.out.trans (hba.mono HBB.out.size))
      have A1:Hid (bv (bD (l.drop j)).reverse=bv (D.drop i).reverse++[.bool V]):=q9 (by
       rw[HEV.out,yU.out,List.reverse_cons];simp[bv])
      clear hba
      go_wp2_with(at_builtin;refine jG rfl (.tmp 68) (.tmp 70) 76 rfl w.heap.size 4 (.bool false) 1 Tryd.underlying76 (by kernel_rfl) rfl (by decide) (.slice oz2 nz2 cz2) _ rfl HO4.out (.slice (some ⟨w2.heap.size,0,none⟩) 1 1) [.bool V] rfl HX.out (by intro u hu;simp only[List.mem_singleton]at hu;subst hu;rfl) HLE.out HBC.out.size ?_;intro v' w5 hown1 hg1 hk1;have HO5:=q9 hown1;have HB5:=q9 (cZ HBC.out HBC.out.size HO4.out hg1);clear hown1 hg1 hk1)
      go_roundg j
      case measure=>rw[HGK.out];omega
      case rel=>exact⟨j,by omega,rfl,by rw[A1.out];exact HO5.out,HB5.out,rfl⟩
theorem rK{l:List Nd}(h:Chk l):(bD l).length=1:=by
 obtain⟨x,k,rfl,hn,hk,-⟩:=i8 h;have:=(cO (.cons x k .nil) [] ⟨hn,hk,trivial⟩ trivial).2
 simpa[cA,cnt,bD]using this
theorem pC{w:World}{v:Value}{l:List Nd}(h:j4 w v l):Calls Tryd.prog 16 #[v] w fun e w'=>e=.returned (.bool (nA l))/\∃x,w'=ext w x:=by
 have HC:=q9 (sF h)
 by_cases hc:Chk l
 ·have HE:Hid (∀W,Below w.heap.size w W->Calls Tryd.prog 33 #[v] W fun e w'=>e=.returned (.bool ((bD l).headD false))/\∃x,w'=ext W x):=q9 (fun W hb=>sX (h.up hb) (by have:=hc.1;omega) hc.2.1 (rK hc) (rH hc))
  have HR:Hid (nA l=(bD l).headD false):=q9 (by unfold nA;rw[decide_eq_true hc,Bool.true_and])
  rw[show aC l=0 by unfold aC;rw[if_pos hc]]at HC
  rw[HR.out];generalize (bD l).headD false=b at*;clear h hc
  go_enter Tryd.func16,Tryd.ntmps16
  go_wp2_with(first
   |((with_reducible refine(HC.out).mono ?_);rintro e w1 ⟨rfl,hx⟩;have HB1:=q9 (qn hx);clear hx)
   |((with_reducible refine(HE.out _ HB1.out).mono ?_);rintro e w2 ⟨rfl,hx⟩;have HB2:=q9 (j7 HB1.out (qn hx));clear hx))
  go_ret
  exact⟨rfl,qv HB2.out⟩
 ·have HR:Hid (nA l=false):=q9 (by unfold nA;rw[decide_eq_false hc,Bool.false_and])
  rw[show aC l=4 by unfold aC;rw[if_neg hc]]at HC
  rw[HR.out];clear h hc
  go_enter Tryd.func16,Tryd.ntmps16
  go_wp2_with(first
   |((with_reducible refine(HC.out).mono ?_);rintro e w1 ⟨rfl,hx⟩;have HB1:=q9 (qn hx);clear hx))
  go_ret
  exact⟨rfl,qv HB1.out⟩
theorem cQ{s:ByteArray}(h:s.size=0):s=⟨#[]⟩:=by
 have:s.data=#[]:=Array.eq_empty_of_size_eq_zero h
 cases s;simp_all
theorem rS{s:ByteArray}(h:s.size≠0):s.toList.isEmpty=false:=by
 rw[ByteArray.toList_eq]
 cases hl:s.data.toList with
 |nil=>exact absurd (by have:=congrArg List.length hl;simpa using this) h
 |cons _ _=>rfl
theorem mS(s:ByteArray)(hs:s.size<=1000000)(w:World):Calls Tryd.prog 9 #[.string s] w fun e w'=>e=.returned (.bool (a6 (bys s)))/\∃x,w'=ext w x:=by
 by_cases h0:s.size=0
 ·obtain rfl:=cQ h0
  clear h0
  go_enter Tryd.func9,Tryd.ntmps9
  go_wp2;go_ret
  exact⟨rfl,(qv (by repeat(first|exact qi _ _|assumption|refine qF ?_ _|refine qj ?_|refine qL ?_ _|refine qx ?_ _)))⟩
 ·have hne:=rS h0
  have HC:Hid (∀W,Calls Tryd.prog 18 #[.int .i32 (((bys s).getD 0 0).toNat:Nat)] W fun e w'=>e=.returned (.bool (nB ((bys s).getD 0 0)))/\w'=W):=q9 (fun W=>lI _ W)
  have HH:Hid (∀W,Calls Tryd.prog 19 #[.string s,.func (.func 20) #[] #[]] W fun e w'=>e=.returned (.int .i64 (qK bE (bys s):Nat))/\∃x,w'=ext W x):=q9 (fun W=>oS s W)
  have hix:∀W,(Instr.index 9 (.string s) (.int .i64 0)).run Tryd.prog W=.ok (.int .u8 (((bys s).getD 0 0).toNat:Nat)) W:=fun W=>jc (P:=Tryd.prog) 9 Tryd.underlying9 (s:=s) (i:=0) (by omega) W
  have hct:=((bys s).getD 0 0).toNat_lt;have hl:=jE bE (bys s);rw[qt]at hl
  have HR:Hid (a6 (bys s)=(nB ((bys s).getD 0 0)&&(decide (qK bE (bys s)=s.size)&&decide (s.size<=16)))):=q9 (by
   unfold a6;rw[qt]
   have:(bys s).isEmpty=false:=by
    cases hb:bys s with
    |nil=>exact absurd (by have:=congrArg List.length hb;rwa [qt]at this) h0
    |cons _ _=>rfl
   have h2:(bys s).headD 0=(bys s).getD 0 0:=by cases bys s<;>rfl
   rw[this,h2];rfl)
  rw[HR.out];generalize ((bys s).getD 0 0)=c at*;generalize qK bE (bys s)=n at*;clear h0 HR
  cases hc:nB c
  ·rw[hc]at HC
   clear hc
   go_enter Tryd.func9,Tryd.ntmps9
   go_wp2_with((with_reducible refine(HC.out _).mono ?_);rintro e w2 ⟨rfl,rfl⟩)
   go_ret
   exact⟨rfl,(qv (by repeat(first|exact qi _ _|assumption|refine qF ?_ _|refine qj ?_|refine qL ?_ _|refine qx ?_ _)))⟩
  ·rw[Bool.true_and]
   rw[hc]at HC;clear hc
   by_cases hn:n=s.size
   ·subst hn
    by_cases h16:s.size<=16
    ·rw[decide_eq_true rfl,decide_eq_true h16]
     go_enter Tryd.func9,Tryd.ntmps9
     go_wp2_with(first|((with_reducible refine(HC.out _).mono ?_);rintro e w2 ⟨rfl,rfl⟩)|((with_reducible refine(HH.out _).mono ?_);rintro e w3 ⟨rfl,hx⟩;have HX:=q9 hx;clear hx))
     go_ret;refine⟨?_,HX.out⟩
     simp
     omega
    ·rw[decide_eq_true rfl,decide_eq_false h16]
     go_enter Tryd.func9,Tryd.ntmps9
     go_wp2_with(first|((with_reducible refine(HC.out _).mono ?_);rintro e w2 ⟨rfl,rfl⟩)|((with_reducible refine(HH.out _).mono ?_);rintro e w3 ⟨rfl,hx⟩;have HX:=q9 hx;clear hx))
     go_ret;refine⟨?_,HX.out⟩
     simp
     omega
   ·have hnb:((n:Int)==(s.size:Int))=false:=by simp;omega
    rw[decide_eq_false hn,Bool.false_and]
    go_enter Tryd.func9,Tryd.ntmps9
    go_wp2_with(first|((with_reducible refine(HC.out _).mono ?_);rintro e w2 ⟨rfl,rfl⟩)|((with_reducible refine(HH.out _).mono ?_);rintro e w3 ⟨rfl,hx⟩;have HX:=q9 hx;clear hx))
    go_ret
    exact⟨rfl,HX.out⟩
theorem jr(l:qM):bys ⟨l.toArray⟩=l:=rfl
theorem gB(s:ByteArray):(⟨(bys s).toArray⟩:ByteArray)=s:=by cases s;rfl
theorem oB(s:ByteArray)(j:Nat)(h:j<=s.size)(W:World):(Instr.sliceAt 9 (.string s) none (some (.int .i64 (j:Int))) none).run Tryd.prog W=.ok (.string ⟨((bys s).take j).toArray⟩) W:=by
 rw[run_sliceAt_string (P:=Tryd.prog) (t:=9) (h:=Tryd.underlying9),run_slice_string_to_if (P:=Tryd.prog) (t:=9) (h:=Tryd.underlying9),if_pos ⟨by omega,by omega⟩]
 rw[jT (l:=(bys s).take j) (by simp)]
theorem bT(s:ByteArray)(j:Nat)(h:j<=s.size)(W:World):(Instr.sliceAt 9 (.string s) (some (.int .i64 (j:Int))) none none).run Tryd.prog W=.ok (.string ⟨((bys s).drop j).toArray⟩) W:=by
 rw[run_sliceAt_string (P:=Tryd.prog) (t:=9) (h:=Tryd.underlying9),run_slice_string_from_if (P:=Tryd.prog) (t:=9) (h:=Tryd.underlying9),if_pos ⟨by omega,by omega⟩]
 rw[jT (l:=(bys s).drop j) (by rw[Int.toNat_natCast,List.take_of_length_le];rw[List.length_drop,qt];exact qa _)]
theorem iR(s:ByteArray)(a b:Nat)(h:a<=b)(hb:b<=s.size)(W:World):(Instr.sliceAt 9 (.string s) (some (.int .i64 (a:Int))) (some (.int .i64 (b:Int))) none).run Tryd.prog W=.ok (.string ⟨(((bys s).drop a).take (b-a)).toArray⟩) W:=by
 rw[run_sliceAt_string (P:=Tryd.prog) (t:=9) (h:=Tryd.underlying9),run_slice_string_if (P:=Tryd.prog) (t:=9) (h:=Tryd.underlying9),if_pos ⟨by omega,by omega⟩,if_pos ⟨by omega,by omega⟩]
 rw[jT (l:=((bys s).drop a).take (b-a)) (by simp)]
theorem qp{P:Program}{ops:Array Oper}{rest:List Oper}{o:Oper}{a:Act}{w:World}{Q:Exit->Act->World->Prop}(hgd:o.guard=none)(t:TypeId)(x:Operand)(lo hi mx:Option Operand)(ho:o.op=.slice t x lo hi mx)(v:Value)(hr:(Instr.sliceAt t (a.eval x) (lo.map a.eval) (hi.map a.eval) (mx.map a.eval)).run P w=.ok v w)
  (h:wpList P ops Q rest (a.put o.dst v) w):wpList P ops Q (o::rest) a w:=by
 refine wpList_plain hgd fun K hK=>?_
 unfold Oper.wp execOp;simp only[ho,Sem.run_bind,Sem.run_pure,Result.andThen_ok,hr]
 exact hK _ _ h
theorem mT{l:qM}(h:l.length≠0):l=l.take (l.length-1)++[l.getD (l.length-1) 0]:=by
 have h1:=qE l (l.length-1) 0 (by omega)
 rw[show l.length-1+1=l.length by omega,List.take_length]at h1
 exact h1
theorem oC{l:qM}(h:l.length≠0)(hb:jm (l.getD (l.length-1) 0)=true):jD l=jD (l.take (l.length-1)):=by
 have e:=mT h;unfold jD
 rw[show l.reverse=l.getD (l.length-1) 0::(l.take (l.length-1)).reverse by
  conv=>lhs;rw[e]
  rw[List.reverse_append];rfl,List.dropWhile_cons_of_pos hb]
theorem oD{l:qM}(h:l.length≠0)(hb:jm (l.getD (l.length-1) 0)=false):jD l=l:=by
 have e:=mT h
 have hr:l.reverse=l.getD (l.length-1) 0::(l.take (l.length-1)).reverse:=by
  conv=>lhs;rw[e]
  rw[List.reverse_append];rfl
 unfold jD;rw[hr,List.dropWhile_cons_of_neg (by rw[hb];simp),<-hr,List.reverse_reverse]
theorem tW(s:ByteArray)(hs:s.size<=1000000)(w:World):Calls Tryd.prog 38 #[.string s] w fun e w'=>e=.returned (.string ⟨(jD (bys s)).toArray⟩)/\w'=w:=by
 obtain⟨R,hR⟩:∃R,R=jD (bys s):=⟨_,rfl⟩;rw[<-hR];have HR:=q9 hR.symm;clear hR
 go_enter Tryd.func38,Tryd.ntmps38
 go_wp2
 go_loopg [0] s.size (fun gk v wr=>∃t:ByteArray,v=.string t/\Hid (jD (bys t)=R)/\t.size<=1000000/\wr=w/\gk=t.size)
 case atStart=>exact⟨s,rfl,HR,hs,rfl,rfl⟩
 case round=>
  clear HR hs;obtain⟨t,rfl,HT,hts,hw,hgk⟩:=hrel;subst hw;have HGK:=q9 hgk;clear hgk
  by_cases h0:t.size=0
  ·obtain rfl:=cQ h0
   have HE:Hid (R=[]):=q9 (by rw[<-HT.out];rfl)
   clear h0 HT HGK;go_wp2;go_ret;rw[HE.out]
   exact⟨rfl,rfl⟩
  ·have hne:=rS h0
   have hct:=((bys t).getD (t.size-1) 0).toNat_lt;have e1:((t.size-1:Nat):Int)=(t.size:Int)-1:=by omega
   have hix:∀W,(Instr.index 9 (.string t) (.int .i64 ((t.size:Int)-1))).run Tryd.prog W=.ok (.int .u8 (((bys t).getD (t.size-1) 0).toNat:Nat)) W:=fun W=>by
    rw[<-e1];exact jc (P:=Tryd.prog) 9 Tryd.underlying9 (s:=t) (i:=t.size-1) (by omega) W
   have HC:Hid (∀W,Calls Tryd.prog 36 #[.int .i32 (((bys t).getD (t.size-1) 0).toNat:Nat)] W fun e w'=>e=.returned (.bool (jm ((bys t).getD (t.size-1) 0)))/\w'=W):=q9 (fun W=>by
    rw[(cD _).1.2.2];exact oR _ W)
   have hl0:(bys t).length≠0:=by rw[qt];exact h0
   cases hb:jm ((bys t).getD (t.size-1) 0)with
   |true=>
    rw[hb]at HC
    have HT2:Hid (jD (bys ⟨((bys t).take (t.size-1)).toArray⟩)=R):=q9 (by
     rw[jr,<-HT.out];have:=oC hl0 (by rw[qt];exact hb)
     rw[qt]at this
     exact this.symm)
    have hsz:(⟨((bys t).take (t.size-1)).toArray⟩:ByteArray).size=t.size-1:=by
     show(List.toArray _).size=_
     rw[List.size_toArray,List.length_take,qt];omega
    have hsl:∀W,(Instr.sliceAt 9 (.string t) none (some (.int .i64 ((t.size:Int)-1))) none).run Tryd.prog W=.ok (.string ⟨((bys t).take (t.size-1)).toArray⟩) W:=fun W=>by
     rw[<-e1];exact oB t (t.size-1) (by omega) W
    generalize (⟨((bys t).take (t.size-1)).toArray⟩:ByteArray)=t2 at*;generalize ((bys t).getD (t.size-1) 0)=c at*;have HSZ:=q9 hsz;have vR:0<t.size:=by omega
    clear hb HT hl0 h0 e1 hsz
    go_wp2_with(first
     |((with_reducible refine(HC.out _).mono ?_);rintro e w2 ⟨rfl,rfl⟩)
     |((with_reducible show wpList _ _ _ (Oper.mk _ (.slice _ _ _ _ _) _ _ _ _::_) _ _);refine qp rfl 9 (.tmp 14) none (some (.tmp 17)) none rfl _ (hsl _) ?_))
    go_roundg t2.size
    case measure=>rw[HGK.out,HSZ.out];omega
    case rel=>exact⟨t2,rfl,HT2,by rw[HSZ.out];omega,rfl,rfl⟩
   |false=>
    rw[hb]at HC
    have HE:Hid (R=bys t):=q9 (by
     rw[<-HT.out];exact oD hl0 (by rw[qt];exact hb))
    generalize ((bys t).getD (t.size-1) 0)=c at*;clear hb HT hl0 h0 e1 HGK
    go_wp2_with((with_reducible refine(HC.out _).mono ?_);rintro e w2 ⟨rfl,rfl⟩)
    go_ret;rw[HE.out,gB]
    exact⟨rfl,rfl⟩
theorem jl(w:World)(T:TypeId):Own (w.alloc (.cells #[.nilIface] T)) w.heap.size T (.slice (some ⟨w.heap.size,0,none⟩) 1 1) [.nilIface]:=by
 simpa using jj w w.heap.size #[.nilIface] T (by simp) (qa _)
theorem qA{ops:Array Oper}{rest:List Oper}{o:Oper}{a:Act}{w:World}{Q:Exit->Act->World->Prop}(hgd:o.guard=none)(x y:Operand)(ho:o.op=.store 32 x y)
  (g B:Nat) (hx:a.eval x=.pointer (some ⟨g,0,none⟩)) (u v:Value) (hy:a.eval y=.agg #[v]) (h1:v.oneCell'=true) (hown:Own w B 32 (.slice (some ⟨g,0,none⟩) 1 1) [u])
  (h:∀w',Own w' B 32 (.slice (some ⟨g,0,none⟩) 1 1) [v]->w.grownBy w' (some g)->wpList Tryd.prog ops Q rest (a.put o.dst undef) w'):wpList Tryd.prog ops Q (o::rest) a w:=by
 refine j5 hgd 32 x y ho B 32 g 1 1 hx #[v] hy (by kernel_rfl) [u] hown (by simp) (fun z hz=>?_) fun w' hw hg=>h w' ?_ hg
 ·simp only[List.mem_singleton]at hz;rw[hz];exact h1
 ·simpa using hw
theorem mU{w:World}{g B:Nat}{v:Value}(h:Own w B 32 (.slice (some ⟨g,0,none⟩) 1 1) [v]):(loadVar 32 ⟨g,0,none⟩).run Tryd.prog w=.ok (.agg #[v]) w:=aL h _ Tryd.underlying32 rfl (by kernel_rfl)
theorem jU{ops:Array Oper}{rest:List Oper}{o:Oper}{a:Act}{w:World}{Q:Exit->Act->World->Prop}(hgd:o.guard=none)(x:Operand)(ho:o.op=.load 32 x)
  (g B:Nat) (hx:a.eval x=.pointer (some ⟨g,0,none⟩)) (v:Value) (hown:Own w B 32 (.slice (some ⟨g,0,none⟩) 1 1) [v])
  (h:wpList Tryd.prog ops Q rest (a.put o.dst (.agg #[v])) w):wpList Tryd.prog ops Q (o::rest) a w:=by
 obtain⟨A,hg,hs,hA⟩:=hown.whole;have hA2:A=#[v]:=by rw[<-Array.toArray_toList (xs:=A),hA]
 subst hA2
 exact eM hgd 32 1 x ho g hx #[v] rfl hg _ Tryd.underlying32 rfl (by kernel_rfl) h
theorem mV{c at_:Nat}{w:World}(hL:j6 w)(hc:c<=27)(hc0:c≠0):Calls Tryd.prog 23 #[.int .i64 c,.int .i64 at_] w (qP [(c,at_)] w):=by
 have HN:Hid (∀W,Below w.heap.size w W->Calls Tryd.prog 35 #[.int .i64 c,.int .i64 at_] W (qP [(c,at_)] W)):=q9 (fun W hb=>uY (hL.up hb) hc hc0)
 have HO:=q9 (jl w 32);have HB:Hid (Below w.heap.size w (w.alloc (.cells #[.nilIface] 32))):=q9 (qo _ _);clear hL
 go_enter Tryd.func23,Tryd.ntmps23
 go_wp2_with(first
  |((with_reducible refine(HN.out _ HB.out).mono ?_);rintro e w2 ⟨v,rfl,⟨u,rfl,hu⟩,hx⟩;have hb:=qn hx;have HU:=q9 hu;have HO2:=q9 (HO.out.up hb);have HB2:=q9 (HB.out.trans (hb.mono HB.out.size));clear hx hu hb)
  |(refine qA rfl _ _ rfl w.heap.size w.heap.size rfl _ u rfl HU.out.one HO2.out ?_;intro w3 ho hg;have HO3:=q9 ho;have HG3:=q9 hg;clear ho hg))
 exact bS rfl rfl rfl HO3.out HB2.out HG3.out (qa _) (c9 HO2.out) HU.out
theorem oE(s:qM):(gO s).2.1<=18:=by
 unfold gO;split
 ·exact(by decide:(3:Nat)<=18)
 ·have h1:=(aY s (s.length+1) ⟨0,0,0⟩).cod (qc _)
  generalize jN s (s.length+1) ⟨0,0,0⟩=A at*;simp only
  have h2:(if(nxR s A.2).isSome=true then qC 15 A.2.p A.2 else A.2).e<=18:=by
   split
   ·unfold qC;split
    ·exact(by decide:(15:Nat)<=18)
    ·exact h1
   ·exact h1
  generalize (if(nxR s A.2).isSome=true then qC 15 A.2.p A.2 else A.2)=z at*
  split
  ·exact h2
  ·split
   ·exact(by decide:(3:Nat)<=18)
   ·exact qc _
theorem tX{s:ByteArray}{at_:Nat}{w:World}(hL:j6 w)(hT:jn w):Calls Tryd.prog 39 #[.string s,.int .i64 at_] w (qP (bL (bys s) at_) w):=by
 have hb0:=qo w (.cells #[.nilIface] 32);have HO:=q9 (jl w 32);have HB:=q9 hb0;have HPR:=q9 (pA (s:=s) (hT.up hb0));have wJ:=oE (bys s);obtain⟨R,hR⟩:∃R,R=bL (bys s) at_:=⟨_,rfl⟩;rw[<-hR];unfold bL at hR;generalize gO (bys s)=P at*;obtain⟨l,c,b⟩:=P;simp only at hR wJ;have HWR:Hid (∀W c b,Below w.heap.size w W->c<=27->c≠0->Calls Tryd.prog 23 #[.int .i64 (c:Nat),.int .i64 (b:Nat)] W (qP [(c,b)] W)):=q9 (fun W c b hb hc h0=>mV (hL.up hb) hc h0)
 have HUN:Hid (∀W v l,Below w.heap.size w W->jd W l v->Calls Tryd.prog 49 #[.int .i64 4,.int .i64 at_,v] W (qP ((4,at_)::l) W)):=q9 (fun W v l hb h=>t6 (c:=4) (hL.up hb) (by decide) (by decide) h)
 clear hL hT hb0
 by_cases hc0:c=0
 ·subst hc0
  rw[if_neg (by simp)]at hR
  have HEM:Hid (∀W v,j4 W v l->Calls Tryd.prog 16 #[v] W fun e w'=>e=.returned (.bool (nA l))/\∃x,w'=ext W x):=q9 (fun W v h=>pC h)
  cases hem:nA l with
  |true=>
   rw[if_pos hem]at hR;rw[hem]at HEM;have HR:=q9 hR;have A0:Hid (∀W,Below w.heap.size w W->Calls Tryd.prog 23 #[.int .i64 27,.int .i64 at_] W (qP [(27,at_)] W)):=q9 (fun W hb=>HWR.out W 27 at_ hb (by decide) (by decide))
   clear hR hem wJ
   go_enter Tryd.func39,Tryd.ntmps39
   go_wp2_with(first
    |((with_reducible refine(HPR.out).mono ?_);rintro e w2 ⟨v,rfl,ho,hb⟩;have HN2:Hid (j4 w2 v l):=q9 (qu.at ho);have HB2:=q9 (HB.out.trans (hb.mono HB.out.size));have HO2:=q9 (HO.out.up hb);clear ho hb)
    |((with_reducible refine(HEM.out _ _ HN2.out).mono ?_);rintro e w3 ⟨rfl,hx⟩;have hb:=qn hx;have HB3:=q9 (HB2.out.trans (hb.mono HB2.out.size));have HO3:=q9 (HO2.out.up hb);clear hx hb)
    |((with_reducible refine(A0.out _ HB3.out).mono ?_);rintro e w4 ⟨v4,rfl,⟨u,rfl,hu⟩,hx⟩;have hb:=qn hx;have HB4:=q9 (HB3.out.trans (hb.mono HB3.out.size));have HO4:=q9 (HO3.out.up hb);have HU:=q9 hu;clear hx hb hu)
    |(refine qA rfl _ _ rfl w.heap.size w.heap.size rfl _ u rfl HU.out.one HO4.out ?_;intro w5 ho hg;have HO5:=q9 ho;have HG5:=q9 hg;clear ho hg))
   rw[HR.out]
   exact bS rfl rfl rfl HO5.out HB4.out HG5.out (qa _) (c9 HO4.out) HU.out
  |false=>
   rw[if_neg (by rw[hem];simp)]at hR
   rw[hem]at HEM;have HR:=q9 hR;have HE0:Hid (∀W,qQ W [] .nilIface):=q9 (fun W=>rfl)
   clear hR hem wJ HWR HUN
   go_enter Tryd.func39,Tryd.ntmps39
   go_wp2_with(first
    |((with_reducible refine(HPR.out).mono ?_);rintro e w2 ⟨v,rfl,ho,hb⟩;have HN2:Hid (j4 w2 v l):=q9 (qu.at ho);have HB2:=q9 (HB.out.trans (hb.mono HB.out.size));have HO2:=q9 (HO.out.up hb);clear ho hb)
    |((with_reducible refine(HEM.out _ _ HN2.out).mono ?_);rintro e w3 ⟨rfl,hx⟩;have hb:=qn hx;have HB3:=q9 (HB2.out.trans (hb.mono HB2.out.size));have HO3:=q9 (HO2.out.up hb);clear hx hb)
    |(refine qA rfl _ _ rfl w.heap.size w.heap.size rfl _ .nilIface rfl rfl HO3.out ?_;intro w5 ho hg;have HO5:=q9 ho;have HG5:=q9 hg;clear ho hg))
   rw[HR.out]
   exact bS rfl rfl rfl HO5.out HB3.out HG5.out (qa _) (c9 HO3.out) (HE0.out _)
 ·rw[if_pos hc0]at hR
  have HR:=q9 hR;have hcb:((c:Int) != 0)=true:=by simp;omega
  have HWC:=q9 (fun W (hb:Below w.heap.size w W)=>HWR.out W c b hb (by omega) hc0)
  clear hR hc0
  go_enter Tryd.func39,Tryd.ntmps39
  go_wp2_with(first
   |((with_reducible refine(HPR.out).mono ?_);rintro e w2 ⟨v,rfl,ho,hb⟩;have HB2:=q9 (HB.out.trans (hb.mono HB.out.size));have HO2:=q9 (HO.out.up hb);clear ho hb)
   |((with_reducible refine(HWC.out _ HB2.out).mono ?_);rintro e w3 ⟨v3,rfl,hv3,hx⟩;have hb:=qn hx;have HB3:=q9 (HB2.out.trans (hb.mono HB2.out.size));have HO3:=q9 (HO2.out.up hb);have HV3:=q9 hv3;clear hx hb hv3)
   |((with_reducible refine(HUN.out _ _ _ HB3.out HV3.out).mono ?_);rintro e w4 ⟨v4,rfl,⟨u,rfl,hu⟩,hx⟩;have hb:=qn hx;have HB4:=q9 (HB3.out.trans (hb.mono HB3.out.size));have HO4:=q9 (HO3.out.up hb);have HU:=q9 hu;clear hx hb hu)
   |(refine qA rfl _ _ rfl w.heap.size w.heap.size rfl _ u rfl HU.out.one HO4.out ?_;intro w5 ho hg;have HO5:=q9 ho;have HG5:=q9 hg;clear ho hg))
  rw[HR.out]
  exact bS rfl rfl rfl HO5.out HB4.out HG5.out (qa _) (c9 HO4.out) HU.out
def aP(x:Rul):List Value:=[.string ⟨x.1.toArray⟩,.string ⟨x.2.toArray⟩]
def dQ(w:World)(B:Nat)(v:Value)(ls:List Rul):Prop:=qJ 2 w B 25 v (ls.map aP)
structure RRd(w:World)(r:Nat)(s:ByteArray)(lv:Value):Prop where
 own:Own w r 49 (.slice (some ⟨r,0,none⟩) 2 2) [.string s,lv]
theorem RRd.up{w w':World}{r:Nat}{s:ByteArray}{lv:Value}(h:RRd w r s lv)(hb:Below w.heap.size w w'):RRd w' r s lv:=⟨h.own.up hb⟩
theorem RRd.c1{w:World}{r:Nat}{s:ByteArray}{lv:Value}(h:RRd w r s lv):w.cell? ⟨r,1,none⟩=some lv:=h.own.cell (i:=1) (by simp)
theorem RRd.f1{w:World}{r:Nat}{s:ByteArray}{lv:Value}(h:RRd w r s lv):w.frozen? ⟨r,1,none⟩=false:=h.own.free 1
theorem RRd.lt{w:World}{r:Nat}{s:ByteArray}{lv:Value}(h:RRd w r s lv):r<w.heap.size:=(h.own.lt r rfl).2
theorem dK(ls:List Rul)(i c:Nat)(h:i<ls.length):((ls.map aP).getD i []).getD c undef=(#[.string ⟨(ls.getD i ([],[])).1.toArray⟩,.string ⟨(ls.getD i ([],[])).2.toArray⟩]:Array Value).getD c undef:=by
 have e:(ls.map aP).getD i []=aP (ls.getD i ([],[])):=by simp[List.getD,h]
 rw[e]
 rcases c with _|_|c<;>rfl
theorem iS(a b:qM):((⟨a.toArray⟩:ByteArray).toList==(⟨b.toArray⟩:ByteArray).toList)=(a==b):=by
 rw[ByteArray.toList_eq,ByteArray.toList_eq]
theorem uZ{w:World}{r B:Nat}{s:ByteArray}{lv:Value}{ls:List Rul}(h:RRd w r s lv)(hl:dQ w B lv ls)(hn:ls.length<=1000)(nm:qM):
  Calls Tryd.prog 37 #[.pointer (some ⟨r,0,none⟩),.string ⟨nm.toArray⟩] w fun e w'=>e=.returned (.bool (ls.any fun x=>x.1==nm))/\∃x,w'=ext w x:=by
 have c1:=h.c1;obtain⟨oa,cap,b,off,hv,hd,hc⟩:=qJ.sl hl;rw[List.length_map]at hv hd hc;subst hv;have hix:=fun(W:World) (i:Nat) (hi:i<ls.length)=>je (P:=Tryd.prog) 2 22 25 Tryd.underlying22 (by kernel_rfl) hd W .i64 i (by omega) (by omega)
 simp only[Int.toNat_natCast]at hix;have HIX:=q9 hix;have HC:Hid (∀i,i<ls.length->∀c,c<2->w.cell? ⟨b,off+i*2+c,none⟩=some ((#[.string ⟨(ls.getD i ([],[])).1.toArray⟩,.string ⟨(ls.getD i ([],[])).2.toArray⟩]:Array Value).getD c undef)):=q9 (fun i hi c hcl=>by rw[hc i hi c hcl,dK ls i c hi])
 have hbl:=hd.hblk;have hm:=hd.len;obtain⟨n,hnn⟩:∃n,n=ls.length:=⟨_,rfl⟩;have HN:=q9 hnn;obtain⟨R,hR⟩:∃R,R=ls.any fun x=>x.1==nm:=⟨_,rfl⟩
 rw[<-hR];have HR:=q9 hR;rw[<-hnn]at c1 HIX HC hbl hn hm;clear h hl hd hc hix hnn hR
 go_enter Tryd.func37,Tryd.ntmps37
 go_wp2
 go_loopg [12] (n+1) (fun gk iv wr=>∃i:Nat,i<=n/\iv=.int .i64 i/\Hid ((ls.take i).any (fun x=>x.1==nm)=false)/\Below w.heap.size w wr/\gk=n+1-i)
 case atStart=>exact⟨0,qc _,rfl,q9 rfl,qi _ _,rfl⟩
 case round=>
  obtain⟨i,hi,rfl,HA,hB,hgk⟩:=hrel;have HB:=q9 hB;have HGK:=q9 hgk;clear hB hgk
  by_cases hlt:i<n
  ·have vS:=fun W=>HIX.out W i hlt
   have hbb:=hbl (by omega)
   have hbw:b<wr.heap.size:=by have:=HB.out.size;omega
   have HCW:Hid (∀c,c<2->wr.cell? ⟨b,off+i*2+c,none⟩=some ((#[.string ⟨(ls.getD i ([],[])).1.toArray⟩,.string ⟨(ls.getD i ([],[])).2.toArray⟩]:Array Value).getD c undef)):=q9 (fun c hc=>by
    rw[HB.out.cell (p:=⟨b,off+i*2+c,none⟩) hbb];exact HC.out i hlt c hc)
   have HTS:Hid ((ls.take (i+1)).any (fun x=>x.1==nm)=((ls.take i).any (fun x=>x.1==nm)||((ls.getD i ([],[])).1==nm))):=q9 (by
    rw[qE ls i ([],[]) (by rw[<-HN.out];exact hlt),List.any_append];simp)
   have yN:Hid (((ls.getD i ([],[])).1==nm)=true->R=true):=q9 (fun he=>by
    rw[HR.out,List.any_eq_true]
    exact⟨ls.getD i ([],[]),by rw[List.getD_eq_getElem?_getD,List.getElem?_eq_getElem (by rw[<-HN.out];exact hlt)];exact List.getElem_mem _,he⟩)
   have HEQ:=q9 (iS (ls.getD i ([],[])).1 nm);have HO0:Hid (Own (wr.alloc (.cells #[.string ⟨#[]⟩,.string ⟨#[]⟩] 25)) wr.heap.size 25 (.slice (some ⟨wr.heap.size,0,none⟩) 2 2) [.string ⟨#[]⟩,.string ⟨#[]⟩]):=q9 (by simpa using jj wr wr.heap.size #[.string ⟨#[]⟩,.string ⟨#[]⟩] 25 (by simp) (qa _))
   generalize ls.getD i ([],[])=x at*;obtain⟨xn,xt⟩:=x;simp only at HCW HTS yN HEQ;clear HIX HC;have HA0:=q9 (qo wr (.cells #[.string ⟨#[]⟩,.string ⟨#[]⟩] 25))
   go_wp2_with(first
    |(refine qY rfl 25 _ rfl b (off+i*2) 2 rfl #[.string ⟨xn.toArray⟩,.string ⟨xt.toArray⟩] _ HCW.out rfl Tryd.underlying25 rfl (by kernel_rfl) ?_)
    |(refine j5 rfl 25 _ _ rfl wr.heap.size 25 wr.heap.size 2 2 rfl #[.string ⟨xn.toArray⟩,.string ⟨xt.toArray⟩] rfl (by kernel_rfl) _ HO0.out (by simp) (by simp[Value.oneCell']) ?_;intro w2 ho hg;have HO2:=q9 ho;have HB2:=q9 (HB.out.trans ((qG HA0.out hg (by rintro k ⟨⟩;exact qa _)).mono HB.out.size));have c2:=HO2.out.cell (i:=0) (by simp);simp only[List.getD,List.cons_append,List.getElem?_cons_zero,Option.getD_some]at c2;clear ho hg))
   ·rename_i hq
    go_ret;rw[yN.out hq]
    exact⟨rfl,qv HB2.out⟩
   ·rename_i hq
    go_roundg (n-i)
    ·exact⟨i+1,by omega,by simp,q9 (by rw[HTS.out,HA.out,hq];rfl),HB2.out,by omega⟩
    ·have:=HGK.out;omega
  ·obtain rfl:i=n:=by omega
   have HE:Hid (R=false):=q9 (by rw[HR.out,<-HA.out,HN.out,List.take_length])
   go_wp2;go_ret;rw[HE.out]
   exact⟨rfl,qv HB.out⟩
structure LnB(w0 w:World)(r:Nat)(s0:ByteArray)(lv:Value)(ls:List Rul)(g:Nat)(u:Value):Prop where
 rd:RRd w r s0 lv
 li:dQ w (r+1) lv ls
 bx:Own w g 32 (.slice (some ⟨g,0,none⟩) 1 1) [u]
 bl:Below w0.heap.size w0 w
 ge:w0.heap.size<=r
 gr:r<g
 ap:∀q,lv.ownBlock=some q->q≠g
theorem LnB.up{w0 w w':World}{r g:Nat}{s0:ByteArray}{lv u:Value}{ls:List Rul}(h:LnB w0 w r s0 lv ls g u)(hb:Below w.heap.size w w'):LnB w0 w' r s0 lv ls g u:=
 ⟨h.rd.up hb,qJ.up h.li hb,h.bx.up hb,h.bl.trans (hb.mono h.bl.size),h.ge,h.gr,h.ap⟩
def oF(w0:World)(r:Nat)(s0:ByteArray)(ls:List Rul)(b:List (Nat×Nat))(e:Ending)(w':World):Prop:=
 ∃v lv,e=.returned v/\jd w' b v/\RRd w' r s0 lv/\dQ w' (r+1) lv ls/\Below w0.heap.size w0 w'
theorem RRd.keep{w w':World}{r:Nat}{s:ByteArray}{lv:Value}{row:Option Nat}(h:RRd w r s lv)(hg:w.grownBy w' row)(hne:row≠some r):RRd w' r s lv:=⟨h.own.keep hg (.inr (fun e=>hne e.symm))⟩
theorem LnB.ret{fn:Func}{tmps:Array Value}{ds:List Deferred}{w0 w w':World}{r g sl:Nat}{s0:ByteArray}{lv u e:Value}{ls:List Rul}{b:List (Nat×Nat)}(hf:fn.results=#[.cell sl 32])(ha:tmps.getD sl undef=.pointer (some ⟨g,0,none⟩))(hd:ds=[])
  (h:LnB w0 w r s0 lv ls g u) (ho:Own w' g 32 (.slice (some ⟨g,0,none⟩) 1 1) [e]) (hg:w.grownBy w' (some g)) (he:qQ w b e):bodyPost Tryd.prog fn (oF w0 r s0 ls b) .ret ⟨tmps,ds⟩ w':=by
 have hgr:=h.gr;have hge:=h.ge;refine qD hf ha hd (x:=.agg #[e]) (mU ho) ⟨_,lv,rfl,⟨_,rfl,eY hg (c9 h.bx) he⟩,h.rd.keep hg (by simp;omega),qJ.keep h.li hg ?_,h.bl.grown hg h.bl.size (by rintro k ⟨⟩;omega)⟩
 cases hq:lv.ownBlock with
 |none=>exact .inl rfl
 |some q=>right;intro e;exact h.ap q hq (qk e)
theorem LnB.app{w0 w w5:World}{r g:Nat}{s0:ByteArray}{lv u v5:Value}{ls:List Rul}{x:Rul}(h:LnB w0 w r s0 lv ls g u)(ho:qJ 2 w5 (r+1) 25 v5 (ls.map aP++[aP x]))(hg:w.grownBy w5 lv.ownBlock)(hk:∀q,v5.ownBlock=some q->lv.ownBlock=some q\/w.heap.size<=q):
  RRd w5 r s0 lv/\LnB w0 (w5.setCell ⟨r,1,none⟩ v5) r s0 v5 (ls++[x]) g u:=by
 have hgr:=h.gr;have hge:=h.ge;have hap:=h.ap;have hlt:=(h.bx.lt g rfl).2;have hrb:lv.ownBlock≠some r:=fun e=>by have:=(qJ.lt h.li r e).1;omega
 have h1:RRd w5 r s0 lv:=h.rd.keep hg hrb;obtain⟨h2,h3⟩:=h1.own.store 1 v5;have hb:w5.heap.size≥w0.heap.size:=qb h.bl.size hg.size;refine⟨h1,⟨h2⟩,?_,?_,?_,hge,hgr,?_⟩
 ·have:=qJ.keep ho h3 (by
   cases hq:v5.ownBlock with
   |none=>exact .inl rfl
   |some q=>right;intro e;have:=(qJ.lt ho q hq).1;have:=qk e;omega)
  unfold dQ;rw[List.map_append];exact this
 ·exact(h.bx.keep hg (.inr (fun e=>hap g e.symm rfl))).keep h3 (.inr (fun e=>by have:g=r:=qk e;omega))
 ·exact(h.bl.grown hg h.bl.size (fun k hk=>by have:=(qJ.lt h.li k hk).1;omega)).grown h3 hb (by rintro k ⟨⟩;omega)
 ·intro q hq e
  subst e
  rcases hk q hq with h4|h4
  ·exact hap q h4 rfl
  ·omega
theorem iT(t:qM)(a:Nat):(bL t a).length<=2:=by
 unfold bL;split
 ·exact qa _
 ·split
  ·exact(by decide:(1:Nat)<=2)
  ·exact qc _
theorem tY{w0 w:World}{r at_:Nat}{s0 s:ByteArray}{lv:Value}{ls:List Rul}(hL:j6 w0)(hT:jn w0)(h:RRd w r s0 lv)(hl:dQ w (r+1) lv ls)(hn:ls.length<=32)(hbl:Below w0.heap.size w0 w)(hge:w0.heap.size<=r)(hs:s.size<=8192)(hat:at_<=8192):
  Calls Tryd.prog 25 #[.pointer (some ⟨r,0,none⟩),.string s,.int .i64 at_] w (oF w0 r s0 (jy ls (bys s) at_).1 (jy ls (bys s) at_).2):=by
 obtain⟨R,hR⟩:∃R,R=jy ls (bys s) at_:=⟨_,rfl⟩;rw[<-hR];unfold jy at hR;have hrl:=h.lt
 have HX:Hid (LnB w0 (w.alloc (.cells #[.nilIface] 32)) r s0 lv ls w.heap.size .nilIface):=q9
  ⟨h.up (qo _ _),qJ.up hl (qo _ _),jl w 32,hbl.trans ((qo w _).mono hbl.size),hge,hrl,fun q hq e=>by have:=(qJ.lt hl q hq).2;omega⟩
 obtain⟨oa,cap,hv⟩:∃oa cap,lv=.slice oa ls.length cap:=by
  obtain⟨oa,cap,-,-,hv,-,-⟩:=qJ.sl hl;rw[List.length_map]at hv
  exact⟨oa,cap,hv⟩
 subst hv;have HW:Hid (∀W c b,Below w0.heap.size w0 W->c<=27->c≠0->Calls Tryd.prog 23 #[.int .i64 (c:Nat),.int .i64 (b:Nat)] W (qP [(c,b)] W)):=q9 (fun W c b hb hc h0=>mV (hL.up hb) hc h0)
 have HEX:Hid (∀W t b,Below w0.heap.size w0 W->Calls Tryd.prog 39 #[.string t,.int .i64 (b:Nat)] W (qP (bL (bys t) b) W)):=q9 (fun W t b hb=>tX (hL.up hb) (hT.up hb))
 have HDP:Hid (∀W l v,Below w0.heap.size w0 W->jd W l v->l.length<=100000->Calls Tryd.prog 12 #[v] W fun e w'=>e=.returned (.int .i64 (l.length:Nat))/\∃x,w'=ext W x):=q9 (fun W l v hb h hl=>mP (hL.up hb) h hl)
 have HE0:Hid (∀W,qQ W [] .nilIface):=q9 (fun W=>rfl)
 have HH1:=q9 (lJ s);obtain⟨S,hS⟩:∃S,S=bys s:=⟨_,rfl⟩;rw[<-hS]at hR HH1;have hSl:S.length=s.size:=by rw[hS,qt]
 have h1:=jE jm S;generalize qK jm S=fr at*;rw[hSl]at h1;have HS1:=q9 (bT s fr h1);rw[<-hS]at HS1;simp only at hR;obtain⟨D,hD⟩:∃D,D=S.drop fr:=⟨_,rfl⟩;rw[<-hD]at HS1 hR;have hDl:D.length=s.size-fr:=by rw[hD,List.length_drop,hSl]
 have HH2:=q9 (oS ⟨D.toArray⟩);rw[jr]at HH2;have h2:=jE bE D;rw[hDl]at h2;obtain⟨rs,wO⟩:∃rs:ByteArray,rs=⟨D.toArray⟩:=⟨_,rfl⟩
 have hrs:rs.size=s.size-fr:=by
  rw[wO]
  show(List.toArray _).size=_
  rw[List.size_toArray,hDl]
 have hcx:D.headD 0=(bys rs).getD 0 0:=by rw[wO,jr];cases D<;>rfl
 have hrn:(D=[])↔rs.size=0:=by rw[hrs,<-hDl,List.length_eq_zero_iff]
 simp only[hcx,hrn]at hR;rw[<-wO]at HS1 HH2;clear hcx hrn;clear hL hT h hl hbl hge
 by_cases hz:rs.size=0
 ·rw[if_pos (.inl hz)]at hR
  have yF:=cQ hz;rw[yF]at HS1 HH2;subst hR;clear hrs wO yF hD h2 hz
  go_enter Tryd.func25,Tryd.ntmps25
  go_wp2_with(first
   |((with_reducible refine(HH1.out _).mono ?_);rintro e w11 ⟨rfl,hx⟩;have HX:=q9 (HX.out.up (qn hx));clear hx)
   |((with_reducible show wpList _ _ _ (Oper.mk _ (.slice _ _ _ _ _) _ _ _ _::_) _ _);refine qp rfl 9 (.tmp 15) (some (.tmp 16)) none none rfl _ (HS1.out _) ?_)
   |(refine qA rfl _ _ rfl w.heap.size w.heap.size rfl _ .nilIface rfl rfl HX.out.bx ?_;intro w90 ho hg;have HO9:=q9 ho;have HG9:=q9 hg;clear ho hg))
  exact LnB.ret rfl rfl rfl HX.out HO9.out HG9.out (HE0.out _)
 ·have hne:=rS hz
  have zO:∀W,(Instr.index 9 (.string rs) (.int .i64 0)).run Tryd.prog W=.ok (.int .u8 (((bys rs).getD 0 0).toNat:Nat)) W:=fun W=>jc (P:=Tryd.prog) 9 Tryd.underlying9 (s:=rs) (i:=0) (by omega) W
  have hct:=((bys rs).getD 0 0).toNat_lt
  by_cases hc:(bys rs).getD 0 0=35
  ·rw[if_pos (.inr hc)]at hR
   rw[hc]at zO;subst hR;clear hrs wO hD h2 hz hc hct
   go_enter Tryd.func25,Tryd.ntmps25
   go_wp2_with(first
    |((with_reducible refine(HH1.out _).mono ?_);rintro e w11 ⟨rfl,hx⟩;have HX:=q9 (HX.out.up (qn hx));clear hx)
    |((with_reducible show wpList _ _ _ (Oper.mk _ (.slice _ _ _ _ _) _ _ _ _::_) _ _);refine qp rfl 9 (.tmp 15) (some (.tmp 16)) none none rfl _ (HS1.out _) ?_)
    |(refine qA rfl _ _ rfl w.heap.size w.heap.size rfl _ .nilIface rfl rfl HX.out.bx ?_;intro w90 ho hg;have HO9:=q9 ho;have HG9:=q9 hg;clear ho hg))
   exact LnB.ret rfl rfl rfl HX.out HO9.out HG9.out (HE0.out _)
  ·rw[if_neg (by rintro(h|h);exact hz h;exact hc h)]at hR
   have D0:((((bys rs).getD 0 0).toNat:Int)==35)=false:=by
    cases h:((((bys rs).getD 0 0).toNat:Int)==35)with
    |false=>rfl
    |true=>exact absurd (UInt8.toNat.inj (by have:=eq_of_beq h;show _=35;omega)) hc
   generalize (bys rs).getD 0 0=c at*;have HS2:=q9 (iR s fr (fr+qK bE D) (by omega) (by omega))
   rw[<-hS,<-hD,show fr+qK bE D-fr=qK bE D by omega]at HS2
   obtain⟨nmL,xK⟩:∃nmL,nmL=D.take (qK bE D):=⟨_,rfl⟩;have hnl:nmL.length=qK bE D:=by rw[xK,List.length_take,hDl];omega
   rw[<-xK]at HS2 hR;rw[hnl]at hR;have HN:=q9 (mS ⟨nmL.toArray⟩ (by show(List.toArray _).size<=_;rw[List.size_toArray,hnl];omega))
   rw[jr]at HN;generalize qK bE D=n1 at*;obtain⟨nm,hnm⟩:∃nm:ByteArray,nm=⟨nmL.toArray⟩:=⟨_,rfl⟩;have HNM:=q9 hnm;have hnz:nm.size=n1:=by rw[hnm];show(List.toArray _).size=_;rw[List.size_toArray,hnl]
   have vZ:Hid (∀W,RRd W r s0 (.slice oa ls.length cap)->dQ W (r+1) (.slice oa ls.length cap) ls->Calls Tryd.prog 37 #[.pointer (some ⟨r,0,none⟩),.string nm] W fun e w'=>e=.returned (.bool (ls.any fun x=>x.1==nmL))/\∃x,w'=ext W x):=q9 (fun W h1 h2=>by rw[HNM.out];exact uZ h1 h2 (by omega) nmL)
   rw[<-hnm]at HS2 HN;subst hnz;have HWa:Hid (∀W,Below w0.heap.size w0 W->Calls Tryd.prog 23 #[.int .i64 20,.int .i64 ((at_:Int)+(fr:Int))] W (qP [(20,at_+fr)] W)):=q9 (fun W hb=>HW.out W 20 (at_+fr) hb (by decide) (by decide))
   have HWb:Hid (∀W,Below w0.heap.size w0 W->Calls Tryd.prog 23 #[.int .i64 19,.int .i64 ((at_:Int)+(fr:Int))] W (qP [(19,at_+fr)] W)):=q9 (fun W hb=>HW.out W 19 (at_+fr) hb (by decide) (by decide))
   have HWc:Hid (∀W,Below w0.heap.size w0 W->Calls Tryd.prog 23 #[.int .i64 3,.int .i64 ((at_:Int)+(fr:Int))] W (qP [(3,at_+fr)] W)):=q9 (fun W hb=>HW.out W 3 (at_+fr) hb (by decide) (by decide))
   clear hc wO hz hrs xK hnm hnl hD hDl
   cases hnr:a6 nmL with
   |false=>
    rw[if_pos hnr]at hR;rw[hnr]at HN;subst hR;have HW1:=HWa;clear hnr HWb HWc HEX HDP vZ
    go_enter Tryd.func25,Tryd.ntmps25
    go_wp2_with(first
     |((with_reducible refine(HH1.out _).mono ?_);rintro e w11 ⟨rfl,hx⟩;have HX:=q9 (HX.out.up (qn hx));clear hx)
     |((with_reducible show wpList _ _ _ (Oper.mk _ (.slice _ _ _ _ _) _ _ _ _::_) _ _);refine qp rfl 9 (.tmp 15) (some (.tmp 16)) none none rfl _ (HS1.out _) ?_)
     |((with_reducible show wpList _ _ _ (Oper.mk _ (.slice _ _ _ _ _) _ _ _ _::_) _ _);refine qp rfl 9 (.tmp 29) (some (.tmp 30)) none none rfl _ (HS1.out _) ?_)
     |((with_reducible refine(HH2.out _).mono ?_);rintro e w12 ⟨rfl,hx⟩;have HX:=q9 (HX.out.up (qn hx));clear hx)
     |((with_reducible show wpList _ _ _ (Oper.mk _ (.slice _ _ _ _ _) _ _ _ _::_) _ _);refine qp rfl 9 (.tmp 26) (some (.tmp 27)) (some (.tmp 33)) none rfl _ (HS2.out _) ?_)
     |((with_reducible refine(HN.out _).mono ?_);rintro e w13 ⟨rfl,hx⟩;have HX:=q9 (HX.out.up (qn hx));clear hx)
     |((with_reducible refine(HW1.out _ HX.out.bl).mono ?_);rintro e w80 ⟨v8,rfl,⟨u8,rfl,hu⟩,hx⟩;have HX:=q9 (HX.out.up (qn hx));have HU:=q9 hu;clear hx hu)
     |(refine qA rfl _ _ rfl w.heap.size w.heap.size rfl _ u8 rfl HU.out.one HX.out.bx ?_;intro w90 ho hg;have HO9:=q9 ho;have HG9:=q9 hg;clear ho hg))
    exact LnB.ret rfl rfl rfl HX.out HO9.out HG9.out HU.out
   |true=>
    rw[if_neg (by rw[hnr];simp)]at hR
    rw[hnr]at HN;have HS3:=q9 (bT s (fr+nm.size) (by omega))
    rw[<-hS]at HS3;have HH3:=q9 (lJ ⟨(S.drop (fr+nm.size)).toArray⟩);rw[jr]at HH3;have h3:=jE jm (S.drop (fr+nm.size));rw[List.length_drop,hSl]at h3;generalize qK jm (S.drop (fr+nm.size))=n2 at*;generalize (⟨(S.drop (fr+nm.size)).toArray⟩:ByteArray)=x3 at*;rw[show((fr+nm.size:Nat):Int)=(fr:Int)+(nm.size:Int)from rfl]at HS3
    obtain⟨t2,ht2⟩:∃t2,t2=fr+nm.size+n2:=⟨_,rfl⟩;have e2:(t2:Int)=(fr:Int)+(nm.size:Int)+(n2:Int):=by omega
    rw[<-ht2]at hR;have HW2:Hid (∀W,Below w0.heap.size w0 W->Calls Tryd.prog 23 #[.int .i64 4,.int .i64 ((at_:Int)+((fr:Int)+(nm.size:Int)+(n2:Int)))] W (qP [(4,at_+t2)] W)):=q9 (fun W hb=>by rw[<-e2];exact HW.out W 4 (at_+t2) hb (by decide) (by decide))
    clear hnr HWa
    by_cases hts:t2=s.size
    ·rw[if_pos (.inl (by rw[hSl];exact hts))]at hR
     have zB:(((fr:Int)+(nm.size:Int)+(n2:Int))==(s.size:Int))=true:=by rw[<-e2,hts];exact beq_self_eq_true _
     subst hR;clear hts HWb HWc HEX HDP vZ
     go_enter Tryd.func25,Tryd.ntmps25
     go_wp2_with(first
      |((with_reducible refine(HH1.out _).mono ?_);rintro e w11 ⟨rfl,hx⟩;have HX:=q9 (HX.out.up (qn hx));clear hx)
      |((with_reducible show wpList _ _ _ (Oper.mk _ (.slice _ _ _ _ _) _ _ _ _::_) _ _);refine qp rfl 9 (.tmp 15) (some (.tmp 16)) none none rfl _ (HS1.out _) ?_)
      |((with_reducible show wpList _ _ _ (Oper.mk _ (.slice _ _ _ _ _) _ _ _ _::_) _ _);refine qp rfl 9 (.tmp 29) (some (.tmp 30)) none none rfl _ (HS1.out _) ?_)
      |((with_reducible refine(HH2.out _).mono ?_);rintro e w12 ⟨rfl,hx⟩;have HX:=q9 (HX.out.up (qn hx));clear hx)
      |((with_reducible show wpList _ _ _ (Oper.mk _ (.slice _ _ _ _ _) _ _ _ _::_) _ _);refine qp rfl 9 (.tmp 26) (some (.tmp 27)) (some (.tmp 33)) none rfl _ (HS2.out _) ?_)
      |((with_reducible refine(HN.out _).mono ?_);rintro e w13 ⟨rfl,hx⟩;have HX:=q9 (HX.out.up (qn hx));clear hx)
      |((with_reducible show wpList _ _ _ (Oper.mk _ (.slice _ _ _ _ _) _ _ _ _::_) _ _);refine qp rfl 9 (.tmp 47) (some (.tmp 48)) none none rfl _ (HS3.out _) ?_)
      |((with_reducible refine(HH3.out _).mono ?_);rintro e w14 ⟨rfl,hx⟩;have HX:=q9 (HX.out.up (qn hx));clear hx)
      |((with_reducible refine(HW2.out _ HX.out.bl).mono ?_);rintro e w80 ⟨v8,rfl,⟨u8,rfl,hu⟩,hx⟩;have HX:=q9 (HX.out.up (qn hx));have HU:=q9 hu;clear hx hu)
      |(refine qA rfl _ _ rfl w.heap.size w.heap.size rfl _ u8 rfl HU.out.one HX.out.bx ?_;intro w90 ho hg;have HO9:=q9 ho;have HG9:=q9 hg;clear ho hg))
     exact LnB.ret rfl rfl rfl HX.out HO9.out HG9.out HU.out
    ·have zB:(((fr:Int)+(nm.size:Int)+(n2:Int))==(s.size:Int))=false:=by
      rw[<-e2];simp;omega
     have wX:∀W,(Instr.index 9 (.string s) (.int .i64 ((fr:Int)+(nm.size:Int)+(n2:Int)))).run Tryd.prog W=.ok (.int .u8 ((S.getD t2 0).toNat:Nat)) W:=fun W=>by
      rw[<-e2,hS];exact jc (P:=Tryd.prog) 9 Tryd.underlying9 (s:=s) (i:=t2) (by omega) W
     have hdt:=(S.getD t2 0).toNat_lt
     by_cases hd:S.getD t2 0=61
     ·rw[if_neg (by rw[hSl];rintro(h|h);exact hts h;exact h hd)]at hR
      rw[hd]at wX;have hlt:t2<s.size:=by omega
      clear hts hd hdt HW2;have HW3:=HWb;have HW4:=HWc;clear HWb HWc;obtain⟨K,hK⟩:∃K,K=ls.any fun x=>x.1==nmL:=⟨_,rfl⟩
      rw[<-hK]at vZ hR
      cases hKb:K with
      |true=>
       rw[if_pos hKb]at hR;rw[hKb]at vZ;subst hR;clear hK hKb HEX HDP HW4
       go_enter Tryd.func25,Tryd.ntmps25
       go_wp2_with(first
        |((with_reducible refine(HH1.out _).mono ?_);rintro e w11 ⟨rfl,hx⟩;have HX:=q9 (HX.out.up (qn hx));clear hx)
        |((with_reducible show wpList _ _ _ (Oper.mk _ (.slice _ _ _ _ _) _ _ _ _::_) _ _);refine qp rfl 9 (.tmp 15) (some (.tmp 16)) none none rfl _ (HS1.out _) ?_)
        |((with_reducible show wpList _ _ _ (Oper.mk _ (.slice _ _ _ _ _) _ _ _ _::_) _ _);refine qp rfl 9 (.tmp 29) (some (.tmp 30)) none none rfl _ (HS1.out _) ?_)
        |((with_reducible refine(HH2.out _).mono ?_);rintro e w12 ⟨rfl,hx⟩;have HX:=q9 (HX.out.up (qn hx));clear hx)
        |((with_reducible show wpList _ _ _ (Oper.mk _ (.slice _ _ _ _ _) _ _ _ _::_) _ _);refine qp rfl 9 (.tmp 26) (some (.tmp 27)) (some (.tmp 33)) none rfl _ (HS2.out _) ?_)
        |((with_reducible refine(HN.out _).mono ?_);rintro e w13 ⟨rfl,hx⟩;have HX:=q9 (HX.out.up (qn hx));clear hx)
        |((with_reducible show wpList _ _ _ (Oper.mk _ (.slice _ _ _ _ _) _ _ _ _::_) _ _);refine qp rfl 9 (.tmp 47) (some (.tmp 48)) none none rfl _ (HS3.out _) ?_)
        |((with_reducible refine(HH3.out _).mono ?_);rintro e w14 ⟨rfl,hx⟩;have HX:=q9 (HX.out.up (qn hx));clear hx)
        |((with_reducible refine(vZ.out _ HX.out.rd HX.out.li).mono ?_);rintro e w15 ⟨rfl,hx⟩;have HX:=q9 (HX.out.up (qn hx));have c1:=HX.out.rd.c1;clear hx)
        |((with_reducible refine(HW3.out _ HX.out.bl).mono ?_);rintro e w80 ⟨v8,rfl,⟨u8,rfl,hu⟩,hx⟩;have HX:=q9 (HX.out.up (qn hx));have HU:=q9 hu;clear hx hu)
        |(refine qA rfl _ _ rfl w.heap.size w.heap.size rfl _ u8 rfl HU.out.one HX.out.bx ?_;intro w90 ho hg;have HO9:=q9 ho;have HG9:=q9 hg;clear ho hg))
       exact LnB.ret rfl rfl rfl HX.out HO9.out HG9.out HU.out
      |false=>
       rw[if_neg (by rw[hKb];simp)]at hR
       rw[hKb]at vZ;clear hK hKb HW3
       by_cases h32:ls.length=32
       ·rw[if_pos h32]at hR
        have zY:((ls.length:Int)==32)=true:=by rw[h32];rfl
        subst hR;clear h32 HEX HDP
        go_enter Tryd.func25,Tryd.ntmps25
        go_wp2_with(first
         |((with_reducible refine(HH1.out _).mono ?_);rintro e w11 ⟨rfl,hx⟩;have HX:=q9 (HX.out.up (qn hx));clear hx)
         |((with_reducible show wpList _ _ _ (Oper.mk _ (.slice _ _ _ _ _) _ _ _ _::_) _ _);refine qp rfl 9 (.tmp 15) (some (.tmp 16)) none none rfl _ (HS1.out _) ?_)
         |((with_reducible show wpList _ _ _ (Oper.mk _ (.slice _ _ _ _ _) _ _ _ _::_) _ _);refine qp rfl 9 (.tmp 29) (some (.tmp 30)) none none rfl _ (HS1.out _) ?_)
         |((with_reducible refine(HH2.out _).mono ?_);rintro e w12 ⟨rfl,hx⟩;have HX:=q9 (HX.out.up (qn hx));clear hx)
         |((with_reducible show wpList _ _ _ (Oper.mk _ (.slice _ _ _ _ _) _ _ _ _::_) _ _);refine qp rfl 9 (.tmp 26) (some (.tmp 27)) (some (.tmp 33)) none rfl _ (HS2.out _) ?_)
         |((with_reducible refine(HN.out _).mono ?_);rintro e w13 ⟨rfl,hx⟩;have HX:=q9 (HX.out.up (qn hx));clear hx)
         |((with_reducible show wpList _ _ _ (Oper.mk _ (.slice _ _ _ _ _) _ _ _ _::_) _ _);refine qp rfl 9 (.tmp 47) (some (.tmp 48)) none none rfl _ (HS3.out _) ?_)
         |((with_reducible refine(HH3.out _).mono ?_);rintro e w14 ⟨rfl,hx⟩;have HX:=q9 (HX.out.up (qn hx));clear hx)
         |((with_reducible refine(vZ.out _ HX.out.rd HX.out.li).mono ?_);rintro e w15 ⟨rfl,hx⟩;have HX:=q9 (HX.out.up (qn hx));have c1:=HX.out.rd.c1;clear hx)
         |((with_reducible refine(HW4.out _ HX.out.bl).mono ?_);rintro e w80 ⟨v8,rfl,⟨u8,rfl,hu⟩,hx⟩;have HX:=q9 (HX.out.up (qn hx));have HU:=q9 hu;clear hx hu)
         |(refine qA rfl _ _ rfl w.heap.size w.heap.size rfl _ u8 rfl HU.out.one HX.out.bx ?_;intro w90 ho hg;have HO9:=q9 ho;have HG9:=q9 hg;clear ho hg))
        exact LnB.ret rfl rfl rfl HX.out HO9.out HG9.out HU.out
       ·rw[if_neg h32]at hR
        have zY:((ls.length:Int)==32)=false:=by simp;omega
        have HLE:Hid ((ls.map aP).length+1<=1000000000):=q9 (by rw[List.length_map];omega)
        have HS4:=q9 (bT s (t2+1) (by omega))
        rw[<-hS]at HS4;have HH4:=q9 (lJ ⟨(S.drop (t2+1)).toArray⟩);rw[jr]at HH4;have h4:=jE jm (S.drop (t2+1));rw[List.length_drop,hSl]at h4;generalize qK jm (S.drop (t2+1))=n3 at*;generalize (⟨(S.drop (t2+1)).toArray⟩:ByteArray)=x4 at*;obtain⟨t4,ht4⟩:∃t4,t4=t2+1+n3:=⟨_,rfl⟩;have e3:((t2+1:Nat):Int)=(fr:Int)+(nm.size:Int)+(n2:Int)+1:=by omega
        have e4:(t4:Int)=(fr:Int)+(nm.size:Int)+(n2:Int)+1+(n3:Int):=by omega
        rw[<-ht4]at hR;rw[e3]at HS4;have HS5:=q9 (bT s t4 (by omega))
        rw[<-hS,e4]at HS5;obtain⟨txL,xG⟩:∃txL,txL=jD (S.drop t4):=⟨_,rfl⟩;rw[<-xG]at hR
        have hdl:(⟨(S.drop t4).toArray⟩:ByteArray).size<=1000000:=by
         show(List.toArray _).size<=_
         rw[List.size_toArray,List.length_drop,hSl];omega
        have HT:=q9 (tW ⟨(S.drop t4).toArray⟩ hdl);rw[jr,<-xG]at HT;generalize (⟨(S.drop t4).toArray⟩:ByteArray)=x5 at*;obtain⟨tx,htx⟩:∃tx:ByteArray,tx=⟨txL.toArray⟩:=⟨_,rfl⟩;have hbt:bys tx=txL:=by rw[htx,jr]
        have HTX:=q9 htx;obtain⟨b,hb⟩:∃b,b=bL txL (at_+t4):=⟨_,rfl⟩;have wK:b.length<=100000:=by rw[hb];exact qb (iT _ _) (by decide)
        rw[<-hb]at hR
        have HE:Hid (∀W,Below w0.heap.size w0 W->Calls Tryd.prog 39 #[.string tx,.int .i64 ((at_:Int)+((fr:Int)+(nm.size:Int)+(n2:Int)+1+(n3:Int)))] W (qP b W)):=q9 (fun W hbw=>by
         have:=HEX.out W tx (at_+t4) hbw;rw[hbt,<-hb]at this;rw[<-e4];exact this)
        rw[<-htx]at HT;have HRC:Hid ([Value.string nm,Value.string tx]=aP (nmL,txL)):=q9 (by rw[HNM.out,HTX.out];rfl)
        clear hb hbt htx xG HEX hdl e3 e4 e2 ht2 ht4 h32 HTX HNM
        by_cases hb0:b=[]
        ·rw[if_neg (by simp[hb0])]at hR
         subst hR;subst hb0;have HD:Hid (∀W v,Below w0.heap.size w0 W->qQ W [] v->Calls Tryd.prog 12 #[.agg #[v]] W fun e w'=>e=.returned (.int .i64 0)/\∃x,w'=ext W x):=q9 (fun W v hb h=>HDP.out W [] _ hb ⟨v,rfl,h⟩ (by decide))
         clear HDP wK
         go_enter Tryd.func25,Tryd.ntmps25
         go_wp2_with(first
          |((with_reducible refine(HH1.out _).mono ?_);rintro e w11 ⟨rfl,hx⟩;have HX:=q9 (HX.out.up (qn hx));clear hx)
          |((with_reducible show wpList _ _ _ (Oper.mk _ (.slice _ _ _ _ _) _ _ _ _::_) _ _);refine qp rfl 9 (.tmp 15) (some (.tmp 16)) none none rfl _ (HS1.out _) ?_)
          |((with_reducible show wpList _ _ _ (Oper.mk _ (.slice _ _ _ _ _) _ _ _ _::_) _ _);refine qp rfl 9 (.tmp 29) (some (.tmp 30)) none none rfl _ (HS1.out _) ?_)
          |((with_reducible refine(HH2.out _).mono ?_);rintro e w12 ⟨rfl,hx⟩;have HX:=q9 (HX.out.up (qn hx));clear hx)
          |((with_reducible show wpList _ _ _ (Oper.mk _ (.slice _ _ _ _ _) _ _ _ _::_) _ _);refine qp rfl 9 (.tmp 26) (some (.tmp 27)) (some (.tmp 33)) none rfl _ (HS2.out _) ?_)
          |((with_reducible refine(HN.out _).mono ?_);rintro e w13 ⟨rfl,hx⟩;have HX:=q9 (HX.out.up (qn hx));clear hx)
          |((with_reducible show wpList _ _ _ (Oper.mk _ (.slice _ _ _ _ _) _ _ _ _::_) _ _);refine qp rfl 9 (.tmp 47) (some (.tmp 48)) none none rfl _ (HS3.out _) ?_)
          |((with_reducible refine(HH3.out _).mono ?_);rintro e w14 ⟨rfl,hx⟩;have HX:=q9 (HX.out.up (qn hx));clear hx)
          |((with_reducible refine(vZ.out _ HX.out.rd HX.out.li).mono ?_);rintro e w15 ⟨rfl,hx⟩;have HX:=q9 (HX.out.up (qn hx));have c1:=HX.out.rd.c1;clear hx)
          |((with_reducible show wpList _ _ _ (Oper.mk _ (.slice _ _ _ _ _) _ _ _ _::_) _ _);refine qp rfl 9 (.tmp 89) (some (.tmp 90)) none none rfl _ (HS4.out _) ?_)
          |((with_reducible refine(HH4.out _).mono ?_);rintro e w16 ⟨rfl,hx⟩;have HX:=q9 (HX.out.up (qn hx));clear hx)
          |((with_reducible show wpList _ _ _ (Oper.mk _ (.slice _ _ _ _ _) _ _ _ _::_) _ _);refine qp rfl 9 (.tmp 94) (some (.tmp 95)) none none rfl _ (HS5.out _) ?_)
          |((with_reducible refine(HT.out _).mono ?_);rintro e w17 ⟨rfl,rfl⟩)
          |((with_reducible refine(HE.out _ HX.out.bl).mono ?_);rintro e w18 ⟨v4,rfl,⟨u4,rfl,hu⟩,hx⟩;have HX:=q9 (HX.out.up (qn hx));have HX4:=HX;have HU4:=q9 hu;have HBX:=q9 (jl w18 32);have HAL:=q9 (qo w18 (.cells #[.nilIface] 32));clear hx hu)
          |(refine qA rfl _ _ rfl w18.heap.size w18.heap.size rfl _ u4 rfl HU4.out.one HBX.out ?_;intro w19 ho hg;have HBX:=q9 ho;have hbl:=qG HAL.out hg (by rintro k ⟨⟩;exact qa _);have HX:=q9 (HX4.out.up hbl);have HU:=q9 (qQ.up hbl HU4.out);clear ho hg hbl)
          |(refine jU rfl _ rfl w18.heap.size w18.heap.size rfl _ HBX.out ?_)
          |((with_reducible refine(HD.out _ _ HX.out.bl HU.out).mono ?_);rintro e w20 ⟨rfl,hx⟩;have hbl:=qn hx;have HX:=q9 (HX.out.up hbl);have HBX:=q9 (HBX.out.up hbl);have HU:=q9 (qQ.up hbl HU.out);have c1:=HX.out.rd.c1;have f1:=HX.out.rd.f1;have hrl:=HX.out.rd.lt;clear hx hbl)
          |(at_builtin;refine d5 2 rfl (.tmp 111) (.tmp 115) 22 rfl (r+1) 25 (.agg #[.string ⟨#[]⟩,.string ⟨#[]⟩]) 32 Tryd.underlying22 (by kernel_rfl) rfl (by decide) (by decide) (.slice oa ls.length cap) (ls.map aP) rfl (HX.out.up (qo _ _)).li (.slice (some ⟨w20.heap.size,0,none⟩) 1 1) [aP (nmL,txL)] rfl (lB 2 w20 #[.string nm,.string tx] 25 [aP (nmL,txL)] (by simp[HRC.out]) (by simp[aP]) (by simp)) (by simp[aP]) (by simp[aP,Value.oneCell']) HLE.out (by have:=HX.out.rd.lt;simp;omega) ?_;intro v5 w5 wH hg5 hk5;obtain⟨oa5,cap5,-,-,hv5,-,-⟩:=qJ.sl wH;rw[qg,List.length_map,List.length_singleton]at hv5;subst hv5;have HX5:=q9 ((HX.out.up (qo _ _)).app wH hg5 hk5);have hb5:=HX5.out.1.c1;have f5:=HX5.out.1.f1;have HX6:=q9 (HX5.out.2);clear wH hg5 hk5)
          |(refine qA rfl _ _ rfl w.heap.size w.heap.size rfl _ .nilIface rfl rfl HX6.out.bx ?_;intro w90 ho hg;have HO9:=q9 ho;have HG9:=q9 hg;clear ho hg))
         exact LnB.ret rfl rfl rfl HX6.out HO9.out HG9.out (HE0.out _)
        ·rw[if_pos hb0]at hR
         have vR:0<b.length:=List.length_pos_iff.2 hb0;have HD:Hid (∀W v,Below w0.heap.size w0 W->qQ W b v->Calls Tryd.prog 12 #[.agg #[v]] W fun e w'=>e=.returned (.int .i64 (b.length:Nat))/\∃x,w'=ext W x):=q9 (fun W v hb h=>HDP.out W b _ hb ⟨v,rfl,h⟩ wK)
         generalize b.length=m at*;subst hR;clear hb0 HDP HRC HLE
         go_enter Tryd.func25,Tryd.ntmps25
         go_wp2_with(first
          |((with_reducible refine(HH1.out _).mono ?_);rintro e w11 ⟨rfl,hx⟩;have HX:=q9 (HX.out.up (qn hx));clear hx)
          |((with_reducible show wpList _ _ _ (Oper.mk _ (.slice _ _ _ _ _) _ _ _ _::_) _ _);refine qp rfl 9 (.tmp 15) (some (.tmp 16)) none none rfl _ (HS1.out _) ?_)
          |((with_reducible show wpList _ _ _ (Oper.mk _ (.slice _ _ _ _ _) _ _ _ _::_) _ _);refine qp rfl 9 (.tmp 29) (some (.tmp 30)) none none rfl _ (HS1.out _) ?_)
          |((with_reducible refine(HH2.out _).mono ?_);rintro e w12 ⟨rfl,hx⟩;have HX:=q9 (HX.out.up (qn hx));clear hx)
          |((with_reducible show wpList _ _ _ (Oper.mk _ (.slice _ _ _ _ _) _ _ _ _::_) _ _);refine qp rfl 9 (.tmp 26) (some (.tmp 27)) (some (.tmp 33)) none rfl _ (HS2.out _) ?_)
          |((with_reducible refine(HN.out _).mono ?_);rintro e w13 ⟨rfl,hx⟩;have HX:=q9 (HX.out.up (qn hx));clear hx)
          |((with_reducible show wpList _ _ _ (Oper.mk _ (.slice _ _ _ _ _) _ _ _ _::_) _ _);refine qp rfl 9 (.tmp 47) (some (.tmp 48)) none none rfl _ (HS3.out _) ?_)
          |((with_reducible refine(HH3.out _).mono ?_);rintro e w14 ⟨rfl,hx⟩;have HX:=q9 (HX.out.up (qn hx));clear hx)
          |((with_reducible refine(vZ.out _ HX.out.rd HX.out.li).mono ?_);rintro e w15 ⟨rfl,hx⟩;have HX:=q9 (HX.out.up (qn hx));have c1:=HX.out.rd.c1;clear hx)
          |((with_reducible show wpList _ _ _ (Oper.mk _ (.slice _ _ _ _ _) _ _ _ _::_) _ _);refine qp rfl 9 (.tmp 89) (some (.tmp 90)) none none rfl _ (HS4.out _) ?_)
          |((with_reducible refine(HH4.out _).mono ?_);rintro e w16 ⟨rfl,hx⟩;have HX:=q9 (HX.out.up (qn hx));clear hx)
          |((with_reducible show wpList _ _ _ (Oper.mk _ (.slice _ _ _ _ _) _ _ _ _::_) _ _);refine qp rfl 9 (.tmp 94) (some (.tmp 95)) none none rfl _ (HS5.out _) ?_)
          |((with_reducible refine(HT.out _).mono ?_);rintro e w17 ⟨rfl,rfl⟩)
          |((with_reducible refine(HE.out _ HX.out.bl).mono ?_);rintro e w18 ⟨v4,rfl,⟨u4,rfl,hu⟩,hx⟩;have HX:=q9 (HX.out.up (qn hx));have HX4:=HX;have HU4:=q9 hu;have HBX:=q9 (jl w18 32);have HAL:=q9 (qo w18 (.cells #[.nilIface] 32));clear hx hu)
          |(refine qA rfl _ _ rfl w18.heap.size w18.heap.size rfl _ u4 rfl HU4.out.one HBX.out ?_;intro w19 ho hg;have HBX:=q9 ho;have hbl:=qG HAL.out hg (by rintro k ⟨⟩;exact qa _);have HX:=q9 (HX4.out.up hbl);have HU:=q9 (qQ.up hbl HU4.out);clear ho hg hbl)
          |(refine jU rfl _ rfl w18.heap.size w18.heap.size rfl _ HBX.out ?_)
          |((with_reducible refine(HD.out _ _ HX.out.bl HU.out).mono ?_);rintro e w20 ⟨rfl,hx⟩;have hbl:=qn hx;have HX:=q9 (HX.out.up hbl);have HBX:=q9 (HBX.out.up hbl);have HU:=q9 (qQ.up hbl HU.out);have c1:=HX.out.rd.c1;have f1:=HX.out.rd.f1;have hrl:=HX.out.rd.lt;clear hx hbl)
          |(refine qA rfl _ _ rfl w.heap.size w.heap.size rfl _ u4 rfl HU.out.one HX.out.bx ?_;intro w90 ho hg;have HO9:=q9 ho;have HG9:=q9 hg;clear ho hg))
         exact LnB.ret rfl rfl rfl HX.out HO9.out HG9.out HU.out
     ·rw[if_pos (.inr hd)]at hR
      have C6:(((S.getD t2 0).toNat:Int) != 61)=true:=by
       simp only[bne_iff_ne,ne_eq]
       exact fun h=>hd (UInt8.toNat.inj (by show _=61;omega))
      generalize S.getD t2 0=d at*;subst hR;clear hts hd HWb HWc HEX HDP vZ
      go_enter Tryd.func25,Tryd.ntmps25
      go_wp2_with(first
       |((with_reducible refine(HH1.out _).mono ?_);rintro e w11 ⟨rfl,hx⟩;have HX:=q9 (HX.out.up (qn hx));clear hx)
       |((with_reducible show wpList _ _ _ (Oper.mk _ (.slice _ _ _ _ _) _ _ _ _::_) _ _);refine qp rfl 9 (.tmp 15) (some (.tmp 16)) none none rfl _ (HS1.out _) ?_)
       |((with_reducible show wpList _ _ _ (Oper.mk _ (.slice _ _ _ _ _) _ _ _ _::_) _ _);refine qp rfl 9 (.tmp 29) (some (.tmp 30)) none none rfl _ (HS1.out _) ?_)
       |((with_reducible refine(HH2.out _).mono ?_);rintro e w12 ⟨rfl,hx⟩;have HX:=q9 (HX.out.up (qn hx));clear hx)
       |((with_reducible show wpList _ _ _ (Oper.mk _ (.slice _ _ _ _ _) _ _ _ _::_) _ _);refine qp rfl 9 (.tmp 26) (some (.tmp 27)) (some (.tmp 33)) none rfl _ (HS2.out _) ?_)
       |((with_reducible refine(HN.out _).mono ?_);rintro e w13 ⟨rfl,hx⟩;have HX:=q9 (HX.out.up (qn hx));clear hx)
       |((with_reducible show wpList _ _ _ (Oper.mk _ (.slice _ _ _ _ _) _ _ _ _::_) _ _);refine qp rfl 9 (.tmp 47) (some (.tmp 48)) none none rfl _ (HS3.out _) ?_)
       |((with_reducible refine(HH3.out _).mono ?_);rintro e w14 ⟨rfl,hx⟩;have HX:=q9 (HX.out.up (qn hx));clear hx)
       |((with_reducible refine(HW2.out _ HX.out.bl).mono ?_);rintro e w80 ⟨v8,rfl,⟨u8,rfl,hu⟩,hx⟩;have HX:=q9 (HX.out.up (qn hx));have HU:=q9 hu;clear hx hu)
       |(refine qA rfl _ _ rfl w.heap.size w.heap.size rfl _ u8 rfl HU.out.one HX.out.bx ?_;intro w90 ho hg;have HO9:=q9 ho;have HG9:=q9 hg;clear ho hg))
      exact LnB.ret rfl rfl rfl HX.out HO9.out HG9.out HU.out
end Go.Cm
