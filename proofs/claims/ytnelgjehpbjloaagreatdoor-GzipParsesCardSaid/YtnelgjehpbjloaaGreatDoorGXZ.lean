/- Walks of functions and plain facts, joined and squeezed by a program. Conditions: as each says. -/
import Derived.Test.YtnelgjehpbjloaaGreatDoorGXY
set_option maxHeartbeats 8000000
set_option maxRecDepth 100000
set_option linter.unusedSimpArgs false
namespace Go.Cm
open Go.RowKit Go.Proofs
theorem q14{s:ByteArray}{a W:Nat}(hW:W=1\/W=2\/W=4)(h:s.size<a+W)(hs:s.size<=4611686018427387904)(ha:a<=4611686018427387904)(w:World):Calls Tryz.prog 44 #[.string s,.int .i64 a,.int .i64 W] w fun e w'=>e=.returned (.tuple #[.int .i64 0,.int .i64 2])/\∃x,w'=ext w x:=by
 have HW:=q7 (fun w=>q4Y hW w)
 by_cases hc:s.size<a
 ·have c1:(a:Int)>(s.size:Nat):=by omega
  go_enter Tryz.func44,Tryz.ntmps44
  go_wp2_with((with_reducible go_at_call 70);refine(HW.out _).mono ?_;rintro en w2 ⟨rfl,x2,rfl⟩)
  go_ret2
  exact⟨rfl,(qt (by repeat(first|exact qj _ _|assumption|refine qw ?_ _|refine qk ?_|refine qA ?_ _|refine qs ?_ _)))⟩
 ·have c1:decide ((a:Int)>(s.size:Nat))=false:=by rw[qm];omega
  have c2:((s.size:Int)-(a:Nat)<(W:Nat)):=by omega
  have c3:decide (s.size<a)=false:=by rw[qm];omega
  go_enter Tryz.func44,Tryz.ntmps44
  go_wp2_with((with_reducible go_at_call 70);refine(HW.out _).mono ?_;rintro en w2 ⟨rfl,x2,rfl⟩)
  go_ret2
  exact⟨rfl,(qt (by repeat(first|exact qj _ _|assumption|refine qw ?_ _|refine qk ?_|refine qA ?_ _|refine qs ?_ _)))⟩
def oI:Option Nat->Int
 |none=> -1
 |some q=>(q:Nat)
theorem q8y{s:ByteArray}{p:Nat}(hs:s.size<=4294967296)(_hp:p<=s.size)(w:World):Calls Tryz.prog 85 #[.string s,.int .i64 p] w fun e w'=>e=.returned (.tuple #[.string ⟨(lK s (some p)).1.toArray⟩,.int .i64 (oI (lK s (some p)).2)])/\∃x,w'=ext w x:=by
 obtain⟨R,hR⟩:∃R,R=lK s (some p):=⟨_,rfl⟩;rw[<-hR];have HR3:Hid (R=if p+zIx s p<s.size then(nU s p (zIx s p),some (p+zIx s p+1))else([],none)):=q7 (by rw[hR];rfl)
 have HIX:=q7 (fun(i:Nat) (h:i<s.size) (W:World)=>jS (P:=Tryz.prog) 9 Tryz.underlying9 h W)
 have HZL:=q7 (q13 s p);have HZA:=q7 (q42 (s:=s) (p:=p));have HZT:=q7 (fun i=>q43 (s:=s) (p:=p) (i:=i))
 generalize zIx s p=z at*;clear hR
 go_enter Tryz.func85,Tryz.ntmps85
 go_wp2
 go_loopg [6] z (fun gk iv wr=>∃(i:Nat),i<=z/\iv=.int .i64 ((p+i:Nat):Int)/\gk=z-i/\wr=w)
 case atStart=>exact⟨0,qc _,rfl,rfl,rfl⟩
 case round=>
  obtain⟨i,hi,rfl,rfl,rfl⟩:=hrel;have hzl:=HZL.out
  by_cases h1:p+i<s.size
  ·have h1i:((p+i:Nat):Int)<(s.size:Nat):=by omega
   have hix:=HIX.out (p+i) h1
   by_cases h2:i<z
   ·have hne:=rQ (HZT.out i h2)
    simp only[show((UInt8.toNat 0:Nat):Int)=0 from rfl]at hne
    generalize ((bys s).getD (p+i) 0).toNat=y at*;generalize hqi:p+i=qi at*;have HQI:=q7 hqi;clear HIX hqi;go_wp2
    go_roundg (z-(i+1))
    case measure=>omega
    case rel=>exact⟨i+1,by omega,by congr 1;have:=HQI.out;omega,rfl,rfl⟩
   ·obtain rfl:i=z:=by omega
    have hz0:=HZA.out h1;rw[hz0]at hix;simp only[show((UInt8.toNat 0:Nat):Int)=0 from rfl]at hix
    have HR2:Hid (R=(nU s p i,some (p+i+1))):=q7 (by rw[HR3.out,if_pos h1])
    have HEX:Hid (s.extract p (p+i)=⟨(nU s p i).toArray⟩):=q7 (bY (by unfold nU;rw[show p+i-p=i by omega]))
    have HAD:Hid (oI (some (p+i+1))=((p+i:Nat):Int)+1):=q7 (by show((p+i+1:Nat):Int)=_;omega)
    clear HIX hz0 HZL HZA HZT HR3;have hpq:p<=p+i:=Nat.le_add_right _ _;have hqs:p+i<=s.size:=Nat.le_of_lt h1;generalize p+i=qi at*;go_wp2;rw[HEX.out]
    go_ret2
    rw[HR2.out,HAD.out]
    exact⟨rfl,(qt (by repeat(first|exact qj _ _|assumption|refine qw ?_ _|refine qk ?_|refine qA ?_ _|refine qs ?_ _)))⟩
  ·have h1i:decide (((p+i:Nat):Int)<(s.size:Nat))=false:=by rw[qm];omega
   have HR2:Hid (R=([],none)):=q7 (by rw[HR3.out,if_neg (by omega)])
   generalize p+i=qi at*;go_wp2
   go_ret2
   rw[HR2.out]
   exact⟨rfl,(qt (by repeat(first|exact qj _ _|assumption|refine qw ?_ _|refine qk ?_|refine qA ?_ _|refine qs ?_ _)))⟩
theorem q7Z{s:ByteArray}(h:8<=s.size)(hs:s.size<=4294967296)(w:World):Calls Tryz.prog 44 #[.string s,.int .i64 4,.int .i64 4] w fun e w'=>e=.returned (.tuple #[.int .i64 (qJ s 4 4:Nat),.int .i64 0])/\∃x,w'=ext w x:=
 sP (W:=4) (.inr (.inr rfl)) h (by omega) w
theorem q1j{s:ByteArray}{p:Nat}(h:p<s.size):qJ s p 1=((bys s).getD p 0).toNat:=by
 rw[bG (k:=0) h,lE];omega
theorem q80{b:Bool}{g:Option Nat->qK×Option Nat}(h:(g none).2=none):(wY b g none).2=none:=by cases b;rfl;exact h
theorem q5k{s:ByteArray}{f i:Nat}{o:Option Nat}(h:(fsO s f o i).2.2.2=none):(fs3 s f o).2.2.2=none:=by
 have h1:(lK s none).2=none:=rfl;have h0:(dZ s none).2=none:=rfl;have g0:o=none->(fs1 s f o).2.2.2=none:=fun e=>by subst e;exact q80 h0
 have g1:(fs1 s f o).2.2.2=none->(fs2 s f o).2.2.2=none:=fun e=>by unfold fs2;simp only[e];exact q80 h1
 have g2:(fs2 s f o).2.2.2=none->(fs3 s f o).2.2.2=none:=fun e=>by unfold fs3;simp only[e];exact q80 h1
 unfold fsO at h;split at h
 ·exact g2 (g1 (g0 h))
 ·split at h
  ·exact g2 (g1 h)
  ·split at h
   ·exact g2 h
   ·exact h
def JH(s:ByteArray)(f:Nat)(tm lv os:Int)(t1 t2:Bool)(fl:Int)(w:World)(g4 g10 k:Nat)(x:Value)(wx:World):Prop:=
 ∃q:Nat,x=.int .i64 (q:Nat)/\q<=s.size/\(fsO s f (some 10) k).2.2.2=some q/\Hid (Own wx g4 23 (.slice (some ⟨g10,0,none⟩) 9 9) (hC tm (fsO s f (some 10) k) lv os t1 t2 fl))/\Hid (Own wx g4 23 (.slice (some ⟨g4,0,none⟩) 9 9) (ghC zGH).toList)/\Hid (Below w.heap.size w wx)
theorem q6T{s:ByteArray}(hs:s.size<=4294967296)(w:World):Calls Tryz.prog 42 #[.string s,.int .i64 0] w (q39 (qU s) w):=by
 obtain⟨R,hR⟩:∃R,R=qU s:=⟨_,rfl⟩;rw[<-hR];unfold qU at hR
 go_enter Tryz.func42,Tryz.ntmps42
 go_upto_region 1 with(fail)
 obtain⟨w1,he,ho,hb⟩:=q1i w;have he2:w.alloc (.cells #[.int .i64 0,.string ⟨#[]⟩,.string ⟨#[]⟩,.string ⟨#[]⟩,.int .i64 0,.int .i64 0,.bool false,.bool false,.int .i64 0] 23)=w1:=he;rw[he2];have HO1:=q7 ho;have HB1:=q7 hb;clear he he2 ho hb;obtain⟨g4,hg4⟩:∃g4,g4=w.heap.size:=⟨_,rfl⟩;have HG4:=q7 hg4;have HO2:Hid (Own w1 g4 23 (.slice (some ⟨g4,0,none⟩) 9 9) (ghC zGH).toList):=q7 (by rw[hg4];exact HO1.out)
 rw[<-hg4];clear HO1 hg4;have HZ:Hid (∀u∈(ghC zGH).toList,u.oneCell'=true):=q7 (mH zGH)
 by_cases h1:s.size<10
 ·rw[if_pos h1]at hR
  have HR:=q7 hR;have h1i:(s.size:Int)<10:=by omega
  have h1j:decide ((0:Int)>(s.size:Int))=false:=by rw[qm];omega
  clear hR
  go_wp2_with(refine qo rfl 23 _ _ rfl g4 23 g4 9 9 rfl (ghC zGH) rfl (by kernel_rfl) (ghC zGH).toList HO2.out (by simp[ghC]) HZ.out ?_;intro w9 ho2 hg2;rw[jY rfl rfl]at ho2;have HO9:=q7 ho2;have HG9:=q7 hg2;clear ho2 hg2)
  exact aQ rfl rfl rfl rfl rfl (aR rfl (A:=ghC zGH) HO9.out) ⟨by rw[HR.out];rfl,qt (HB1.out.grown HG9.out HB1.out.size (by intro k e;cases e;rw[HG4.out];exact q9 _))⟩
 rw[if_neg h1]at hR;have h1i:decide ((s.size:Int)<10)=false:=by rw[qm];omega
 have h1j:decide ((0:Int)>(s.size:Int))=false:=by rw[qm];omega
 have hex:s.extract 0 3=⟨((bys s).take 3).toArray⟩:=bY (by simp)
 by_cases h2:(bys s).take 3≠[31,139,8]
 ·rw[if_pos h2]at hR
  have HR:=q7 hR;have h2i:((bys s).take 3==[31,139,8])=false:=by simpa using h2
  generalize (bys s).take 3=T at*;clear hR h2;have h10:10<=s.size:=by omega
  go_wp2_with(refine qo rfl 23 _ _ rfl g4 23 g4 9 9 rfl (ghC zGH) rfl (by kernel_rfl) (ghC zGH).toList HO2.out (by simp[ghC]) HZ.out ?_;intro w9 ho2 hg2;rw[jY rfl rfl]at ho2;have HO9:=q7 ho2;have HG9:=q7 hg2;clear ho2 hg2)
  exact aQ rfl rfl rfl rfl rfl (aR rfl (A:=ghC zGH) HO9.out) ⟨by rw[HR.out];rfl,qt (HB1.out.grown HG9.out HB1.out.size (by intro k e;cases e;rw[HG4.out];exact q9 _))⟩
 rw[if_neg h2]at hR;have h2i:((bys s).take 3==[31,139,8])=true:=by simpa using h2
 generalize (bys s).take 3=T at*;clear h2;have h10:10<=s.size:=by omega
 have hf:qJ s 3 1<256:=dU _ _ 1;have hx3:∀W,(Instr.index 9 (.string s) (.int .i64 3)).run Tryz.prog W=.ok (.int .u8 (qJ s 3 1:Nat)) W:=fun W=>by rw[q1j (by omega)];exact jS (P:=Tryz.prog) 9 Tryz.underlying9 (i:=3) (by omega) W
 have hx8:∀W,(Instr.index 9 (.string s) (.int .i64 8)).run Tryz.prog W=.ok (.int .u8 (qJ s 8 1:Nat)) W:=fun W=>by rw[q1j (by omega)];exact jS (P:=Tryz.prog) 9 Tryz.underlying9 (i:=8) (by omega) W
 have hx9:∀W,(Instr.index 9 (.string s) (.int .i64 9)).run Tryz.prog W=.ok (.int .u8 (qJ s 9 1:Nat)) W:=fun W=>by rw[q1j (by omega)];exact jS (P:=Tryz.prog) 9 Tryz.underlying9 (i:=9) (by omega) W
 have hf8:qJ s 8 1<256:=dU _ _ 1;have hf9:qJ s 9 1<256:=dU _ _ 1;have HN4:=q7 (fun W=>q7Z (s:=s) (by omega) hs W)
 have hRe:R=if 32<=qJ s 3 1 then(13,zGH,0)else q26 s (yB s (qJ s 3 1)):=hR
 have hed:∀y,q26 s y=match y.2.2.2 with
  |none=>(2,zGH,0)
  |some p=>if jF (qJ s 3 1:Nat) 2 then(if p+2<=s.size then(if qJ s p 2≠bL ((bys s).take p)%65536 then(5,zGH,0)else(0,iP s y,p+2))else(2,zGH,0))else(0,iP s y,p):=fun _=>rfl
 have hho:∀y,iP s y=⟨(qJ s 4 4:Nat),⟨y.1.toArray⟩,⟨y.2.1.toArray⟩,⟨y.2.2.1.toArray⟩,(qJ s 8 1:Nat),(qJ s 9 1:Nat),jF (qJ s 3 1:Nat) 1,jF (qJ s 3 1:Nat) 2,((qJ s 3 1/4*4:Nat):Int)⟩:=fun _=>rfl
 have HED:=q7 hed;have HHO:=q7 hho;clear hR hed hho;generalize qJ s 3 1=f at*;generalize qJ s 4 4=tm at*;generalize qJ s 8 1=lv at*;generalize qJ s 9 1=os at*
 by_cases h3:32<=f
 ·rw[if_pos h3]at hRe
  have HR:=q7 hRe;have h3i:(f:Int)≥32:=by omega
  clear hRe hx8 hx9
  go_wp2_with(refine qo rfl 23 _ _ rfl g4 23 g4 9 9 rfl (ghC zGH) rfl (by kernel_rfl) (ghC zGH).toList HO2.out (by simp[ghC]) HZ.out ?_;intro w9 ho2 hg2;rw[jY rfl rfl]at ho2;have HO9:=q7 ho2;have HG9:=q7 hg2;clear ho2 hg2)
  exact aQ rfl rfl rfl rfl rfl (aR rfl (A:=ghC zGH) HO9.out) ⟨by rw[HR.out];rfl,qt (HB1.out.grown HG9.out HB1.out.size (by intro k e;cases e;rw[HG4.out];exact q9 _))⟩
 rw[if_neg h3]at hRe;have h3i:decide ((f:Int)≥32)=false:=by rw[qm];omega
 have HRE:=q7 hRe;clear hRe;have HH:=q7 (fun(b:Int) (hb:1<=b/\b<=256) W=>zU (f:=(f:Nat)) (b:=b) ⟨by omega,by omega⟩ hb W)
 have HH1:=q7 (HH.out 1 (by decide))
 have HH2:=q7 (HH.out 2 (by decide))
 have HH4:=q7 (HH.out 4 (by decide))
 have HH8:=q7 (HH.out 8 (by decide))
 have qfH:=q7 (HH.out 16 (by decide))
 obtain⟨d,hd⟩:∃d:Nat,d=f/4:=⟨_,rfl⟩;have hfl:(f:Int)/4=(d:Nat):=by omega
 have hdl:d<=8:=by omega
 have HD:Hid ((d:Int)*4=((f/4*4:Nat):Int)):=q7 (by omega)
 clear hd;clear HH
 go_upto_region 11 with((with_reducible go_at_call 44);(with_reducible refine(HN4.out _).mono ?_);rintro en w4 ⟨rfl,hx⟩;have hb4:=qr hx;have HB4:=q7 (qq HB1.out hb4);have HO4:=q7 (HO2.out.up hb4);clear hx hb4)
 have qfC:=q7 HO4.out.blk.2
 have HQ:Hid (∀g:Nat,g=w4.heap.size->Own (w4.drew.alloc (.cells (hC tm ([],[],[],some 10) lv os (jF (f:Nat) 1) (jF (f:Nat) 2) ((d:Int)*4)).toArray 23)) g4 23 (.slice (some ⟨g,0,none⟩) 9 9) (hC tm ([],[],[],some 10) lv os (jF (f:Nat) 1) (jF (f:Nat) 2) ((d:Int)*4))):=q7 (fun g hg=>by
  subst hg
  exact qE w4.drew g4 (hC tm ([],[],[],some 10) lv os (jF (f:Nat) 1) (jF (f:Nat) 2) ((d:Int)*4)).toArray 23 (by simp[hC]) (Nat.le_of_lt qfC.out))
 have HBL:Hid (∀o,Below w4.heap.size w4 (w4.drew.alloc o)):=q7 (fun o=>qs (qS (qj _ _)) o)
 obtain⟨w5,hw5⟩:∃w5,w5=w4.drew:=⟨_,rfl⟩
 go_cut [10] (fun x wx=>x=.pointer (some ⟨w4.heap.size,0,none⟩)/\wx=w4.drew.alloc (.cells (hC tm ([],[],[],some 10) lv os (jF (f:Nat) 1) (jF (f:Nat) 2) ((d:Int)*4)).toArray 23))
 case first=>
  refine jE (C:=fun w'=>∃x,w'=ext w4 x) (.q 0 (.q 1 (.q 2 (.q 3 (.q 4 (.q 5 (.q 6 (.q 7 (.q 8 (.q 9 (.q 10 (.q 11 (.q 13 (.q 15 (.q 16 (.q 17 (.br 12 (.br 14 (.q 18 (.br 19 (.br 20 .done .no) .no)) (.br 19 (.br 14 (.q 18 (.br 20 .done .no)) .no) .no)) (.br 19 (.br 12 (.br 14 (.q 18 (.br 20 .done .no)) .no) .no) .no)))))))))))))))))) (by kernel_rfl) (by kernel_rfl) (qt (qC _ _)) ?_
  (repeat((unfold qX;simp only[pk]);go_big_quiet_step (fail);refine wpQuiet_nil ?_))
  have HBD:Hid (Below w4.heap.size w4 w4.drew):=q7 (qS (qj _ _));have hsz:w4.drew.heap.size=w4.heap.size:=rfl;generalize w4.drew=wd at*
  (unfold qX;simp only[pk])
  refine⟨?_,?_⟩
  ·unfold qy
   go_wp2_with((with_reducible go_at_call 61);(with_reducible refine(HH1.out _).mono ?_);rintro en w2 ⟨rfl,hx⟩;rw[hx];clear hx)
   refine⟨qt HBD.out,?_⟩;unfold qy
   (unfold qX;simp only[pk])
   refine⟨?_,?_⟩
   ·unfold qy
    go_wp2_with((with_reducible go_at_call 61);(with_reducible refine(HH2.out _).mono ?_);rintro en w2 ⟨rfl,hx⟩;rw[hx];clear hx)
    refine⟨qt HBD.out,?_⟩;unfold qy
    (unfold qX;simp only[pk])
    go_big_quiet_step (fail)
    refine wpQuiet_nil ?_
    (unfold qX;simp only[pk])
    refine⟨?_,by exact True.intro⟩
    unfold qy;go_wp2;refine⟨qt (qs HBD.out _),?_⟩;unfold qy
    (unfold qX;simp only[pk])
    refine⟨?_,by exact True.intro⟩
    unfold qy;go_wp2;refine⟨qt (qs HBD.out _),?_⟩;unfold qy;unfold qX;intro hz;clear hz;go_wp2
    go_meet
    case rel=>exact⟨rfl,rfl⟩
   ·(unfold qX;simp only[pk])
    refine⟨?_,by exact True.intro⟩
    unfold qy;go_wp2;refine⟨qt (qs HBD.out _),?_⟩;unfold qy
    (unfold qX;simp only[pk])
    refine⟨?_,by exact True.intro⟩
    unfold qy
    go_wp2_with((with_reducible go_at_call 61);(with_reducible refine(HH2.out _).mono ?_);rintro en w2 ⟨rfl,hx⟩;rw[hx];clear hx)
    refine⟨qt (qs HBD.out _),?_⟩;unfold qy
    (unfold qX;simp only[pk])
    go_big_quiet_step (fail)
    refine wpQuiet_nil ?_
    (unfold qX;simp only[pk])
    refine⟨?_,by exact True.intro⟩
    unfold qy;go_wp2;refine⟨qt (qs HBD.out _),?_⟩;unfold qy;unfold qX;intro hz;clear hz;go_wp2
    go_meet
    case rel=>exact⟨rfl,rfl⟩
  ·(unfold qX;simp only[pk])
   refine⟨?_,by exact True.intro⟩
   unfold qy;go_wp2;refine⟨qt (qs HBD.out _),?_⟩;unfold qy
   (unfold qX;simp only[pk])
   refine⟨?_,by exact True.intro⟩
   unfold qy
   go_wp2_with((with_reducible go_at_call 61);(with_reducible refine(HH1.out _).mono ?_);rintro en w2 ⟨rfl,hx⟩;rw[hx];clear hx)
   refine⟨qt (qs HBD.out _),?_⟩;unfold qy
   (unfold qX;simp only[pk])
   refine⟨?_,by exact True.intro⟩
   unfold qy
   go_wp2_with((with_reducible go_at_call 61);(with_reducible refine(HH2.out _).mono ?_);rintro en w2 ⟨rfl,hx⟩;rw[hx];clear hx)
   refine⟨qt (qs HBD.out _),?_⟩;unfold qy
   (unfold qX;simp only[pk])
   go_big_quiet_step (fail)
   refine wpQuiet_nil ?_
   (unfold qX;simp only[pk])
   refine⟨?_,by exact True.intro⟩
   unfold qy;go_wp2;refine⟨qt (qs HBD.out _),?_⟩;unfold qy;unfold qX;intro hz;clear hz;go_wp2
   go_meet
   case rel=>exact⟨rfl,rfl⟩
 case rest=>
  obtain⟨rfl,hwc⟩:=hcut;have HB5:Hid (Below w.heap.size w wc):=q7 (by rw[hwc];exact qq HB4.out (HBL.out _))
  have HO5:Hid (Own wc g4 23 (.slice (some ⟨g4,0,none⟩) 9 9) (ghC zGH).toList):=q7 (by rw[hwc];exact HO4.out.up (HBL.out _))
  obtain⟨g10,qaO⟩:∃g10,g10=w4.heap.size:=⟨_,rfl⟩;have HH5:Hid (Own wc g4 23 (.slice (some ⟨g10,0,none⟩) 9 9) (hC tm (fsO s f (some 10) 0) lv os (jF (f:Nat) 1) (jF (f:Nat) 2) ((d:Int)*4))):=q7 (by rw[hwc];exact HQ.out g10 qaO)
  have HNE:Hid (g10≠g4):=q7 (by have:=qfC.out;omega)
  have HGE:Hid (w.heap.size<=g10):=q7 (by rw[qaO];exact HB4.out.size)
  rw[<-qaO];clear hwc hw5 HBL HQ qfC HB4 HO4 HO2 qaO hx8 hx9 hx3 HB1;rw[HD.out]at HH5;generalize ((f/4*4:Nat):Int)=fl at*;generalize jF ((f:Nat):Int) 1=t1 at*;generalize jF ((f:Nat):Int) 2=t2 at*
  have q9O:Hid (∀k,(fsO s f (some 10) k).2.2.2=none->R=(2,zGH,0)):=q7 (fun k hk=>by
   have h:=q5k hk;rw[HRE.out,<-q1d,HED.out,h])
  go_upto_if 79 with((with_reducible go_at_call 61);(with_reducible refine(HH4.out _).mono ?_);rintro en w2 ⟨rfl,hx⟩;rw[hx];clear hx)
  go_cut [11] (fun x wx=>JH s f tm lv os t1 t2 fl w g4 g10 1 x wx)
  case first=>
   generalize hc:jF ((f:Nat):Int) 4=c4 at*;have HC:=q7 hc;clear hc
   cases c4
   ·go_wp2
    go_meet
    case rel=>exact⟨10,rfl,h10,by rw[q1e HC.out];rfl,q7 (by rw[q1e HC.out];exact HH5.out),HO5,HB5⟩
   ·have hx1:=(q46 (s:=s) (o:=some 10) HC.out tm lv os t1 t2 fl)
    have hx0:(fsO s f (some 10) 0).2.2.2=some 10:=rfl;rw[hx0]at hx1
    by_cases h12:12<=s.size
    ·have q0:mJ s 2 (some 10)=(qJ s 10 2,some 12):=if_pos h12
     have HNX:Hid (∀W,Calls Tryz.prog 44 #[.string s,.int .i64 10,.int .i64 2] W fun e w'=>e=.returned (.tuple #[.int .i64 (qJ s 10 2:Nat),.int .i64 0])/\∃x,w'=ext W x):=q7 (fun W=>sP (a:=10) (W:=2) (.inr (.inl rfl)) h12 (by omega) W)
     have htx:dZ s (some 10)=if s.size-12<qJ s 10 2 then([],none)else(nU s 12 (qJ s 10 2),some (12+qJ s 10 2)):=by unfold dZ;rw[q0]
     have hnl:qJ s 10 2<65536:=dU _ _ 2;generalize qJ s 10 2=N at*
     by_cases hN:s.size-12<N
     ·have HRn:Hid (R=(2,zGH,0)):=q7 (q9O.out 1 (by rw[hx1.1,htx,if_pos hN]))
      have hNi:(s.size:Int)-10-2<(N:Nat):=by omega
      clear hx1 hx0 htx q0 q9O HED HHO
      go_wp2_with(first|(refine qo rfl 23 _ _ rfl g4 23 g4 9 9 rfl (ghC zGH) rfl (by kernel_rfl) (ghC zGH).toList q9F.out (by simp[ghC]) HZ.out ?_;intro w9 ho2 hg2;rw[jY rfl rfl]at ho2;have qax:=q7 ho2;have qaA:=q7 hg2;clear ho2 hg2)|((with_reducible go_at_call 44);(with_reducible refine(HNX.out _).mono ?_);rintro en w6 ⟨rfl,hx⟩;have hbx:=qr hx;have q9F:=q7 (HO5.out.up hbx);have q9u:=q7 (HH5.out.up hbx);have q9m:=q7 (qq HB5.out hbx);clear hx hbx))
      exact aQ rfl rfl rfl rfl rfl (aR rfl (A:=ghC zGH) qax.out) ⟨by rw[HRn.out];rfl,qt (q9m.out.grown qaA.out q9m.out.size (by intro k e;cases e;rw[HG4.out];exact q9 _))⟩
     ·rw[htx,if_neg hN]at hx1
      have hNi:decide ((s.size:Int)-10-2<(N:Nat))=false:=by rw[qm];omega
      have HX1:=q7 hx1;have HSL:Hid (∀W,(Instr.sliceAt 9 (.string s) (some (.int .i64 12)) (some (.int .i64 (12+(N:Int)))) none).run Tryz.prog W=.ok (.string ⟨(nU s 12 N).toArray⟩) W):=q7 (fun W=>sZ s 12 N (by omega) W)
      have qky:Hid (12+N<=s.size):=q7 (by omega)
      clear hx1 hx0 htx q0 HED HHO
      go_upto_region 17 with((with_reducible go_at_call 44);(with_reducible refine(HNX.out _).mono ?_);rintro en w6 ⟨rfl,hx⟩;have hbx:=qr hx;have q9F:=q7 (HO5.out.up hbx);have q9u:=q7 (HH5.out.up hbx);have q9m:=q7 (qq HB5.out hbx);have k1:w6.cell? ⟨g10,1,none⟩=some (.string ⟨#[]⟩):=q9u.out.cell (i:=1) (by simp[hC]);have j1:w6.frozen? ⟨g10,1,none⟩=false:=q9u.out.free 1;have m1:=q9u.out.blk.2;clear hx hbx)
      obtain⟨ho7,hg7⟩:=q9u.out.store 1 (.string ⟨(nU s 12 N).toArray⟩);have HH7:=q7 ho7;have HO7:=q7 (q9F.out.keep hg7 (.inr (by intro e;cases e;exact HNE.out rfl)))
      have HB7:=q7 (q9m.out.grown hg7 q9m.out.size (by intro k e;cases e;exact HGE.out))
      clear ho7 hg7
      go_wp2_with((with_reducible show wpList _ _ _ (Oper.mk _ (.slice _ _ _ _ _) _ _ _ _::_) _ _);refine jQ rfl 9 (.tmp 98) (some (.tmp 100)) (some (.tmp 104)) none rfl _ (HSL.out _) ?_)
      go_meet
      case rel=>exact⟨12+N,congrArg (Value.int .i64) (by omega),qky.out,by rw[HX1.out.1],q7 (by rw[HX1.out.2];exact HH7.out),HO7,HB7⟩
    ·have q0:mJ s 2 (some 10)=(0,none):=if_neg h12
     have HNX:Hid (∀W,Calls Tryz.prog 44 #[.string s,.int .i64 10,.int .i64 2] W fun e w'=>e=.returned (.tuple #[.int .i64 0,.int .i64 2])/\∃x,w'=ext W x):=q7 (fun W=>q14 (a:=10) (W:=2) (.inr (.inl rfl)) (by omega) (by omega) (by omega) W)
     have htx:dZ s (some 10)=([],none):=by unfold dZ;rw[q0]
     have HRn:Hid (R=(2,zGH,0)):=q7 (q9O.out 1 (by rw[hx1.1,htx]))
     clear hx1 hx0 htx q0 q9O HED HHO
     go_wp2_with(first|(refine qo rfl 23 _ _ rfl g4 23 g4 9 9 rfl (ghC zGH) rfl (by kernel_rfl) (ghC zGH).toList q9F.out (by simp[ghC]) HZ.out ?_;intro w9 ho2 hg2;rw[jY rfl rfl]at ho2;have qax:=q7 ho2;have qaA:=q7 hg2;clear ho2 hg2)|((with_reducible go_at_call 44);(with_reducible refine(HNX.out _).mono ?_);rintro en w6 ⟨rfl,hx⟩;have hbx:=qr hx;have q9F:=q7 (HO5.out.up hbx);have q9u:=q7 (HH5.out.up hbx);have q9m:=q7 (qq HB5.out hbx);clear hx hbx))
     exact aQ rfl rfl rfl rfl rfl (aR rfl (A:=ghC zGH) qax.out) ⟨by rw[HRn.out];rfl,qt (q9m.out.grown qaA.out q9m.out.size (by intro k e;cases e;rw[HG4.out];exact q9 _))⟩
  case rest=>
   obtain⟨q,rfl,hq,hy,qal,qa3,q9i⟩:=hcut
   go_upto_if 112 with((with_reducible go_at_call 61);(with_reducible refine(HH8.out _).mono ?_);rintro en w2 ⟨rfl,hx⟩;rw[hx];clear hx)
   go_cut [11] (fun x wx=>JH s f tm lv os t1 t2 fl w g4 g10 2 x wx)
   case first=>
    generalize hc:jF ((f:Nat):Int) 8=c4 at*;have HC:=q7 hc;have HY:=q7 hy;clear hc hy
    cases c4
    ·go_wp2
     go_meet
     case rel=>exact⟨q,rfl,hq,by rw[q1f HC.out];exact HY.out,q7 (by rw[q1f HC.out];exact qal.out),qa3,q9i⟩
    ·have hx1:=(q47 (s:=s) (o:=some 10) HC.out tm lv os t1 t2 fl)
     rw[HY.out]at hx1;have HE:=q7 (fun W=>q8y hs hq W)
     have HLE:=q7 (fun q2=>I9 (s:=s) (p:=q) (q:=q2))
     generalize lK s (some q)=y2 at*;obtain⟨tx,o2⟩:=y2;have HX1:=q7 hx1;clear hx1
     cases o2 with
     |none=>
      have HRn:Hid (R=(2,zGH,0)):=q7 (q9O.out 2 HX1.out.1);simp only[oI]at HE;clear HX1 q9O HED HHO HLE
      go_wp2_with(first|(refine qo rfl 23 _ _ rfl g4 23 g4 9 9 rfl (ghC zGH) rfl (by kernel_rfl) (ghC zGH).toList q9F.out (by simp[ghC]) HZ.out ?_;intro w9 ho2 hg2;rw[jY rfl rfl]at ho2;have qax:=q7 ho2;have qaA:=q7 hg2;clear ho2 hg2)|((with_reducible go_at_call 85);(with_reducible refine(HE.out _).mono ?_);rintro en w6 ⟨rfl,hx⟩;have hbx:=qr hx;have q9F:=q7 (qa3.out.up hbx);have q9u:=q7 (qal.out.up hbx);have q9m:=q7 (qq q9i.out hbx);clear hx hbx))
      exact aQ rfl rfl rfl rfl rfl (aR rfl (A:=ghC zGH) qax.out) ⟨by rw[HRn.out];rfl,qt (q9m.out.grown qaA.out q9m.out.size (by intro k e;cases e;rw[HG4.out];exact q9 _))⟩
     |some q2=>
      simp only[oI]at HE;have HQ2:=q7 (HLE.out q2 rfl);clear HED HHO HLE
      go_upto_region 23 with((with_reducible go_at_call 85);(with_reducible refine(HE.out _).mono ?_);rintro en w6 ⟨rfl,hx⟩;have hbx:=qr hx;have q9F:=q7 (qa3.out.up hbx);have q9u:=q7 (qal.out.up hbx);have q9m:=q7 (qq q9i.out hbx);have k1:w6.cell? ⟨g10,2,none⟩=some ((hC tm (fsO s f (some 10) 1) lv os t1 t2 fl).getD 2 undef):=q9u.out.cell (i:=2) (by simp[hC]);have j1:w6.frozen? ⟨g10,2,none⟩=false:=q9u.out.free 2;have m1:=q9u.out.blk.2;clear hx hbx)
      obtain⟨ho7,hg7⟩:=q9u.out.store 2 (.string ⟨tx.toArray⟩);have HH7:=q7 ho7;have HO7:=q7 (q9F.out.keep hg7 (.inr (by intro e;cases e;exact HNE.out rfl)))
      have HB7:=q7 (q9m.out.grown hg7 q9m.out.size (by intro k e;cases e;exact HGE.out))
      clear ho7 hg7;go_wp2
      go_meet
      case rel=>exact⟨q2,rfl,HQ2.out,by rw[HX1.out.1],q7 (by rw[HX1.out.2];exact HH7.out),HO7,HB7⟩
   case rest=>
    obtain⟨q,rfl,hq,hy,qaz,qak,qai⟩:=hcut
    go_upto_if 126 with((with_reducible go_at_call 61);(with_reducible refine(qfH.out _).mono ?_);rintro en w2 ⟨rfl,hx⟩;rw[hx];clear hx)
    go_cut [11] (fun x wx=>JH s f tm lv os t1 t2 fl w g4 g10 3 x wx)
    case first=>
     generalize hc:jF ((f:Nat):Int) 16=c4 at*;have HC:=q7 hc;have HY:=q7 hy;clear hc hy
     cases c4
     ·go_wp2
      go_meet
      case rel=>exact⟨q,rfl,hq,by rw[q1g HC.out];exact HY.out,q7 (by rw[q1g HC.out];exact qaz.out),qak,qai⟩
     ·have hx1:=(q48 (s:=s) (o:=some 10) HC.out tm lv os t1 t2 fl)
      rw[HY.out]at hx1;have HE:=q7 (fun W=>q8y hs hq W)
      have HLE:=q7 (fun q2=>I9 (s:=s) (p:=q) (q:=q2))
      generalize lK s (some q)=y2 at*;obtain⟨tx,o2⟩:=y2;have HX1:=q7 hx1;clear hx1
      cases o2 with
      |none=>
       have HRn:Hid (R=(2,zGH,0)):=q7 (q9O.out 3 HX1.out.1);simp only[oI]at HE;clear HX1 q9O HED HHO HLE
       go_wp2_with(first|(refine qo rfl 23 _ _ rfl g4 23 g4 9 9 rfl (ghC zGH) rfl (by kernel_rfl) (ghC zGH).toList q9F.out (by simp[ghC]) HZ.out ?_;intro w9 ho2 hg2;rw[jY rfl rfl]at ho2;have qax:=q7 ho2;have qaA:=q7 hg2;clear ho2 hg2)|((with_reducible go_at_call 85);(with_reducible refine(HE.out _).mono ?_);rintro en w6 ⟨rfl,hx⟩;have hbx:=qr hx;have q9F:=q7 (qak.out.up hbx);have q9u:=q7 (qaz.out.up hbx);have q9m:=q7 (qq qai.out hbx);clear hx hbx))
       exact aQ rfl rfl rfl rfl rfl (aR rfl (A:=ghC zGH) qax.out) ⟨by rw[HRn.out];rfl,qt (q9m.out.grown qaA.out q9m.out.size (by intro k e;cases e;rw[HG4.out];exact q9 _))⟩
      |some q2=>
       simp only[oI]at HE;have HQ2:=q7 (HLE.out q2 rfl);clear HED HHO HLE
       go_upto_region 29 with((with_reducible go_at_call 85);(with_reducible refine(HE.out _).mono ?_);rintro en w6 ⟨rfl,hx⟩;have hbx:=qr hx;have q9F:=q7 (qak.out.up hbx);have q9u:=q7 (qaz.out.up hbx);have q9m:=q7 (qq qai.out hbx);have k1:w6.cell? ⟨g10,3,none⟩=some ((hC tm (fsO s f (some 10) 2) lv os t1 t2 fl).getD 3 undef):=q9u.out.cell (i:=3) (by simp[hC]);have j1:w6.frozen? ⟨g10,3,none⟩=false:=q9u.out.free 3;have m1:=q9u.out.blk.2;clear hx hbx)
       obtain⟨ho7,hg7⟩:=q9u.out.store 3 (.string ⟨tx.toArray⟩);have HH7:=q7 ho7;have HO7:=q7 (q9F.out.keep hg7 (.inr (by intro e;cases e;exact HNE.out rfl)))
       have HB7:=q7 (q9m.out.grown hg7 q9m.out.size (by intro k e;cases e;exact HGE.out))
       clear ho7 hg7;go_wp2
       go_meet
       case rel=>exact⟨q2,rfl,HQ2.out,by rw[HX1.out.1],q7 (by rw[HX1.out.2];exact HH7.out),HO7,HB7⟩
    case rest=>
     obtain⟨q,rfl,hq,hy,q9A,q9N,q99⟩:=hcut;have HY:=q7 hy;obtain⟨Y,hYY⟩:∃Y,Y=yB s f:=⟨_,rfl⟩;have hfY:fsO s f (some 10) 3=Y:=hYY.symm;rw[hfY]at HY q9A;have hRs:R=if t2 then(if q+2<=s.size then(if qJ s q 2≠bL ((bys s).take q)%65536 then(5,zGH,0)else(0,iP s Y,q+2))else(2,zGH,0))else(0,iP s Y,q):=by rw[HRE.out,<-hYY,HED.out,HY.out]
     have HRS:=q7 hRs;have hYC:hC tm Y lv os t1 t2 fl=(ghC (iP s Y)).toList:=by rw[HHO.out];rfl
     rw[hYC]at q9A;clear hYC hRs hYY hfY hy HED HHO HRE q9O HY;generalize iP s Y=hd at*
     go_upto_if 140 with((with_reducible go_at_call 61);(with_reducible refine(HH2.out _).mono ?_);rintro en w2 ⟨rfl,hx⟩;rw[hx];clear hx)
     go_cut [11] (fun x wx=>∃q2:Nat,x=.int .i64 (q2:Nat)/\Hid (R=(0,hd,q2))/\Hid (Own wx g4 23 (.slice (some ⟨g10,0,none⟩) 9 9) (ghC hd).toList)/\Hid (Own wx g4 23 (.slice (some ⟨g4,0,none⟩) 9 9) (ghC zGH).toList)/\Hid (Below w.heap.size w wx))
     case first=>
      cases t2
      ·go_wp2
       go_meet
       case rel=>exact⟨q,rfl,q7 (by rw[HRS.out];rfl),q9A,q9N,q99⟩
      ·by_cases hf2:q+2<=s.size
       ·have HNX:=q7 (fun W=>sP (s:=s) (a:=q) (W:=2) (.inr (.inl rfl)) hf2 (by omega) W)
        have qh2:s.extract 0 q=⟨((bys s).take q).toArray⟩:=bY (by simp)
        have qbM:=q7 (fun W=>q2W (s:=⟨((bys s).take q).toArray⟩) (by rw[qN,List.length_take,qF];omega) W)
        rw[show bys ⟨((bys s).take q).toArray⟩=(bys s).take q from rfl]at qbM
        have hRs:R=if qJ s q 2≠bL ((bys s).take q)%65536 then(5,zGH,0)else(0,hd,q+2):=by rw[HRS.out,if_pos rfl,if_pos hf2]
        have HRs:=q7 hRs;have hqi:(q:Int)<=(s.size:Nat):=by omega
        clear hRs;generalize (bys s).take q=TP at*;obtain⟨cs,hcs⟩:∃cs,cs=bL TP%65536:=⟨_,rfl⟩;have qdH:(bL TP:Int)%65536=(cs:Nat):=by omega
        have hcl:cs<65536:=by omega
        rw[<-hcs]at HRs;clear hcs;generalize qJ s q 2=nn at*;have q9J:Hid (∀W,Calls Tryz.prog 44 #[.string s,.int .i64 q,.int .i64 2] W fun e w'=>e=.returned (.tuple #[.int .i64 nn,.int .i64 0])/\∃x,w'=ext W x):=HNX
        by_cases hcc:nn=cs
        ·have HR3:Hid (R=(0,hd,q+2)):=q7 (by rw[HRs.out,if_neg (fun h=>h hcc)])
         subst hcc
         go_wp2_with(first|((with_reducible go_at_call 44);(with_reducible refine(q9J.out _).mono ?_);rintro en w6 ⟨rfl,hx⟩;have hbx:=qr hx;have q9F:=q7 (q9N.out.up hbx);have q9u:=q7 (q9A.out.up hbx);have q9m:=q7 (qq q99.out hbx);clear hx hbx)|((with_reducible go_at_call 32);(with_reducible refine(qbM.out _).mono ?_);rintro en w7 ⟨rfl,hx⟩;have hbx:=qr hx;have qfy:=q7 (q9F.out.up hbx);have qhZ:=q7 (q9u.out.up hbx);have qee:=q7 (qq q9m.out hbx);clear hx hbx))
         go_meet
         case rel=>exact⟨q+2,congrArg (Value.int .i64) (by omega),HR3,qhZ,qfy,qee⟩
        ·have HRn:Hid (R=(5,zGH,0)):=q7 (by rw[HRs.out,if_pos hcc])
         have qcZ:(((nn:Nat):Int) != ((cs:Nat):Int))=true:=by simp;omega
         go_wp2_with(first|(refine qo rfl 23 _ _ rfl g4 23 g4 9 9 rfl (ghC zGH) rfl (by kernel_rfl) (ghC zGH).toList qfy.out (by simp[ghC]) HZ.out ?_;intro w9 ho2 hg2;rw[jY rfl rfl]at ho2;have qax:=q7 ho2;have qaA:=q7 hg2;clear ho2 hg2)|((with_reducible go_at_call 44);(with_reducible refine(q9J.out _).mono ?_);rintro en w6 ⟨rfl,hx⟩;have hbx:=qr hx;have q9F:=q7 (q9N.out.up hbx);have q9u:=q7 (q9A.out.up hbx);have q9m:=q7 (qq q99.out hbx);clear hx hbx)|((with_reducible go_at_call 32);(with_reducible refine(qbM.out _).mono ?_);rintro en w7 ⟨rfl,hx⟩;have hbx:=qr hx;have qfy:=q7 (q9F.out.up hbx);have qhZ:=q7 (q9u.out.up hbx);have qee:=q7 (qq q9m.out hbx);clear hx hbx))
         exact aQ rfl rfl rfl rfl rfl (aR rfl (A:=ghC zGH) qax.out) ⟨by rw[HRn.out];rfl,qt (qee.out.grown qaA.out qee.out.size (by intro k e;cases e;rw[HG4.out];exact q9 _))⟩
       ·have HNX:Hid (∀W,Calls Tryz.prog 44 #[.string s,.int .i64 q,.int .i64 2] W fun e w'=>e=.returned (.tuple #[.int .i64 0,.int .i64 2])/\∃x,w'=ext W x):=q7 (fun W=>q14 (a:=q) (W:=2) (.inr (.inl rfl)) (by omega) (by omega) (by omega) W)
        have HRn:Hid (R=(2,zGH,0)):=q7 (by rw[HRS.out,if_pos rfl,if_neg hf2])
        go_wp2_with(first|(refine qo rfl 23 _ _ rfl g4 23 g4 9 9 rfl (ghC zGH) rfl (by kernel_rfl) (ghC zGH).toList q9F.out (by simp[ghC]) HZ.out ?_;intro w9 ho2 hg2;rw[jY rfl rfl]at ho2;have qax:=q7 ho2;have qaA:=q7 hg2;clear ho2 hg2)|((with_reducible go_at_call 44);(with_reducible refine(HNX.out _).mono ?_);rintro en w6 ⟨rfl,hx⟩;have hbx:=qr hx;have q9F:=q7 (q9N.out.up hbx);have q9u:=q7 (q9A.out.up hbx);have q9m:=q7 (qq q99.out hbx);clear hx hbx))
        exact aQ rfl rfl rfl rfl rfl (aR rfl (A:=ghC zGH) qax.out) ⟨by rw[HRn.out];rfl,qt (q9m.out.grown qaA.out q9m.out.size (by intro k e;cases e;rw[HG4.out];exact q9 _))⟩
     case rest=>
      obtain⟨q2,rfl,HR2,q9G,q9n,q9d⟩:=hcut;obtain⟨A,hgA,hsA,hA⟩:=q9G.out.whole;have hAe:A=ghC hd:=Array.ext' hA;subst hAe;have HGA:=q7 hgA;have qaU:=q7 (mH hd);have HSZ:Hid ((ghC hd).size=9):=q7 rfl;clear hgA hsA hA;generalize hCD:ghC hd=cd at*;have HCD:=q7 hCD;clear hCD
      go_wp2_with(first
       |(refine qI rfl 23 9 _ rfl g10 rfl cd HSZ.out HGA.out _ Tryz.underlying23 rfl (by kernel_rfl) ?_)
       |(refine qo rfl 23 _ _ rfl g4 23 g4 9 9 rfl cd rfl (by rw[HSZ.out];kernel_rfl) (ghC zGH).toList q9n.out (by rw[HSZ.out];simp[ghC]) qaU.out ?_;intro w21 ho2 hg2;rw[jY HSZ.out rfl]at ho2;have qdf:=q7 ho2;have qbZ:=q7 hg2;clear ho2 hg2))
      exact aQ rfl rfl rfl rfl rfl (aR HSZ.out (A:=cd) qdf.out) ⟨by rw[HR2.out,<-HCD.out];rfl,qt (q9d.out.grown qbZ.out q9d.out.size (by intro k e;cases e;rw[HG4.out];exact q9 _))⟩
theorem V7{P:Program}{fn:Func}{tmps:Array Value}{w:World}{a t b:Nat}{ad:Addr}{v:Value}(hf:fn.results=#[.cell a t,.tmp b])(ha:tmps.getD a undef=.pointer (some ad))(hl:(loadVar t ad).run P w=.ok v w):
  (results fn tmps).run P w=.ok (.tuple #[v,tmps.getD b undef]) w:=by
 have ha':tmps[a]?.getD undef=.pointer (some ad):=by simpa using ha
 simp[results,hf,asAddr,ha',hl]
theorem B7{P:Program}{fn:Func}{tmps:Array Value}{w:World}{ds:List Deferred}{s t b:Nat}{ad:Addr}{x y:Value}{R:Ending->World->Prop}(hf:fn.results=#[.cell s t,.tmp b])(ha:tmps.getD s undef=.pointer (some ad))(hb:tmps.getD b undef=y)(hd:ds=[])
  (hl:(loadVar t ad).run P w=.ok x w) (h:R (.returned (.tuple #[x,y])) w):bodyPost P fn R .ret ⟨tmps,ds⟩ w:=by
 subst hb
 exact bodyPost_ret (v:=.tuple #[x,tmps.getD b undef]) (V7 hf ha hl) hd h
theorem oZ{w:World}{B g:Nat}{A:Array Value}{T:Nat}(_h13:A.size=13)(hT:T=53)(h:Own w B T (.slice (some ⟨g,0,none⟩) 13 13) A.toList):(loadVar 53 ⟨g,0,none⟩).run Tryz.prog w=.ok (.agg A) w:=by
 subst hT;have:=bD (P:=Tryz.prog) h _ Tryz.underlying53 rfl (by kernel_rfl)
 simpa using this
theorem rL:zIf.size=13:=rfl
theorem q8T{c at_:Nat}(w:World):Calls Tryz.prog 41 #[.int .i64 c,.int .i64 at_] w fun e w'=>∃v,e=.returned (.tuple #[.agg zIf,v])/\cV w' v [(c,at_)]/\(∀q,v.ownBlock=some q->w.heap.size<=q)/\Below w.heap.size w w':=by
 have hI:=qE w w.heap.size zIf 53 (by simp[zIf,ifC]) (q9 _)
 have hB1:=qn w (.cells zIf 53);have e0:w.alloc (.cells zIf 53)=w.alloc (.cells #[.int .i64 0,.string ⟨#[]⟩,.string ⟨#[]⟩,.string ⟨#[]⟩,.int .i64 0,.int .i64 0,.bool false,.bool false,.int .i64 0,.int .i64 0,.int .i64 0,.slice none 0 0,.string ⟨#[]⟩] 53):=rfl;have hS:=iY 2 (w.alloc (.cells zIf 53)) #[.int .i64 c,.int .i64 at_] 96 [[.int .i64 c,.int .i64 at_]] rfl (by intro x hx;simp at hx;subst hx;rfl) (by simp)
 have HB1:=q7 hB1;have HI:=q7 hI;have HS:=q7 hS;have hl1:(w.alloc (.cells zIf 53)).heap.size=w.heap.size+1:=by simp
 clear hI hB1 hS
 go_enter Tryz.func41,Tryz.ntmps41
 go_upto_region 1 with(fail)
 rw[<-e0];clear e0;generalize w.alloc (.cells zIf 53)=w1 at*;have HB2:=q7 (qn w1 (.cells #[.int .i64 c,.int .i64 at_] 96));have HI2:=q7 (HI.out.up HB2.out)
 go_wp2_with(refine qo rfl 53 _ _ rfl w.heap.size 53 w.heap.size 13 13 rfl zIf rfl (by kernel_rfl) zIf.toList HI2.out (by simp) fE ?_;intro w9 ho2 hg2;have HO9:=q7 ho2;have HG9:=q7 hg2;clear ho2 hg2)
 have hso:(Value.slice (some ⟨w1.heap.size,0,none⟩) 1 1).ownBlock≠some w.heap.size:=by
  intro e;have h2:w1.heap.size=w.heap.size:=ql e;omega
 have HS9:=q7 (SlK.keep (v:=.slice (some ⟨w1.heap.size,0,none⟩) 1 1) HS.out HG9.out hso);rw[hl1]at HS9;have q9n:Hid (Own w9 w.heap.size 53 (.slice (some ⟨w.heap.size,0,none⟩) 13 13) zIf.toList):=HO9;refine B7 rfl rfl rfl rfl (oZ rL rfl q9n.out) ⟨_,rfl,HS9.out,(fun q e=>by have h2:w.heap.size+1=q:=ql e;omega),?_⟩
 have hb:=qq HB1.out HB2.out
 exact hb.grown HG9.out hb.size (by intro k e;cases e;exact q9 _)
end Go.Cm
namespace Go.Cm
open Go.RowKit Go.Proofs
attribute [local irreducible] j8
theorem q1x{N T s p:Nat}{z:IS}:(iQ N T z s p).2.md=z.md/\(iQ N T z s p).2.fin=z.fin:=by
 unfold iQ pZ nV;split
 ·exact⟨rfl,rfl⟩
 ·split
  ·exact⟨rfl,rfl⟩
  ·split
   ·exact⟨rfl,rfl⟩
   ·split<;>exact⟨rfl,rfl⟩
theorem q1y{pre:Nat}{y:Nat×IS}(h:(lF pre y).1=0):lF pre y=y:=by
 unfold lF at h⊢;generalize (16777216:Nat)=M at*
 by_cases h1:y.1≠0
 ·rw[if_pos h1]
 ·rw[if_neg h1]at h⊢
  by_cases h2:M<y.2.h.length-pre
  ·rw[if_pos h2]at h;cases h
  ·rw[if_neg h2]
theorem q5A{s:ByteArray}{pre k:Nat}{z0 z:IS}(hk:jc s pre z0 k=(0,z))(hm:z.md≠3):jc s pre z0 (k+1)=lF pre (eG s pre z):=by
 rw[lI (by rw[hk];exact fun h=>h.elim (fun h=>h rfl) hm),hk]
theorem q1z{s:ByteArray}{pre:Nat}{z:IS}(h:z.md=2):eG s pre z=oT (qH s) (8*s.size) z (j9 z.li (qH s/2^z.p) (8*s.size-z.p)):=by
 unfold eG stI;rw[if_neg (by rw[h];decide),if_neg (by rw[h];decide),if_pos h]
 rfl
theorem q72{w:World}{B gk gr pre k:Nat}{vb v1 v2:Value}{s:ByteArray}{z0 z:IS}{fb:Bool}{kd sz:Nat}(h:dB w B gk gr vb s z.p z.h pre)(hk:jc s pre z0 k=(0,z))(hi:IOk (8*s.size) pre z0)(hmd:z.md=2)(hp2:pre<=32768)(hs:s.size<=4294967296)
  (hD1:∀W,Fx (mO gk gr vb) w W->qT W v1 (nls z.li)) (hD2:∀W,Fx (mO gk gr vb) w W->qT W v2 (nls z.di)):
  Calls Tryz.prog 89 #[.pointer (some ⟨gk,0,none⟩),.agg #[.bool fb,.int .i64 kd,.int .i64 sz,v1,v2]] w (kL B gk gr vb s pre z0 z w):=by
 obtain⟨o1,c1,b1,f1,hv1,-,-⟩:=(hD1 w (Fx.refl _ _)).open;obtain⟨o2,c2,b2,f2,hv2,-,-⟩:=(hD2 w (Fx.refl _ _)).open;rw[hv1]at hD1⊢;rw[hv2]at hD2⊢;clear hv1 hv2;obtain⟨n1,hn1⟩:∃n1,n1=(nls z.li).length:=⟨_,rfl⟩;obtain⟨n2,hn2⟩:∃n2,n2=(nls z.di).length:=⟨_,rfl⟩;rw[<-hn1]at hD1⊢;rw[<-hn2]at hD2⊢;clear hn1 hn2;have HH:=q7 h;have HD1:=q7 hD1;have HD2:=q7 hD2;have HPL:=q7 hk;have HMD:=q7 hmd;have HI:=q7 hi;obtain⟨N,hN⟩:∃N,N=muI (8*s.size) z0+1:=⟨_,rfl⟩;have HN:=q7 hN;obtain⟨M,hM⟩:∃M:Nat,M=16777216:=⟨_,rfl⟩;have HMM:=q7 hM;have qgU:=h.lt;have HVL:=q7 (fun q e=>(h.own.lt q e).2)
 clear h hk hi hmd hD1 hD2 hN hM
 go_enter Tryz.func89,Tryz.ntmps89
 go_upto_region 1 with(fail)
 have HBA:=q7 (qn w (.cells #[.bool fb,.int .i64 kd,.int .i64 sz,.slice o1 n1 c1,.slice o2 n2 c2] 124));have g3:(w.alloc (.cells #[.bool fb,.int .i64 kd,.int .i64 sz,.slice o1 n1 c1,.slice o2 n2 c2] 124)).cell? ⟨w.heap.size,3,none⟩=some (.slice o1 n1 c1):=by rw[World.cell?_alloc_new];rfl
 have g4:(w.alloc (.cells #[.bool fb,.int .i64 kd,.int .i64 sz,.slice o1 n1 c1,.slice o2 n2 c2] 124)).cell? ⟨w.heap.size,4,none⟩=some (.slice o2 n2 c2):=by rw[World.cell?_alloc_new];rfl
 have hgz:w.heap.size<(w.alloc (.cells #[.bool fb,.int .i64 kd,.int .i64 sz,.slice o1 n1 c1,.slice o2 n2 c2] 124)).heap.size:=by simp
 generalize w.alloc (.cells #[.bool fb,.int .i64 kd,.int .i64 sz,.slice o1 n1 c1,.slice o2 n2 c2] 124)=w1 at*;have HG3:=q7 g3;have HG4:=q7 g4;have HGZ:=q7 hgz;have HH1:=q7 (HH.out.up HBA.out);obtain⟨gh,hgh⟩:∃gh,gh=w.heap.size:=⟨_,rfl⟩;rw[<-hgh]at HG3 HG4 HGZ⊢;have HGH:=q7 hgh
 have qaH:¬mO gk gr vb gh:=fun e=>by
  rcases e with e|e|e
  ·omega
  ·omega
  ·have:=HVL.out gh e;omega
 have qbe:=q7 qaH;clear g3 g4 hgz hgh qaH
 go_loopg [5,6] (N+1-k) (fun gq sv ev wr=>∃(kk:Nat) (y:IS) (vr:Value),jc s pre z0 kk=(0,y)/\y.md=2/\y.li=z.li/\y.di=z.di/\y.fin=z.fin/\y.st=z.st/\dB wr B gk gr vr s y.p y.h pre/\Fx (mO gk gr vb) w1 wr/\(∀q,vr.ownBlock=some q->vb.ownBlock=some q\/w1.heap.size<=q)/\gq=N+1-kk)
 case atStart=>exact⟨k,z,vb,HPL.out,HMD.out,rfl,rfl,rfl,rfl,HH1.out,Fx.refl _ _,fun _ e=>.inl e,rfl⟩
 case round=>
  obtain⟨kk,y,vr,hky,hym,hyl,hyd,hyf,hys,hwk,hfx,hov,rfl⟩:=hrel;have hkp:=(cF HI.out kk);rw[hky]at hkp;obtain⟨⟨hpre,q90⟩,hkp⟩:=hkp;obtain⟨hio,hmu⟩:=hkp rfl;simp only at hpre q90 hio hmu
  have hkN:kk<N:=by
   have:=hmu.resolve_left (fun e=>e.elim (fun e=>e rfl) (fun e=>by rw[hym]at e;cases e))
   have:=HN.out;omega
  have HKY:=q7 hky;have HYM:=q7 hym;have HYY:Hid (y.li=z.li/\y.di=z.di/\y.fin=z.fin/\y.st=z.st):=q7 ⟨hyl,hyd,hyf,hys⟩;have HIO:=q7 hio;have q9M:=q7 hpre;have qbn:=q7 q90;have HW:=q7 hwk;have HFX:=q7 hfx;have HOV:=q7 hov;have hyp:=hio.p;have HYP:=q7 hyp;have hel:bE (nls y.li)=0:=hio.li.resolve_right (fun e=>e hym)
  have hed:bE (nls y.di)=0:=hio.di.resolve_right (fun e=>e hym)
  have HED:=q7 hed;obtain⟨l1,l2,l3⟩:=B9 hel;have hcr:Fx (mO gk gr vb) w wr:=(qP HBA.out).trans hfx;have HCR:=q7 hcr;have qgy:∀q,vr.ownBlock=some q->vb.ownBlock=some q\/w.heap.size<=q:=fun q e=>(hov q e).imp id (fun h=>qa HBA.out.size h)
  have qbd:=q7 qgy
  have e3:wr.cell? ⟨gh,3,none⟩=some (.slice o1 n1 c1):=by
   have e:=hfx.block gh HGZ.out qbe.out;have e2:=HG3.out;unfold World.cell? at e2⊢;rw[e];exact e2
  have e4:wr.cell? ⟨gh,4,none⟩=some (.slice o2 n2 c2):=by
   have e:=hfx.block gh HGZ.out qbe.out;have e2:=HG4.out;unfold World.cell? at e2⊢;rw[e];exact e2
  have hgl:gh<wr.heap.size:=qd HGZ.out hfx.size;have HGL:=q7 hgl;have hi1:qT wr (.slice o1 n1 c1) (nls y.li):=by rw[hyl];exact HD1.out wr hcr
  have HRD:=q7 (q0b (.slice o1 n1 c1) y.li (hi1.up (qC wr 1)) (qj _ _) (hwk.rd.up (qC wr 1)) l1 l2 l3 hs hyp);rw[<-World.drew_is_drewN]at HRD;unfold eY at HRD;have c0:wr.cell? ⟨gk,0,none⟩=some (.pointer (some ⟨gr,0,none⟩)):=hwk.box.cell (by simp)
  have hg:=hwk.lt.1;have hne:some gk≠some gr:=fun e=>hwk.n1 (by injection e)
  have q9q:some gh≠some gr:=fun e=>qbe.out (.inr (.inl (by injection e)))
  clear hky hym hyl hyd hyf hys hwk hfx hov hpre q90 hio hmu hkp hcr qgy hel hed hi1
  go_wp2_with(fail)
  refine jZ (fun w'=>∃x,w'=chg wr (some gr) x) [([0,1,2,3,4,5],[6]),([7,8,9,10,11],[])] (by kernel_rfl) (by kernel_rfl) (qW (qV _ _)) ?_
  (unfold j6;simp only[pk])
  repeat(go_big_quiet_step (fail))
  refine wpQuiet_nil ?_;unfold qy
  go_wp2_with(fail)
  (with_reducible refine HRD.out.mono ?_)
  rintro e w3 ⟨a,er,d,rfl,hrn,hb3,hg3⟩;have HR3:=q7 hrn;have qfQ:=q7 (qp (qV wr (some gr)) hg3);have HW3:=q7 (HW.out.read hb3 qfQ.out).1;have HF3:=q7 (HW.out.read hb3 qfQ.out).2;clear hrn hb3 hg3;go_wp2;refine⟨qW qfQ.out,?_⟩;unfold qy
  (unfold j6;simp only[pk])
  repeat(go_big_quiet_step (fail))
  refine wpQuiet_nil ?_;unfold qy;unfold j6;intro hz;clear hz;obtain⟨ra,re,rd⟩:=mX HR3.out (dP y.li (qH s/2^y.p) (8*s.size-y.p));have hst:=q1z (pre:=pre) (s:=s) HYM.out;unfold oT at hst;rw[<-ra,<-re,<-rd]at hst;have HST:=q7 hst;have HRL:=q7 (rX HR3.out)
  have hra:a<100000:=by
   rcases HR3.out with⟨h1,-⟩|⟨-,h1,-⟩<;>omega
  have HP3:Hid (y.p+d<=8*s.size):=q7 (by have:=HRL.out;omega)
  have qc5:Hid (Fx (mO gk gr vb) w w3):=q7 (bH HCR.out qbd.out HF3.out);have qe8:Hid (Fx (mO gk gr vb) w1 w3):=q7 (bH HFX.out HOV.out HF3.out);clear ra re rd hst HR3 HRD c0 e3 hne q9q hg hgl
  by_cases her:er=0
  ·subst her
   rw[if_neg (fun h=>h rfl)]at HST
   by_cases q9Y:a=256
   ·rw[if_pos q9Y]at HST
    have hps:=J2 HMM.out HKY.out (by rw[HYM.out];decide) HST.out (by show¬M<y.h.length-pre;have:=qbn.out;have:=HMM.out;omega)
    have HPS:=q7 hps;subst q9Y;clear hps;go_wp2;go_ret;unfold kL
    exact⟨0,vr,y.p+d,kk+1,cE {y with p:=y.p+d},rfl,HW3.out,HPS.out,HP3.out,fun _=>⟨rfl,by show(if y.fin then 3 else 0)=_;rw[HYY.out.2.2.1],HYY.out.2.2.2⟩,qc5.out,qbd.out⟩
   ·rw[if_neg q9Y]at HST
    have qfh:((a:Int)==256)=false:=by simp;omega
    by_cases hgt:256<a
    ·rw[if_pos hgt]at HST
     have hna:¬(a:Int)<256:=by omega
     have hps:=q5A HKY.out (by rw[HYM.out];decide)
     rw[HST.out]at hps;have HCP:=q7 (q5z (v:=.slice o2 n2 c2) HW3.out HP3.out (fun W hf=>by rw[HYY.out.2.1];exact HD2.out W (bH qc5.out qbd.out hf)) HED.out q9M.out qbn.out hp2 hs hra)
     unfold tU at HCP;have qcQ:=A7 (N:=qH s) (T:=8*s.size) (s:=a) (p:=y.p+d) (z:=y);have qb5:=q1x (N:=qH s) (T:=8*s.size) (s:=a) (p:=y.p+d) (z:=y);have hz:=q1y (pre:=pre) (y:=iQ (qH s) (8*s.size) y a (y.p+d));generalize iQ (qH s) (8*s.size) y a (y.p+d)=C at*;generalize lF pre C=Y at*;obtain⟨e5,y5⟩:=Y;simp only at HCP hz;have HPS:=q7 hps;have HKP:=q7 qcQ;have qkD:=q7 qb5;have HZ:=q7 hz
     have qcM:¬mO gk gr vr gh:=fun e=>by
      rcases e with e|e|e
      ·exact qbe.out (.inl e)
      ·exact qbe.out (.inr (.inl e))
      ·rcases HOV.out gh e with q|q
       ·exact qbe.out (.inr (.inr q))
       ·have:=HGZ.out;omega
     have e43:w3.cell? ⟨gh,4,none⟩=some (.slice o2 n2 c2):=(HF3.out.cell HGL.out qcM).trans e4;have qlU:gh<w3.heap.size:=qd HGL.out HF3.out.size;clear hps qcQ qb5 hz e4 qcM
     by_cases he5:e5=0
     ·subst he5
      go_wp2_with((with_reducible go_at_call 136);(with_reducible refine HCP.out.mono ?_);rintro e w4 ⟨vb2,p5,rfl,hw4,hp5,hpe,hf4,ho4⟩;have HW4:=q7 hw4;have HPE:=q7 hpe;have qc2:=q7 (bH qe8.out HOV.out hf4);have HO4:=q7 (fU HOV.out qe8.out.size ho4);clear hw4 hp5 hpe hf4 ho4)
      go_roundg (N+1-(kk+1))
      case measure=>omega
      case rel=>
       have hC:=HZ.out (by trivial)
       have q5:=HPE.out (by trivial)
       obtain⟨k1,k2,k3⟩:=HKP.out;obtain⟨k4,k5⟩:=qkD.out;rw[<-hC]at k1 k2 k3 k4 k5;refine⟨kk+1,y5,vb2,HPS.out,k4.trans HYM.out,k2.trans HYY.out.1,k3.trans HYY.out.2.1,k5.trans HYY.out.2.2.1,k1.trans HYY.out.2.2.2,?_,qc2.out,HO4.out,rfl⟩;rw[<-q5];exact HW4.out
     ·have qmc:((e5:Int)==0)=false:=by simpa using he5
      go_wp2_with((with_reducible go_at_call 136);(with_reducible refine HCP.out.mono ?_);rintro e w4 ⟨vb2,p5,rfl,hw4,hp5,hpe,hf4,ho4⟩;have HW4:=q7 hw4;have HP5:=q7 hp5;have qc2:=q7 (bH qc5.out qbd.out hf4);have HO4:=q7 (fU qbd.out qc5.out.size ho4);clear hw4 hp5 hpe hf4 ho4)
      go_ret;unfold kL
      exact⟨e5,vb2,p5,kk+1,y5,rfl,HW4.out,HPS.out,HP5.out,fun e=>absurd e he5,qc2.out,HO4.out⟩
    ·rw[if_neg hgt]at HST
     have hla:(a:Int)<256:=by omega
     have ha8:a<256:=by omega
     have ham:(a:Int)%256=(a:Nat):=by omega
     have HPT:=q7 (q84 HW3.out q9M.out hp2 qbn.out a ha8);unfold B8 at HPT;rw[<-HMM.out]at HPT;clear hgt e4
     by_cases hrm:y.h.length-pre<M
     ·rw[decide_eq_true hrm,if_pos hrm]at HPT
      have hps:=J2 HMM.out HKY.out (by rw[HYM.out];decide) HST.out (by show¬M<(y.h++[UInt8.ofNat a]).length-pre;rw[qg,List.length_singleton];have:=q9M.out;omega)
      have HPS:=q7 hps;clear hps hrm
      go_wp2_with((with_reducible go_at_call 134);(try rw[ham]);(with_reducible refine HPT.out.mono ?_);rintro e w4 ⟨vb2,rfl,hw4,hf4,ho4⟩;have HW4:=q7 hw4;have qc2:=q7 (bH qe8.out HOV.out hf4);have HO4:=q7 (fU HOV.out qe8.out.size ho4);clear hw4 hf4 ho4)
      go_roundg (N+1-(kk+1))
      case measure=>omega
      case rel=>exact⟨kk+1,_,vb2,HPS.out,HYM.out,HYY.out.1,HYY.out.2.1,HYY.out.2.2.1,HYY.out.2.2.2,HW4.out,qc2.out,HO4.out,rfl⟩
     ·rw[decide_eq_false hrm,if_neg hrm]at HPT
      have hln:(y.h++[UInt8.ofNat a]).length=y.h.length+1:=by rw[qg,List.length_singleton]
      have hps:=q4c HMM.out HKY.out (by rw[HYM.out];decide) HST.out (by show M<(y.h++[UInt8.ofNat a]).length-pre;have:=q9M.out;omega)
      have htk:(y.h++[UInt8.ofNat a]).take (pre+M)=y.h:=by
       rw[List.take_append_of_le_length (by have:=q9M.out;have:=qbn.out;have:=HMM.out;omega),List.take_of_length_le (by have:=q9M.out;have:=qbn.out;have:=HMM.out;omega)]
      have HPS:=q7 hps;have HTK:=q7 htk;clear hps hrm hln htk
      go_wp2_with((with_reducible go_at_call 134);(try rw[ham]);(with_reducible refine HPT.out.mono ?_);rintro e w4 ⟨vb2,rfl,hw4,hf4,ho4⟩;have HW4:=q7 hw4;have qc2:=q7 (bH qc5.out qbd.out hf4);have HO4:=q7 (fU qbd.out qc5.out.size ho4);clear hw4 hf4 ho4)
      go_ret;unfold kL;refine⟨3,vb2,y.p+d,kk+1,_,rfl,?_,HPS.out,HP3.out,fun e=>absurd e (by decide),qc2.out,HO4.out⟩
      show dB _ _ _ _ _ _ _ ((y.h++[UInt8.ofNat a]).take (pre+M)) _
      rw[HTK.out];exact HW4.out
  ·rw[if_pos her]at HST
   have qh5:((er:Int)==0)=false:=by simpa using her
   have hps:=P9 HKY.out (by rw[HYM.out];decide) (by rw[HST.out]) her
   have HPS:=q7 hps;clear hps;go_wp2;go_ret;unfold kL
   exact⟨er,vr,y.p+d,kk+1,y,rfl,HW3.out,HPS.out,HP3.out,fun e=>absurd e her,qc5.out,qbd.out⟩
theorem xK{P:Program}{fn:Func}{tmps:Array Value}{w:World}{a t:Nat}{ad:Addr}{v:Value}(hf:fn.results=#[.cell a t])(ha:tmps.getD a undef=.pointer (some ad))(hl:(loadVar t ad).run P w=.ok v w):
  (results fn tmps).run P w=.ok v w:=by
 have ha':tmps[a]?.getD undef=.pointer (some ad):=by simpa using ha
 simp[results,hf,asAddr,ha',hl]
theorem q1A{P:Program}{fn:Func}{tmps:Array Value}{w:World}{ds:List Deferred}{s t:Nat}{ad:Addr}{x:Value}{R:Ending->World->Prop}(hf:fn.results=#[.cell s t])(ha:tmps.getD s undef=.pointer (some ad))(hd:ds=[])
  (hl:(loadVar t ad).run P w=.ok x w) (h:R (.returned x) w):bodyPost P fn R .ret ⟨tmps,ds⟩ w:=
 bodyPost_ret (v:=x) (xK hf ha hl) hd h
def xL(s:ByteArray)(t:qK)(p:Nat)(w:World)(e:Ending)(w':World):Prop:=
 ∃(c:ByteArray) (v:Value) (q:Nat),e=.returned (.agg #[.string c,v,.int .i64 q,.int .i64 (erI s t p:Nat)])/\Below w.heap.size w w'/\bys c=txI s t p/\(∃L,eK 2 w' w.heap.size 102 v L/\(erI s t p=0->L=(bgI s t p).map stC))/\(erI s t p=0->q=enI s t p)
theorem q3g{s:ByteArray}{t:qK}{p k e:Nat}{z:IS}(hp:p<=8*s.size)(hk:jc s (j8 t).length (eH t p) k=(e,z))(hs:e≠0\/z.md=3):erI s t p=e/\txI s t p=z.h.drop (j8 t).length/\enI s t p=z.p/\bgI s t p=z.st:=by
 have hf:lO s (j8 t).length (eH t p)=(e,z):=by
  rw[<-hk]
  exact vB (t8 s) (cA hp) (by
   show aK (jc s (j8 t).length (eH t p) k)
   rw[hk];exact hs)
 refine⟨?_,?_,?_,?_⟩
 ·unfold erI;rw[hf]
 ·unfold txI dL;rw[hf]
 ·unfold enI;rw[hf]
 ·unfold bgI;rw[hf]
theorem q8U(s t:ByteArray)(p:Nat)(hs:s.size<=4000000)(hp:p<=8*s.size)(ht:t.size<=50000000)(w:World):Calls Tryz.prog 43 #[.string s,.int .i64 p,.string t] w (xL s (bys t) p w):=by
 have HNW:=q7 (fun W=>q8C s p (by omega) hp W)
 have HS:Hid (s.size<=4294967296):=q7 (by omega)
 have HP:=q7 hp
 obtain⟨u,hu,hus⟩:∃u:ByteArray,bys u=j8 (bys t)/\(32768<t.size->∀W:World,(Instr.sliceAt 9 (.string t) (some (.int .i64 ((t.size:Int)-32768))) none none).run Tryz.prog W=.ok (.string u) W):=by
  by_cases h:32768<t.size
  ·obtain⟨u,h1,h2⟩:=vC t (t.size-32768) (by omega)
   refine⟨u,?_,fun _ W=>?_⟩
   ·rw[h1];unfold j8 kI;rw[qF]
   ·have:=h2 W
    rwa [show((t.size-32768:Nat):Int)=(t.size:Int)-32768 by omega]at this
  ·exact⟨t,(gT (by rw[qF];omega)).symm,fun e=>absurd e h⟩
 have HU:=q7 hu;have HUS:=q7 hus;have qgj:u.size<=32768:=by rw[<-qF,hu,nX];omega
 have huq:¬32768<t.size->u=t:=fun h=>fZ (by rw[hu];exact gT (by rw[qF];omega))
 clear hus
 have hcs:(decide ((t.size:Int)>32768)=true/\32768<t.size)\/(¬32768<t.size/\u=t):=by
  by_cases h:32768<t.size
  ·exact .inl ⟨decide_eq_true (by omega),h⟩
  ·exact .inr ⟨h,huq h⟩
 clear huq;obtain⟨tb,htb⟩:∃tb,tb=bys t:=⟨_,rfl⟩;rw[<-htb]at HU hu⊢;clear htb;have hul:=hu
 go_enter Tryz.func43,Tryz.ntmps43
 go_upto_if 22 with((with_reducible go_at_call 86);(with_reducible refine(HNW.out _).mono ?_);rintro e w1 ⟨gr,rfl,hr,hgr,hb⟩;have HR1:=q7 hr;have HGR:=q7 hgr;have HB1:=q7 hb;clear hr hgr hb)
 have HO6:Hid (Own w1 w.heap.size 93 (.slice (some ⟨w.heap.size,0,none⟩) 4 4) [.string ⟨#[]⟩,.slice none 0 0,.int .i64 0,.int .i64 0]):=q7 (by
  have h:=qE w w.heap.size #[.string ⟨#[]⟩,.slice none 0 0,.int .i64 0,.int .i64 0] 93 (by simp) (q9 _)
  exact h.up HB1.out)
 have HB2:Hid (Below w.heap.size w w1):=q7 ((qn w _).trans (HB1.out.mono (qn w _).size));have qdp:Hid (w.heap.size<gr):=q7 (by have:=HGR.out;simp at this;omega)
 have hw1:w.heap.size<w1.heap.size:=by have:=HR1.out.lt;have:=qdp.out;omega
 obtain⟨g6,hg6⟩:∃g6,g6=w.heap.size:=⟨_,rfl⟩;rw[<-hg6]at HO6 HB2 qdp hw1⊢;have HG6:=q7 hg6;clear HB1 HGR HNW hg6
 go_cut [2] (fun x2 wx=>x2=.string u/\wx=w1)
 case first=>
  rcases hcs with⟨hc1,hc2⟩|⟨hc1,hc2⟩
  ·have HSL:=q7 (HUS.out hc2)
   go_wp2_with((with_reducible show wpList _ _ _ (Oper.mk _ (.slice _ _ _ _ _) _ _ _ _::_) _ _);refine jQ rfl 9 (.tmp 23) (some (.tmp 26)) none none rfl _ (HSL.out _) ?_)
   go_meet
   case rel=>exact⟨rfl,rfl⟩
  ·have HC2:=q7 hc2
   clear hc2;go_wp2
   go_meet
   case rel=>exact⟨by rw[HC2.out],rfl⟩
 case rest=>
  obtain⟨rfl,hwc⟩:=hcut;subst hwc;clear hcs HUS
  go_upto_region 5 with(refine eF rfl 9 49 5 (.tmp 29) rfl Tryz.underlying9 Tryz.underlying49 Tryz.underlying5 u rfl (by omega) ?_;intro vb w2 hob hb2;obtain⟨ob,cb,bb,fb,hvb,-,-⟩:=hob.head;obtain⟨lb,hlb⟩:∃lb,lb=(qD (bys u)).length:=⟨_,rfl⟩;rw[<-hlb]at hvb;subst hvb;clear hlb;have HOB:=q7 hob;have HB3:=q7 hb2;clear hob hb2)
  have HBA:=q7 (qn w2 (.cells #[.pointer (some ⟨gr,0,none⟩),.slice ob lb cb,.int .i64 (u.size:Nat)] 152));have hbx:=qE w2 g6 #[.pointer (some ⟨gr,0,none⟩),.slice ob lb cb,.int .i64 (u.size:Nat)] 152 (by simp) (qa (Nat.le_of_lt hw1) HB3.out.size)
  have HBX:=q7 hbx;obtain⟨gk,hgk⟩:∃gk,gk=w2.heap.size:=⟨_,rfl⟩;have HGK:=q7 hgk;rw[<-hgk]at HBX⊢;generalize w2.alloc (.cells #[.pointer (some ⟨gr,0,none⟩),.slice ob lb cb,.int .i64 (u.size:Nat)] 152)=w3 at*;obtain⟨vb,hvb⟩:∃vb,vb=Value.slice ob lb cb:=⟨_,rfl⟩;rw[<-hvb]at HOB HBX;have hpu:u.size=(j8 tb).length:=by rw[<-qF,hul]
  have qjp:=HR1.out.lt;have qdG:=HOB.out.lt;have qjU:=HB3.out.size
  have HWK:Hid (dB w3 g6 gk gr vb s p (eH tb p).h (j8 tb).length):=q7 ⟨by rw[<-hpu];exact HBX.out,(HR1.out.up HB3.out).up HBA.out,by
   show lN w3 g6 _ vb (qD (j8 tb))
   rw[<-hul]
   exact(HOB.out.fx (qP (S:=fun _=>False) HBA.out) (fun _ _ e=>e)).mono (Nat.le_of_lt hw1),by omega,fun e=>by have:=qdG gk e;omega,fun e=>by have:=qdG gr e;omega,Nat.le_of_lt qdp.out⟩
  have HR6:=q7 ((HO6.out.up HB3.out).up HBA.out);have qgW:g6<=w2.heap.size:=by omega
  have HB5:Hid (Below g6 w w3):=q7 ((HB2.out.trans (HB3.out.mono (Nat.le_of_lt hw1))).trans (HBA.out.mono qgW));have HGG:Hid (g6<gr/\g6<gk/\g6<w3.heap.size):=q7 ⟨qdp.out,by omega,by have:=HBA.out.size;omega⟩
  have qkd:Hid (vb.ownBlock≠some g6):=q7 (fun e=>by have:=qdG g6 e;omega)
  have HPU:=q7 hpu;have HI0:Hid (IOk (8*s.size) (j8 tb).length (eH tb p)):=q7 (cA hp);have HFN:=q7 (fun k e z h1 h2=>@q3g s tb p k e z hp h1 h2)
  have qbv:(j8 tb).length<=32768:=by rw[<-hpu];exact qgj
  have HZ0:Hid (jc s (j8 tb).length (eH tb p) 0=(0,eH tb p)):=q7 (gV _ _ _);have HZP:Hid ((eH tb p).p=p/\(eH tb p).md=0/\(eH tb p).st=[]):=q7 ⟨rfl,rfl,rfl⟩;obtain⟨pre,hpre⟩:∃pre,pre=(j8 tb).length:=⟨_,rfl⟩;rw[<-hpre]at HWK HI0 HFN qbv HZ0 HPU;generalize eH tb p=z0 at*;obtain⟨N,hN⟩:∃N,N=muI (8*s.size) z0:=⟨_,rfl⟩;have HN:=q7 hN;clear hbx hvb hpu qjp qdG qjU qgW HB3 HB2 HO6 HOB HBX HR1 hgk hN hpre qdp HBA hu hul HU qgj hw1;go_wp2
  go_loopg [10,11,12,13] (N+1) (fun gq sv av hv ev wr=>∃(kk:Nat) (y:IS) (vr:Value),jc s pre z0 kk=(0,y)/\y.md=0/\dB wr g6 gk gr vr s y.p y.h pre/\eK 2 wr g6 102 sv (y.st.map stC)/\
   (∀q,sv.ownBlock=some q->q≠gk/\q≠gr/\q≠g6/\vr.ownBlock≠some q)/\vr.ownBlock≠some g6/\Own wr g6 93 (.slice (some ⟨g6,0,none⟩) 4 4) [.string ⟨#[]⟩,.slice none 0 0,.int .i64 0,.int .i64 0]/\Below g6 w wr/\gq=N+1-y.st.length)
  case atStart=>
   refine⟨0,z0,vb,HZ0.out,HZP.out.2.1,by rw[HZP.out.1];exact HWK.out,?_,fun q e=>(by cases e),qkd.out,HR6.out,HB5.out,by rw[HZP.out.2.2];rfl⟩
   rw[HZP.out.2.2]
   exact eK.nil _ _ _ _
  case round=>
   obtain⟨kk,y,vr,hky,hym,hwk,qgl,qgm,hv6,hr6,hbw,rfl⟩:=hrel;have hkp:=(cF HI0.out kk);rw[hky]at hkp;obtain⟨⟨hpre,q90⟩,hkp⟩:=hkp;obtain⟨hio,hmu⟩:=hkp rfl;simp only at hpre q90 hio hmu
   have hkN:kk<=N:=by
    have:=hmu.resolve_left (fun e=>e.elim (fun e=>e rfl) (fun e=>by rw[hym]at e;cases e))
    have:=HN.out;omega
   have qdB:y.st.length<=N:=by
    have h:=nZ (s:=s) (pre:=pre) (z0:=z0) HZP.out.2.2 kk;rw[hky]at h
    exact qa h hkN
   have hyp:=hio.p;have HKY:=q7 hky;have HYM:=q7 hym;have HIO:=q7 hio;have q9M:=q7 hpre;have qbn:=q7 q90;have HW:=q7 hwk;have qfn:=q7 qgl;have qaS:=q7 qgm;have HV6:=q7 hv6;have qhD:=q7 hr6;have HBW:=q7 hbw;have HYP:=q7 hyp;have qki:=q7 qdB;have HRH:=q7 (q6l hwk.rd HS.out hyp);unfold oQ at HRH;obtain⟨HF,hHF⟩:∃HF,HF=jk (qH s) (8*s.size) y.p:=⟨_,rfl⟩;rw[<-hHF]at HRH;have HHF:=q7 hHF;obtain⟨hd,er,p4⟩:=HF;obtain⟨fb,kd,sz,ll,dd⟩:=hd;simp only at HRH;clear hHF;have c1:wr.cell? ⟨gr,1,none⟩=some (.int .i64 (y.p:Nat)):=hwk.rd.c1;have hgl:=hwk.lt.2.1;clear hky hym hwk qgl qgm hv6 hr6 hbw hio hmu hkp hyp hkN
   go_upto_region 8 with((with_reducible go_at_call 87);(with_reducible refine HRH.out.mono ?_);rintro e w4 ⟨v1,v2,rfl,ho1,ho2,hbx,hgr⟩;obtain⟨o1,k1,q1,hv1,-⟩:=ho1.cases;obtain⟨n1,hn1⟩:∃n1,n1=(ints (nls ll)).length:=⟨_,rfl⟩;rw[<-hn1]at hv1;subst hv1;clear hn1;obtain⟨o2,k2,q2,hv2,-⟩:=ho2.cases;obtain⟨n2,hn2⟩:∃n2,n2=(ints (nls dd)).length:=⟨_,rfl⟩;rw[<-hn2]at hv2;subst hv2;clear hn2;have HO1:=q7 ho1;have HO2:=q7 ho2;have HW4:=q7 (HW.out.read hbx hgr).1;have HF4:=q7 (HW.out.read hbx hgr).2;clear ho1 ho2 hbx hgr)
   have qc9:=q7 (qn w4 (.cells #[.bool fb,.int .i64 (kd:Nat),.int .i64 (sz:Nat),.slice o1 n1 k1,.slice o2 n2 k2] 124));have HG5:Hid ((w4.alloc (.cells #[.bool fb,.int .i64 (kd:Nat),.int .i64 (sz:Nat),.slice o1 n1 k1,.slice o2 n2 k2] 124)).heap[w4.heap.size]? =some (.cells #[.bool fb,.int .i64 (kd:Nat),.int .i64 (sz:Nat),.slice o1 n1 k1,.slice o2 n2 k2] 124 (0,0))):=q7 (heap_alloc_new w4 _);have qeK:w4.heap.size<(w4.alloc (.cells #[.bool fb,.int .i64 (kd:Nat),.int .i64 (sz:Nat),.slice o1 n1 k1,.slice o2 n2 k2] 124)).heap.size:=by simp
   have h4s:=HF4.out.size;have hwl:=HW.out.lt;have HGH:Hid (∀q,q<=gk\/q<=gr\/q<=g6\/q<wr.heap.size->q≠w4.heap.size):=q7 (fun q e=>by have:=HGG.out;omega)
   have qi8:=q7 h4s;have HWL:=q7 hwl;generalize w4.alloc (.cells #[.bool fb,.int .i64 (kd:Nat),.int .i64 (sz:Nat),.slice o1 n1 k1,.slice o2 n2 k2] 124)=w5 at*;have HW5:=q7 (HW4.out.up qc9.out)
   have qaR:=q7 ((qfn.out.fx HF4.out (fun q e z=>by
    obtain⟨x1,x2,x3,x4⟩:=qaS.out q e
    rcases z with z|z|z
    ·exact x1 z
    ·exact x2 z
    ·exact x4 z)).up qc9.out)
   have qdV:=q7 ((HF4.out.own qhD.out (fun q e z=>by
    have e:q=g6:=by injection e with e;exact e.symm
    have:=HGG.out
    rcases z with z|z|z
    ·omega
    ·omega
    ·exact HV6.out (by rw[<-e];exact z))).up qc9.out)
   have qbU:=q7 (HO1.out.up qc9.out);have qdZ:=q7 (HO2.out.up qc9.out);have HVG:Hid (∀q,vr.ownBlock=some q->g6<=q/\q<wr.heap.size):=q7 (fun q e=>HW.out.own.lt q e)
   have HSG:Hid (∀q,u10.ownBlock=some q->g6<=q/\q<wr.heap.size):=q7 (fun q e=>qfn.out.lt q e)
   have qeg:Hid (Below g6 w w5):=q7 ((KFx.below HF4.out HBW.out hwl.2.2.2 (Nat.le_of_lt HGG.out.2.1) (Nat.le_of_lt HGG.out.1) (fun q e=>(HVG.out q e).1)).trans (qc9.out.mono (qa hwl.2.2.2 h4s)))
   obtain⟨gh,hgh⟩:∃gh,gh=w4.heap.size:=⟨_,rfl⟩;rw[<-hgh]at HG5 qeK HGH qi8⊢;have qi7:=q7 qeK;clear hgh h4s hwl qeK HO1 HO2 HW4 qfn qhD HBW qc9 HF4 c1 hgl
   go_upto_if 45 with(fail)
   go_cut [10,13] (fun sv ev wx=>∃(Lz:List (List Value)) (ez:Nat) (vz:Value) (pz:Nat) (Hz:qK),ev=.int .i64 (ez:Nat)/\dB wx g6 gk gr vz s pz Hz pre/\eK 2 wx g6 102 sv Lz/\
    (∀q,sv.ownBlock=some q->q≠gk/\q≠gr/\q≠g6/\vz.ownBlock≠some q)/\vz.ownBlock≠some g6/\Own wx g6 93 (.slice (some ⟨g6,0,none⟩) 4 4) [.string ⟨#[]⟩,.slice none 0 0,.int .i64 0,.int .i64 0]/\Below g6 w wx/\
    wx.heap[gh]? =some (.cells #[.bool fb,.int .i64 (kd:Nat),.int .i64 (sz:Nat),.slice o1 n1 k1,.slice o2 n2 k2] 124 (0,0))/\pre<=Hz.length/\
    (∃(kz:Nat) (zz:IS),jc s pre z0 kz=(ez,zz)/\Hz=zz.h/\pz<=8*s.size/\(ez=0->pz=zz.p/\Lz=zz.st.map stC/\zz.md=(if fb then 3 else 0)/\y.st.length<zz.st.length)))
   case first=>
    by_cases her:er=0
    ·subst her
     obtain⟨z1,hz1⟩:∃z1:IS,z1=⟨if kd=0 then 1 else 2,fb,sz,ll,dd,p4,y.h,y.st++[(y.p,y.h.length-pre)]⟩:=⟨_,rfl⟩
     have hst:eG s pre y=(0,z1):=by
      unfold eG stI;rw[if_pos HYM.out];unfold iR;rw[<-HHF.out];rw[if_neg (fun h=>h rfl),hz1]
     have hps:=J2 (M:=16777216) rfl HKY.out (by rw[HYM.out];decide) hst (by rw[hz1];show¬16777216<y.h.length-pre;have:=qbn.out;omega)
     have HPS:=q7 hps
     have qgQ:IOk (8*s.size) pre z1:=by
      have h:=(cF HI0.out (kk+1)).2;rw[hps]at h
      exact(h rfl).1
     have qkH:=q7 qgQ;have HZ1:=q7 hz1;obtain⟨xo,xc,xb,xf,hxv,hxd,-⟩:=HW5.out.own.head;rw[qz]at hxv;obtain⟨LL,hLL⟩:∃LL,LL=y.h.length:=⟨_,rfl⟩;rw[<-hLL]at hxv;have c1:w5.cell? ⟨gk,1,none⟩=some (.slice xo LL xc):=by rw[<-hxv];exact HW5.out.box.cell (by simp)
     have c2:w5.cell? ⟨gk,2,none⟩=some (.int .i64 (pre:Nat)):=HW5.out.box.cell (by simp)
     have qjt:=HW5.out.lt.1;obtain⟨D,hD⟩:∃D,D=y.h.length-pre:=⟨_,rfl⟩;have q9j:((LL:Nat):Int)-(pre:Nat)=(D:Nat):=by have:=q9M.out;omega
     have hLb:LL<=40000000:=by have:=qbn.out;have:=q9M.out;omega
     have hpb:pre<=LL:=by have:=q9M.out;omega
     have hD2:=q7 hD;have hXV:=q7 hxv;have HTK:Hid ((y.st++[(y.p,D)]).map stC=y.st.map stC++[[.int .i64 (y.p:Nat),.int .i64 (D:Nat)]]):=q7 (by rw[List.map_append];rfl)
     obtain⟨row,hrw⟩:∃row,row=u10.ownBlock:=⟨_,rfl⟩;have q97:=q7 hrw;have hne:some gk≠row:=fun e=>(qaS.out gk (by rw[<-hrw,<-e])).1 rfl
     have hw0:g6<=w5.drew.heap.size:=qa HW5.out.lt.2.2.2 (q9 _);have HT4:Hid (g6<=(w5.drew.alloc (.cells #[.int .i64 (y.p:Nat),.int .i64 (D:Nat)] 102)).heap.size):=q7 (qa hw0 (qn w5.drew _).size);have HTO:=q7 ((qaR.out.up (qS (qj _ _))).up (qn w5.drew (.cells #[.int .i64 (y.p:Nat),.int .i64 (D:Nat)] 102)));have hsl:=iY 2 w5.drew #[.int .i64 (y.p:Nat),.int .i64 (D:Nat)] 102 [[.int .i64 (y.p:Nat),.int .i64 (D:Nat)]] rfl (by intro x hx;simp at hx;subst hx;rfl) (by simp)
     have HSL:Hid (SlK 2 (w5.drew.alloc (.cells #[.int .i64 (y.p:Nat),.int .i64 (D:Nat)] 102)) (.slice (some ⟨w5.heap.size,0,none⟩) 1 1) [[.int .i64 (y.p:Nat),.int .i64 (D:Nat)]]):=q7 (by simpa using hsl)
     have HK5:Hid (∀x∈[[Value.int .i64 (y.p:Nat),.int .i64 (D:Nat)]],x.length=2):=q7 (by intro x hx;simp at hx;subst hx;rfl)
     have H1C:Hid (∀x∈[[Value.int .i64 (y.p:Nat),.int .i64 (D:Nat)]].flatten,x.oneCell'=true):=q7 (by intro x hx;simp at hx;rcases hx with rfl|rfl<;>rfl)
     have HLN:Hid ((y.st.map stC).length+[[Value.int .i64 (y.p:Nat),.int .i64 (D:Nat)]].length<=1000000000):=q7 (by
      rw[List.length_map,List.length_singleton];have:=qki.out;have h:=q1r (T:=8*s.size) z0;have:=HN.out;omega)
     clear hz1 hst hps qgQ hxv hxd hLL hD hrw hsl
     go_upto_region 9 with(fail)
     refine jw (fun w'=>∃x,w'=chg w5 row x) [0,1,2,3,4,5,6,7,8,9,10,11,12] [13,14] [15] (by kernel_rfl) (by kernel_rfl) (qW (qV _ _)) ?_
     simp only[pk]
     repeat(go_big_quiet_step (fail))
     refine wpQuiet_nil ?_
     (unfold qy;go_wp2;refine⟨qW (qv (by repeat(first|exact qj _ _|assumption|refine qw ?_ _|refine qk ?_|refine qA ?_ _|refine qs ?_ _)) _),?_⟩)
     unfold qy
     go_wp2_with(at_builtin;refine lY 2 rfl (.tmp 46) (.tmp 59) 51 rfl g6 102 (.agg #[.int .i64 0,.int .i64 0]) 16 Tryz.underlying51 (by kernel_rfl) rfl (by decide) (by decide) u10 _ rfl HTO.out _ _ rfl HSL.out HK5.out H1C.out HLN.out HT4.out ?_;intro v6 w6 hown1 hg1 hk1;rw[<-q97.out]at hg1;have HO6:=q7 hown1;have qfO:=q7 hg1;have HK6:=q7 hk1;clear hown1 hg1 hk1)
     refine⟨qW (qp (qv (by repeat(first|exact qj _ _|assumption|refine qw ?_ _|refine qk ?_|refine qA ?_ _|refine qs ?_ _)) _) qfO.out),?_⟩
     unfold qy;unfold qy;go_wp2;refine⟨trivial,?_⟩;unfold qy;have hBl:Below w5.heap.size w5 (w5.drew.alloc (.cells #[.int .i64 (y.p:Nat),.int .i64 (D:Nat)] 102)):=(by repeat(first|exact qj _ _|assumption|refine qw ?_ _|refine qk ?_|refine qA ?_ _|refine qs ?_ _))
     have hF6:Fx (fun q=>row=some q) w5 w6:=(qP hBl).trans (jn qfO.out (fun q e=>e))
     have HF6:=q7 hF6;have hrk:row≠some gk:=fun e=>(qaS.out gk (by rw[<-q97.out];exact e)).1 rfl
     have hrr:row≠some gr:=fun e=>(qaS.out gr (by rw[<-q97.out];exact e)).2.1 rfl
     have qgt:row≠some g6:=fun e=>(qaS.out g6 (by rw[<-q97.out];exact e)).2.2.1 rfl
     have hrv:∀q,vr.ownBlock=some q->row≠some q:=fun q e1 e=>(qaS.out q (by rw[<-q97.out];exact e)).2.2.2 e1
     have hrl:∀q,row=some q->q<wr.heap.size:=fun q e=>(HSG.out q (by rw[<-q97.out];exact e)).2
     have qdy:wr.heap.size<=gh/\gh<w5.heap.size:=⟨qi8.out,qi7.out⟩;have hrh:row≠some gh:=fun e=>by have:=hrl gh e;omega
     have qkc:=q7 qdy
     have HW6:=q7 (show dB w6 g6 gk gr vr s p4 y.h pre from⟨hF6.own HW5.out.box (fun q e z=>by
       have e:gk=q:=by injection e
       exact hrk (by rw[e];exact z)),⟨hF6.own HW5.out.rd.own (fun q e z=>by
       have e:gr=q:=by injection e
       exact hrr (by rw[e];exact z))⟩,HW5.out.own.fx hF6 (fun q e z=>hrv q e z),HW5.out.n1,HW5.out.b1,HW5.out.b2,HW5.out.Br⟩)
     have qgo:w5.heap.size<=(w5.drew.alloc (.cells #[.int .i64 (y.p:Nat),.int .i64 (D:Nat)] 102)).heap.size:=hBl.size
     have qdc:Hid (∀q,v6.ownBlock=some q->q≠gk/\q≠gr/\q≠g6/\vr.ownBlock≠some q):=q7 (fun q e=>by
      rcases HK6.out q e with z|z
      ·exact qaS.out q z
      ·have l5:=HW5.out.lt
       have l6:=HGG.out;have l7:w5.heap.size<=q:=qa qgo z;have l8:=qdy.2
       exact⟨by omega,by omega,by omega,fun x=>by have:=HVG.out q x;omega⟩)
     have qkp:=q7 (hF6.own qdV.out (fun q e z=>by
      have e:g6=q:=by injection e
      exact qgt (by rw[e];exact z)))
     have qe5:=q7 ((hF6.block gh qdy.2 hrh).trans HG5.out);have ql6:Hid (Below g6 w w6):=q7 (Fx.below hF6 qeg.out HW5.out.lt.2.2.2 (fun q e=>(HSG.out q (by rw[<-q97.out];exact e)).1))
     have qhK:=q7 (hF6.own qbU.out (fun q e z=>by have:=(qbU.out.lt q e).1;have:=hrl q z;omega))
     have qhJ:=q7 (hF6.own qdZ.out (fun q e z=>by have:=(qdZ.out.lt q e).1;have:=hrl q z;omega))
     have qhy:Hid (eK 2 w6 g6 102 v6 ((y.st++[(y.p,D)]).map stC)):=q7 (by rw[HTK.out];exact HO6.out)
     clear hBl hF6 hrk hrr qgt hrv hrl hrh qgo HW5 qaR qdV HG5 qeg qbU qdZ HO6 HTO HSL HK5 H1C HLN HT4 hne hw0 c1 c2 qjt qfO qdy;have kc1:w6.cell? ⟨gh,1,none⟩=some (.int .i64 (kd:Nat)):=cell_of_row _ _ 1 _ _ _ qe5.out;have kc2:w6.cell? ⟨gh,2,none⟩=some (.int .i64 (sz:Nat)):=cell_of_row _ _ 2 _ _ _ qe5.out;have qjv:gh<w6.heap.size:=qd qkc.out.2 HF6.out.size;have qg9:z1.p=p4:=by rw[HZ1.out]
     have qgb:z1.h=y.h:=by rw[HZ1.out]
     have qga:z1.left=sz:=by rw[HZ1.out]
     have HZF:Hid (z1.fin=fb/\z1.st=y.st++[(y.p,y.h.length-pre)]/\z1.li=ll/\z1.di=dd):=q7 ⟨by rw[HZ1.out],by rw[HZ1.out],by rw[HZ1.out],by rw[HZ1.out]⟩
     have HWZ:Hid (dB w6 g6 gk gr vr s z1.p z1.h pre):=q7 (by rw[qg9,qgb];exact HW6.out)
     have HZL:=q7 qga;clear qg9 qgb qga
     have hnk:∀q,v6.ownBlock=some q->¬mO gk gr vr q:=fun q e z=>by
      obtain⟨x1,x2,x3,x4⟩:=qdc.out q e
      rcases z with z|z|z
      ·exact x1 z
      ·exact x2 z
      ·exact x4 z
     have hn6:¬mO gk gr vr g6:=fun z=>by
      have:=HGG.out
      rcases z with z|z|z
      ·omega
      ·omega
      ·exact HV6.out z
     have hnh:¬mO gk gr vr gh:=fun z=>by
      rcases z with z|z|z
      ·exact HGH.out gk (.inl (q9 _)) z.symm
      ·exact HGH.out gr (.inr (.inl (q9 _))) z.symm
      ·exact HGH.out gh (.inr (.inr (.inr (HVG.out gh z).2))) rfl
     have qia:Hid (∀(w7:World) (ez:Nat) (vz:Value) (pz kz:Nat) (zz:IS),dB w7 g6 gk gr vz s pz zz.h pre->jc s pre z0 kz=(ez,zz)->pz<=8*s.size->(ez=0->pz=zz.p/\zz.md=(if z1.fin then 3 else 0)/\zz.st=z1.st)->Fx (mO gk gr vr) w6 w7->(∀q,vz.ownBlock=some q->vr.ownBlock=some q\/w6.heap.size<=q)->
       ∃(Lz:List (List Value)) (ez':Nat) (vz':Value) (pz':Nat) (Hz:qK),Value.int .i64 (ez:Nat)=.int .i64 (ez':Nat)/\dB w7 g6 gk gr vz' s pz' Hz pre/\eK 2 w7 g6 102 v6 Lz/\
        (∀q,v6.ownBlock=some q->q≠gk/\q≠gr/\q≠g6/\vz'.ownBlock≠some q)/\vz'.ownBlock≠some g6/\Own w7 g6 93 (.slice (some ⟨g6,0,none⟩) 4 4) [.string ⟨#[]⟩,.slice none 0 0,.int .i64 0,.int .i64 0]/\Below g6 w w7/\
        w7.heap[gh]? =some (.cells #[.bool fb,.int .i64 (kd:Nat),.int .i64 (sz:Nat),.slice o1 n1 k1,.slice o2 n2 k2] 124 (0,0))/\pre<=Hz.length/\
        (∃(kz:Nat) (zz:IS),jc s pre z0 kz=(ez',zz)/\Hz=zz.h/\pz'<=8*s.size/\(ez'=0->pz'=zz.p/\Lz=zz.st.map stC/\zz.md=(if fb then 3 else 0)/\y.st.length<zz.st.length))):=q7 (fun w7 ez vz pz kz zz hw hp hpl he hf ho=>by
      have hl6:=qhy.out.lt;refine⟨_,ez,vz,pz,zz.h,rfl,hw,qhy.out.fx hf hnk,fun q e=>?_,fun e=>?_,hf.own qkp.out (fun q e=>?_),KFx.below hf ql6.out HWZ.out.lt.2.2.2 (Nat.le_of_lt HGG.out.2.1) (Nat.le_of_lt HGG.out.1) (fun q e=>(HVG.out q e).1),(hf.block gh qjv hnh).trans qe5.out,?_,kz,zz,hp,rfl,hpl,fun e=>?_⟩
      ·obtain⟨x1,x2,x3,x4⟩:=qdc.out q e
       refine⟨x1,x2,x3,fun x=>?_⟩
       rcases ho q x with x|x
       ·exact x4 x
       ·have:=(hl6 q e).2;omega
      ·rcases ho g6 e with x|x
       ·exact HV6.out x
       ·have:=HWZ.out.lt;have:=HGG.out;omega
      ·have e:g6=q:=by injection e
       rw[<-e];exact hn6
      ·have h:=(cF HI0.out kz).1.1
       rw[hp]at h;exact h
      ·obtain⟨a1,a2,a3⟩:=he e
       rw[HZF.out.1]at a2;rw[HZF.out.2.1]at a3;refine⟨a1,?_,a2,?_⟩
       ·rw[a3,hD2.out]
       ·rw[a3,qg,List.length_singleton];omega)
     have hO1:∀W,Fx (mO gk gr vr) w6 W->qT W (.slice o1 n1 k1) (nls z1.li):=fun W hf=>by
      rw[HZF.out.2.2.1]
      exact(hf.own qhK.out (fun q e z=>by
       have h1:=(qhK.out.lt q e).1;have h2:=HWL.out
       rcases z with z|z|z
       ·omega
       ·omega
       ·have:=HVG.out q z;omega)).sl
     have hO2:∀W,Fx (mO gk gr vr) w6 W->qT W (.slice o2 n2 k2) (nls z1.di):=fun W hf=>by
      rw[HZF.out.2.2.2]
      exact(hf.own qhJ.out (fun q e z=>by
       have h1:=(qhJ.out.lt q e).1;have h2:=HWL.out
       rcases z with z|z|z
       ·omega
       ·omega
       ·have:=HVG.out q z;omega)).sl
     clear hnk hn6 hnh
     by_cases hkd:kd=0
     ·have HSK:=q7 (q5y HWZ.out HPS.out qkH.out (by rw[HZ1.out,hkd];rfl) qbv HS.out)
      rw[HZL.out]at HSK;unfold kL at HSK;clear hO1 hO2;subst hkd
      go_wp2_with((with_reducible go_at_call 88);(with_reducible refine HSK.out.mono ?_);rintro e w7 ⟨ez,vz,pz,kz,zz,rfl,hwz,hpz,hpl,hez,hfz,hoz⟩;have qft:=q7 (qia.out w7 ez vz pz kz zz hwz hpz hpl hez hfz hoz);clear hwz hpz hpl hez hfz hoz)
      go_meet
      case rel=>exact qft.out
     ·have HCK:=q7 (q72 (v1:=.slice o1 n1 k1) (v2:=.slice o2 n2 k2) (fb:=fb) (kd:=kd) (sz:=sz) HWZ.out HPS.out HI0.out (by rw[HZ1.out];show(if kd=0 then 1 else 2)=2;rw[if_neg hkd]) qbv HS.out hO1 hO2)
      unfold kL at HCK;have qlH:((kd:Int)==0)=false:=by simpa using hkd
      clear hO1 hO2
      go_wp2_with(first
       |(refine qI rfl 124 5 _ rfl gh rfl _ rfl qe5.out _ Tryz.underlying124 rfl (by kernel_rfl) ?_)
       |((with_reducible go_at_call 89);(with_reducible refine HCK.out.mono ?_);rintro e w7 ⟨ez,vz,pz,kz,zz,rfl,hwz,hpz,hpl,hez,hfz,hoz⟩;have qft:=q7 (qia.out w7 ez vz pz kz zz hwz hpz hpl hez hfz hoz);clear hwz hpz hpl hez hfz hoz))
      go_meet
      case rel=>exact qft.out
    ·have hst:eG s pre y=(er,y):=by
      unfold eG stI;rw[if_pos HYM.out];unfold iR;rw[<-HHF.out];rw[if_pos her]
     have hps:=P9 HKY.out (by rw[HYM.out];decide) (by rw[hst]) her
     have hp4:p4<=8*s.size:=by
      have h:=yZ (N:=qH s) (T:=8*s.size) (p:=y.p) (by rw[<-HHF.out];exact her)
      rw[<-HHF.out]at h;have h':p4=y.p:=h;rw[h'];exact HYP.out
     have qh5:((er:Int)==0)=false:=by simpa using her
     have HPS:=q7 hps;have HP4:=q7 hp4;clear hst hps hp4;go_wp2
     go_meet
     case rel=>exact⟨_,er,vr,p4,y.h,rfl,HW5.out,qaR.out,qaS.out,HV6.out,qdV.out,qeg.out,HG5.out,q9M.out,kk+1,y,HPS.out,rfl,HP4.out,fun e=>absurd e her⟩
   case rest=>
    obtain⟨Lz,ez,vz,pz,Hz,hev,hwz,hsz,qcI,qgi,qgs,hbz,hgz,qcL,kz,zz,hpz,hhz,qgx,hez⟩:=hcut;subst hev;have HWz:=q7 hwz;have HSz:=q7 hsz;have qdb:=q7 qcI;have qke:=q7 qgi;have qhC:=q7 qgs;have HBz:=q7 hbz;have qfw:=q7 qcL;have HPz:=q7 hpz;have HHz:=q7 hhz;have qmw:=q7 qgx;have HEz:=q7 hez;have kc0:wc.cell? ⟨gh,0,none⟩=some (.bool fb):=cell_of_row _ _ 0 _ _ _ hgz;have qju:gh<wc.heap.size:=(Array.getElem?_eq_some_iff.1 hgz).1;clear hwz hsz qcI qgi qgs hbz hgz qcL hpz hhz qgx hez HW5 qaR qdV HG5 qeg qbU qdZ qaS HV6 qi7 HGH
    by_cases q9B:ez≠0\/fb=true
    ·go_upto_region 13 with(fail)
     go_cut [76] (fun x wx=>x=.bool true/\wx=wc)
     case first=>
      by_cases hz0:ez=0
      ·have hft:fb=true:=q9B.resolve_left (fun e=>e hz0)
       subst hz0;subst hft;go_wp2
       go_meet
       case rel=>exact⟨rfl,rfl⟩
      ·have hz0':((ez:Int)==0)=false:=by simpa using hz0
       go_wp2
       go_meet
       case rel=>exact⟨rfl,rfl⟩
     case rest=>
     obtain⟨qiM,hwx⟩:=hcut;subst qiM;subst hwx;obtain⟨zo,zc,zb,zf,hzv,hzd,-⟩:=HWz.out.own.head;obtain⟨LZ,hLZ⟩:∃LZ,LZ=(qD Hz).length:=⟨_,rfl⟩;obtain⟨vs,qej,qei⟩:=HWz.out.own.sl.high (P:=Tryz.prog) 49 5 Tryz.underlying49 (by kernel_rfl) pre (by rw[qz];exact qfw.out)
     rw[iG]at qei;rw[<-hLZ]at hzv;rw[hzv]at qej;have HVS:=q7 qej;have HCV:=q7 (fun(W:World) (hb:Below wc.heap.size wc W)=>j7 (P:=Tryz.prog) W 49 9 5 Tryz.underlying49 Tryz.underlying5 Tryz.underlying9 vs (Hz.drop pre) (qei.up hb))
     have d1:wc.cell? ⟨gk,1,none⟩=some (.slice zo LZ zc):=by rw[<-hzv];exact HWz.out.box.cell (by simp)
     have d2:wc.cell? ⟨gk,2,none⟩=some (.int .i64 (pre:Nat)):=HWz.out.box.cell (by simp)
     have d3:wc.cell? ⟨gr,1,none⟩=some (.int .i64 (pz:Nat)):=HWz.out.rd.c1;have dgk:=HWz.out.lt.1;have dgr:=HWz.out.lt.2.1;obtain⟨so,sc,sb,sf,hsv,-,-⟩:=HSz.out.sl;obtain⟨sl,hsl⟩:∃sl,sl=Lz.length:=⟨_,rfl⟩;rw[<-hsl]at hsv;subst hsv;obtain⟨vso,vsc,vsb,vsf,hvv,-,-⟩:=qei;obtain⟨vl,hvl⟩:∃vl,vl=(qD (Hz.drop pre)).length:=⟨_,rfl⟩;rw[<-hvl]at hvv;subst hvv;clear hLZ hzd hzv qej hsl hvl
     go_upto_region 14 with(fail)
     refine qZ [0,1,2,3,4,5,6,7,8,9,10,11,12,13,14,15,16] [] [17] (by kernel_rfl) (by kernel_rfl) ?_
     simp only[pk]
     (repeat(first
      |(go_big_quiet_want;(with_reducible show Oper.quiet _ (Oper.mk _ (.slice _ _ _ _ _) _ _ _ _) _ _ _);refine mN 49 (.tmp 80) (some (.tmp 84)) none none rfl (.slice vso vl vsc) (fun w' _=>HVS.out w') ?_;go_simp;go_big_quiet_on)
      |(go_big_quiet_want;(with_reducible show Oper.quiet _ (Oper.mk _ (.convert _ _ _) _ _ _ _) _ _ _);refine V6 49 9 (.tmp 85) rfl _ (fun w' hw'=>HCV.out w' (qr hw')) ?_;go_simp;go_big_quiet_on)
      |go_big_quiet_step (fail)))
     refine wpQuiet_nil ?_;have HBD:=q7 (qC wc 1);rw[<-World.drew_is_drewN]at HBD;have HR7:=q7 (qhC.out.up HBD.out);have HS7:=q7 (HSz.out.up HBD.out);have HB7:=q7 (HBz.out.trans (HBD.out.mono HWz.out.lt.2.2.2));have qkg:=q7 (qa HWz.out.lt.2.2.2 HBD.out.size);generalize wc.drew=w8 at*;obtain⟨TX,hTX⟩:∃TX:ByteArray,TX=⟨(Hz.drop pre).toArray⟩:=⟨_,rfl⟩;rw[<-hTX];have HTX:=q7 hTX;clear hTX HCV HVS d1 d2 d3 dgk dgr kc0 qju;unfold qy;unfold qy
     go_wp2_with(refine qo rfl 93 _ _ rfl g6 93 g6 4 4 rfl #[.string TX,.slice so sl sc,.int .i64 (pz:Nat),.int .i64 (ez:Nat)] rfl (by kernel_rfl) _ HR7.out (by simp) (by intro x hx;simp at hx;rcases hx with rfl|rfl|rfl|rfl<;>rfl) ?_;intro w9 hr9 hg9;have HR9:=q7 hr9;have HG9:=q7 hg9;clear hr9 hg9)
     refine⟨trivial,?_⟩;unfold qy;have hr9:=HR9.out;rw[List.drop_of_length_le (by simp),List.append_nil]at hr9
     have HRZ:=q7 hr9;clear hr9;go_wp2;refine q1A (s:=6) (ad:=⟨g6,0,none⟩) (x:=.agg #[.string TX,.slice so sl sc,.int .i64 (pz:Nat),.int .i64 (ez:Nat)]) rfl rfl rfl (jd (n:=4) HRZ.out _ Tryz.underlying93 rfl (by kernel_rfl)) ?_
     have hend:ez≠0\/zz.md=3:=by
      by_cases hz0:ez=0
      ·right
       obtain⟨-,-,q3,-⟩:=HEz.out hz0;rw[q3,if_pos (q9B.resolve_left (fun e=>e hz0))]
      ·exact .inl hz0
     obtain⟨f1,f2,f3,f4⟩:=HFN.out kz ez zz HPz.out hend;unfold xL;refine⟨TX,.slice so sl sc,pz,by rw[f1],?_,?_,⟨Lz,by rw[<-HG6.out];exact HS7.out.keep HG9.out (.inr (fun e=>(qdb.out g6 e).2.2.1 rfl)),fun e=>?_⟩,fun e=>?_⟩
     ·have:=HB7.out.grown HG9.out qkg.out (fun q e=>by injection e with e;omega)
      rw[<-HG6.out];exact this
     ·rw[f2,HTX.out,uO,HHz.out]
     ·rw[f1]at e
      obtain⟨-,q2,-⟩:=HEz.out e;rw[q2,f4]
     ·rw[f1]at e
      obtain⟨q1,-⟩:=HEz.out e;rw[q1,f3]
    ·have he0:ez=0:=by
      apply qf;intro h;exact q9B (.inl h)
     have hf0:fb=false:=by
      cases fb with
      |false=>rfl
      |true=>exact absurd (.inr rfl) q9B
     subst he0 hf0;clear q9B;obtain⟨q1,q2,q3,q4⟩:=HEz.out rfl;have HQ4:=q7 q4;have HQ1:=q7 q1;have HQ2:=q7 q2;have HQ3:=q7 q3;clear q1 q2 q3 q4 HEz;go_wp2
     go_roundg (N+1-zz.st.length)
     case measure=>have:=HQ4.out;omega
     case rel=>
      refine⟨kz,zz,vz,HPz.out,HQ3.out,by rw[<-HQ1.out,<-HHz.out];exact HWz.out,by rw[<-HQ2.out];exact HSz.out,qdb.out,qke.out,qhC.out,HBz.out,rfl⟩
end Go.Cm
namespace Go.Cm
open Go.RowKit Go.Proofs
def q1C(y:GI×List (Nat×Nat))(w:World)(e:Ending)(w':World):Prop:=
 ∃(v vl:Value) (c:ByteArray),e=.returned (.tuple #[.agg (ifC y.1.h y.1.p y.1.q v c),vl])/\bys c=y.1.t/\SlK 2 w' v (y.1.st.map stC)/\cV w' vl y.2/\Below w.heap.size w w'
theorem o7{fn:Func}{tmps:Array Value}{ds:List Deferred}{w0 w4 w8 w9:World}{s t g2:Nat}{v:Value}{l:List (Nat×Nat)}{R:GI×List (Nat×Nat)}(hR:R=(zGI,l))(hf:fn.results=#[.cell s 53,.tmp t])(ha:tmps.getD s undef=.pointer (some ⟨g2,0,none⟩))(hb:tmps.getD t undef=v)(hd:ds=[])
  (ho:Own w9 g2 53 (.slice (some ⟨g2,0,none⟩) 13 13) zIf.toList) (hg:w8.grownBy w9 (some g2)) (hl:cV w8 v l) (hv:∀q,v.ownBlock=some q->w4.heap.size<=q) (h4:g2<w4.heap.size) (hbl:Below w0.heap.size w0 w8) (hge:w0.heap.size<=g2):
  bodyPost Tryz.prog fn (q1C R w0) .ret ⟨tmps,ds⟩ w9:=by
 subst hR
 exact B7 hf ha hb hd (oZ rL rfl ho) ⟨.slice none 0 0,v,⟨#[]⟩,rfl,rfl,SlK.nil 2 _,SlK.keep hl hg (fun e=>by have:=hv _ e;omega),hbl.grown hg hbl.size (by intro k e;cases e;exact hge)⟩
theorem q5B{s:ByteArray}(hs:s.size<=4000000)(w:World):Calls Tryz.prog 18 #[.string s] w (q1C (jI s) w):=by
 obtain⟨R,hR⟩:∃R,R=jI s:=⟨_,rfl⟩;rw[<-hR];unfold jI at hR;rw[if_neg (by omega)]at hR
 have HPR:=q7 (fun W=>q6T (s:=s) (by omega) W)
 have hI:=qE w w.heap.size zIf 53 (by simp[zIf,ifC]) (q9 _)
 have hB1:=qn w (.cells zIf 53);have e0:w.alloc (.cells zIf 53)=w.alloc (.cells #[.int .i64 0,.string ⟨#[]⟩,.string ⟨#[]⟩,.string ⟨#[]⟩,.int .i64 0,.int .i64 0,.bool false,.bool false,.int .i64 0,.int .i64 0,.int .i64 0,.slice none 0 0,.string ⟨#[]⟩] 53):=rfl;have HB1:=q7 hB1;have HI:=q7 hI;have HON:=q7 (fun(c p:Nat) (W:World)=>q8T (c:=c) (at_:=p) W)
 have q90:decide ((s.size:Int)>16777216)=false:=by rw[qm];omega
 clear hI hB1;unfold q39 at HPR;generalize hy:qU s=y at*;have HY:=q7 hy;clear hy;obtain⟨e1,hd,tz⟩:=y;simp only at HPR hR;have HR:=q7 hR;clear hR
 go_enter Tryz.func18,Tryz.ntmps18
 go_upto_region 1 with(fail)
 rw[<-e0];clear e0;generalize w.alloc (.cells zIf 53)=w1 at*;obtain⟨g2,hg2⟩:∃g2,g2=w.heap.size:=⟨_,rfl⟩;have HG2:=q7 hg2;have HI1:Hid (Own w1 g2 53 (.slice (some ⟨g2,0,none⟩) 13 13) zIf.toList):=q7 (by rw[hg2];exact HI.out)
 rw[<-hg2];clear HI hg2
 go_upto_region 3 with(fail)
 go_upto_region 4 with(first
  |((with_reducible go_at_call 42);(with_reducible refine(HPR.out _).mono ?_);rintro en w3 ⟨rfl,hx⟩;have hb:=qr hx;have HB3:=q7 (qq HB1.out hb);have HI3:=q7 (HI1.out.up hb);have HZ3:=q7 (qE w3 w3.heap.size (ghC zGH) 23 (by simp[ghC]) (q9 _));clear hx hb)
  |(refine qo rfl 23 _ _ rfl w3.heap.size 23 w3.heap.size 9 9 rfl (ghC hd) rfl (by kernel_rfl) (ghC zGH).toList HZ3.out (by simp[ghC]) (mH hd) ?_;intro w4 ho hg;rw[jY rfl rfl]at ho;have HH4:=q7 ho;have hb4:=(qn w3 _).grown hg (qn w3 _).size (by intro k e;cases e;exact q9 _);have HB4:=q7 (qq HB3.out hb4);have HI4:=q7 (HI3.out.up hb4);clear ho hg hb4))
 obtain⟨g4,hg4⟩:∃g4,g4=w3.heap.size:=⟨_,rfl⟩;rw[<-hg4]at HH4⊢;clear hg4 HZ3 HB3 HI3
 by_cases he:e1=0
 ·subst he
  have htz:tz<=s.size:=by have:=o6 (s:=s);rw[HY.out]at this;exact this
  have HAL:Hid (∀W,Calls Tryz.prog 43 #[.string s,.int .i64 (8*(tz:Int)),.string ⟨#[]⟩] W (xL s [] (8*tz) W)):=q7 (fun W=>by
   have h:=q8U s ⟨#[]⟩ (8*tz) hs (by omega) (by decide) W
   rw[show((8*tz:Nat):Int)=8*(tz:Int) by omega]at h
   exact h)
  have hR2:R=if erI s [] (8*tz)≠0 then(zGI,[(4,tz),(erI s [] (8*tz),(txI s [] (8*tz)).length)])else if cZ s (enI s [] (8*tz)) (txI s [] (8*tz))≠[]then(zGI,cZ s (enI s [] (8*tz)) (txI s [] (8*tz)))else(⟨hd,8*tz,enI s [] (8*tz),bgI s [] (8*tz),txI s [] (8*tz)⟩,[]):=by rw[HR.out,if_neg (fun h=>h rfl)]
  have HR2:=q7 hR2;have hel:=Q5 (s:=s) (t:=[]) (p:=8*tz) (by omega)
  have htl:=xJ (s:=s) (t:=[]) (p:=8*tz) (by omega)
  clear HR hR2;unfold xL at HAL;generalize erI s [] (8*tz)=er at*;generalize txI s [] (8*tz)=T at*;generalize enI s [] (8*tz)=en at*;generalize bgI s [] (8*tz)=bg at*
  go_upto_region 7 with(first
   |((with_reducible go_at_call 43);(with_reducible refine(HAL.out _).mono ?_);rintro en5 w5 ⟨c,v,q,rfl,hb,hct,⟨L,hL,hLe⟩,hqe⟩;have HB5:=q7 (qq HB4.out hb);have HI5:=q7 (HI4.out.up hb);have HH5:=q7 (HH4.out.up hb);have hsl:=hL.sl;have HS5:=q7 hL.sl;obtain⟨oa,cap,bl,off,rfl,-⟩:=id hsl;have HL5:=q7 hL;have HLE:=q7 hLe;have HQE:=q7 hqe;clear hL hLe hb hqe hsl))
  obtain⟨Ln,hLn⟩:∃Ln,Ln=L.length:=⟨_,rfl⟩;rw[<-hLn]at HL5 HS5⊢;have HLN:=q7 hLn;clear hLn;have HM5:=q7 (qE w5 w5.heap.size #[.string c,.slice oa Ln cap,.int .i64 (q:Nat),.int .i64 (er:Nat)] 93 (by simp) (q9 _))
  have hba:=qn w5 (.cells #[.string c,.slice oa Ln cap,.int .i64 (q:Nat),.int .i64 (er:Nat)] 93);have m0:(w5.alloc (.cells #[.string c,.slice oa Ln cap,.int .i64 (q:Nat),.int .i64 (er:Nat)] 93)).cell? ⟨w5.heap.size,0,none⟩=some (.string c):=by rw[World.cell?_alloc_new];rfl
  have m1:(w5.alloc (.cells #[.string c,.slice oa Ln cap,.int .i64 (q:Nat),.int .i64 (er:Nat)] 93)).cell? ⟨w5.heap.size,1,none⟩=some (.slice oa Ln cap):=by rw[World.cell?_alloc_new];rfl
  have m2:(w5.alloc (.cells #[.string c,.slice oa Ln cap,.int .i64 (q:Nat),.int .i64 (er:Nat)] 93)).cell? ⟨w5.heap.size,2,none⟩=some (.int .i64 (q:Nat)):=by rw[World.cell?_alloc_new];rfl
  have m3:(w5.alloc (.cells #[.string c,.slice oa Ln cap,.int .i64 (q:Nat),.int .i64 (er:Nat)] 93)).cell? ⟨w5.heap.size,3,none⟩=some (.int .i64 (er:Nat)):=by rw[World.cell?_alloc_new];rfl
  have hgm:w5.heap.size<(w5.alloc (.cells #[.string c,.slice oa Ln cap,.int .i64 (q:Nat),.int .i64 (er:Nat)] 93)).heap.size:=by simp
  have HB6:=q7 (qq HB5.out hba);have HI6:=q7 (HI5.out.up hba);have HH6:=q7 (HH5.out.up hba);have HS6:=q7 (HS5.out.up hba)
  have HSN:Hid (∀x,(Value.slice oa Ln cap).ownBlock=some x->x≠g2):=q7 (fun x e h=>by
   have h1:=(HL5.out.lt x e).1;have h2:=HI4.out.blk.2;omega)
  have HGM:Hid (g2<w5.heap.size):=q7 HI5.out.blk.2;clear hba;generalize w5.alloc (.cells #[.string c,.slice oa Ln cap,.int .i64 (q:Nat),.int .i64 (er:Nat)] 93)=w6 at*;generalize w5.heap.size=gm at*;have HM6:Hid (Own w6 gm 93 (.slice (some ⟨gm,0,none⟩) 4 4) [.string c,.slice oa Ln cap,.int .i64 (q:Nat),.int .i64 (er:Nat)]):=HM5;clear HM5;have qgu:=HQE.out
  by_cases he:er=0
  ·subst he
   have hq0:q=en:=qgu rfl;subst hq0;have hql:=hel rfl;have HLB:Hid (L=bg.map stC):=q7 (HLE.out rfl);have hR3:R=if cZ s q T≠[]then(zGI,cZ s q T)else(⟨hd,8*tz,q,bg,T⟩,[]):=by rw[HR2.out,if_neg (fun h=>h rfl)]
   have htu:cZ s q T=if s.size<(q+7)/8+8 then [(2,s.size)]else if qJ s ((q+7)/8) 4≠bL T then [(5,(q+7)/8)]else if qJ s ((q+7)/8+4) 4≠T.length then [(6,(q+7)/8)]else if(q+7)/8+8<s.size then [(14,(q+7)/8+8)]else []:=rfl
   rw[htu]at hR3;have HR4:=q7 hR3;obtain⟨a,ha⟩:∃a,a=(q+7)/8:=⟨_,rfl⟩;have hai:((q:Int)+7)/8=(a:Nat):=by omega
   have has:a<=s.size:=by omega
   rw[<-ha]at HR4;have HTL:=q7 htl;have HCT:=q7 hct;have HQB:Hid (q<=8*s.size):=q7 hql;clear hR3 htu ha HR2 hel qgu htl hct
   by_cases h1:s.size<a+8
   ·have HR3:Hid (R=(zGI,[(2,s.size)])):=q7 (by rw[HR4.out,if_pos h1];rfl)
    have h1i:(s.size:Int)-(a:Nat)<8:=by omega
    have HO1:Hid (∀W,Calls Tryz.prog 41 #[.int .i64 2,.int .i64 (s.size:Nat)] W fun e w'=>∃v,e=.returned (.tuple #[.agg zIf,v])/\cV w' v [(2,s.size)]/\(∀q,v.ownBlock=some q->W.heap.size<=q)/\Below W.heap.size W w'):=q7 (fun W=>by first|exact HON.out 2 s.size W|(rw[show(s.size:Nat)=((s.size:Nat):Int) by omega];exact HON.out 2 s.size W))
    clear HR4
    go_wp2_with(first|((with_reducible go_at_call 41);(with_reducible refine(HO1.out _).mono ?_);rintro ex w8 ⟨v,rfl,hl,hv,hb⟩;have HV8:=q7 hv;have HK8:=q7 hl;have HB8:=q7 (qq HB6.out hb);have HI8:=q7 (HI6.out.up hb);clear hl hv hb)|(refine qo rfl 53 _ _ rfl g2 53 g2 13 13 rfl zIf rfl (by kernel_rfl) zIf.toList HI8.out (by simp) fE ?_;intro w9 ho2 hg2;have HO9:=q7 ho2;have HG9:=q7 hg2;clear ho2 hg2))
    exact o7 HR3.out rfl rfl rfl rfl HO9.out HG9.out HK8.out HV8.out HI6.out.blk.2 HB8.out (by rw[HG2.out];exact q9 _)
   ·have h1i:decide ((s.size:Int)-(a:Nat)<8)=false:=by rw[qm];omega
    have HN1:=q7 (fun W=>sP (s:=s) (a:=a) (W:=4) (.inr (.inr rfl)) (by omega) (by omega) W)
    have HN1:Hid (∀W,Calls Tryz.prog 44 #[.string s,.int .i64 a,.int .i64 4] W fun e w'=>e=.returned (.tuple #[.int .i64 (qJ s a 4:Nat),.int .i64 0])/\∃x,w'=ext W x):=HN1
    have HN2:Hid (∀W,Calls Tryz.prog 44 #[.string s,.int .i64 ((a:Int)+4),.int .i64 4] W fun e w'=>e=.returned (.tuple #[.int .i64 (qJ s (a+4) 4:Nat),.int .i64 0])/\∃x,w'=ext W x):=q7 (fun W=>by
     rw[show(a:Int)+4=((a+4:Nat):Int) by omega]
     exact sP (s:=s) (a:=a+4) (W:=4) (.inr (.inr rfl)) (by omega) (by omega) W)
    have hcl:c.size<=16777216:=by have h1:=HTL.out;rw[<-HCT.out,qF]at h1;exact h1
    have HCR:=q7 (fun W=>q2W (s:=c) (by omega) W)
    have hR5:R=if(if qJ s a 4≠bL T then [(5,a)]else if qJ s (a+4) 4≠c.size then [(6,a)]else if a+8<s.size then [(14,a+8)]else [])≠[]then(zGI,if qJ s a 4≠bL T then [(5,a)]else if qJ s (a+4) 4≠c.size then [(6,a)]else if a+8<s.size then [(14,a+8)]else [])else(⟨hd,8*tz,q,bg,T⟩,[]):=by rw[HR4.out,if_neg h1,<-qF c,HCT.out]
    have HR5:=q7 hR5;rw[HCT.out]at HCR;have b1:qJ s a 4<4294967296:=dU _ _ 4;have b3:=oS T;clear hR5 HR4;generalize qJ s a 4=n1 at*;generalize qJ s (a+4) 4=n2 at*;generalize bL T=cr at*
    by_cases h2:n1=cr
    ·subst h2
     by_cases h3:n2=c.size
     ·subst h3
      by_cases h4:a+8<s.size
      ·have HR3:Hid (R=(zGI,[(14,a+8)])):=q7 (by rw[HR5.out];simp[h4])
       have h4i:(s.size:Int)>(a:Nat)+8:=by omega
       have HO1:Hid (∀W,Calls Tryz.prog 41 #[.int .i64 14,.int .i64 ((a:Int)+8)] W fun e w'=>∃v,e=.returned (.tuple #[.agg zIf,v])/\cV w' v [(14,a+8)]/\(∀q,v.ownBlock=some q->W.heap.size<=q)/\Below W.heap.size W w'):=q7 (fun W=>by first|exact HON.out 14 (a+8) W|(rw[show(a:Int)+8=((a+8:Nat):Int) by omega];exact HON.out 14 (a+8) W))
       go_wp2_with(first|((with_reducible go_at_call 44);first|((with_reducible refine(HN1.out _).mono ?_);rintro en7 w7 ⟨rfl,hx⟩;have hb:=qr hx;have HB7:=q7 (qq HB6.out hb);have HI7:=q7 (HI6.out.up hb);have HM7:=q7 (HM6.out.up hb);have HH7:=q7 (HH6.out.up hb);have HS7:=q7 (HS6.out.up hb);clear hx hb m0 m1 m2 m3 hgm)|((with_reducible refine(HN2.out _).mono ?_);rintro en8 wa ⟨rfl,hx⟩;have hb:=qr hx;have HBa:=q7 (qq HB7.out hb);have HIa:=q7 (HI7.out.up hb);have HMa:=q7 (HM7.out.up hb);have HHa:=q7 (HH7.out.up hb);have HSa:=q7 (HS7.out.up hb);have m0:wa.cell? ⟨gm,0,none⟩=some (.string c):=HMa.out.cell (i:=0) (by simp);have hgm:=HMa.out.blk.2;clear hx hb))|((with_reducible go_at_call 32);(with_reducible refine(HCR.out _).mono ?_);rintro en9 wb ⟨rfl,hx⟩;have hb:=qr hx;have HBb:=q7 (qq HBa.out hb);have HIb:=q7 (HIa.out.up hb);have HMb:=q7 (HMa.out.up hb);have HHb:=q7 (HHa.out.up hb);have HSb:=q7 (HSa.out.up hb);have m0:wb.cell? ⟨gm,0,none⟩=some (.string c):=HMb.out.cell (i:=0) (by simp);have m1:wb.cell? ⟨gm,1,none⟩=some (.slice oa Ln cap):=HMb.out.cell (i:=1) (by simp);have m2:wb.cell? ⟨gm,2,none⟩=some (.int .i64 (q:Nat)):=HMb.out.cell (i:=2) (by simp);have hgm:=HMb.out.blk.2;clear hx hb)|((with_reducible go_at_call 41);(with_reducible refine(HO1.out _).mono ?_);rintro ex w8 ⟨v,rfl,hl,hv,hb⟩;have HV8:=q7 hv;have HK8:=q7 hl;have HB8:=q7 (qq HBb.out hb);have HI8:=q7 (HIb.out.up hb);clear hl hv hb)|(refine qo rfl 53 _ _ rfl g2 53 g2 13 13 rfl zIf rfl (by kernel_rfl) zIf.toList HI8.out (by simp) fE ?_;intro w9 ho2 hg2;have HO9:=q7 ho2;have HG9:=q7 hg2;clear ho2 hg2))
       exact o7 HR3.out rfl rfl rfl rfl HO9.out HG9.out HK8.out HV8.out HIb.out.blk.2 HB8.out (by rw[HG2.out];exact q9 _)
      ·have HR3:Hid (R=(⟨hd,8*tz,q,bg,T⟩,[])):=q7 (by rw[HR5.out];simp[h4])
       have h4i:decide ((s.size:Int)>(a:Nat)+8)=false:=by rw[qm];omega
       go_wp2_with(first|((with_reducible go_at_call 44);first|((with_reducible refine(HN1.out _).mono ?_);rintro en7 w7 ⟨rfl,hx⟩;have hb:=qr hx;have HB7:=q7 (qq HB6.out hb);have HI7:=q7 (HI6.out.up hb);have HM7:=q7 (HM6.out.up hb);have HH7:=q7 (HH6.out.up hb);have HS7:=q7 (HS6.out.up hb);clear hx hb m0 m1 m2 m3 hgm)|((with_reducible refine(HN2.out _).mono ?_);rintro en8 wa ⟨rfl,hx⟩;have hb:=qr hx;have HBa:=q7 (qq HB7.out hb);have HIa:=q7 (HI7.out.up hb);have HMa:=q7 (HM7.out.up hb);have HHa:=q7 (HH7.out.up hb);have HSa:=q7 (HS7.out.up hb);have m0:wa.cell? ⟨gm,0,none⟩=some (.string c):=HMa.out.cell (i:=0) (by simp);have hgm:=HMa.out.blk.2;clear hx hb))|((with_reducible go_at_call 32);(with_reducible refine(HCR.out _).mono ?_);rintro en9 wb ⟨rfl,hx⟩;have hb:=qr hx;have HBb:=q7 (qq HBa.out hb);have HIb:=q7 (HIa.out.up hb);have HMb:=q7 (HMa.out.up hb);have HHb:=q7 (HHa.out.up hb);have HSb:=q7 (HSa.out.up hb);have m0:wb.cell? ⟨gm,0,none⟩=some (.string c):=HMb.out.cell (i:=0) (by simp);have m1:wb.cell? ⟨gm,1,none⟩=some (.slice oa Ln cap):=HMb.out.cell (i:=1) (by simp);have m2:wb.cell? ⟨gm,2,none⟩=some (.int .i64 (q:Nat)):=HMb.out.cell (i:=2) (by simp);have hgm:=HMb.out.blk.2;obtain⟨A,hgA,hsA,hA⟩:=HHb.out.whole;have hAe:A=ghC hd:=Array.ext' hA;subst hAe;have HGA:=q7 hgA;clear hx hb hgA hsA hA)|(refine qI rfl 23 9 _ rfl g4 rfl #[.int .i64 hd.time,.string hd.extra,.string hd.name,.string hd.note,.int .i64 hd.level,.int .i64 hd.os,.bool hd.text,.bool hd.sum,.int .i64 hd.flags] rfl HGA.out _ Tryz.underlying23 rfl (by kernel_rfl) ?_)|(refine qo rfl 53 _ _ rfl g2 53 g2 13 13 rfl (ifC hd (8*(tz:Int)) q (.slice oa Ln cap) c) rfl (by kernel_rfl) zIf.toList HIb.out (by simp[ifC,zIf]) (by intro u hu;simp[ifC]at hu;rcases hu with rfl|rfl|rfl|rfl|rfl|rfl|rfl|rfl|rfl|rfl|rfl|rfl|rfl<;>rfl) ?_;intro w9 ho2 hg2;have HO9:=q7 ho2;have HG9:=q7 hg2;clear ho2 hg2))
       have q9n:Hid (Own w9 g2 53 (.slice (some ⟨g2,0,none⟩) 13 13) (ifC hd (8*(tz:Int)) q (.slice oa Ln cap) c).toList):=HO9;refine B7 rfl rfl rfl rfl (oZ rfl rfl q9n.out) ?_;rw[HR3.out];have hsl:=SlK.keep HSb.out HG9.out (fun e=>HSN.out _ e rfl)
       rw[HLB.out]at hsl
       exact⟨.slice oa Ln cap,.slice none 0 0,c,by rw[show((8*tz:Nat):Int)=8*(tz:Int) by omega];rfl,HCT.out,hsl,SlK.nil 2 _,HBb.out.grown HG9.out HBb.out.size (by intro k e;cases e;rw[HG2.out];exact q9 _)⟩
     ·have HR3:Hid (R=(zGI,[(6,a)])):=q7 (by rw[HR5.out];simp[h3])
      have h3i:(((n2:Nat):Int) != ((c.size:Nat):Int))=true:=by simp;omega
      have HO1:Hid (∀W,Calls Tryz.prog 41 #[.int .i64 6,.int .i64 ((a:Nat))] W fun e w'=>∃v,e=.returned (.tuple #[.agg zIf,v])/\cV w' v [(6,a)]/\(∀q,v.ownBlock=some q->W.heap.size<=q)/\Below W.heap.size W w'):=q7 (fun W=>by first|exact HON.out 6 (a) W|(rw[show(a:Nat)=((a:Nat):Int) by omega];exact HON.out 6 (a) W))
      go_wp2_with(first|((with_reducible go_at_call 44);first|((with_reducible refine(HN1.out _).mono ?_);rintro en7 w7 ⟨rfl,hx⟩;have hb:=qr hx;have HB7:=q7 (qq HB6.out hb);have HI7:=q7 (HI6.out.up hb);have HM7:=q7 (HM6.out.up hb);have HH7:=q7 (HH6.out.up hb);have HS7:=q7 (HS6.out.up hb);clear hx hb m0 m1 m2 m3 hgm)|((with_reducible refine(HN2.out _).mono ?_);rintro en8 wa ⟨rfl,hx⟩;have hb:=qr hx;have HBa:=q7 (qq HB7.out hb);have HIa:=q7 (HI7.out.up hb);have HMa:=q7 (HM7.out.up hb);have HHa:=q7 (HH7.out.up hb);have HSa:=q7 (HS7.out.up hb);have m0:wa.cell? ⟨gm,0,none⟩=some (.string c):=HMa.out.cell (i:=0) (by simp);have hgm:=HMa.out.blk.2;clear hx hb))|((with_reducible go_at_call 32);(with_reducible refine(HCR.out _).mono ?_);rintro en9 wb ⟨rfl,hx⟩;have hb:=qr hx;have HBb:=q7 (qq HBa.out hb);have HIb:=q7 (HIa.out.up hb);have HMb:=q7 (HMa.out.up hb);have HHb:=q7 (HHa.out.up hb);have HSb:=q7 (HSa.out.up hb);have m0:wb.cell? ⟨gm,0,none⟩=some (.string c):=HMb.out.cell (i:=0) (by simp);have m1:wb.cell? ⟨gm,1,none⟩=some (.slice oa Ln cap):=HMb.out.cell (i:=1) (by simp);have m2:wb.cell? ⟨gm,2,none⟩=some (.int .i64 (q:Nat)):=HMb.out.cell (i:=2) (by simp);have hgm:=HMb.out.blk.2;clear hx hb)|((with_reducible go_at_call 41);(with_reducible refine(HO1.out _).mono ?_);rintro ex w8 ⟨v,rfl,hl,hv,hb⟩;have HV8:=q7 hv;have HK8:=q7 hl;have HB8:=q7 (qq HBb.out hb);have HI8:=q7 (HIb.out.up hb);clear hl hv hb)|(refine qo rfl 53 _ _ rfl g2 53 g2 13 13 rfl zIf rfl (by kernel_rfl) zIf.toList HI8.out (by simp) fE ?_;intro w9 ho2 hg2;have HO9:=q7 ho2;have HG9:=q7 hg2;clear ho2 hg2))
      exact o7 HR3.out rfl rfl rfl rfl HO9.out HG9.out HK8.out HV8.out HIb.out.blk.2 HB8.out (by rw[HG2.out];exact q9 _)
    ·have HR3:Hid (R=(zGI,[(5,a)])):=q7 (by rw[HR5.out];simp[h2])
     have h2i:(((n1:Nat):Int) != ((cr:Nat):Int))=true:=by simp;omega
     have HO1:Hid (∀W,Calls Tryz.prog 41 #[.int .i64 5,.int .i64 ((a:Nat))] W fun e w'=>∃v,e=.returned (.tuple #[.agg zIf,v])/\cV w' v [(5,a)]/\(∀q,v.ownBlock=some q->W.heap.size<=q)/\Below W.heap.size W w'):=q7 (fun W=>by first|exact HON.out 5 (a) W|(rw[show(a:Nat)=((a:Nat):Int) by omega];exact HON.out 5 (a) W))
     go_wp2_with(first|((with_reducible go_at_call 44);first|((with_reducible refine(HN1.out _).mono ?_);rintro en7 w7 ⟨rfl,hx⟩;have hb:=qr hx;have HB7:=q7 (qq HB6.out hb);have HI7:=q7 (HI6.out.up hb);have HM7:=q7 (HM6.out.up hb);have HH7:=q7 (HH6.out.up hb);have HS7:=q7 (HS6.out.up hb);clear hx hb m0 m1 m2 m3 hgm)|((with_reducible refine(HN2.out _).mono ?_);rintro en8 wa ⟨rfl,hx⟩;have hb:=qr hx;have HBa:=q7 (qq HB7.out hb);have HIa:=q7 (HI7.out.up hb);have HMa:=q7 (HM7.out.up hb);have HHa:=q7 (HH7.out.up hb);have HSa:=q7 (HS7.out.up hb);have m0:wa.cell? ⟨gm,0,none⟩=some (.string c):=HMa.out.cell (i:=0) (by simp);have hgm:=HMa.out.blk.2;clear hx hb))|((with_reducible go_at_call 32);(with_reducible refine(HCR.out _).mono ?_);rintro en9 wb ⟨rfl,hx⟩;have hb:=qr hx;have HBb:=q7 (qq HBa.out hb);have HIb:=q7 (HIa.out.up hb);have HMb:=q7 (HMa.out.up hb);have HHb:=q7 (HHa.out.up hb);have HSb:=q7 (HSa.out.up hb);have m0:wb.cell? ⟨gm,0,none⟩=some (.string c):=HMb.out.cell (i:=0) (by simp);have m1:wb.cell? ⟨gm,1,none⟩=some (.slice oa Ln cap):=HMb.out.cell (i:=1) (by simp);have m2:wb.cell? ⟨gm,2,none⟩=some (.int .i64 (q:Nat)):=HMb.out.cell (i:=2) (by simp);have hgm:=HMb.out.blk.2;clear hx hb)|((with_reducible go_at_call 41);(with_reducible refine(HO1.out _).mono ?_);rintro ex w8 ⟨v,rfl,hl,hv,hb⟩;have HV8:=q7 hv;have HK8:=q7 hl;have HB8:=q7 (qq HBb.out hb);have HI8:=q7 (HIb.out.up hb);clear hl hv hb)|(refine qo rfl 53 _ _ rfl g2 53 g2 13 13 rfl zIf rfl (by kernel_rfl) zIf.toList HI8.out (by simp) fE ?_;intro w9 ho2 hg2;have HO9:=q7 ho2;have HG9:=q7 hg2;clear ho2 hg2))
     exact o7 HR3.out rfl rfl rfl rfl HO9.out HG9.out HK8.out HV8.out HIb.out.blk.2 HB8.out (by rw[HG2.out];exact q9 _)
  ·have hei:(((er:Nat):Int) != 0)=true:=by simp;omega
   have hcs:c.size=T.length:=by rw[<-qF,hct]
   have HR3:Hid (R=(zGI,[(4,tz),(er,T.length)])):=q7 (by rw[HR2.out,if_pos he])
   go_upto_region 8 with(fail)
   have hr7:some gm≠some g2:=by intro e;have h1:=ql e;have:=HGM.out;omega
   refine jE (C:=fun w'=>∃x,w'=chg w6 (some g2) x) (.q 0 (.q 1 (.q 2 (.q 3 (.q 4 (.q 5 (.q 6 (.q 7 (.q 8 (.br 9 (.br 10 (.br 11 .done .no) .no) (.br 10 (.br 9 (.br 11 .done .no) .no) .no))))))))))) (by kernel_rfl) (by kernel_rfl) (qW (qV _ _)) ?_
   (repeat((unfold qX;simp only[pk]);go_big_quiet_step (fail);refine wpQuiet_nil ?_))
   obtain⟨TL,hTL⟩:∃TL,TL=T.length:=⟨_,rfl⟩;rw[<-hTL]at HR3⊢;clear hTL;have HBD:Hid (Below w6.heap.size w6 w6.drew):=q7 (qS (qj _ _));generalize w6.drew=wd at*;have HID:=q7 (HI6.out.up HBD.out);have HBW:=q7 (qq HB6.out HBD.out);have qiG:=q7 (fun W:World=>iY 2 W #[.int .i64 4,.int .i64 tz,.int .i64 er,.int .i64 TL] 96 [[.int .i64 4,.int .i64 tz],[.int .i64 er,.int .i64 TL]] rfl (by intro x hx;simp at hx;rcases hx with rfl|rfl<;>rfl) (by simp))
   have HGD:Hid (w6.grownBy wd (some g2)):=q7 (qv HBD.out _)
   (unfold qX;simp only[pk])
   refine⟨?_,?_⟩
   ·have hba:=qn wd (.cells #[.int .i64 4,.int .i64 tz,.int .i64 er,.int .i64 TL] 96)
    have HBA:=q7 (qq HBW.out hba);have HIA:=q7 (HID.out.up hba);have HGA:Hid (w6.grownBy (wd.alloc (.cells #[.int .i64 4,.int .i64 tz,.int .i64 er,.int .i64 TL] 96)) (some g2)):=q7 (qp HGD.out (qv hba _));have HSA:=q7 (qiG.out wd);have HGW:Hid (g2<wd.heap.size):=q7 HID.out.blk.2;clear hba;unfold qy;go_wp2;refine⟨qW HGA.out,?_⟩;unfold qy
    (unfold qX;simp only[pk])
    refine⟨?_,by exact True.intro⟩
    unfold qy
    go_wp2_with(refine qo rfl 53 _ _ rfl g2 53 g2 13 13 rfl zIf rfl (by kernel_rfl) zIf.toList HIA.out (by simp) fE ?_;intro w9 ho2 hg2;have HO9:=q7 ho2;have HG9:=q7 hg2;clear ho2 hg2)
    have HGB:Hid (w6.grownBy w9 (some g2)):=q7 (qp HGA.out HG9.out);have HOB:Hid (Own w9 g2 53 (.slice (some ⟨g2,0,none⟩) 13 13) zIf.toList):=HO9;have HSB:Hid (SlK 2 w9 (.slice (some ⟨wd.heap.size,0,none⟩) 2 2) [[.int .i64 4,.int .i64 tz],[.int .i64 er,.int .i64 TL]]):=q7 (SlK.keep HSA.out HG9.out (fun e=>by have h1:wd.heap.size=g2:=ql e;have:=HGW.out;omega))
    have HBE:Hid (Below w.heap.size w w9):=q7 (HBA.out.grown HG9.out HBA.out.size (by intro k e;cases e;rw[HG2.out];exact q9 _))
    refine⟨qW HGB.out,?_⟩;unfold qy
    (unfold qX;simp only[pk])
    refine⟨?_,by exact True.intro⟩
    unfold qy;go_wp2;refine⟨qW HGB.out,?_⟩;unfold qy;unfold qX;intro hz hz2;clear hz2 hz;go_wp2;rw[HR3.out]
    exact B7 rfl rfl rfl rfl (oZ rL rfl HOB.out) ⟨.slice none 0 0,_,⟨#[]⟩,rfl,rfl,SlK.nil 2 _,HSB.out,HBE.out⟩
   ·(unfold qX;simp only[pk])
    refine⟨?_,by exact True.intro⟩
    unfold qy
    go_wp2_with(refine qo rfl 53 _ _ rfl g2 53 g2 13 13 rfl zIf rfl (by kernel_rfl) zIf.toList HID.out (by simp) fE ?_;intro w9 ho2 hg2;have HO9:=q7 ho2;have HG9:=q7 hg2;clear ho2 hg2)
    have HG6:Hid (w6.grownBy w9 (some g2)):=q7 (qp HGD.out HG9.out);have hba:=qn w9 (.cells #[.int .i64 4,.int .i64 tz,.int .i64 er,.int .i64 TL] 96);have HGB:Hid (w6.grownBy (w9.alloc (.cells #[.int .i64 4,.int .i64 tz,.int .i64 er,.int .i64 TL] 96)) (some g2)):=q7 (qp HG6.out (qv hba _));have q9n:Hid (Own w9 g2 53 (.slice (some ⟨g2,0,none⟩) 13 13) zIf.toList):=HO9;have HOB:=q7 (q9n.out.up hba);have HSB:=q7 (qiG.out w9);have ql8:Hid (Below w.heap.size w w9):=q7 (HBW.out.grown HG9.out HBW.out.size (by intro k e;cases e;rw[HG2.out];exact q9 _))
    have HBE:=q7 (qq ql8.out hba);clear hba;refine⟨qW HG6.out,?_⟩;unfold qy
    (unfold qX;simp only[pk])
    refine⟨?_,by exact True.intro⟩
    unfold qy;go_wp2;refine⟨qW HGB.out,?_⟩;unfold qy
    (unfold qX;simp only[pk])
    refine⟨?_,by exact True.intro⟩
    unfold qy;go_wp2;refine⟨qW HGB.out,?_⟩;unfold qy;unfold qX;intro hz hz2;clear hz2 hz;go_wp2;rw[HR3.out]
    exact B7 rfl rfl rfl rfl (oZ rL rfl HOB.out) ⟨.slice none 0 0,_,⟨#[]⟩,rfl,rfl,SlK.nil 2 _,HSB.out,HBE.out⟩
 ·have HR1:Hid (R=(zGI,[(e1,0)])):=q7 (by rw[HR.out,if_pos he])
  have hei:(((e1:Nat):Int) != 0)=true:=by simp;omega
  have HO1:Hid (∀W,Calls Tryz.prog 41 #[.int .i64 e1,.int .i64 0] W fun e w'=>∃v,e=.returned (.tuple #[.agg zIf,v])/\cV w' v [(e1,0)]/\(∀q,v.ownBlock=some q->W.heap.size<=q)/\Below W.heap.size W w'):=q7 (fun W=>HON.out e1 0 W)
  clear HR
  go_wp2_with(first
   |((with_reducible go_at_call 41);(with_reducible refine(HO1.out _).mono ?_);rintro en w8 ⟨v,rfl,hl,hv,hb⟩;have HV8:=q7 hv;have HK8:=q7 hl;have HB8:=q7 (qq HB4.out hb);have HI8:=q7 (HI4.out.up hb);clear hl hv hb)
   |(refine qo rfl 53 _ _ rfl g2 53 g2 13 13 rfl zIf rfl (by kernel_rfl) zIf.toList HI8.out (by simp) fE ?_;intro w9 ho2 hg2;have HO9:=q7 ho2;have HG9:=q7 hg2;clear ho2 hg2))
  exact o7 HR1.out rfl rfl rfl rfl HO9.out HG9.out HK8.out HV8.out HI4.out.blk.2 HB8.out (by rw[HG2.out];exact q9 _)
theorem q79{w:World}{h:GH}{p q:Int}{oa:Option Addr}{n cap:Nat}{c:ByteArray}{l:List (Nat×Nat)}(hsl:SlK 2 w (.slice oa n cap) (l.map stC))(hlen:l.length<=100000000):
  Calls Tryz.prog 20 #[.agg (ifC h p q (.slice oa n cap) c)] w fun e w'=>∃oa' cap',e=.returned (.agg (ifC h p q (.slice oa' l.length cap') c))/\SlK 2 w' (.slice oa' l.length cap') (l.map stC)/\Below w.heap.size w w':=by
 have hl0:(l.map stC).length=l.length:=List.length_map _;obtain⟨cs,hcs⟩:∃cs,cs=l.map stC:=⟨_,rfl⟩
 have qgq:∀i (hi:i<cs.length),∃a b:Nat,cs[i]=[.int .i64 a,.int .i64 b]:=fun i hi=>by
  subst hcs;rw[List.getElem_map]
  exact⟨_,_,rfl⟩
 rw[<-hcs]at hsl hl0⊢;have q96:cs.length<=100000000:=by omega
 rw[<-hl0];clear hcs hlen hl0;have hI:=qE w w.heap.size (ifC h p q (.slice oa n cap) c) 38 (by simp[ifC]) (q9 _)
 have hB1:=qn w (.cells (ifC h p q (.slice oa n cap) c) 38);have h2:=qE (w.alloc (.cells (ifC h p q (.slice oa n cap) c) 38)) w.heap.size zIf 53 (by simp[zIf,ifC]) hB1.size
 have hb2:=qn (w.alloc (.cells (ifC h p q (.slice oa n cap) c) 38)) (.cells zIf 53);have e0:(w.alloc (.cells (ifC h p q (.slice oa n cap) c) 38)).alloc (.cells zIf 53)=(w.alloc (.cells #[.int .i64 h.time,.string h.extra,.string h.name,.string h.note,.int .i64 h.level,.int .i64 h.os,.bool h.text,.bool h.sum,.int .i64 h.flags,.int .i64 p,.int .i64 q,.slice oa n cap,.string c] 38)).alloc (.cells #[.int .i64 0,.string ⟨#[]⟩,.string ⟨#[]⟩,.string ⟨#[]⟩,.int .i64 0,.int .i64 0,.bool false,.bool false,.int .i64 0,.int .i64 0,.int .i64 0,.slice none 0 0,.string ⟨#[]⟩] 53):=rfl;have HB0:=q7 (qq hB1 hb2);have HI0:=q7 (hI.up hb2);have H20:=q7 h2;have hs1:((w.alloc (.cells (ifC h p q (.slice oa n cap) c) 38)).alloc (.cells zIf 53)).heap.size=w.heap.size+2:=by simp
 have hs0:(w.alloc (.cells (ifC h p q (.slice oa n cap) c) 38)).heap.size=w.heap.size+1:=by simp
 have qan:=hsl.up (qq hB1 hb2);rw[hs0]at H20;clear hI hB1 h2 hb2 hs0 hsl;unfold ifC
 go_enter Tryz.func20,Tryz.ntmps20
 go_upto_region 1 with(fail)
 rw[<-e0];clear e0;generalize (w.alloc (.cells (ifC h p q (.slice oa n cap) c) 38)).alloc (.cells zIf 53)=w1 at*;obtain⟨oa',cap',bl,off,hve,hd,hc⟩:=qan
 cases hve
 have hix:=jy (P:=Tryz.prog) 2 36 101 Tryz.underlying36 (by kernel_rfl) hd
 have HC:=q7 hc;have HBL:=q7 hd.hblk;have hm:=hd.len;have HCS:=q7 qgq;obtain⟨g1,hg1⟩:∃g1,g1=w.heap.size:=⟨_,rfl⟩;obtain⟨g2,hg2⟩:∃g2,g2=w.heap.size+1:=⟨_,rfl⟩;have HI1:Hid (Own w1 w.heap.size 38 (.slice (some ⟨g1,0,none⟩) 13 13) (ifC h p q (.slice oa cs.length cap) c).toList):=q7 (by rw[hg1];exact HI0.out)
 have H21:Hid (Own w1 w.heap.size 53 (.slice (some ⟨g2,0,none⟩) 13 13) zIf.toList):=q7 (by rw[hg2];exact H20.out)
 have HG2:Hid (w.heap.size<=g2):=q7 (by omega)
 have qkP:Hid (g2<w1.heap.size):=q7 (by omega)
 rw[<-hg2,<-hg1];have qjA:g1<w1.heap.size:=by omega
 clear hd hc qgq HI0 H20 hg1 hg2 hs1;have HB1:=HB0;clear HB0;have c11:w1.cell? ⟨g1,11,none⟩=some (.slice oa cs.length cap):=HI1.out.cell (i:=11) (by simp[ifC])
 go_wp2
 go_loopg [3,4] (cs.length+1) (fun gk vo iv wr=>∃k:Nat,iv=.int .i64 k/\k<=cs.length/\eK 2 wr w1.heap.size 102 vo (cs.take k)/\Below w1.heap.size w1 wr/\gk=cs.length+1-k)
 case atStart=>exact⟨0,rfl,qc _,eK.nil _ _ _ _,qj _ _,rfl⟩
 case round=>
  obtain⟨k,rfl,hk,hown,q8Z,rfl⟩:=hrel;have HO:=q7 hown;have HW:=q7 q8Z;have hsz:=q8Z.size;clear hown q8Z;have d11:wr.cell? ⟨g1,11,none⟩=some (.slice oa cs.length cap):=by rw[HW.out.cell (p:=⟨g1,11,none⟩) qjA];exact c11
  have qm1:g1<wr.heap.size:=by omega
  by_cases hlt:k<cs.length
  ·have q9w:decide (k<cs.length)=true:=by rw[decide_eq_true_iff];omega
   have hbl:=HBL.out (by omega)
   have qhe:bl<wr.heap.size:=by omega
   obtain⟨p2,q2,hrow⟩:=HCS.out k hlt;have q9a:=fun W kd=>hix W kd (k:Int) (by omega) (by omega)
   simp only[Int.toNat_natCast]at q9a
   have hgd:cs.getD k []=[.int .i64 p2,.int .i64 q2]:=by
    rw[<-hrow];simp[List.getD,hlt]
   have hcell:∀c,c<2->wr.cell? ⟨bl,off+k*2+c,none⟩=some (([.int .i64 p2,.int .i64 q2]:List Value).getD c undef):=fun c hc=>by
    rw[HW.out.cell (p:=⟨bl,off+k*2+c,none⟩) hbl,HC.out k hlt c hc,hgd]
   have e0:wr.cell? ⟨bl,off+k*2,none⟩=some (.int .i64 p2):=hcell 0 (by decide)
   have e1:wr.cell? ⟨bl,off+k*2+1,none⟩=some (.int .i64 q2):=hcell 1 (by decide)
   have HTK:Hid (cs.take (k+1)=cs.take k++[[.int .i64 p2,.int .i64 q2]]):=q7 (by rw[List.take_succ_eq_append_getElem hlt,hrow])
   obtain⟨row,hrw⟩:∃row,row=u3.ownBlock:=⟨_,rfl⟩;have q97:=q7 hrw;have hne:some bl≠row:=fun e=>by have:=(HO.out.lt bl (by rw[<-hrw,<-e])).1;omega
   have qb2:some g1≠row:=fun e=>by have:=(HO.out.lt g1 (by rw[<-hrw,<-e])).1;omega
   have hw0:w1.heap.size<=wr.drew.heap.size:=hsz;have HT4:Hid (w1.heap.size<=(wr.drew.alloc (.cells #[.int .i64 p2,.int .i64 q2] 102)).heap.size):=q7 (qa hw0 (qn wr.drew _).size);have HTO:=q7 ((HO.out.up (qS (qj _ _))).up (qn wr.drew (.cells #[.int .i64 p2,.int .i64 q2] 102)));have hsl:=iY 2 wr.drew #[.int .i64 p2,.int .i64 q2] 102 [[.int .i64 p2,.int .i64 q2]] rfl (by intro x hx;simp at hx;subst hx;rfl) (by simp)
   have HSL:Hid (SlK 2 (wr.drew.alloc (.cells #[.int .i64 p2,.int .i64 q2] 102)) (.slice (some ⟨wr.heap.size,0,none⟩) 1 1) [[.int .i64 p2,.int .i64 q2]]):=q7 (by simpa using hsl)
   have HK5:Hid (∀x∈[[Value.int .i64 p2,.int .i64 q2]],x.length=2):=q7 (by intro x hx;simp at hx;subst hx;rfl)
   have H1C:Hid (∀u∈[[Value.int .i64 p2,.int .i64 q2]].flatten,u.oneCell'=true):=q7 (by intro u hu;simp at hu;rcases hu with rfl|rfl<;>rfl)
   have HLN:Hid ((cs.take k).length+[[Value.int .i64 p2,.int .i64 q2]].length<=1000000000):=q7 (by rw[List.length_take,List.length_singleton];omega)
   clear hcell hgd hrow hix hrw hsl hw0 c11;go_wp2;refine jw (fun w'=>∃x,w'=chg wr row x) [0,1,2,3,4,5,6,7,8,9,10,11,12,13] [14,15] [16] (by kernel_rfl) (by kernel_rfl) (qW (qV _ _)) ?_
   simp only[pk]
   repeat(go_big_quiet_step (fail))
   refine wpQuiet_nil ?_
   (unfold qy;go_wp2;refine⟨qW (qv (by repeat(first|exact qj _ _|assumption|refine qw ?_ _|refine qk ?_|refine qA ?_ _|refine qs ?_ _)) _),?_⟩)
   unfold qy
   go_wp2_with(at_builtin;refine lY 2 rfl (.tmp 12) (.tmp 26) 51 rfl w1.heap.size 102 (.agg #[.int .i64 0,.int .i64 0]) 16 Tryz.underlying51 (by kernel_rfl) rfl (by decide) (by decide) u3 _ rfl HTO.out _ _ rfl HSL.out HK5.out H1C.out HLN.out HT4.out ?_;intro v' w5 hown1 hg1 hk1;rw[<-q97.out]at hg1;have HO1:=q7 hown1;have HG1:=q7 hg1;clear hown1 hg1 hk1)
   refine⟨qW (qp (qv (by repeat(first|exact qj _ _|assumption|refine qw ?_ _|refine qk ?_|refine qA ?_ _|refine qs ?_ _)) _) HG1.out),?_⟩
   unfold qy;have HB5:Hid (Below w1.heap.size w1 w5):=q7 ((qS (HW.out.alloc hsz (.cells #[.int .i64 p2,.int .i64 q2] 102))).grown HG1.out HT4.out (fun q e=>(HO.out.lt q (by rw[<-q97.out];exact e)).1))
   unfold qy;go_wp2;refine⟨trivial,?_⟩;unfold qy;go_wp2
   go_roundg (cs.length+1-(k+1))
   case measure=>omega
   case rel=>exact⟨k+1,by go_num,by omega,by rw[HTK.out];exact HO1.out,HB5.out,rfl⟩
  ·have q9w:decide (k<cs.length)=false:=by rw[qm];omega
   obtain rfl:k=cs.length:=by omega
   have ho:=HO.out;rw[List.take_length]at ho;have hs3:=ho.sl;obtain⟨oa3,cap3,b3,off3,rfl,-⟩:=id hs3;have HS3:=q7 hs3;have HO3:=q7 ho;have HIr:=q7 (HI1.out.up HW.out);have H2r:=q7 (H21.out.up HW.out);have HGr:=q7 HIr.out.box
   have HN2:Hid (∀x,(Value.slice oa3 cs.length cap3).ownBlock=some x->x≠g2):=q7 (fun x e z=>by
    have h1:=(HO3.out.lt x e).1;have h2:=qkP.out;omega)
   have d9:wr.cell? ⟨g1,9,none⟩=some (.int .i64 p):=HIr.out.cell (i:=9) (by simp[ifC])
   have d10:wr.cell? ⟨g1,10,none⟩=some (.int .i64 q):=HIr.out.cell (i:=10) (by simp[ifC])
   have d12:wr.cell? ⟨g1,12,none⟩=some (.string c):=HIr.out.cell (i:=12) (by simp[ifC])
   obtain⟨AI,hAI⟩:∃AI,AI=ifC h p q (.slice oa cs.length cap) c:=⟨_,rfl⟩;have HSZ:Hid (0+9<=AI.size):=q7 (by rw[hAI];exact(by decide:9<=13))
   have HEX:Hid (AI.extract 0 (0+9)=#[.int .i64 h.time,.string h.extra,.string h.name,.string h.note,.int .i64 h.level,.int .i64 h.os,.bool h.text,.bool h.sum,.int .i64 h.flags]):=q7 (by rw[hAI];rfl)
   rw[<-hAI]at HGr;clear HO ho hs3 c11 hAI
   go_wp2_with(first
    |((with_reducible show wpList _ _ _ (Oper.mk _ (.load 23 _) _ _ _ _::_) _ _);refine jP rfl 23 _ rfl g1 0 9 rfl 38 AI #[.int .i64 h.time,.string h.extra,.string h.name,.string h.note,.int .i64 h.level,.int .i64 h.os,.bool h.text,.bool h.sum,.int .i64 h.flags] (0,0) _ HGr.out Tryz.underlying23 rfl (by kernel_rfl) HSZ.out HEX.out ?_)
    |((with_reducible show wpList _ _ _ (Oper.mk _ (.store 53 _ _) _ _ _ _::_) _ _);refine qo rfl 53 _ _ rfl w.heap.size 53 g2 13 13 rfl (ifC h p q (.slice oa3 cs.length cap3) c) rfl (by kernel_rfl) zIf.toList H2r.out (by simp[zIf,ifC]) (dN _ _ _ _ _ _ _) ?_;intro w9 ho2 hg2;have HO9:=q7 ho2;have HG9:=q7 hg2;clear ho2 hg2))
   have q9n:Hid (Own w9 w.heap.size 53 (.slice (some ⟨g2,0,none⟩) 13 13) (ifC h p q (.slice oa3 cs.length cap3) c).toList):=HO9;have hb:=HB1.out.trans (HW.out.mono HB1.out.size)
   exact bC rfl rfl rfl (oZ rfl rfl q9n.out) ⟨oa3,cap3,rfl,HS3.out.keep HG9.out (fun e=>HN2.out _ e rfl),hb.grown HG9.out hb.size (fun k e=>by cases e;exact HG2.out)⟩
theorem S5(W:World)(h:GH):(binOp .eql 23 (.agg (ghC h)) (.agg (ghC h))).run Tryz.prog W=.ok (.bool true) W:=by
 rw[run_eql_struct,lP W h];rfl
theorem q88{w:World}{h:GH}{p q:Int}{oa ob:Option Addr}{n1 k1 n2 k2:Nat}{c:ByteArray}{l:List (Nat×Nat)}(h1:SlK 2 w (.slice oa n1 k1) (l.map stC))(h2:SlK 2 w (.slice ob n2 k2) (l.map stC)):
  Calls Tryz.prog 19 #[.agg (ifC h p q (.slice oa n1 k1) c),.agg (ifC h p q (.slice ob n2 k2) c)] w fun e w'=>e=.returned (.bool true)/\∃x,w'=ext w x:=by
 have hA:=qE w w.heap.size (ifC h p q (.slice oa n1 k1) c) 53 (by simp[ifC]) (q9 _)
 have hb1:=qn w (.cells (ifC h p q (.slice oa n1 k1) c) 53);have hB:=qE (w.alloc (.cells (ifC h p q (.slice oa n1 k1) c) 53)) w.heap.size (ifC h p q (.slice ob n2 k2) c) 53 (by simp[ifC]) hb1.size
 have hb2:=qn (w.alloc (.cells (ifC h p q (.slice oa n1 k1) c) 53)) (.cells (ifC h p q (.slice ob n2 k2) c) 53);have e0:(w.alloc (.cells (ifC h p q (.slice oa n1 k1) c) 53)).alloc (.cells (ifC h p q (.slice ob n2 k2) c) 53)=(w.alloc (.cells #[.int .i64 h.time,.string h.extra,.string h.name,.string h.note,.int .i64 h.level,.int .i64 h.os,.bool h.text,.bool h.sum,.int .i64 h.flags,.int .i64 p,.int .i64 q,.slice oa n1 k1,.string c] 53)).alloc (.cells #[.int .i64 h.time,.string h.extra,.string h.name,.string h.note,.int .i64 h.level,.int .i64 h.os,.bool h.text,.bool h.sum,.int .i64 h.flags,.int .i64 p,.int .i64 q,.slice ob n2 k2,.string c] 53):=rfl;have hs0:(w.alloc (.cells (ifC h p q (.slice oa n1 k1) c) 53)).heap.size=w.heap.size+1:=by simp
 have hs1:((w.alloc (.cells (ifC h p q (.slice oa n1 k1) c) 53)).alloc (.cells (ifC h p q (.slice ob n2 k2) c) 53)).heap.size=w.heap.size+2:=by simp
 have HB:=q7 (qq hb1 hb2);have HA:=q7 (hA.up hb2);have HB2:=q7 hB;rw[hs0]at HB2;have HSS:=q7 (W0 (h1.up (qq hb1 hb2)) (h2.up (qq hb1 hb2)));have HCQ:=q7 (fun W=>S5 W h)
 have hcq:=S5;have hcg:=pP;unfold ghC at hcq;have hcc:(c.toList==c.toList)=true:=by simp
 clear hA hb1 hB hb2 hs0 h1 h2;unfold ifC
 go_enter Tryz.func19,Tryz.ntmps19
 go_upto_region 1 with(fail)
 rw[<-e0];clear e0;generalize (w.alloc (.cells (ifC h p q (.slice oa n1 k1) c) 53)).alloc (.cells (ifC h p q (.slice ob n2 k2) c) 53)=w1 at*;obtain⟨g1,hg1⟩:∃g1,g1=w.heap.size:=⟨_,rfl⟩;obtain⟨g2,hg2⟩:∃g2,g2=w.heap.size+1:=⟨_,rfl⟩;rw[<-hg1]at HA;rw[<-hg2]at HB2;rw[<-hg2,<-hg1];obtain⟨A1,hA1⟩:∃A1,A1=ifC h p q (.slice oa n1 k1) c:=⟨_,rfl⟩;obtain⟨A2,hA2⟩:∃A2,A2=ifC h p q (.slice ob n2 k2) c:=⟨_,rfl⟩;have HZ1:Hid (0+9<=A1.size):=q7 (by rw[hA1];exact(by decide:9<=13))
 have HZ2:Hid (0+9<=A2.size):=q7 (by rw[hA2];exact(by decide:9<=13))
 have HX1:Hid (A1.extract 0 (0+9)=#[.int .i64 h.time,.string h.extra,.string h.name,.string h.note,.int .i64 h.level,.int .i64 h.os,.bool h.text,.bool h.sum,.int .i64 h.flags]):=q7 (by rw[hA1];rfl)
 have HX2:Hid (A2.extract 0 (0+9)=#[.int .i64 h.time,.string h.extra,.string h.name,.string h.note,.int .i64 h.level,.int .i64 h.os,.bool h.text,.bool h.sum,.int .i64 h.flags]):=q7 (by rw[hA2];rfl)
 have HGA:=q7 HA.out.box;have HGB:=q7 HB2.out.box;have a9:w1.cell? ⟨g1,9,none⟩=some (.int .i64 p):=HA.out.cell (i:=9) (by simp[ifC])
 have a10:w1.cell? ⟨g1,10,none⟩=some (.int .i64 q):=HA.out.cell (i:=10) (by simp[ifC])
 have a11:w1.cell? ⟨g1,11,none⟩=some (.slice oa n1 k1):=HA.out.cell (i:=11) (by simp[ifC])
 have b9:w1.cell? ⟨g2,9,none⟩=some (.int .i64 p):=HB2.out.cell (i:=9) (by simp[ifC])
 have b10:w1.cell? ⟨g2,10,none⟩=some (.int .i64 q):=HB2.out.cell (i:=10) (by simp[ifC])
 have b11:w1.cell? ⟨g2,11,none⟩=some (.slice ob n2 k2):=HB2.out.cell (i:=11) (by simp[ifC])
 have l1:=HA.out.blk.2;have l2:=HB2.out.blk.2;rw[<-hA1]at HGA;rw[<-hA2]at HGB;clear hA1 hA2 hg1 hg2 hs1
 go_wp2_with(first
  |((with_reducible show wpList _ _ _ (Oper.mk _ (.load 23 (.tmp 5)) _ _ _ _::_) _ _);refine jP rfl 23 _ rfl g1 0 9 rfl 53 A1 #[.int .i64 h.time,.string h.extra,.string h.name,.string h.note,.int .i64 h.level,.int .i64 h.os,.bool h.text,.bool h.sum,.int .i64 h.flags] (0,0) _ HGA.out Tryz.underlying23 rfl (by kernel_rfl) HZ1.out HX1.out ?_)
  |((with_reducible show wpList _ _ _ (Oper.mk _ (.load 23 (.tmp 7)) _ _ _ _::_) _ _);refine jP rfl 23 _ rfl g2 0 9 rfl 53 A2 #[.int .i64 h.time,.string h.extra,.string h.name,.string h.note,.int .i64 h.level,.int .i64 h.os,.bool h.text,.bool h.sum,.int .i64 h.flags] (0,0) _ HGB.out Tryz.underlying23 rfl (by kernel_rfl) HZ2.out HX2.out ?_)
  |((with_reducible go_at_call 45);(with_reducible refine HSS.out.mono ?_);rintro en w2 ⟨rfl,hx⟩;have hb:=qr hx;have HB3:=q7 (qq HB.out hb);have a12:w2.cell? ⟨g1,12,none⟩=some (.string c):=(HA.out.up hb).cell (i:=12) (by simp[ifC]);have b12:w2.cell? ⟨g2,12,none⟩=some (.string c):=(HB2.out.up hb).cell (i:=12) (by simp[ifC]);have l1:=(HA.out.up hb).blk.2;have l2:=(HB2.out.up hb).blk.2;clear hx hb))
 go_ret
 exact⟨rfl,qt HB3.out⟩
end Go.Cm
namespace Go.Cm
open Go.RowKit Go.Proofs
attribute [local irreducible] j8
theorem X2{w:World}{s:ByteArray}(hs0:s.size<=4611686018427387904)(hL:jK w):Calls Tryz.prog 6 #[.string s] w fun e w'=>e=.returned (.bool true)/\∃x,w'=ext w x:=by
 have HL:=q7 hL
 by_cases hs:s.size<=700
 ·have hsi:decide ((s.size:Int)>700)=false:=by rw[qm];omega
  obtain⟨q1,q2,q3⟩:=pE (s:=s) (by omega)
  have HQ1:=q7 (qa q1 (show 16*s.size+2<=100000000 by omega))
  have HQ2:=q7 (qa q2 (by decide:2<=1000))
  have HQ3:=q7 q3;have HPP:=q7 (fun(W:World) (h:jK W)=>iM (s:=s) (by omega) h)
  have HPR:=q7 (fun(W:World)=>q5B (s:=s) (by omega) W)
  unfold S1 at HPP;unfold q1C at HPR;generalize jI s=Y at*;obtain⟨⟨yh,yp,yq,yst,yt⟩,yl⟩:=Y;simp only at HQ1 HQ2 HQ3 HPP HPR;clear hL q1 q2 q3
  go_enter Tryz.func6,Tryz.ntmps6
  go_upto_region 3 with(fail)
  go_upto_region 4 with(first
   |((with_reducible go_at_call 13);(with_reducible refine(HPP.out w HL.out).mono ?_);rintro en w1 ⟨oa,n,k,c,vb,rfl,hc,hsl,⟨e1,rfl,hbl⟩,hb⟩;have HC:=q7 hc;have HSL:=q7 hsl;have HBL:=q7 hbl;have HB1:=q7 hb;have HT:=q7 (oC w1);clear hc hsl hbl hb)
   |(refine qo rfl 38 _ _ rfl w1.heap.size 38 w1.heap.size 13 13 rfl (ifC yh yp yq (.slice oa n k) c) rfl (by kernel_rfl) zIf.toList HT.out.1 (by simp[zIf,ifC]) (dN _ _ _ _ _ _ _) ?_;intro w2 ho hg;have qbi:=q7 ho;have HG2:=q7 hg;have HC2:=q7 (HT.out.2.1.keep hg (.inr (fun e=>by have h9:w1.heap.size+1=w1.heap.size:=ql e;omega)));clear ho hg)
   |(refine qo rfl 42 _ _ rfl w1.heap.size 42 (w1.heap.size+1) 1 1 rfl #[e1] rfl (by kernel_rfl) [.nilIface] HC2.out (by simp) (by intro u hu;simp at hu;rw[hu];exact HBL.out.one) ?_;intro w3 ho hg;have qbk:=q7 ho;have HG3:=q7 hg;clear ho hg))
  have HI2:Hid (Own w2 w1.heap.size 38 (.slice (some ⟨w1.heap.size,0,none⟩) 13 13) (ifC yh yp yq (.slice oa n k) c).toList):=qbi;have HD3:Hid (Own w3 w1.heap.size 42 (.slice (some ⟨w1.heap.size+1,0,none⟩) 1 1) [e1]):=qbk;have hb2:=(HT.out.2.2.grown HG2.out HT.out.2.2.size (fun k e=>by cases e;exact q9 _))
  have q9d:Hid (Below w1.heap.size w1 w3):=q7 (hb2.grown HG3.out hb2.size (fun k e=>by cases e;omega))
  have HB3:=q7 (qq HB1.out q9d.out);have HI3:=q7 (HI2.out.keep HG3.out (.inr (fun e=>by have h9:w1.heap.size=w1.heap.size+1:=ql e;omega)))
  have qd9:=q7 (HSL.out.up q9d.out);have HE3:=q7 (HBL.out.up q9d.out);obtain⟨g1,hg1⟩:∃g1,g1=w1.heap.size:=⟨_,rfl⟩;rw[<-hg1]at HD3 HI3⊢;clear qbi qbk HT HC2 HG2 HG3 HI2 hb2 q9d HB1 HSL HBL HPP hg1
  go_upto_region 5 with(first
   |((with_reducible go_at_call 18);(with_reducible refine(HPR.out w3).mono ?_);rintro en w4 ⟨v,vl,c2,rfl,hc2,q9v,hlk,hb⟩;have hcc:c2=c:=fZ (hc2.trans HC.out.symm);subst hcc;obtain⟨oa2,cap2,b2,off2,rfl,-⟩:=id q9v;have HS2:=q7 q9v;have HLK:=q7 hlk;obtain⟨oal,capl,bl,offl,rfl,-⟩:=hlk.open;have HB4:=q7 (qq HB3.out hb);have HI4:=q7 (HI3.out.up hb);have HD4:=q7 (HD3.out.up hb);have qhA:=q7 (qd9.out.up hb);have HE4:=q7 (HE3.out.up hb);have HZ4:=q7 (qE w4 w4.heap.size zIf 53 (by simp[zIf,ifC]) (q9 _));clear hb hc2 q9v hlk)
   |(refine qo rfl 53 _ _ rfl w4.heap.size 53 w4.heap.size 13 13 rfl (ifC yh yp yq (.slice oa2 yst.length cap2) c2) rfl (by kernel_rfl) zIf.toList HZ4.out (by simp[zIf,ifC]) (dN _ _ _ _ _ _ _) ?_;intro w5 ho hg;have qhE:=q7 ho;have hb5:=(qn w4 _).grown hg (qn w4 _).size (by intro k e;cases e;exact q9 _);have qbp:=q7 hb5;clear ho hg hb5))
  have hl0:(yst.map stC).length=yst.length:=List.length_map _;rw[hl0]at HS2;clear hl0;obtain⟨g5,hg5⟩:∃g5,g5=w4.heap.size:=⟨_,rfl⟩;have HR5:Hid (Own w5 w4.heap.size 53 (.slice (some ⟨g5,0,none⟩) 13 13) (ifC yh yp yq (.slice oa2 yst.length cap2) c2).toList):=q7 (by rw[hg5];exact qhE.out)
  rw[<-hg5];have HB5:=q7 (qq HB4.out qbp.out);have HI5:=q7 (HI4.out.up qbp.out);have HD5:=q7 (HD4.out.up qbp.out);have qkk:=q7 (qhA.out.up qbp.out);have HE5:=q7 (HE4.out.up qbp.out);have HS5:=q7 (HS2.out.up qbp.out);have qkC:=q7 (HLK.out.up qbp.out);have HQI:Hid (∀w',(∃x,w'=ext w5 x)->w'.heap[g1]? =some (.cells (ifC yh yp yq (.slice oa n k) c2) 38 (0,0))):=q7 (fun w' hw=>(HI5.out.up (qr hw)).box)
  have HQR:Hid (∀w',(∃x,w'=ext w5 x)->w'.heap[g5]? =some (.cells (ifC yh yp yq (.slice oa2 yst.length cap2) c2) 53 (0,0))):=q7 (fun w' hw=>(HR5.out.up (qr hw)).box)
  have j1:w5.cell? ⟨g1+1,0,none⟩=some e1:=HD5.out.cell (i:=0) (by simp)
  have m1:=HD5.out.blk.2;clear HB3 HI3 HD3 qd9 HE3 HB4 HI4 HD4 qhA HE4 HS2 HLK qbp HZ4 qhE hg5 HPR
  go_wp2_with(fail)
  refine eP [([0,2],[1,3]),([4,5,7,8],[6]),([9,10,11,12,14],[13,15]),([16,17,18],[19]),([20,21],[])] (by kernel_rfl) (by kernel_rfl) ?_
  (unfold j6;simp only[pk])
  repeat(first|(go_big_quiet_want;(with_reducible show Oper.quiet _ (Oper.mk _ (.load _ _) _ _ _ _) _ _ _);refine jg 38 13 _ rfl g1 rfl (ifC yh yp yq (.slice oa n k) c2) rfl HQI.out _ Tryz.underlying38 rfl (by kernel_rfl) ?_;go_simp;go_big_quiet_on)|(go_big_quiet_want;(with_reducible show Oper.quiet _ (Oper.mk _ (.load _ _) _ _ _ _) _ _ _);refine jg 53 13 _ rfl g5 rfl (ifC yh yp yq (.slice oa2 yst.length cap2) c2) rfl HQR.out _ Tryz.underlying53 rfl (by kernel_rfl) ?_;go_simp;go_big_quiet_on))
  refine wpQuiet_nil ?_;have HBD:Hid (Below w5.heap.size w5 w5.drew):=q7 (qS (qj _ _));have HTK:=q7 (q79 (h:=yh) (p:=yp) (q:=yq) (c:=c2) (qkk.out.up HBD.out) HQ1.out);generalize hwd:w5.drew=wd at*;have HWD:=q7 hwd;clear hwd HQI HQR;unfold qy
  go_wp2_with((with_reducible go_at_call 20);(with_reducible refine HTK.out.mono ?_);rintro en w6 ⟨oa3,cap3,rfl,hsl,hb⟩;have qkj:=q7 hsl;have HB6:=q7 (HBD.out.trans (hb.mono HBD.out.size));clear hsl hb)
  refine⟨qt HB6.out,?_⟩;unfold qy;have HSM:=q7 (q88 (h:=yh) (p:=yp) (q:=yq) (c:=c2) qkj.out (HS5.out.up HB6.out))
  go_wp2_with((with_reducible go_at_call 19);(with_reducible refine HSM.out.mono ?_);rintro en w7 ⟨rfl,hx⟩;have HB7:=q7 (qq HB6.out (qr hx));clear hx)
  refine⟨qt HB7.out,?_⟩;unfold qy
  (unfold j6;simp only[pk])
  repeat(go_big_quiet_step (fail))
  refine wpQuiet_nil ?_;unfold qy;have HDP:=q7 (tR (HL.out.up (qq HB5.out HB7.out)) ⟨e1,rfl,HE5.out.up HB7.out⟩ (qa HQ2.out (by decide)))
  go_wp2_with((with_reducible go_at_call 14);(with_reducible refine HDP.out.mono ?_);rintro en w8 ⟨rfl,hx⟩;have HB8:=q7 (qq HB7.out (qr hx));clear hx)
  refine⟨qt HB8.out,?_⟩;unfold qy
  (unfold j6;simp only[pk])
  repeat(go_big_quiet_step (fail))
  refine wpQuiet_nil ?_;unfold qy;have HSB:=q7 (q7J (HL.out.up (qq HB5.out HB8.out)) ⟨e1,rfl,HE5.out.up HB8.out⟩ HQ3.out HQ2.out)
  go_wp2_with((with_reducible go_at_call 21);(with_reducible refine HSB.out.mono ?_);rintro en w9 ⟨rfl,hx⟩;have HB9:=q7 (qq HB8.out (qr hx));clear hx)
  refine⟨qt HB9.out,?_⟩;unfold qy;have HSR:=q7 (q8I (qkC.out.up HB9.out) HQ3.out HQ2.out)
  go_wp2_with((with_reducible go_at_call 22);(with_reducible refine HSR.out.mono ?_);rintro en wa ⟨rfl,hx⟩;have HBa:=q7 (qq HB9.out (qr hx));clear hx)
  refine⟨qt HBa.out,?_⟩;unfold qy;generalize (⟨(mD yl).toArray⟩:ByteArray)=SB at*;have hsb:(SB.toList==SB.toList)=true:=beq_self_eq_true _
  (unfold j6;simp only[pk])
  repeat(go_big_quiet_step (fail))
  refine wpQuiet_nil ?_;unfold qy;have HKN:=q7 (dO (HL.out.up (qq HB5.out HBa.out)))
  go_wp2_with((with_reducible go_at_call 8);(with_reducible refine HKN.out.mono ?_);rintro en wb ⟨rfl,hx⟩;have HBb:=q7 (qq HBa.out (qr hx));clear hx)
  refine⟨qt HBb.out,?_⟩;unfold qy
  (unfold j6;simp only[pk])
  repeat(go_big_quiet_step (fail))
  refine wpQuiet_nil ?_;unfold qy;unfold j6;intro hz;clear hz;go_wp2;go_ret
  exact⟨rfl,qt (qq HB5.out HBb.out)⟩
 ·have hsi:(s.size:Int)>700:=by omega
  have HK:=q7 (dO HL.out);clear hL
  go_enter Tryz.func6,Tryz.ntmps6
  go_wp2_with((with_reducible go_at_call 8);(with_reducible refine HK.out.mono ?_);rintro en w3 ⟨rfl,hx⟩;have HB3:=q7 (qr hx);clear hx)
  go_ret
  exact⟨rfl,qt HB3.out⟩
end Go.Cm
