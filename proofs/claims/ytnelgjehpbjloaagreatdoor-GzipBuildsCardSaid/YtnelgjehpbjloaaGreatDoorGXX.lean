/- Walks of functions and plain facts, joined and squeezed by a program. Conditions: as each says. -/
import Derived.Test.YtnelgjehpbjloaaGreatDoorGXW
import Derived.Test.YtnelgjehpbjloaaGreatDoorGXM
set_option maxHeartbeats 8000000
set_option maxRecDepth 100000
set_option linter.unusedSimpArgs false
namespace Go.Cm
open Go.RowKit Go.Proofs
theorem q56{n W:Nat}(hW:W=1\/W=2\/W=4)(hn:n<256^W)(w:World):Calls Tryz.prog 60 #[.int .i64 n,.int .i64 W] w fun e w'=>e=.returned (.string ⟨(leB n W).toArray⟩)/\∃x,w'=ext w x:=by
 have HN:=q7 (fun W'=>q40 hW hn W')
 generalize leB n W=q at*
 go_enter Tryz.func60,Tryz.ntmps60
 go_wp2_with((with_reducible go_at_call 31);(with_reducible refine(HN.out _).mono ?_);rintro en w2 ⟨rfl,x2,rfl⟩)
 go_ret
 exact⟨rfl,(qt (by repeat(first|exact qj _ _|assumption|refine qw ?_ _|refine qk ?_|refine qA ?_ _|refine qs ?_ _)))⟩
theorem nr1{n:Nat}(hn:n<256)(w:World):Calls Tryz.prog 60 #[.int .i64 n,.int .i64 1] w fun e w'=>e=.returned (.string ⟨(leB n 1).toArray⟩)/\∃x,w'=ext w x:=q56 (W:=1) (.inl rfl) hn w
theorem nr2{n:Nat}(hn:n<65536)(w:World):Calls Tryz.prog 60 #[.int .i64 n,.int .i64 2] w fun e w'=>e=.returned (.string ⟨(leB n 2).toArray⟩)/\∃x,w'=ext w x:=q56 (W:=2) (.inr (.inl rfl)) hn w
theorem nr4{n:Nat}(hn:n<4294967296)(w:World):Calls Tryz.prog 60 #[.int .i64 n,.int .i64 4] w fun e w'=>e=.returned (.string ⟨(leB n 4).toArray⟩)/\∃x,w'=ext w x:=q56 (W:=4) (.inr (.inr rfl)) hn w
theorem q57{h:GH}(hok:X9 h)(hs:h.extra.size<=100000/\h.name.size<=100000/\h.note.size<=100000)(w:World):Calls Tryz.prog 28 #[.agg (ghC h)] w (pY h w):=by
 have HRP:=q7 (fun W=>q2Z hok ⟨by omega,by omega⟩ W)
 have hox:=qE w w.heap.size (ghC h) 23 (by simp[ghC]) (q9 _)
 have hC9:(ghC h).size=9:=rfl;rw[hC9]at hox;have HBX:=q7 hox;have q9f:=qn w (.cells (ghC h) 23);have HB0:=q7 q9f;have e0:w.alloc (.cells (ghC h) 23)=w.alloc (.cells #[.int .i64 h.time,.string h.extra,.string h.name,.string h.note,.int .i64 h.level,.int .i64 h.os,.bool h.text,.bool h.sum,.int .i64 h.flags] 23):=rfl;clear hox q9f
 cases hR:jG h
 ·rw[hR]at HRP
  have HQ:Hid (∀e w',(e=.returned (.tuple #[.string ⟨#[]⟩,.int .i64 4])/\∃x,w'=ext w x)->pY h w e w'):=q7 (fun e w' hh=>by unfold pY;rw[hR];exact hh)
  refine Calls.mono ?_ HQ.out;clear HQ hR;unfold ghC
  go_enter Tryz.func28,Tryz.ntmps28
  go_upto_region 1 with(fail)
  rw[<-e0];clear e0;have hl0:w.heap.size<(w.alloc (.cells (ghC h) 23)).heap.size:=by simp
  generalize w.alloc (.cells (ghC h) 23)=w1 at*;obtain⟨A,hgA,hsA,hA⟩:=HBX.out.whole;have hAe:A=ghC h:=Array.ext' hA;subst hAe;have HGA:=q7 hgA;clear hgA hsA hA
  go_wp2_with(first
   |(refine qI rfl 23 9 _ rfl w.heap.size rfl (ghC h) rfl HGA.out _ Tryz.underlying23 rfl (by kernel_rfl) ?_)
   |((with_reducible go_at_call 59);(with_reducible refine(HRP.out _).mono ?_);rintro en w2 ⟨rfl,hx⟩;have HB2:=q7 (qq HB0.out (qr hx));clear hx))
  go_ret2
  exact⟨rfl,qt HB2.out⟩
 ·rw[hR]at HRP
  obtain⟨R,hRR⟩:∃R,R=(⟨(dH h).toArray⟩:ByteArray):=⟨_,rfl⟩;have HQ:Hid (∀e w',(e=.returned (.tuple #[.string R,.int .i64 0])/\∃x,w'=ext w x)->pY h w e w'):=q7 (fun e w' hh=>by unfold pY;rw[hR,hRR]at*;exact hh)
  refine Calls.mono ?_ HQ.out;have HRR:=q7 hRR;clear HQ hRR;obtain⟨p1,p2,p3,p4,p5,p6,p7,p8,p9,p10⟩:=fY hR;have hfl:=gS p1;have hfi:0<=h.flags/\h.flags<=28:=by omega
  have HH4:=q7 (fun W=>zU (f:=h.flags) (b:=4) ⟨hfi.1,by omega⟩ (by decide) W)
  have HH8:=q7 (fun W=>zU (f:=h.flags) (b:=8) ⟨hfi.1,by omega⟩ (by decide) W)
  have qfH:=q7 (fun W=>zU (f:=h.flags) (b:=16) ⟨hfi.1,by omega⟩ (by decide) W)
  clear hR p6 p7 p8 p9 p10 p1;unfold ghC
  go_enter Tryz.func28,Tryz.ntmps28
  go_upto_region 1 with(fail)
  rw[<-e0];clear e0;generalize w.alloc (.cells (ghC h) 23)=w1 at*;obtain⟨A,hgA,hsA,hA⟩:=HBX.out.whole;have hAe:A=ghC h:=Array.ext' hA;subst hAe;have HGA:=q7 hgA;clear hgA hsA hA
  go_upto_region 3 with(first
   |(refine qI rfl 23 9 _ rfl w.heap.size rfl (ghC h) rfl HGA.out _ Tryz.underlying23 rfl (by kernel_rfl) ?_)
   |((with_reducible go_at_call 59);(with_reducible refine(HRP.out _).mono ?_);rintro en w3 ⟨rfl,hx⟩;have hb2:=qr hx;have HB3:=q7 (qq HB0.out hb2);have HX3:=q7 (HBX.out.up hb2);clear hx hb2))
  have qb4:=HX3.out.blk.2;obtain⟨d0,d1,d2,d3,d4,d5,d6,d7,d8⟩:=bZ HX3.out;clear HGA HBX HB0 HRP;have ht1:(0:Int)<=(if h.text=true then 1 else 0)/\(if h.text=true then(1:Int)else 0)<=1:=by split<;>omega
  have hs2:(0:Int)<=(if h.sum=true then 2 else 0)/\(if h.sum=true then(2:Int)else 0)<=2:=by split<;>omega
  have hft:(cJ h:Int)=h.flags+(if h.text=true then 1 else 0)+(if h.sum=true then 2 else 0):=by
   unfold cJ
   rcases hfl with e|e|e|e|e|e|e|e<;>rw[e]<;>split<;>split<;>rfl
  go_upto_if 12 with(fail)
  go_cut [4] (fun x6 wx=>x6=.int .i64 (h.flags+(if h.text then 1 else 0))/\wx=w3)
  case first=>
   generalize h.text=tx at*
   cases tx
   all_goals
    go_wp2
    go_meet
    case rel=>exact⟨by simp,rfl⟩
  case rest=>
   obtain⟨rfl,hwc⟩:=hcut;subst hwc;generalize (if h.text=true then(1:Int)else 0)=t1 at*
   clear d6
   go_upto_if 16 with(fail)
   go_cut [4] (fun x6 wx=>x6=.int .i64 (h.flags+t1+(if h.sum=true then 2 else 0))/\wx=wc)
   case first=>
    generalize h.sum=tx at*
    cases tx
    all_goals
     go_wp2
     go_meet
     case rel=>exact⟨by simp,rfl⟩
   case rest=>
    obtain⟨rfl,hwc⟩:=hcut;subst hwc;rw[<-hft]at⊢;have hF:cJ h<256:=by omega
    obtain⟨T,q1⟩:∃T:Nat,T=h.time.toNat:=⟨_,rfl⟩;obtain⟨L,q2⟩:∃T:Nat,T=h.level.toNat:=⟨_,rfl⟩;obtain⟨O,q3⟩:∃T:Nat,T=h.os.toNat:=⟨_,rfl⟩;have HQ2:Hid (gh0 h=[31,139,8]++leB (cJ h) 1++leB T 4++leB L 1++leB O 1):=q7 (by rw[q1,q2,q3];rfl)
    rw[show h.time=(T:Nat) by omega]at d0
    rw[show h.level=(L:Nat) by omega]at d4
    rw[show h.os=(O:Nat) by omega]at d5
    have HN1:=q7 (fun W=>nr4 (n:=T) (by omega) W)
    have HN2:=q7 (fun W=>nr1 (n:=L) (by omega) W)
    have HN3:=q7 (fun W=>nr1 (n:=O) (by omega) W)
    have HN0:=q7 (fun W=>nr1 hF W)
    have HN4:=q7 (fun W=>nr2 (n:=h.extra.size) (by omega) W)
    have l0:(leB (cJ h) 1).length=1:=jf _ _;have l1:(leB T 4).length=4:=jf _ _;have l2:(leB L 1).length=1:=jf _ _;have l3:(leB O 1).length=1:=jf _ _;generalize leB (cJ h) 1=B0 at*;generalize leB T 4=B1 at*;generalize leB L 1=B2 at*;generalize leB O 1=B3 at*;clear hft ht1 hs2 hfi hfl d7 p2 p3 p4 q1 q2 q3;generalize cJ h=FT at*
    go_upto_region 8 with(fail)
    refine qY (by kernel_rfl) (by kernel_rfl) ?_
    repeat(first
     |(go_big_quiet_want;refine gR _ _ _ _ rfl _ _ rfl rfl (by simp only[qg,List.length_cons,List.length_nil];omega) ?_;go_simp;go_big_quiet_on)
     |go_big_quiet_step ((go_at_call 60;first|(with_reducible exact jx (HN0.out _))|(with_reducible exact jx (HN1.out _))|(with_reducible exact jx (HN2.out _))|(with_reducible exact jx (HN3.out _)))))
    refine wpQuiet_nil ?_;intro w4 hw4;have hb4:=qr hw4;have HB4:=q7 (qq HB3.out hb4);have HX4:=q7 (HX3.out.up hb4);clear hw4 hb4 d0 d1 d2 d3 d4 d5 d8 HN0 HN1 HN2 HN3;have HE0:Hid (31::139::8::(B0++(B1++(B2++B3)))=gh0 h):=q7 (by rw[HQ2.out];simp)
    rw[HE0.out];have z0:(⟨(gh0 h).toArray⟩:ByteArray).size<=10:=by rw[qN,mG];decide
    have hg0:=mG h;clear l0 l1 l2 l3 HE0 HQ2;obtain⟨d0,d1,d2,d3,d4,d5,d6,d7,d8⟩:=bZ HX4.out;have lt4:=HX4.out.blk.2;clear d0 d2 d3 d4 d5 d6 d7
    go_upto_if 36 with((with_reducible go_at_call 61);(with_reducible refine(HH4.out _).mono ?_);rintro en w5 ⟨rfl,hx⟩;rw[hx];clear hx)
    go_cut [5] (fun x5 wx=>x5=.string ⟨(gh1 h).toArray⟩/\Hid (Own wx w.heap.size 23 (.slice (some ⟨w.heap.size,0,none⟩) 9 9) (ghC h).toList)/\Hid (Below w.heap.size w wx))
    case first=>
     generalize hc:jF h.flags 4=c4 at*;have HC:=q7 hc;clear hc
     cases c4
     ·go_wp2
      go_meet
      case rel=>exact⟨by unfold gh1;rw[HC.out];rfl,HX4,HB4⟩
     ·have l2:(leB h.extra.size 2).length=2:=jf _ _
      have HE1:Hid (gh1 h=gh0 h++leB h.extra.size 2++bys h.extra):=q7 (by unfold gh1;rw[HC.out];rfl)
      have hxe:h.extra=⟨(bys h.extra).toArray⟩:=by cases h.extra;rfl
      have hxl:(bys h.extra).length=h.extra.size:=qF _;have HXE:=q7 hxe;have d1b:w4.cell? ⟨w.heap.size,1,none⟩=some (.string ⟨(bys h.extra).toArray⟩):=by rw[<-HXE.out];exact d1
      have z4:(⟨(bys h.extra).toArray⟩:ByteArray).size=h.extra.size:=by rw[qN,hxl]
      clear d1 hxe;generalize leB h.extra.size 2=B4 at*;generalize bys h.extra=EX at*;generalize gh0 h=G0 at*
      go_upto_region 10 with(fail)
      refine qY (by kernel_rfl) (by kernel_rfl) ?_
      repeat(first
       |(go_big_quiet_want;refine gR _ _ _ _ rfl _ _ rfl rfl (by simp only[qg];omega) ?_;go_simp;go_big_quiet_on)
       |go_big_quiet_step ((go_at_call 60;(with_reducible exact jx (HN4.out _)))))
      refine wpQuiet_nil ?_;intro w6 hw6;have hb6:=qr hw6;have HB6:=q7 (qq HB4.out hb6);have HX6:=q7 (HX4.out.up hb6);clear hw6 hb6;go_wp2
      go_meet
      case rel=>exact⟨by rw[HE1.out];simp,HX6,HB6⟩
    case rest=>
     obtain⟨rfl,HX5,HB5⟩:=hcut;obtain⟨d0,d1,d2,d3,d4,d5,d6,d7,d8⟩:=bZ HX5.out;have lt4:=HX5.out.blk.2;clear d0 d1 d3 d4 d5 d6 d7
     go_upto_if 48 with((with_reducible go_at_call 61);(with_reducible refine(HH8.out _).mono ?_);rintro en w5 ⟨rfl,hx⟩;rw[hx];clear hx)
     go_cut [5] (fun x5 wx=>x5=.string ⟨(gh2 h).toArray⟩/\Hid (Own wx w.heap.size 23 (.slice (some ⟨w.heap.size,0,none⟩) 9 9) (ghC h).toList)/\Hid (Below w.heap.size w wx))
     case first=>
      generalize hc:jF h.flags 8=c4 at*;have HC:=q7 hc;clear hc
      cases c4
      ·go_wp2
       go_meet
       case rel=>exact⟨by unfold gh2;rw[HC.out];rfl,HX5,HB5⟩
      ·have z4:(⟨(gh1 h).toArray⟩:ByteArray).size<=400000:=by rw[qN];have:=sR h;omega
       have HE1:Hid ((⟨(gh1 h).toArray⟩:ByteArray)++h.name++⟨#[0]⟩=⟨(gh2 h).toArray⟩):=q7 (by rw[zV,show(⟨#[0]⟩:ByteArray)=⟨([0]:qK).toArray⟩from rfl,jA];unfold gh2;rw[HC.out];rfl)
       have z5:((⟨(gh1 h).toArray⟩:ByteArray)++h.name).size<=500000:=by rw[zV,qN,qg,qF];have:=sR h;omega
       have z6:(gh1 h).length<=400000:=by have:=sR h;omega
       have z7:h.name.size<=100000:=by omega
       go_wp2
       go_meet
       case rel=>exact⟨by rw[<-HE1.out],HX5,HB5⟩
     case rest=>
      obtain⟨rfl,HX6,HB6⟩:=hcut;obtain⟨d0,d1,d2,d3,d4,d5,d6,d7,d8⟩:=bZ HX6.out;have lt4:=HX6.out.blk.2;clear d0 d1 d2 d4 d5 d6 d7
      go_upto_if 56 with((with_reducible go_at_call 61);(with_reducible refine(qfH.out _).mono ?_);rintro en w5 ⟨rfl,hx⟩;rw[hx];clear hx)
      go_cut [5] (fun x5 wx=>x5=.string ⟨(gh3 h).toArray⟩/\Hid (Own wx w.heap.size 23 (.slice (some ⟨w.heap.size,0,none⟩) 9 9) (ghC h).toList)/\Hid (Below w.heap.size w wx))
      case first=>
       generalize hc:jF h.flags 16=c4 at*;have HC:=q7 hc;clear hc
       cases c4
       ·go_wp2
        go_meet
        case rel=>exact⟨by unfold gh3;rw[HC.out];rfl,HX6,HB6⟩
       ·have z4:(⟨(gh2 h).toArray⟩:ByteArray).size<=400000:=by rw[qN];have:=sS h;omega
        have HE1:Hid ((⟨(gh2 h).toArray⟩:ByteArray)++h.note++⟨#[0]⟩=⟨(gh3 h).toArray⟩):=q7 (by rw[zV,show(⟨#[0]⟩:ByteArray)=⟨([0]:qK).toArray⟩from rfl,jA];unfold gh3;rw[HC.out];rfl)
        have z5:((⟨(gh2 h).toArray⟩:ByteArray)++h.note).size<=500000:=by rw[zV,qN,qg,qF];have:=sS h;omega
        have z6:(gh2 h).length<=400000:=by have:=sS h;omega
        have z7:h.note.size<=100000:=by omega
        go_wp2
        go_meet
        case rel=>exact⟨by rw[<-HE1.out],HX6,HB6⟩
      case rest=>
       obtain⟨rfl,HX7,HB7⟩:=hcut;obtain⟨-,-,-,-,-,-,-,d7,-⟩:=bZ HX7.out;have HSM:=q7 (fun W=>q2W (s:=⟨(gh3 h).toArray⟩) (by rw[qN];have:=sU h;omega) W)
       rw[show bys ⟨(gh3 h).toArray⟩=gh3 h from rfl]at HSM
       have hm:bL (gh3 h)%65536<65536:=Nat.mod_lt _ (by decide)
       have hm2:(bL (gh3 h):Int)%65536=((bL (gh3 h)%65536:Nat):Int):=by omega
       have HNS:=q7 (fun W=>nr2 hm W)
       have HR2:Hid (R=⟨(if h.sum=true then gh3 h++leB (bL (gh3 h)%65536) 2 else gh3 h).toArray⟩):=q7 (by rw[HRR.out];rfl)
       have z8:(⟨(gh3 h).toArray⟩:ByteArray).size<=500000:=by rw[qN];have:=sU h;omega
       have z9:(⟨(leB (bL (gh3 h)%65536) 2).toArray⟩:ByteArray).size<=2:=by rw[qN,jf];decide
       have HZ:=q7 (jA (gh3 h) (leB (bL (gh3 h)%65536) 2));generalize leB (bL (gh3 h)%65536) 2=SB at*;generalize bL (gh3 h)%65536=cs at*;generalize bL (gh3 h)=cc at*;generalize gh3 h=G at*;generalize h.sum=sm at*;clear HRR
       cases sm
       ·go_wp2
        go_ret2
        exact⟨by rw[HR2.out];rfl,qt HB7.out⟩
       ·go_wp2_with(first
         |((with_reducible go_at_call 32);(with_reducible refine(HSM.out _).mono ?_);rintro en w12 ⟨rfl,hx⟩;have q99:=q7 (qq HB7.out (qr hx));clear hx)
         |((with_reducible go_at_call 60);(with_reducible refine(HNS.out _).mono ?_);rintro en w13 ⟨rfl,hx⟩;have q9d:=q7 (qq q99.out (qr hx));clear hx))
        go_ret2
        exact⟨by rw[HR2.out];exact congrArg (fun s=>Ending.returned (.tuple #[.string s,.int .i64 0])) HZ.out,qt q9d.out⟩
theorem q6V{n:Nat}(hn:n<4294967296)(w:World):Calls Tryz.prog 31 #[.int .i64 n,.int .i64 4] w fun e w'=>e=.returned (.tuple #[.string ⟨(leB n 4).toArray⟩,.int .i64 0])/\∃x,w'=ext w x:=q40 (W:=4) (.inr (.inr rfl)) hn w
theorem q5m{w:World}{v:Value}{l:List PtN}{h:GH}(hok:X9 h)(hp:js w v l)(hpo:∀p∈l,yT p)(q9e:∀p∈l,∀o∈p.ops,pL o)(hfl:zJ l)(hfh:q27 h):Calls Tryz.prog 11 #[.agg (ghC h),v] w (bS (aW h l) w):=by
 obtain⟨R,hR⟩:∃R,R=aW h l:=⟨_,rfl⟩;rw[<-hR];have HR:=q7 hR;clear hR;have q9f:=qn w (.cells (ghC h) 23);have HB0:=q7 q9f;have hox:=qE w w.heap.size (ghC h) 23 (by simp[ghC]) (q9 _)
 have hC9:(ghC h).size=9:=rfl;rw[hC9]at hox;have HPA:=q7 (hp.up q9f);have e0:w.alloc (.cells (ghC h) 23)=w.alloc (.cells #[.int .i64 h.time,.string h.extra,.string h.name,.string h.note,.int .i64 h.level,.int .i64 h.os,.bool h.text,.bool h.sum,.int .i64 h.flags] 23):=rfl;have HBX:=q7 hox;have HBD:=q7 (fun W=>q57 hok (xG hfh) W)
 have HEN:=q7 (fun W (hb:Below w.heap.size w W)=>q2O (hp.up hb) hpo q9e (q3V hfl) (q0P hfl))
 have HTX:=q7 (fun W (hb:Below w.heap.size w W)=>q3T (hp.up hb) hpo)
 have hlt:=oX 10 17 l;have hle:=P5 hfl;have hlg:=wV h;have hgs:=xG hfh;have HRB:Hid (aW h l=if jG h then(if(eN l).1≠0 then((eN l).1,[])else(0,dH h++(eN l).2++(leB (bL (jq 10 17 l).2) 4++leB (jq 10 17 l).2.length 4)))else(4,[])):=q7 rfl
 unfold pY at HBD;unfold bS at HEN HTX⊢;obtain⟨oa,cap,bl,off,rfl,-⟩:=hp.open;clear q9f hox hC9 hp hpo q9e hok;generalize dH h=GB at*;generalize hGR:jG h=gr at*;generalize eN l=E at*;generalize jq 10 17 l=T at*;obtain⟨e1,e2⟩:=E;obtain⟨t1,t2⟩:=T;simp only at hlt hle HEN HTX;have HCR:=q7 (fun W=>q2W (s:=⟨t2.toArray⟩) (by rw[qN];omega) W)
 rw[show bys ⟨t2.toArray⟩=t2 from rfl]at HCR
 have hcl:=oS t2;have HF1:=q7 (fun W=>q6V hcl W)
 have HF2:=q7 (fun W=>q6V (n:=t2.length) (by omega) W)
 rw[HRB.out]at HR;clear HRB;have l4:(leB (bL t2) 4).length=4:=jf _ _;have l5:(leB t2.length 4).length=4:=jf _ _;generalize leB (bL t2) 4=c4 at*;generalize leB t2.length 4=d4 at*;generalize bL t2=cc at*;have hsz:(⟨t2.toArray⟩:ByteArray).size=t2.length:=qN _;generalize t2.length=tl at*
 go_enter Tryz.func11,Tryz.ntmps11
 go_upto_region 1 with(fail)
 rw[<-e0];clear e0;generalize w.alloc (.cells (ghC h) 23)=w1 at*;obtain⟨A,hgA,hsA,hA⟩:=HBX.out.whole;have hAe:A=ghC h:=Array.ext' hA;subst hAe;have HGA:=q7 hgA;have HSZ:Hid ((ghC h).size=9):=q7 rfl;clear hgA hsA hA HBX hGR;generalize ghC h=cd at*
 cases gr
 ·have HR1:Hid (R=(4,[])):=q7 (by rw[HR.out];rfl)
  simp only[Bool.false_eq_true,if_false]at HBD
  go_wp2_with(first
   |(refine qI rfl 23 9 _ rfl w.heap.size rfl cd HSZ.out HGA.out _ Tryz.underlying23 rfl (by kernel_rfl) ?_)
   |((with_reducible go_at_call 28);(with_reducible refine(HBD.out _).mono ?_);rintro en w2 ⟨rfl,hx⟩;have HB2:=q7 (qq HB0.out (qr hx));clear hx))
  go_ret2
  rw[HR1.out]
  exact⟨rfl,qt HB2.out⟩
 ·simp only[if_true]at HBD
  by_cases he:e1=0
  ·subst he
   have HR1:Hid (R=(0,GB++e2++(c4++d4))):=q7 (by rw[HR.out];rfl)
   have z1:(⟨GB.toArray⟩:ByteArray).size=GB.length:=qN _;have z2:(⟨e2.toArray⟩:ByteArray).size=e2.length:=qN _;have z3:(⟨c4.toArray⟩:ByteArray).size=4:=by rw[qN,l4]
   have z4:(⟨d4.toArray⟩:ByteArray).size=4:=by rw[qN,l5]
   have HC3:=q7 (q1l GB e2 c4 d4);have HZ2:Hid (((⟨GB.toArray⟩:ByteArray)++⟨e2.toArray⟩).size<=20000000):=q7 (by rw[jA,qN,qg];omega)
   have HZ3:Hid (((⟨GB.toArray⟩:ByteArray)++⟨e2.toArray⟩++⟨c4.toArray⟩).size<=20000004):=q7 (by rw[jA,jA,qN,qg,qg];omega)
   have HZL:Hid (GB.length<=300100):=q7 (by omega)
   clear HR
   go_upto_region 10 with(first
    |(refine qI rfl 23 9 _ rfl w.heap.size rfl cd HSZ.out HGA.out _ Tryz.underlying23 rfl (by kernel_rfl) ?_)
    |((with_reducible go_at_call 28);(with_reducible refine(HBD.out _).mono ?_);rintro en w2 ⟨rfl,hx⟩;have HB2:=q7 (qq HB0.out (qr hx));clear hx)
    |((with_reducible go_at_call 29);(with_reducible refine(HEN.out _ HB2.out).mono ?_);rintro en w3 ⟨rfl,hx⟩;have HB3:=q7 (qq HB2.out (qr hx));clear hx)
    |((with_reducible go_at_call 30);(with_reducible refine(HTX.out _ HB3.out).mono ?_);rintro en w4 ⟨rfl,hx⟩;have HB4:=q7 (qq HB3.out (qr hx));clear hx)
    |((with_reducible go_at_call 32);(with_reducible refine(HCR.out _).mono ?_);rintro en w5 ⟨rfl,hx⟩;have HB5:=q7 (qq HB4.out (qr hx));clear hx)
    |((with_reducible go_at_call 31);(with_reducible refine(HF1.out _).mono ?_);rintro en w6 ⟨rfl,hx⟩;have HB6:=q7 (qq HB5.out (qr hx));clear hx)
    |((with_reducible go_at_call 31);(with_reducible refine(HF2.out _).mono ?_);rintro en w7 ⟨rfl,hx⟩;have HB7:=q7 (qq HB6.out (qr hx));clear hx))
   clear hlt hlg hgs hcl;have y2:=HZ2.out;have y3:=HZ3.out;have y4:=HZL.out;go_wp2
   go_ret2
   rw[HC3.out,HR1.out]
   exact⟨rfl,qt HB7.out⟩
  ·have HR1:Hid (R=(e1,[])):=q7 (by rw[HR.out,if_pos rfl,if_pos he])
   have hei:(((e1:Nat):Int) != 0)=true:=by simp;omega
   go_wp2_with(first
    |(refine qI rfl 23 9 _ rfl w.heap.size rfl cd HSZ.out HGA.out _ Tryz.underlying23 rfl (by kernel_rfl) ?_)
    |((with_reducible go_at_call 28);(with_reducible refine(HBD.out _).mono ?_);rintro en w2 ⟨rfl,hx⟩;have HB2:=q7 (qq HB0.out (qr hx));clear hx)
    |((with_reducible go_at_call 29);(with_reducible refine(HEN.out _ HB2.out).mono ?_);rintro en w3 ⟨rfl,hx⟩;have HB3:=q7 (qq HB2.out (qr hx));clear hx))
   go_ret2
   rw[HR1.out]
   exact⟨rfl,qt HB3.out⟩
end Go.Cm
namespace Go.Cm
open Go.RowKit Go.Proofs
attribute [local irreducible] j8
theorem X7{w:World}{v:Value}{l:List PtN}{h:GH}(hL:jK w)(hok:X9 h)(hp:js w v l)(hpo:∀p∈l,yT p)(q9e:∀p∈l,∀o∈p.ops,pL o):Calls Tryz.prog 3 #[.agg (ghC h),v] w fun e w'=>e=.returned (.bool true)/\∃x,w'=ext w x:=by
 have hx:=qE w w.heap.size (ghC h) 23 (by simp[ghC]) (q9 _)
 have hC9:(ghC h).size=9:=rfl;rw[hC9]at hx;have hb0:=qn w (.cells (ghC h) 23);have e0:w.alloc (.cells (ghC h) 23)=w.alloc (.cells #[.int .i64 h.time,.string h.extra,.string h.name,.string h.note,.int .i64 h.level,.int .i64 h.os,.bool h.text,.bool h.sum,.int .i64 h.flags] 23):=rfl;have HB0:=q7 hb0;have HX:=q7 hx;have HP:=q7 (hp.up hb0);have HL:=q7 (hL.up hb0);have HLA:=q7 hL;have HPO:=q7 hpo;have HOP:=q7 q9e;have HOK:=q7 hok;have HSZ:Hid ((ghC h).size=9):=q7 rfl;have HFW:=q7 (fun(W:World) (hp:js W v l)=>q6U (h:=h) hp)
 have HBP:=q7 (fun(hf:zJ l) (hh:q27 h) (W:World) (v':Value) (hp:js W v' l)=>J0 (h:=h) hok hp hpo q9e hf hh)
 have HBR:=q7 (fun(hf:zJ l) (hh:q27 h) (W:World) (v':Value) (hp:js W v' l)=>q5m (h:=h) hok hp hpo q9e hf hh)
 have HGV:=q7 (fun(hf:zJ l) (W:World) (v':Value) (hp:js W v' l)=>q1k hp (qa hf.1 (by decide)))
 obtain⟨oa,cap,bl,off,rfl,-⟩:=hp.open;clear hx hC9 hb0 hp hL hpo q9e hok;unfold ghC
 go_enter Tryz.func3,Tryz.ntmps3
 go_upto_region 1 with(fail)
 rw[<-e0];clear e0;generalize w.alloc (.cells (ghC h) 23)=w1 at*;obtain⟨g,hg⟩:∃g,g=w.heap.size:=⟨_,rfl⟩;have HX1:Hid (Own w1 w.heap.size 23 (.slice (some ⟨g,0,none⟩) 9 9) (ghC h).toList):=q7 (by rw[hg];exact HX.out)
 rw[<-hg];have HGA:=q7 HX1.out.box;clear hg HX;generalize ghC h=cd at*;have HF1:=q7 (HFW.out w1 HP.out);clear HFW
 go_wp2_with(refine qI rfl 23 9 _ rfl g rfl cd HSZ.out HGA.out _ Tryz.underlying23 rfl (by kernel_rfl) ?_)
 (with_reducible refine HF1.out.mono ?_)
 rintro en w2 ⟨b,rfl,qcV,hx⟩;have hb:=qr hx;have HFE:=q7 qcV;have HB2:=q7 (qq HB0.out hb);have HP2:=q7 (HP.out.up hb);have HL2:=q7 (HL.out.up hb);have HX2:=q7 (HX1.out.up hb);clear hx hb qcV HF1 HP HL HX1 HGA HB0
 cases b with
 |false=>
  have HK:=q7 (dO HL2.out)
  go_wp2_with((with_reducible go_at_call 8);(with_reducible refine HK.out.mono ?_);rintro en w3 ⟨rfl,hx⟩;have HB3:=q7 (qq HB2.out (qr hx));clear hx)
  go_ret
  exact⟨rfl,qt HB3.out⟩
 |true=>
  obtain⟨hfl,hfh⟩:=HFE.out rfl;have HG2:=q7 (HGV.out hfl);have qbm:=q7 (HBP.out hfl hfh);have qiC:=q7 (HBR.out hfl hfh);have HGA:Hid (∀w',(∃x,w'=ext w2 x)->w'.heap[g]? =some (.cells cd 23 (0,0))):=q7 (fun w' hw=>(HX2.out.up (qr hw)).box)
  clear hfl hfh HFE HGV HBP HBR;unfold bS at qbm qiC;generalize aW h l=Y at*;obtain⟨ye,yt⟩:=Y
  go_wp2_with(fail)
  refine eP [([0,1],[2,3]),([4,5,6,7,8],[])] (by kernel_rfl) (by kernel_rfl) ?_
  (unfold j6;simp only[pk])
  repeat(first|(go_big_quiet_want;(with_reducible show Oper.quiet _ (Oper.mk _ (.load _ _) _ _ _ _) _ _ _);refine jg 23 9 _ rfl g rfl cd HSZ.out HGA.out _ Tryz.underlying23 rfl (by kernel_rfl) ?_;go_simp;go_big_quiet_on)|(go_big_quiet_step (fail)))
  refine wpQuiet_nil ?_;have HBD:Hid (Below w2.heap.size w2 w2.drew):=q7 (qS (qj _ _));have HPD:=q7 (HP2.out.up HBD.out);generalize w2.drew=wd at*;unfold qy
  go_wp2_with((with_reducible go_at_call 10);(with_reducible refine(HG2.out wd _ HPD.out).mono ?_);rintro en w3 ⟨v3,rfl,hp3,hb⟩;have HP3:=q7 hp3;have HB3:=q7 (HBD.out.trans (hb.mono HBD.out.size));clear hp3 hb)
  refine⟨qt HB3.out,?_⟩;unfold qy
  go_wp2_with((with_reducible go_at_call 9);(with_reducible refine(qbm.out w3 v3 HP3.out).mono ?_);rintro en w4 ⟨rfl,hx⟩;have hb:=qr hx;have HB4:=q7 (qq HB3.out hb);clear hx hb)
  refine⟨qt HB4.out,?_⟩;unfold qy
  (unfold j6;simp only[pk])
  repeat(go_big_quiet_step (fail))
  refine wpQuiet_nil ?_;unfold qy;unfold j6;intro hz;clear hz;have HG4:=q7 (HGA.out w4 (qt HB4.out));have HP4:=q7 (HP2.out.up HB4.out);have qcy:=q7 (qq HB2.out HB4.out);clear HGA HP2 HX2 HP3 HB3 HPD HBD qbm HG2;generalize (⟨yt.toArray⟩:ByteArray)=YS at*;have hys:(YS.toList==YS.toList)=true:=beq_self_eq_true _
  go_upto_region 5 with(first
   |(refine qI rfl 23 9 _ rfl g rfl cd HSZ.out HG4.out _ Tryz.underlying23 rfl (by kernel_rfl) ?_)
   |((with_reducible go_at_call 11);(with_reducible refine(qiC.out w4 _ HP4.out).mono ?_);rintro en w5 ⟨rfl,hx⟩;have HB5:=q7 (qq qcy.out (qr hx));clear hx))
  have HK:=q7 (dO (jK.up HLA.out HB5.out))
  go_wp2_with((with_reducible go_at_call 8);(with_reducible refine HK.out.mono ?_);rintro en w6 ⟨rfl,hx⟩;have HB6:=q7 (qq HB5.out (qr hx));clear hx)
  go_ret
  exact⟨rfl,qt HB6.out⟩
end Go.Cm
