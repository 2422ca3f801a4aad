/- Walks of functions and plain facts, joined and squeezed by a program. Conditions: as each says. -/
import Derived.Test.YtnelgjehpbjloaaGreatDoorGXH
set_option maxHeartbeats 8000000
set_option maxRecDepth 100000
set_option linter.unusedSimpArgs false
namespace Go.Cm
open Go.RowKit Go.Proofs
theorem q2Y{h:GH}(hok:X9 h)(hs:h.name.size<=4611686018427387904/\h.note.size<=4611686018427387904)(w:World):Calls Tryz.prog 49 #[.agg (ghC h)] w fun e w'=>e=.returned (.bool (jG h))/\∃x,w'=ext w x:=by
 have hr:jG h=(fC h.flags&&iU h.time 4294967295&&iU h.level 255&&iU h.os 255&&(jF h.flags 4||h.extra.toList.isEmpty)&&(jF h.flags 8||h.name.toList.isEmpty)&&(jF h.flags 16||h.note.toList.isEmpty)&&decide (h.extra.size<=65535)&&no0 (bys h.name)&&no0 (bys h.note)):=rfl;have H1:=q7 (fun W=>wU h.time 4294967295 W)
 have H2:=q7 (fun W=>wU h.level 255 W)
 have H3:=q7 (fun W=>wU h.os 255 W)
 have H4:=q7 (fun W=>q6J hs.1 W)
 have H5:=q7 (fun W=>q6J hs.2 W)
 have hfl:=zS hok.flags;have hf2:(bits .andNot .i64 h.flags 28 != 0)= !fC h.flags:=by rw[bne,hfl]
 have HFA:=q7 (fun(hh:fC h.flags=true)=>q12 hh)
 obtain⟨tm,ex,nm,nt,lv,os,tx,sm,fl⟩:=h;simp only at*;generalize jG ⟨tm,ex,nm,nt,lv,os,tx,sm,fl⟩=R at*;have hex:decide ((ex.size:Int)<=65535)=decide (ex.size<=65535):=decide_eq_decide.2 (by omega)
 generalize fC fl=c1 at*;generalize iU tm 4294967295=c2 at*;generalize iU lv 255=c3 at*;generalize iU os 255=c4 at*;generalize no0 (bys nm)=e1 at*;generalize no0 (bys nt)=e2 at*;generalize jF fl 4=b4 at*;generalize jF fl 8=b8 at*;generalize jF fl 16=b16 at*;generalize decide (ex.size<=65535)=le at*;have HR:=q7 hr;clear hr hok hs hfl;unfold ghC;simp only;generalize hz4:ex.toList.isEmpty=z4 at*;generalize hz8:nm.toList.isEmpty=z8 at*;generalize qiJ:nt.toList.isEmpty=z16 at*;have T2:=q7 (fun(_:c2=true)=>True.intro)
 have T3:=q7 (fun(_:c3=true)=>True.intro)
 have T4:=q7 (fun(_:c4=true)=>True.intro)
 have T5:=q7 (fun(_:(b4||z4)=true)=>True.intro)
 have T6:=q7 (fun(_:(b8||z8)=true)=>True.intro)
 cases c1
 all_goals try(obtain⟨a4,a8,a16⟩:=HFA.out rfl;clear HFA;cases c2)
 all_goals try(have t:=T2.out rfl;clear t T2;cases c3)
 all_goals try(have t:=T3.out rfl;clear t T3;cases c4)
 all_goals try(have t:=T4.out rfl;clear t T4;cases b4;cases z4)
 all_goals try(have t:=T5.out rfl;clear t T5;cases b8;cases z8)
 all_goals try(have t:=T6.out rfl;clear t T6;cases b16;cases z16)
 all_goals
  go_enter Tryz.func49,Tryz.ntmps49
  go_wp2_with(first
   |((with_reducible go_at_call 94);first|((with_reducible refine(H1.out _).mono ?_);rintro en w2 ⟨rfl,hx⟩;rw[hx];clear hx)|((with_reducible refine(H2.out _).mono ?_);rintro en w2 ⟨rfl,hx⟩;rw[hx];clear hx)|((with_reducible refine(H3.out _).mono ?_);rintro en w2 ⟨rfl,hx⟩;rw[hx];clear hx))
   |((with_reducible go_at_call 95);first|((with_reducible refine(H4.out _).mono ?_);rintro en w2 ⟨rfl,hx⟩;rw[hx];clear hx)|((with_reducible refine(H5.out _).mono ?_);rintro en w2 ⟨rfl,hx⟩;rw[hx];clear hx)))
  try
   refine wp_loop_rounds 4 ?_
   repeat
    rw[rounds_succ]
    go_wp2_with(first
     |((with_reducible go_at_call 94);first|((with_reducible refine(H1.out _).mono ?_);rintro en w2 ⟨rfl,hx⟩;rw[hx];clear hx)|((with_reducible refine(H2.out _).mono ?_);rintro en w2 ⟨rfl,hx⟩;rw[hx];clear hx)|((with_reducible refine(H3.out _).mono ?_);rintro en w2 ⟨rfl,hx⟩;rw[hx];clear hx))
     |((with_reducible go_at_call 95);first|((with_reducible refine(H4.out _).mono ?_);rintro en w2 ⟨rfl,hx⟩;rw[hx];clear hx)|((with_reducible refine(H5.out _).mono ?_);rintro en w2 ⟨rfl,hx⟩;rw[hx];clear hx)))
  all_goals
   go_ret
   exact⟨by rw[HR.out];simp[*],(qt (by repeat(first|exact qj _ _|assumption|refine qw ?_ _|refine qk ?_|refine qA ?_ _|refine qs ?_ _)))⟩
end Go.Cm
