/- Walks of functions and plain facts, joined and squeezed by a program. Conditions: as each says. -/
import Derived.Deep.CutRange
import Derived.Laws.EntriesVeiled
import Derived.Test.YtiladjhipahiiaaDMXB
set_option maxHeartbeats 8000000
set_option maxRecDepth 100000
set_option linter.unusedSimpArgs false
open Go.Proofs.Try
namespace Go.Cm
open Go.RowKit Go.Proofs
theorem ZmE0{P:Prop}(h:P:=by
 obtain⟨j,Sr,rfl,rfl,hj,hm,hgw,hjj,hnn,hp6,hp7,rfl⟩:=hrel;have HM1:=qa hm;have HG1:=qa hgw;have HJ1:=qa hjj;have HN1:=qa hnn;have P61:=qa hp6;have P71:=qa hp7;clear hm hgw hjj hnn hp6 hp7 HMX HGX HJX HNX P6X P7X P7a P7b P7l hn6 q5S;have hro:=HRO.o j;have r1:=hro.len;have r2:=hro.rlen;have r3:=hro.at_;have r4:=hro.tot;obtain⟨b1,b2,b3,b4⟩:=HBD.o;by_cases hlt:j<t
 ·have e1:(j+1)*u<=t*u:=Nat.mul_le_mul_right u hlt
  have e2:(j+1)*(2*u)<=t*(2*u):=Nat.mul_le_mul_right (2*u) hlt;rw[jL,Nat.one_mul]at e1 e2;have hys:=HYS.o j;have hlp:=HPL.o (Y j).2;have q1:=hlp.len;have q3:=hlp.rng 0 (by omega);have q4:=hlp.tot;simp only[j9]at q1 q3 q4;have HCL:=qa (HPT.o wr Sr (Y j).2 HM1.o HJ1.o (by omega) (by omega) (by omega) (part (Y j).2).1.f (part (Y j).2).1.l rfl rfl);obtain⟨at_,hat⟩:∃at_,at_=(Y j).1:=⟨_,rfl⟩;obtain⟨sj,hsj⟩:∃sj,sj=(part (Y j).2).2:=⟨_,rfl⟩;obtain⟨qf,hqf⟩:∃qf,qf=(part (Y j).2).1.f:=⟨_,rfl⟩;obtain⟨ql,hql⟩:∃ql,ql=(part (Y j).2).1.l:=⟨_,rfl⟩;rw[<-hqf,<-hql]at HCL;rw[<-hat,<-hsj,<-hqf,<-hql]at hys;rw[<-hsj]at HCL q1 q3 q4;rw[<-hqf,<-hql]at q3;rw[<-hat]at r3⊢;have k1:at_<sj.e.length:=by omega
  have k2:sj.e.length<=4000:=by omega
  have k3:tot sj.e<=95000:=by omega
  have k4:np<sj.e.length:=by omega
  obtain⟨k5,k6⟩:=q3;have HYJ:=qa hys;have q7D:=HG1.o.size;clear hys hlp q1 q4 e1 e2 hat hsj hqf hql r1 r2 r3 r4 hro q7C q85
  go_wp2_with((with_reducible go_at_call 62);refine HCL.o.mono ?_;rintro en' w5 ⟨rfl,S5,hm,hg⟩;have HM5:=qa hm;have HG5:=qa (HG1.o.trans hg);have HJ5:=qa (hJg _ _ _ _ HJ1.o hg);have HN5:=qa (HN1.o.gw hg);have P65:=qa (P61.o.gw hg);have P75:=qa (P71.o.gw hg);clear hm hg)
  have HM6:=qa (HM5.o.up (aB w5 (.cells #[.int .i64 qf,.int .i64 ql] 93)));have HJ6:=qa (hJb _ _ _ HJ5.o (aB w5 (.cells #[.int .i64 qf,.int .i64 ql] 93)));have HN6:=qa (HN5.o.up (aB w5 (.cells #[.int .i64 qf,.int .i64 ql] 93)));have P66:=qa (P65.o.up (aB w5 (.cells #[.int .i64 qf,.int .i64 ql] 93)));have P76:=qa (P75.o.up (aB w5 (.cells #[.int .i64 qf,.int .i64 ql] 93)));have PA6:Hid (LB (w5.alloc (.cells #[.int .i64 qf,.int .i64 ql] 93)) S5 w5.heap.size qf ql):=qa ⟨dS w5 qf ql,HM5.o.no (qb _)⟩;have HG6:=qa (HG5.o.up (aB w5 (.cells #[.int .i64 qf,.int .i64 ql] 93)));clear HM1 HG1 HJ1 HN1 P61 P71 HM5 HG5 HJ5 HN5 P65 P75 HCL;generalize w5.heap.size=p10 at*;generalize w5.alloc (.cells #[.int .i64 qf,.int .i64 ql] 93)=w6 at*;have hc4:=HM6.o.f4;have hgl:=HM6.o.glt;have PAa:=PA6.o.box.c0;have PAb:=PA6.o.box.c1;have PAl:=PA6.o.box.lt;have hn6:w6.cell? ⟨w.heap.size,6,none⟩=some (.int .i64 lo):=HN6.o.c 6 (show 6<8 by decide);have hn7:w6.cell? ⟨w.heap.size,7,none⟩=some (.int .i64 hi):=HN6.o.c 7 (show 7<8 by decide);have q5S:=HN6.o.lt
  try go_wp2
  refine aH [0,1,2,3,4,5,6] [] [7] (by kernel_rfl) (by kernel_rfl) ?_;simp only[pk]
  repeat(go_big_quiet_step (fail))
  refine wpQuiet_nil ?_;unfold aD;unfold aD
  go_wp2_with((with_reducible go_at_call 58);refine(kW (HM6.o.up (aG _)) at_ qf k1 (by omega) (by omega)).mono ?_;rintro en w7 ⟨rfl,S7,hm,hg⟩;have HM7:=qa hm;have HG7:=qa ((HG6.o.up (aG _)).trans hg);have PA7:=qa ((PA6.o.up (aG _)).gw hg);have HN7:=qa ((HN6.o.up (aG _)).gw hg);have P67:=qa ((P66.o.up (aG _)).gw hg);have P77:=qa ((P76.o.up (aG _)).gw hg);have HJ7:=qa (hJg _ _ _ _ (hJb _ _ _ HJ6.o (aG _)) hg);clear hm hg)
  refine⟨trivial,?_⟩;unfold aD;clear hc4 hgl hn6 hn7 q5S PAa PAb PAl HM6 HG6 HJ6 PA6 HN6 P66 P76;have t7:=cS at_ qf sj;have l7:=dN at_ qf sj;obtain⟨s7,hs7⟩:∃s7,s7=bT at_ qf sj:=⟨_,rfl⟩;rw[<-hs7]at t7 l7 HM7 HYJ;clear hs7;by_cases hc1:lo<=(j:Int)+1
  ·have hd1:decide (lo<=(j:Int)+1)=true:=by simpa using hc1
   rw[hd1]at HYJ;clear hd1;have hc4:=HM7.o.f4;have hgl:=HM7.o.glt;have PAa:=PA7.o.box.c0;have PAb:=PA7.o.box.c1;have PAl:=PA7.o.box.lt;have P7a:=P77.o.box.c0;have P7b:=P77.o.box.c1;have P7l:=P77.o.box.lt;have hn6:w7.cell? ⟨w.heap.size,6,none⟩=some (.int .i64 lo):=HN7.o.c 6 (show 6<8 by decide);have hn7:w7.cell? ⟨w.heap.size,7,none⟩=some (.int .i64 hi):=HN7.o.c 7 (show 7<8 by decide);have q5S:=HN7.o.lt
   try go_wp2
   refine aH [0,1,2,3,4,5,6] [] [7] (by kernel_rfl) (by kernel_rfl) ?_;simp only[pk]
   repeat(go_big_quiet_step (fail))
   refine wpQuiet_nil ?_;unfold aD;unfold aD
   go_wp2_with((with_reducible go_at_call 58);refine(kW (HM7.o.up (aG _)) ql mp (by omega) (by omega) (by omega)).mono ?_;rintro en w8 ⟨rfl,S8,hm,hg⟩;have HM8:=qa hm;have HG8:=qa ((HG7.o.up (aG _)).trans hg);have PA8:=qa ((PA7.o.up (aG _)).gw hg);have P78:=qa ((P77.o.up (aG _)).gw hg);have HN8:=qa ((HN7.o.up (aG _)).gw hg);have P68:=qa ((P67.o.up (aG _)).gw hg);have HJ8:=qa (hJg _ _ _ _ (hJb _ _ _ HJ7.o (aG _)) hg);clear hm hg)
   refine⟨trivial,?_⟩;unfold aD;clear hc4 hgl hn6 hn7 q5S PAa PAb PAl P7a P7b P7l HM7 HG7 HJ7 PA7 P77 HN7 P67;simp only[show∀f s,iff true f s=f s from fun f s=>rfl]at HYJ;have t8:=cS ql mp s7;have l8:=dN ql mp s7;obtain⟨s8,hs8⟩:∃s8,s8=bT ql mp s7:=⟨_,rfl⟩;rw[<-hs8]at t8 l8 HM8 HYJ;clear hs8;by_cases hc2:hi<0
   ·have hd2:∀p:Prop,[Decidable p]->decide (hi<0/\p)=decide p:=fun p _=>by simp[hc2]
    rw[hd2]at HYJ;clear hd2;by_cases hce:j+1=t
    ·have hcb:(((j:Int)+1)==(t:Int))=true:=by simpa using(by omega:(j:Int)+1=t)
     have hdc:decide (j+1=t)=true:=by simpa using hce
     rw[hdc]at HYJ;simp only[show∀f s,iff true f s=f s from fun f s=>rfl]at HYJ;clear hce hdc;have PAa:=PA8.o.box.c0;have PAb:=PA8.o.box.c1;have PAl:=PA8.o.box.lt;have hn6:w8.cell? ⟨w.heap.size,6,none⟩=some (.int .i64 lo):=HN8.o.c 6 (show 6<8 by decide);have hn7:w8.cell? ⟨w.heap.size,7,none⟩=some (.int .i64 hi):=HN8.o.c 7 (show 7<8 by decide);have q5S:=HN8.o.lt;have hn0:w8.cell? ⟨w.heap.size,0,none⟩=some (.int .i64 k):=HN8.o.c 0 (show 0<8 by decide);have hn1:w8.cell? ⟨w.heap.size,1,none⟩=some (.int .i64 n):=HN8.o.c 1 (show 1<8 by decide);have hn2:w8.cell? ⟨w.heap.size,2,none⟩=some (.int .u64 a):=HN8.o.c 2 (show 2<8 by decide);have hn3:w8.cell? ⟨w.heap.size,3,none⟩=some (.int .u64 b):=HN8.o.c 3 (show 3<8 by decide);have hn4:w8.cell? ⟨w.heap.size,4,none⟩=some (.int .u64 c):=HN8.o.c 4 (show 4<8 by decide);have hn5:w8.cell? ⟨w.heap.size,5,none⟩=some (.int .u64 d):=HN8.o.c 5 (show 5<8 by decide)
     go_wp2_with((with_reducible go_at_call 73);refine(HTM.o _).mono ?_;rintro en' w' ⟨rfl,x9,rfl⟩;(have HM9:=qa (HM8.o.up (aC w8 x9)));(have HG9:=qa (HG8.o.up (aC w8 x9)));(have HN9:=qa (HN8.o.up (aC w8 x9)));(have P69:=qa (P68.o.up (aC w8 x9)));(have P79:=qa (P78.o.up (aC w8 x9)));(have PA9:=qa (PA8.o.up (aC w8 x9)));(have HJ9:=qa (hJb _ _ _ HJ8.o (aC w8 x9))))
     clear PAa PAb PAl hn0 hn1 hn2 hn3 hn4 hn5 hn6 hn7 q5S;generalize ext w8 x9=w9 at*;have hc4:=HM9.o.f4;have hgl:=HM9.o.glt;have PAa:=PA9.o.box.c0;have PAb:=PA9.o.box.c1;have PAl:=PA9.o.box.lt;have hn6:w9.cell? ⟨w.heap.size,6,none⟩=some (.int .i64 lo):=HN9.o.c 6 (show 6<8 by decide);have hn7:w9.cell? ⟨w.heap.size,7,none⟩=some (.int .i64 hi):=HN9.o.c 7 (show 7<8 by decide);have q5S:=HN9.o.lt
     try go_wp2
     refine aH [0,1,2,3,4,5,6] [] [7] (by kernel_rfl) (by kernel_rfl) ?_;simp only[pk]
     repeat(go_big_quiet_step (fail))
     refine wpQuiet_nil ?_;unfold aD;unfold aD
     go_wp2_with((with_reducible go_at_call 58);refine(kW (HM9.o.up (aG _)) ql qf (by omega) (by omega) (by omega)).mono ?_;rintro en w10 ⟨rfl,S10,hm,hg⟩;have q60:=qa hm;have q7s:=qa ((HG9.o.up (aG _)).trans hg);have PA10:=qa ((PA9.o.up (aG _)).gw hg);have q7i:=qa ((HN9.o.up (aG _)).gw hg);have P610:=qa ((P69.o.up (aG _)).gw hg);have P710:=qa ((P79.o.up (aG _)).gw hg);have q9l:=qa (hJg _ _ _ _ (hJb _ _ _ HJ9.o (aG _)) hg);clear hm hg)
     refine⟨trivial,?_⟩;unfold aD;clear hc4 hgl hn6 hn7 q5S PAa PAb PAl HM9 HG9 HJ9 PA9 HN9 P69 P79;go_wp2
     go_roundg (t-(j+1))
     case measure=>omega
     case rel=>
      exact⟨j+1,S10,by go_num,by rw[HYJ.o],by omega,by rw[HYJ.o];exact q60.o,q7s.o,q9l.o,q7i.o,P610.o,P710.o,rfl⟩
    have hcb:(((j:Int)+1)==(t:Int))=false:=by simpa using(by omega:¬(j:Int)+1=t)
    have hdc:decide (j+1=t)=false:=by simpa using hce
    rw[hdc]at HYJ;simp only[show∀f s,iff false f s=s from fun f s=>rfl]at HYJ;clear hce hdc;have PAa:=PA8.o.box.c0;have PAb:=PA8.o.box.c1;have PAl:=PA8.o.box.lt;have hn6:w8.cell? ⟨w.heap.size,6,none⟩=some (.int .i64 lo):=HN8.o.c 6 (show 6<8 by decide);have hn7:w8.cell? ⟨w.heap.size,7,none⟩=some (.int .i64 hi):=HN8.o.c 7 (show 7<8 by decide);have q5S:=HN8.o.lt;have hn0:w8.cell? ⟨w.heap.size,0,none⟩=some (.int .i64 k):=HN8.o.c 0 (show 0<8 by decide);have hn1:w8.cell? ⟨w.heap.size,1,none⟩=some (.int .i64 n):=HN8.o.c 1 (show 1<8 by decide);have hn2:w8.cell? ⟨w.heap.size,2,none⟩=some (.int .u64 a):=HN8.o.c 2 (show 2<8 by decide);have hn3:w8.cell? ⟨w.heap.size,3,none⟩=some (.int .u64 b):=HN8.o.c 3 (show 3<8 by decide);have hn4:w8.cell? ⟨w.heap.size,4,none⟩=some (.int .u64 c):=HN8.o.c 4 (show 4<8 by decide);have hn5:w8.cell? ⟨w.heap.size,5,none⟩=some (.int .u64 d):=HN8.o.c 5 (show 5<8 by decide)
    go_wp2_with((with_reducible go_at_call 73);refine(HTM.o _).mono ?_;rintro en' w' ⟨rfl,x9,rfl⟩;(have HM9:=qa (HM8.o.up (aC w8 x9)));(have HG9:=qa (HG8.o.up (aC w8 x9)));(have HN9:=qa (HN8.o.up (aC w8 x9)));(have P69:=qa (P68.o.up (aC w8 x9)));(have P79:=qa (P78.o.up (aC w8 x9)));(have PA9:=qa (PA8.o.up (aC w8 x9)));(have HJ9:=qa (hJb _ _ _ HJ8.o (aC w8 x9))))
    clear PAa PAb PAl hn0 hn1 hn2 hn3 hn4 hn5 hn6 hn7 q5S;generalize ext w8 x9=w9 at*
    go_roundg (t-(j+1))
    case measure=>omega
    case rel=>
     exact⟨j+1,S8,by go_num,by rw[HYJ.o],by omega,by rw[HYJ.o];exact HM9.o,HG9.o,HJ9.o,HN9.o,P69.o,P79.o,rfl⟩
   have hd2:∀p:Prop,[Decidable p]->decide (hi<0/\p)=false:=fun p _=>by simp[hc2]
   rw[hd2]at HYJ;clear hd2;simp only[iff,qS,jr]at HYJ;have PAa:=PA8.o.box.c0;have PAb:=PA8.o.box.c1;have PAl:=PA8.o.box.lt;have hn6:w8.cell? ⟨w.heap.size,6,none⟩=some (.int .i64 lo):=HN8.o.c 6 (show 6<8 by decide);have hn7:w8.cell? ⟨w.heap.size,7,none⟩=some (.int .i64 hi):=HN8.o.c 7 (show 7<8 by decide);have q5S:=HN8.o.lt;go_wp2
   go_roundg (t-(j+1))
   case measure=>omega
   case rel=>
    exact⟨j+1,S8,by go_num,by rw[HYJ.o],by omega,by rw[HYJ.o];exact HM8.o,HG8.o,HJ8.o,HN8.o,P68.o,P78.o,rfl⟩
  have hd1:decide (lo<=(j:Int)+1)=false:=by simpa using hc1
  rw[hd1]at HYJ;clear hd1;simp only[show∀f s,iff false f s=s from fun f s=>rfl]at HYJ;by_cases hc2:hi<0
  ·have hd2:∀p:Prop,[Decidable p]->decide (hi<0/\p)=decide p:=fun p _=>by simp[hc2]
   rw[hd2]at HYJ;clear hd2;by_cases hce:j+1=t
   ·have hcb:(((j:Int)+1)==(t:Int))=true:=by simpa using(by omega:(j:Int)+1=t)
    have hdc:decide (j+1=t)=true:=by simpa using hce
    rw[hdc]at HYJ;simp only[show∀f s,iff true f s=f s from fun f s=>rfl]at HYJ;clear hce hdc;have PAa:=PA7.o.box.c0;have PAb:=PA7.o.box.c1;have PAl:=PA7.o.box.lt;have hn6:w7.cell? ⟨w.heap.size,6,none⟩=some (.int .i64 lo):=HN7.o.c 6 (show 6<8 by decide);have hn7:w7.cell? ⟨w.heap.size,7,none⟩=some (.int .i64 hi):=HN7.o.c 7 (show 7<8 by decide);have q5S:=HN7.o.lt;have hn0:w7.cell? ⟨w.heap.size,0,none⟩=some (.int .i64 k):=HN7.o.c 0 (show 0<8 by decide);have hn1:w7.cell? ⟨w.heap.size,1,none⟩=some (.int .i64 n):=HN7.o.c 1 (show 1<8 by decide);have hn2:w7.cell? ⟨w.heap.size,2,none⟩=some (.int .u64 a):=HN7.o.c 2 (show 2<8 by decide);have hn3:w7.cell? ⟨w.heap.size,3,none⟩=some (.int .u64 b):=HN7.o.c 3 (show 3<8 by decide);have hn4:w7.cell? ⟨w.heap.size,4,none⟩=some (.int .u64 c):=HN7.o.c 4 (show 4<8 by decide);have hn5:w7.cell? ⟨w.heap.size,5,none⟩=some (.int .u64 d):=HN7.o.c 5 (show 5<8 by decide)
    go_wp2_with((with_reducible go_at_call 73);refine(HTM.o _).mono ?_;rintro en' w' ⟨rfl,x9,rfl⟩;(have HM8:=qa (HM7.o.up (aC w7 x9)));(have HG8:=qa (HG7.o.up (aC w7 x9)));(have HN8:=qa (HN7.o.up (aC w7 x9)));(have P68:=qa (P67.o.up (aC w7 x9)));(have P78:=qa (P77.o.up (aC w7 x9)));(have PA8:=qa (PA7.o.up (aC w7 x9)));(have HJ8:=qa (hJb _ _ _ HJ7.o (aC w7 x9))))
    clear PAa PAb PAl hn0 hn1 hn2 hn3 hn4 hn5 hn6 hn7 q5S;generalize ext w7 x9=w8 at*;have hc4:=HM8.o.f4;have hgl:=HM8.o.glt;have PAa:=PA8.o.box.c0;have PAb:=PA8.o.box.c1;have PAl:=PA8.o.box.lt;have hn6:w8.cell? ⟨w.heap.size,6,none⟩=some (.int .i64 lo):=HN8.o.c 6 (show 6<8 by decide);have hn7:w8.cell? ⟨w.heap.size,7,none⟩=some (.int .i64 hi):=HN8.o.c 7 (show 7<8 by decide);have q5S:=HN8.o.lt
    try go_wp2
    refine aH [0,1,2,3,4,5,6] [] [7] (by kernel_rfl) (by kernel_rfl) ?_;simp only[pk]
    repeat(go_big_quiet_step (fail))
    refine wpQuiet_nil ?_;unfold aD;unfold aD
    go_wp2_with((with_reducible go_at_call 58);refine(kW (HM8.o.up (aG _)) ql qf (by omega) (by omega) (by omega)).mono ?_;rintro en w9 ⟨rfl,S9,hm,hg⟩;have HM9:=qa hm;have HG9:=qa ((HG8.o.up (aG _)).trans hg);have PA9:=qa ((PA8.o.up (aG _)).gw hg);have HN9:=qa ((HN8.o.up (aG _)).gw hg);have P69:=qa ((P68.o.up (aG _)).gw hg);have P79:=qa ((P78.o.up (aG _)).gw hg);have HJ9:=qa (hJg _ _ _ _ (hJb _ _ _ HJ8.o (aG _)) hg);clear hm hg)
    refine⟨trivial,?_⟩;unfold aD;clear hc4 hgl hn6 hn7 q5S PAa PAb PAl HM8 HG8 HJ8 PA8 HN8 P68 P78;go_wp2
    go_roundg (t-(j+1))
    case measure=>omega
    case rel=>
     exact⟨j+1,S9,by go_num,by rw[HYJ.o],by omega,by rw[HYJ.o];exact HM9.o,HG9.o,HJ9.o,HN9.o,P69.o,P79.o,rfl⟩
   have hcb:(((j:Int)+1)==(t:Int))=false:=by simpa using(by omega:¬(j:Int)+1=t)
   have hdc:decide (j+1=t)=false:=by simpa using hce
   rw[hdc]at HYJ;simp only[show∀f s,iff false f s=s from fun f s=>rfl]at HYJ;clear hce hdc;have PAa:=PA7.o.box.c0;have PAb:=PA7.o.box.c1;have PAl:=PA7.o.box.lt;have hn6:w7.cell? ⟨w.heap.size,6,none⟩=some (.int .i64 lo):=HN7.o.c 6 (show 6<8 by decide);have hn7:w7.cell? ⟨w.heap.size,7,none⟩=some (.int .i64 hi):=HN7.o.c 7 (show 7<8 by decide);have q5S:=HN7.o.lt;have hn0:w7.cell? ⟨w.heap.size,0,none⟩=some (.int .i64 k):=HN7.o.c 0 (show 0<8 by decide);have hn1:w7.cell? ⟨w.heap.size,1,none⟩=some (.int .i64 n):=HN7.o.c 1 (show 1<8 by decide);have hn2:w7.cell? ⟨w.heap.size,2,none⟩=some (.int .u64 a):=HN7.o.c 2 (show 2<8 by decide);have hn3:w7.cell? ⟨w.heap.size,3,none⟩=some (.int .u64 b):=HN7.o.c 3 (show 3<8 by decide);have hn4:w7.cell? ⟨w.heap.size,4,none⟩=some (.int .u64 c):=HN7.o.c 4 (show 4<8 by decide);have hn5:w7.cell? ⟨w.heap.size,5,none⟩=some (.int .u64 d):=HN7.o.c 5 (show 5<8 by decide)
   go_wp2_with((with_reducible go_at_call 73);refine(HTM.o _).mono ?_;rintro en' w' ⟨rfl,x9,rfl⟩;(have HM8:=qa (HM7.o.up (aC w7 x9)));(have HG8:=qa (HG7.o.up (aC w7 x9)));(have HN8:=qa (HN7.o.up (aC w7 x9)));(have P68:=qa (P67.o.up (aC w7 x9)));(have P78:=qa (P77.o.up (aC w7 x9)));(have PA8:=qa (PA7.o.up (aC w7 x9)));(have HJ8:=qa (hJb _ _ _ HJ7.o (aC w7 x9))))
   clear PAa PAb PAl hn0 hn1 hn2 hn3 hn4 hn5 hn6 hn7 q5S;generalize ext w7 x9=w8 at*
   go_roundg (t-(j+1))
   case measure=>omega
   case rel=>
    exact⟨j+1,S7,by go_num,by rw[HYJ.o],by omega,by rw[HYJ.o];exact HM8.o,HG8.o,HJ8.o,HN8.o,P68.o,P78.o,rfl⟩
  have hd2:∀p:Prop,[Decidable p]->decide (hi<0/\p)=false:=fun p _=>by simp[hc2]
  rw[hd2]at HYJ;clear hd2;simp only[iff,qS,jr]at HYJ;have PAa:=PA7.o.box.c0;have PAb:=PA7.o.box.c1;have PAl:=PA7.o.box.lt;have hn6:w7.cell? ⟨w.heap.size,6,none⟩=some (.int .i64 lo):=HN7.o.c 6 (show 6<8 by decide);have hn7:w7.cell? ⟨w.heap.size,7,none⟩=some (.int .i64 hi):=HN7.o.c 7 (show 7<8 by decide);have q5S:=HN7.o.lt;go_wp2
  go_roundg (t-(j+1))
  case measure=>omega
  case rel=>
   exact⟨j+1,S7,by go_num,by rw[HYJ.o],by omega,by rw[HYJ.o];exact HM7.o,HG7.o,HJ7.o,HN7.o,P67.o,P77.o,rfl⟩
 have hje:j=t:=by omega
 subst hje;have P6a:=P61.o.box.c0;have P6b:=P61.o.box.c1;have P6l:=P61.o.box.lt;have P6f:=P61.o.box.free 0;have P6g:=P61.o.box.free 1;have P7a:=P71.o.box.c0;have P7b:=P71.o.box.c1;have P7l:=P71.o.box.lt;have HST:=qa (P61.o.box.set np mp);clear r1 r2 r3 r4 hro;go_wp2;refine bI rfl rfl rfl HST.o.1.load ?_;exact⟨rfl,Sr,HM1.o.keep HST.o.2 P61.o.no (by omega),HG1.o.new HST.o.2 (by omega)⟩):P:=h
theorem ZmE1{P:Prop}(h:P:=by
 go_wp2_with(refine bD rfl 77 _ _ rfl 0 77 p5 8 8 rfl (ndV x) rfl (by kernel_rfl) _ O5.o (qb 8) (oM x) ?_;intro wF hF hgF;have HF:=qa hF;have HGF:=qa hgF;clear hF hgF)
 have CF:Hid (Below wr.heap.size wr wF):=qa (CZ.o.grown HGF.o CZ.o.size (fun j hj=>by cases hj;omega));refine⟨aF CF.o,?_⟩;have O6F:=qa (O6.o.keep HGF.o (.inr (fun e=>h56 (qp e).symm)));have OPF:=qa (OP.o.keepP HGF.o (fun z hz e=>hk5 z hz (qp e).symm) (fun e=>q6F (qp e).symm));obtain⟨ou,cu,gu,hu,-⟩:=OPF.o.own.cases;obtain⟨lu,hlu⟩:∃lu,lu=vs.length:=⟨_,rfl⟩;rw[<-hlu]at hu;subst hu;have HST:=qa (O6F.o.store 0 (.slice ou lu cu));have h6c:wF.cell? ⟨p6,0,none⟩=some (.slice none 0 0):=O6F.o.cell (by simp);have h6f:=O6F.o.free 0;have h6l:=O6F.o.blk.2;clear hlu;unfold aD
 (unfold aN;simp only[pk])
 refine⟨?_,by unfold aN;trivial⟩;unfold aD;go_wp2;have CG:Hid (Below wr.heap.size wr (wF.setCell ⟨p6,0,none⟩ (.slice ou lu cu))):=qa (CF.o.grown HST.o.2 CF.o.size (fun j hj=>by cases hj;omega));refine⟨aF CG.o,?_⟩;unfold aD;unfold aN;intro hz9 hz8;clear hz8 hz9;go_wp2
 go_meet
 case rel=>exact⟨p5,p6,.slice ou lu cu,vs,rfl,rfl,by omega,by omega,by have:=HF.o;exact this.keep HST.o.2 (.inr (fun e=>h56 (qp e))),HST.o.1,(OPF.o.keepP HST.o.2 (fun z hz e=>hk6 z hz (qp e).symm) (fun e=>by have:=qp e;omega)).monoP (by omega),CG.o⟩):P:=h
theorem ZmE2{P:Prop}(h:P:=by
 simp only[cnt]at hj;simp only[aT,qz,qj]at hrl;simp only[usz]at hel q6Z htl;have hjl:j<kl:=by have:=HKC.o;omega
 have q8x:=fun W=>hix W j hjl;simp only[qC,qH]at q8x;obtain⟨u0,hu0⟩:∃u0,u0=vs.getD j undef:=⟨_,rfl⟩;have hoc:wr.cell? ⟨bo,j,none⟩=some u0:=by rw[hu0];have:=HK1.o.out.c j (by simp;rw[<-HKL.o];exact hjl);rw[this];simp[List.getD,qR]
 have hrj:dE wr b u0 (y::aT ky):=by
  rw[hu0];have:=HK1.o.rows j (by rw[bX];omega);rwa [<-HDN.o,<-hdl,show(dn++bO (.cons y ky r')).getD dn.length []=y::aT ky by simp[List.getD,bO],hdl]at this
 obtain⟨Y,hY⟩:∃Y,Y=cY y (fun s=>eN ky s) sj:=⟨_,rfl⟩;have hnk:=iZ y (fun s=>eN ky s) (usz ky) (cnt ky) har.1 hwr.1 (hJ ky hwr.2.1 har.2.1) sj;rw[<-hY]at hnk;have k1:=hnk.len;have k2:=hnk.rlen;have k4:=hnk.tot;simp only at k1 k2 k4;obtain⟨qf,hqf⟩:∃qf,qf=Y.1.f:=⟨_,rfl⟩;obtain⟨ql,hql⟩:∃ql,ql=Y.1.l:=⟨_,rfl⟩;have HTR:=qa (HIH.o wr Sr g q sj F u0 b y ky (by omega) hrj HK1.o.nb (by omega) hwr.1 hwr.2.1 har.1 har.2.1 HM1.o (by omega) (by omega) (by omega) qf ql (by rw[<-hY];exact hqf) (by rw[<-hY];exact hql));rw[<-hY]at HTR;have HPC:Hid (Y.1=⟨qf,ql⟩):=qa (by rw[hqf,hql]);have q9j:Hid (eN k s=((ps++[Y.1])++(eN r' Y.2).1,(eN r' Y.2).2)):=qa (by rw[q8j.o,hY];simp[eN]);have HWR:=qa hwr.2.2;have HAR:=qa har.2.2;have HEL:Hid (Y.2.e.length+usz r'=s.e.length+usz k/\Y.2.r.length+usz r'=s.r.length+usz k/\tot Y.2.e+2*usz r'<=tot s.e+2*usz k):=qa ⟨by omega,by omega,by omega⟩;have qbc:ps.length<=400:=by omega
 clear hix hu0 hrj hnk k1 k2 k4 hqf hql hwr har hY hel q6Z htl
 go_wp2_with(first|((with_reducible go_at_call 38);refine HTR.o.mono ?_;rintro en w3 ⟨rfl,S3,hm3,hg3⟩;have HM3:=qa hm3;have HD3:=qa hg3;(have HG3:=qa (HG1.o.trans hg3));(have HK3:=qa (KJ.gw Sr wr S3 w3 (by rw[bX];omega) HK1.o hg3));(have P43:=qa (P41.o.gw hg3));(have HX3:=qa (HX1.o.gw hg3));(have HO3:=qa (d4.gw hg3 HO1.o HNO.o));(have q8u:=hg3.size);clear hm3 hg3)|(at_builtin;go_loud (refine dI 2 rfl (.tmp 73) (.tmp 77) 116 rfl wc.heap.size 93 (.agg #[.int .i64 0,.int .i64 0]) 16 underlying116 (by kernel_rfl) rfl (by decide) (by decide) u8 (ps.map pcC) rfl (HO3.o.up (aB w3 (.cells #[.int .i64 qf,.int .i64 ql] 93))) (.slice (some ⟨w3.heap.size,0,none⟩) 1 1) ([⟨qf,ql⟩].map pcC) rfl (by have:=oI 2 w3 #[.int .i64 qf,.int .i64 ql] 93 ([⟨qf,ql⟩].map pcC) (by simp[pcC]) (uR _) (by simp);simpa using this) (uR _) (by intro z hz;simp[pcC]at hz;rcases hz with rfl|rfl<;>rfl) (by simp only[qA,qD];omega) (qc q7D (qc q8u (aB _ _).size)) ?_;intro v' w5 hown1 hg5 hk5;have HO5:=qa hown1;have HG5:=qa hg5;have HK5:=qa hk5;clear hown1 hg5 hk5)))
 have hB3:=aB w3 (.cells #[.int .i64 qf,.int .i64 ql] 93);have hzb:∀z,u8.ownBlock=some z->wc.heap.size<=z/\z<wr.heap.size:=HO1.o.lt;have hzn:∀z,u8.ownBlock=some z->¬S3 z:=fun z hz=>HD3.o.out (hzb z hz).2 (HNO.o z hz);have hzq:∀z,u8.ownBlock=some z->z≠q:=fun z hz e=>by have:=(hzb z hz).1;have:=hgq.1;omega
 go_roundg (cnt k-(j+1))
 case measure=>omega
 case rel=>
  obtain⟨e1,e2,e3⟩:=HEL.o;have hw3:w.heap.size+2<=wc.heap.size:=by omega
  have qbF:=HK3.o.out.lt;refine⟨j+1,r',Y.2,ps++[Y.1],dn++[y::aT ky],S3,by go_num,by omega,HWR.o,HAR.o,by omega,by rw[<-HDN.o];simp[bO],by simp[hdl],by simp[hpl],q9j.o,e1,e2,e3,?_,?_,?_,?_,?_,?_,?_,?_,rfl⟩
  ·exact(HM3.o.up hB3).keepO HG5.o (fun z hz=>⟨hzn z hz,hzq z hz⟩)
  ·exact(HG3.o.up hB3).newO HG5.o (fun z hz=>by have:=(hzb z hz).1;omega)
  ·exact(KJ.up S3 w3 _ HK3.o hB3).keepO HG5.o (fun z hz=>by have:=(hzb z hz).1;refine⟨by omega,by omega,by omega,by omega⟩)
  ·exact(P43.o.up hB3).keepO HG5.o (fun z hz=>by have:=(hzb z hz).1;omega)
  ·exact(HX3.o.up hB3).keepO HG5.o (fun z hz=>by have:=(hzb z hz).1;omega)
  ·rw[qG,HPC.o];exact HO5.o
  ·intro z hz
   rcases HK5.o z hz with h|h
   ·exact hzn z h
   intro e;have h1:=HM3.o.lt e;have h2:=hB3.size;omega
  have:=hB3.size;have:=HG5.o.size;omega):P:=h
theorem ZmE3{P:Prop}(h:P:=by
 go_wp2_with((with_reducible go_at_call 63);refine HLO.o.mono ?_;rintro en w2 ⟨rfl,S2,hm2,hg2⟩;have HM2:=qa hm2;have HD2:=qa (HD1.o.trans hg2);clear hm2 hg2)
 refine⟨mY HD2.o.fx,?_⟩;have P41:=qa (P40.o.gw HD2.o);have HG1:=qa (HG0.o.trans HD2.o);have P4a:=P41.o.box.c0;have P4b:=P41.o.box.c1;have P4l:=P41.o.box.lt;have P4f:=P41.o.box.free 0;have P4g:=P41.o.box.free 1;have HST:=qa (P41.o.box.set n m);unfold aD;unfold aD;go_wp2;refine⟨trivial,?_⟩;unfold aD;go_wp2;refine bI rfl rfl rfl HST.o.1.load ?_;exact⟨rfl,S2,(by rw[HEZ.o];exact HM2.o:MkT w2 S2 g q Z.2 F).keep HST.o.2 P41.o.no (by omega),HG1.o.new HST.o.2 (by omega)⟩):P:=h
theorem ZmE4{P:Prop}(h:P:=by
 have HC7:Hid (∀c,c<2->w3.cell? ⟨p7,0+c,none⟩=some ((#[.int .i64 n,.int .i64 m]:Array Value).getD c undef)):=qa (fun c hcl=>by
  rw[qH];rcases(show c=0\/c=1 by omega)with rfl|rfl
  ·exact P73.o.box.c0
  exact P73.o.box.c1)
 have P4a:=P43.o.box.c0;have P4b:=P43.o.box.c1;have P4l:=P43.o.box.lt;have P4f:=P43.o.box.free 0;have P4g:=P43.o.box.free 1;have HST:=qa (P43.o.box.set n m)
 go_wp2_with(refine aJ rfl 93 _ rfl p7 0 2 rfl _ _ HC7.o rfl underlying93 rfl (by kernel_rfl) ?_)
 refine bI rfl rfl rfl HST.o.1.load ?_;exact⟨rfl,_,HM3.o.keep HST.o.2 P43.o.no (by omega),HG3.o.new HST.o.2 (by omega)⟩):P:=h
theorem ZmE5{P:Prop}(h:P:=by exact⟨0,k,s,[],[],S,rfl,by omega,hwk,hak,qb _,rfl,rfl,rfl,by simp,rfl,rfl,qb _,HM0.o,HG0.o,HKJ.o,P40.o,HX0.o,d4.nil _ _ _ _,(fun z hz=>by cases hz),qb _,rfl⟩):P:=h
theorem ZmE6{P:Prop}(h:P:=by refine⟨0,Sx,rfl,?_,qd _,HMX.o.up (aC _ _),HGX.o.up (aC _ _),hJb _ _ _ HJX.o (aC _ _),HNX.o.up (aC _ _),P6X.o.up (aC _ _),P7X.o.up (aC _ _),rfl⟩;rw[q85]):P:=h
theorem ZmE7{P:Prop}(h:P:=by
 have HR:=qa hR;have HKV:Hid (K=0):=qa (by rw[HKK.o,HR.o];rfl);clear hR h hd hc;go_enter func7,ntmps7;go_wp2
 go_ret2
 exact⟨by rw[HR.o,HKV.o];rfl,cB _⟩):P:=h
theorem ZmE8{P:Prop}(h:P:=by have:=q1p (f:=.cons x k .nil) ⟨h4,h5,trivial⟩ (by simp only[dM];omega);simpa[dM,usz]using this):P:=h
noncomputable def N7(ll:List (List Nd)):Int:=if oC ll=0 then 1+(ll.map eR).sum else 0
theorem q3c{w:World}{v:Value}{ll:List (List Nd)}(h:dO w v ll):
  Calls prog 7 #[v] w fun e w'=>e=.returned (.tuple #[.int .i64 (N7 ll),.int .i64 (oC ll)])/\∃x,w'=ext w x:=by
 obtain⟨oa,cap,b,off,rfl,hd,hc⟩:=h.open;have hix:=d9 hd;have hm:=hd.len;have HB:=qa hd.hblk;have HC:=qa hc;obtain⟨R,hR⟩:∃R,R=oC ll:=⟨_,rfl⟩;obtain⟨K,hK⟩:∃K,K=N7 ll:=⟨_,rfl⟩;have HKK:Hid (K=if R=0 then 1+(ll.map eR).sum else 0):=qa (by rw[hK,hR];rfl);have HSS:=qa (mV ll);have HSA:=qa (A5 ll);rw[<-hR,<-hK];clear hK;unfold oC at hR;by_cases h0:ll.length=0
 ·rw[qv h0]at hR
  exact ZmE7
 rw[qu h0]at hR;by_cases h1:32<ll.length
 ·rw[qv h1]at hR
  exact ZmE7
 rw[qu h1]at hR;have hb0:((ll.length:Int)==0)=false:=by simpa using h0
 have hb1:decide ((32:Int)<ll.length)=false:=by simp;omega
 have HR:=qa hR;clear hR h hd hc;go_enter func7,ntmps7;go_wp2
 go_loopg [4,5] (ll.length) (fun gk nv jv wr=>∃(j:Nat),jv=.int .i64 j/\nv=.int .i64 (1+pB ll j)/\0<=pB ll j/\pB ll j<=1000000*j/\j<=ll.length/\(∀q,q<j->Chk (ll.getD q []))/\Below w.heap.size w wr/\gk=ll.length-j)
 case atStart=>exact⟨0,rfl,rfl,by simp[pB],by simp[pB],qd _,fun q hq=>absurd hq (qB q),qn _ _,rfl⟩
 case round=>
  obtain⟨j,rfl,rfl,hs0,hs1,hj,hall,q5T,rfl⟩:=hrel;have HA:=qa hall;have HBW:=qa q5T;clear hall q5T;by_cases hlt:j<ll.length
  ·obtain⟨u,hcu,hnu⟩:=HC.o j hlt
   have hb:=HB.o (by omega);have hcw:=(HBW.o.cell (p:=⟨b,off+j,none⟩) hb).trans hcu;have hbw:b<wr.heap.size:=by have:=HBW.o.size;omega
   have HN:=qa (hnu.up HBW.o);have HCH:=qa (N5 HN.o);have hsl:=uI (ll.getD j []);have hss:=HSS.o j hlt;generalize pB ll j=s at*;clear hcu hnu;by_cases hck:Chk (ll.getD j [])
   ·rw[fT hck]at HCH
    have HK:=qa hck;have HSZ:=qa (fun x1=>q0o (HN.o.up (aC wr x1)));generalize eR (ll.getD j [])=t at*;have HSN:=qa hss;clear hck hss
    go_wp2_with(first|((with_reducible go_at_call 11);refine HCH.o.mono ?_;rintro en w' ⟨rfl,x1,rfl⟩)|((with_reducible go_at_call 23);refine(HSZ.o x1).mono ?_;rintro en w' ⟨rfl,x2,rfl⟩))
    go_roundg (ll.length-(j+1))
    case measure=>omega
    case rel=>
     refine⟨j+1,by go_num,?_,?_,?_,by omega,fun q hq=>?_,yJ (dW HBW.o x1) (qc HBW.o.size (fX _ _)) x2,rfl⟩
     ·rw[HSN.o];go_num
     ·rw[HSN.o];omega
     ·rw[HSN.o];omega
     by_cases hqj:q=j
     ·rw[hqj];exact HK.o
     exact HA.o q (by omega)
   rw[fU hck]at HCH;have HV:Hid (R=4):=qa (by rw[HR.o,qv (fun h=>hck (h _ (by simp[List.getD,hlt])))]);have HKV:Hid (K=0):=qa (by rw[HKK.o,HV.o];rfl);clear hck
   go_wp2_with((with_reducible go_at_call 11);refine HCH.o.mono ?_;rintro en w' ⟨rfl,x1,rfl⟩)
   go_ret2
   exact⟨by rw[HV.o,HKV.o];rfl,aF (dW HBW.o x1)⟩
  have hje:j=ll.length:=by omega
  subst hje
  have q8s:Hid (∀l∈ll,Chk l):=qa (fun l hl=>by
   obtain⟨q,hq,rfl⟩:=ji hl;have:=HA.o q hq;simpa[List.getD,hq]using this)
  have q6t:=HSA.o;generalize pB ll ll.length=s at*;by_cases h3:3000<1+s
  ·have HV:Hid (R=3):=qa (by rw[HR.o,qu (fun h=>h q8s.o),<-q6t,qv h3])
   have HKV:Hid (K=0):=qa (by rw[HKK.o,HV.o];rfl);clear q6t;go_wp2
   go_ret2
   exact⟨by rw[HV.o,HKV.o];rfl,aF HBW.o⟩
  have HV:Hid (R=0):=qa (by rw[HR.o,qu (fun h=>h q8s.o),<-q6t,qu h3]);have HKV:Hid (K=1+s):=qa (by rw[HKK.o,HV.o,qv rfl,q6t]);clear q6t;go_wp2
  go_ret2
  exact⟨by rw[HV.o,HKV.o];rfl,aF HBW.o⟩
theorem q5q{w:World}{v:Value}{ll:List (List Nd)}(h:dO w v ll)(m:Int):
  Calls prog 4 #[v,.int .i64 m] w fun e w'=>(∃b:Bool,e=.returned (.bool b))/\∃x,w'=ext w x:=by
 obtain⟨oa,cap,b,off,rfl,hd,hc⟩:=h.open;have hix:=d9 hd;have hm:=hd.len;have HB:=qa hd.hblk;have HC:=qa hc;by_cases h1:40<ll.length
 ·clear h hd hc
  go_enter func4,ntmps4;go_wp2;go_ret;exact⟨⟨_,rfl⟩,cB _⟩
 clear h hd hc;have hb1:decide ((40:Int)<ll.length)=false:=by simp;omega
 go_enter func4,ntmps4;go_wp2
 go_loopg [5,6] (ll.length) (fun gk nv jv wr=>∃(j:Nat) (s:Int),jv=.int .i64 j/\nv=.int .i64 s/\0<=s/\s<=100000*j/\j<=ll.length/\Below w.heap.size w wr/\gk=ll.length-j)
 case atStart=>exact⟨0,0,rfl,rfl,by omega,by omega,qd _,qn _ _,rfl⟩
 case round=>
  obtain⟨j,s,rfl,rfl,hs0,hs1,hj,q5T,rfl⟩:=hrel;have HBW:=qa q5T;clear q5T;by_cases hlt:j<ll.length
  ·obtain⟨u,hcu,hnu⟩:=HC.o j hlt
   have hb:=HB.o (by omega);have hcw:=(HBW.o.cell (p:=⟨b,off+j,none⟩) hb).trans hcu;have hbw:b<wr.heap.size:=by have:=HBW.o.size;omega
   have HN:=qa (hnu.up HBW.o);have HCH:=qa (N5 HN.o);obtain⟨o2,c2,b2,f2,rfl,hd2,-⟩:=hnu.open;have hm2:=hd2.len;clear hcu hnu hd2;by_cases h5:500<(ll.getD j []).length
   ·generalize (ll.getD j []).length=n5 at*
    go_wp2;go_ret;exact⟨⟨_,rfl⟩,aF HBW.o⟩
   by_cases hck:Chk (ll.getD j [])
   ·rw[fT hck]at HCH
    obtain⟨x,k,c1,c2',c3,c4,c5,c6,c7,-⟩:=iI hck;have HSZ:=qa (fun x1=>q27 400 (ext wr x1) _ _ [] x k 0 c7 (HN.o.up (aC wr x1)) c6 c1 c2' c3 c4 c5);rw[show((0:Nat):Int)=0 from rfl]at HSZ;clear hck c1 c2' c3 c4 c5 c6 c7 HN;generalize (ll.getD j []).length=n5 at*
    go_wp2_with(first|((with_reducible go_at_call 11);refine HCH.o.mono ?_;rintro en w' ⟨rfl,x1,rfl⟩;have q68:b<(ext wr x1).heap.size:=qe hbw (fX _ _))|((with_reducible go_at_call 12);refine(HSZ.o x1).mono ?_;rintro en w' ⟨n,rfl,hn0,hn1,x2,rfl⟩))
    go_roundg (ll.length-(j+1))
    case measure=>omega
    case rel=>
     exact⟨j+1,s+n,by go_num,by go_num,by omega,by omega,by omega,yJ (dW HBW.o x1) (qc HBW.o.size (fX _ _)) x2,rfl⟩
   rw[fU hck]at HCH;clear hck HN;generalize (ll.getD j []).length=n5 at*
   go_wp2_with((with_reducible go_at_call 11);refine HCH.o.mono ?_;rintro en w' ⟨rfl,x1,rfl⟩)
   go_roundg (ll.length-(j+1))
   case measure=>omega
   case rel=>
    exact⟨j+1,s,by go_num,rfl,by omega,by omega,by omega,dW HBW.o x1,rfl⟩
  go_wp2;go_ret;exact⟨⟨_,rfl⟩,aF HBW.o⟩
end Go.Cm
namespace Go.Cm
def N8(f:Fo)(s:St):Pc×St:=match f with
 |.cons x k _=>cY x (fun s=>eN k s) s
 |.nil=>(zP,s)
def uN(f:Fo)(i:Nat)(s:St):St:=
 let y:=N8 f s
 let t:=bT 0 y.1.f y.2
 ⟨t.e,t.r.set y.1.l (i:Int)⟩
def mkF(fs:List Fo):Nat->St
 |0=>gM ⟨[],[]⟩
 |i+1=>uN (fs.getD i .nil) i (mkF fs i)
noncomputable def mkS(ll:List (List Nd))(i:Nat):St:=mkF (ll.map gL) i
theorem rR(ll:List (List Nd))(i:Nat)(h:i<ll.length):(ll.map gL).getD i .nil=gL (ll.getD i []):=by simp[List.getD,h]
structure q5r(s:St)(n:Int)(i:Nat):Prop where
 len:(s.e.length:Int)=n
 rlen:(s.r.length:Int)=n
 tot:(tot s.e:Int)<=2*n+i
theorem uO(ll:List (List Nd))(i:Nat)(_hi:i<=ll.length):0<=pB ll i/\pB ll i<=(ll.map eR).sum:=by
 have key:∀l:List (List Nd),0<=(l.map eR).sum:=fun l=>by
  induction l with
  |nil=>simp
  |cons a l ih=>simp only[qI,List.sum_cons];have:=(uI a).1;omega
 refine⟨key _,?_⟩;have h:ll=ll.take i++ll.drop i:=(j7 i ll).symm
 have h2:(ll.map eR).sum=((ll.take i).map eR).sum+((ll.drop i).map eR).sum:=by
  rw[<-List.sum_append,<-qG,j7]
 have:=key (ll.drop i);unfold pB;omega
theorem q3e(ll:List (List Nd))(hc:∀l∈ll,Chk l)(hs:1+(ll.map eR).sum<=3000):∀i,i<=ll.length->q5r (mkS ll i) (1+pB ll i) i
 |0,_=>⟨by simp[mkS,mkF,gM,pB],by simp[mkS,mkF,gM,pB],by simp[mkS,mkF,gM,pB,tot]⟩
 |i+1,h=>by
  have ih:=q3e ll hc hs i (by omega);have hl:=hc (ll.getD i []) (by simp[List.getD,show i<ll.length by omega]);obtain⟨x,k,h1,h2,h3,h4,h5,h6,h7,h8⟩:=iI hl;rw[j6]at h1;have hss:=mV ll i (by omega);have hsl:=(uO ll (i+1) h).2;have hs0:=(uO ll i (by omega)).1;rw[h8]at hss;have hz:=f9 h4 (eM k h5).1
  have hu:gU x (dM k)=bS x (usz k):=by
   exact ZmE8
  have hok:=iZ x (fun s=>eN k s) (usz k) (cnt k) h4 h2 (hJ k h3 h5) (mkS ll i);have a1:=hok.len;have a2:=hok.rlen;have a4:=hok.tot;simp only at a1 a2 a4
  have e:mkS ll (i+1)=uN (.cons x k .nil) i (mkS ll i):=by
   show uN _ _ _=_;rw[rR ll i (by omega),h1,dR x k h2 h3]
   rfl
  rw[e];have b1:=ih.len;have b2:=ih.rlen;have b3:=ih.tot;have hf:=cS 0 (cY x (fun s=>eN k s) (mkS ll i)).1.f (cY x (fun s=>eN k s) (mkS ll i)).2;refine⟨?_,?_,?_⟩
  ·simp only[uN,N8,dN];omega
  ·simp only[uN,N8,M8,ja];omega
  simp only[uN,N8];push_cast;omega
end Go.Cm
namespace Go.Cm
def kV(x:Ed)(c:Nat):Bool:=(if c<64 then x.a else if c<128 then x.b else if c<192 then x.c else x.d)/2^(c%64)%2==1
abbrev Row(e:List (List Ed))(a:Nat):List Ed:=e.getD a []
inductive kS(e:List (List Ed))(s:Nat):List Nat->Nat->Prop
 |nil:kS e s [] s
 |free {w:List Nat} {a b:Nat} {x:Ed}:kS e s w a->x∈Row e a->x.free=true->x.tgt=b->kS e s w b
 |byte {w:List Nat} {a b c:Nat} {x:Ed}:kS e s w a->x∈Row e a->x.free=false->kV x c=true->x.tgt=b->kS e s (w++[c]) b
theorem kS.trans{e:List (List Ed)}{s a b:Nat}{w v:List Nat}(h:kS e s w a)(k:kS e a v b):kS e s (w++v) b:=by
 induction k with
 |nil=>simpa using h
 |free _ h1 h2 h3 ih=>exact .free ih h1 h2 h3
 |byte _ h1 h2 h3 h4 ih=>rw[<-qk];exact .byte ih h1 h2 h3 h4
theorem kS.one{e:List (List Ed)}{s b:Nat}{x:Ed}(h:x∈Row e s)(hf:x.free=true)(ht:x.tgt=b):kS e s [] b:=.free .nil h hf ht
theorem kS.sub{e e':List (List Ed)}{D:Nat->Prop}(h1:∀a x,D a->x∈Row e a->∃b:Nat,x.tgt=b/\D b)(h2:∀a x,D a->x∈Row e a->x∈Row e' a){s a:Nat}{w:List Nat}(hs:D s)(h:kS e s w a):D a/\kS e' s w a:=by
 induction h with
 |nil=>exact⟨hs,.nil⟩
 |free _ k1 k2 k3 ih=>
  obtain⟨b,hb,hd⟩:=h1 _ _ ih.1 k1;obtain rfl:=jq (hb.symm.trans k3);exact⟨hd,.free ih.2 (h2 _ _ ih.1 k1) k2 k3⟩
 |byte _ k1 k2 k3 k4 ih=>
  obtain⟨b,hb,hd⟩:=h1 _ _ ih.1 k1;obtain rfl:=jq (hb.symm.trans k4);exact⟨hd,.byte ih.2 (h2 _ _ ih.1 k1) k2 k3 k4⟩
abbrev Lng:=List Nat->Prop
def eps:Lng:=fun w=>w=[]
def cat(A B:Lng):Lng:=fun w=>∃u v,w=u++v/\A u/\B v
def mW(A:Lng):Nat->Lng
 |0=>eps
 |k+1=>cat (mW A k) A
def q31(A:Lng):Lng:=fun w=>∃k,mW A (k+1) w
theorem wK(A B C:Lng)(w:List Nat):cat (cat A B) C w↔cat A (cat B C) w:=by
 constructor
 ·rintro⟨u,v,rfl,⟨a,b,rfl,ha,hb⟩,hv⟩
  exact⟨a,b++v,by simp,ha,b,v,rfl,hb,hv⟩
 rintro⟨u,v,rfl,ha,b,c,rfl,hb,hc⟩;exact⟨u++b,c,by simp,⟨u,b,rfl,ha,hb⟩,hc⟩
theorem rS(A:Lng)(w:List Nat):cat A eps w↔A w:=by
 constructor
 ·rintro⟨u,v,rfl,ha,rfl⟩;simpa using ha
 intro h;exact⟨w,[],by simp,h,rfl⟩
theorem yS(A:Lng)(w:List Nat):cat eps A w↔A w:=by
 constructor
 ·rintro⟨u,v,rfl,rfl,hv⟩;simpa using hv
 intro h;exact⟨[],w,by simp,rfl,h⟩
theorem dY{A B C D:Lng}(h1:∀w,A w↔B w)(h2:∀w,C w↔D w)(w:List Nat):cat A C w↔cat B D w:=by
 constructor
 ·rintro⟨u,v,e,a,b⟩;exact⟨u,v,e,(h1 _).1 a,(h2 _).1 b⟩
 rintro⟨u,v,e,a,b⟩;exact⟨u,v,e,(h1 _).2 a,(h2 _).2 b⟩
theorem q0p{A:Lng}{w:List Nat}(h:A w):q31 A w:=⟨0,[],w,by simp,rfl,h⟩
theorem N9{A:Lng}{w v:List Nat}(h:q31 A w)(hv:A v):q31 A (w++v):=by
 obtain⟨k,hk⟩:=h;exact⟨k+1,w,v,rfl,hk,hv⟩
def many_NtA(c2:Bool)(L:Lng):Lng:=fun w=>if c2 then q31 L w else L w
def q28(c2:Bool)(L:Lng):Lng:=fun w=>w=[]\/(c2=true/\q31 L w)
theorem tH{c2:Bool}{L:Lng}{w v:List Nat}(h:q28 c2 L w)(hv:L v):many_NtA c2 L (w++v):=by
 unfold many_NtA;rcases h with rfl|⟨rfl,h⟩
 ·cases c2
  ·simpa using hv
  simpa using q0p hv
 simpa using N9 h hv
theorem I8{c2:Bool}{L:Lng}{w:List Nat}(h:many_NtA c2 L w)(hc:c2=true):q28 c2 L w:=by
 subst hc;exact .inr ⟨rfl,by simpa[many_NtA]using h⟩
structure Ext(D B:Nat->Prop)(e eq e':List (List Ed))(qf ql at_ z:Nat)(c1 c2:Bool):Prop where
 din:∀a x,D a->x∈Row e a->∃b:Nat,x.tgt=b/\D b
 bin:∀a x,B a->x∈Row eq a->∃b:Nat,x.tgt=b/\B b
 apart:∀a,D a->¬B a
 hat:D at_
 hf:B qf
 hl:B ql
 hz:c1=true->D z/\Row e z=[]/\z≠at_
 dro:∀a x,D a->(x∈Row e' a↔x∈Row e a\/(a=at_/\x=q30 qf))
 bro:∀a x,B a->(x∈Row e' a↔x∈Row eq a\/(a=ql/\((c1=true/\x=q30 z)\/(c2=true/\x=q30 qf))))
section
variable {D B : Nat → Prop} {e eq e' : List (List Ed)} {qf ql at_ z : Nat} {c1 c2 : Bool} {L : Lng}
def inB(e eq:List (List Ed))(s at_ qf:Nat)(c2:Bool)(L:Lng)(a:Nat):Lng:=cat (fun u=>kS e s u at_) (cat (q28 c2 L) (fun v=>kS eq qf v a))
theorem Ext.sound(h:Ext D B e eq e' qf ql at_ z c1 c2)(hL:∀w,kS eq qf w ql↔L w){s:Nat}(hs:D s){w:List Nat}{a:Nat}(hp:kS e' s w a):
  (D a/\(kS e s w a\/(a=z/\c1=true/\cat (fun u=>kS e s u at_) (many_NtA c2 L) w)))\/(B a/\inB e eq s at_ qf c2 L a w):=by
 induction hp with
 |nil=>exact .inl ⟨hs,.inl .nil⟩
 |free h0 k1 k2 k3 ih=>
  rename_i w a b x;rcases ih with⟨hd,ih⟩|⟨hb,ih⟩
  ·rcases(h.dro a x hd).1 k1 with k|⟨rfl,rfl⟩
   ·obtain⟨b',hb',hd'⟩:=h.din a x hd k
    obtain rfl:b'=b:=jq (hb'.symm.trans k3);rcases ih with ih|⟨rfl,hc,-⟩
    ·exact .inl ⟨hd',.inl (.free ih k k2 k3)⟩
    have:=(h.hz hc).2.1;unfold Row at this k;rw[this]at k;cases k
   obtain rfl:qf=b:=jq k3;rcases ih with ih|⟨rfl,hc,-⟩
   ·exact .inr ⟨h.hf,w,[],by simp,ih,[],[],rfl,.inl rfl,.nil⟩
   exact absurd rfl (h.hz hc).2.2
  rcases(h.bro a x hb).1 k1 with k|⟨rfl,⟨hc,rfl⟩|⟨hc,rfl⟩⟩
  ·obtain⟨b',hb',hd'⟩:=h.bin a x hb k
   obtain rfl:b'=b:=jq (hb'.symm.trans k3);obtain⟨u,v,rfl,hu,p,q,rfl,hp,hq⟩:=ih;exact .inr ⟨hd',u,p++q,by simp,hu,p,q,rfl,hp,.free hq k k2 k3⟩
  ·obtain rfl:z=b:=jq k3
   obtain⟨u,v,rfl,hu,p,q,rfl,hp,hq⟩:=ih;exact .inl ⟨(h.hz hc).1,.inr ⟨rfl,hc,u,p++q,rfl,hu,tH hp ((hL q).1 hq)⟩⟩
  obtain rfl:qf=b:=jq k3;obtain⟨u,v,rfl,hu,p,q,rfl,hp,hq⟩:=ih;exact .inr ⟨h.hf,u,p++q,rfl,hu,p++q,[],by simp,I8 (tH hp ((hL q).1 hq)) hc,.nil⟩
 |byte h0 k1 k2 k3 k4 ih=>
  rename_i w a b c x;rcases ih with⟨hd,ih⟩|⟨hb,ih⟩
  ·rcases(h.dro a x hd).1 k1 with k|⟨rfl,rfl⟩
   ·obtain⟨b',hb',hd'⟩:=h.din a x hd k
    obtain rfl:b'=b:=jq (hb'.symm.trans k4);rcases ih with ih|⟨rfl,hc,-⟩
    ·exact .inl ⟨hd',.inl (.byte ih k k2 k3 k4)⟩
    have:=(h.hz hc).2.1;unfold Row at this k;rw[this]at k;cases k
   cases k2
  rcases(h.bro a x hb).1 k1 with k|⟨rfl,⟨hc,rfl⟩|⟨hc,rfl⟩⟩
  ·obtain⟨b',hb',hd'⟩:=h.bin a x hb k
   obtain rfl:b'=b:=jq (hb'.symm.trans k4);obtain⟨u,v,rfl,hu,p,q,rfl,hp,hq⟩:=ih;exact .inr ⟨hd',u,p++(q++[c]),by simp,hu,p,q++[c],rfl,hp,.byte hq k k2 k3 k4⟩
  ·cases k2
  cases k2
theorem Ext.upD(h:Ext D B e eq e' qf ql at_ z c1 c2){s:Nat}(hs:D s){w:List Nat}{a:Nat}(hp:kS e s w a):D a/\kS e' s w a:=
 hp.sub h.din (fun a x hd hx=>(h.dro a x hd).2 (.inl hx)) hs
theorem Ext.upB(h:Ext D B e eq e' qf ql at_ z c1 c2){w:List Nat}{a:Nat}(hp:kS eq qf w a):B a/\kS e' qf w a:=
 hp.sub h.bin (fun a x hd hx=>(h.bro a x hd).2 (.inl hx)) h.hf
theorem Ext.loops(h:Ext D B e eq e' qf ql at_ z c1 c2)(hL:∀w,kS eq qf w ql↔L w)(hc:c2=true):∀(k:Nat) (w:List Nat),mW L (k+1) w->kS e' qf w ql
 |0,w,hw=>by
  obtain⟨u,v,rfl,rfl,hv⟩:=hw;simpa using(h.upB ((hL v).2 hv)).2
 |k+1,w,⟨u,v,hw,hu,hv⟩=>by
  subst hw;have h1:=Ext.loops h hL hc k u hu;have h2:kS e' qf u qf:=.free h1 ((h.bro ql (q30 qf) h.hl).2 (.inr ⟨rfl,.inr ⟨hc,rfl⟩⟩)) rfl rfl;exact h2.trans (h.upB ((hL v).2 hv)).2
theorem Ext.many(h:Ext D B e eq e' qf ql at_ z c1 c2)(hL:∀w,kS eq qf w ql↔L w){w:List Nat}(hw:many_NtA c2 L w):kS e' qf w ql:=by
 unfold Cm.many_NtA at hw;by_cases hc:c2=true
 ·subst hc
  obtain⟨k,hk⟩:q31 L w:=by simpa using hw
  exact h.loops hL rfl k w hk
 have hc:c2=false:=by simpa using hc
 subst hc;exact(h.upB ((hL w).2 (by simpa using hw))).2
theorem Ext.enter(h:Ext D B e eq e' qf ql at_ z c1 c2)(hL:∀w,kS eq qf w ql↔L w){s:Nat}(hs:D s){w:List Nat}(hw:cat (fun u=>kS e s u at_) (Cm.many_NtA c2 L) w):kS e' s w ql:=by
 obtain⟨u,v,rfl,hu,hv⟩:=hw;have h1:=(h.upD hs hu).2;have h2:kS e' s u qf:=.free h1 ((h.dro at_ (q30 qf) h.hat).2 (.inr ⟨rfl,rfl⟩)) rfl rfl;exact h2.trans (h.many hL hv)
theorem Ext.old(h:Ext D B e eq e' qf ql at_ z c1 c2)(hL:∀w,kS eq qf w ql↔L w){s:Nat}(hs:D s){w:List Nat}{a:Nat}(ha:D a)(hz:a=z->c1=false):kS e' s w a↔kS e s w a:=by
 refine⟨fun hp=>?_,fun hp=>(h.upD hs hp).2⟩;rcases h.sound hL hs hp with⟨-,h1|⟨h1,h2,-⟩⟩|⟨h1,-⟩
 ·exact h1
 ·rw[hz h1]at h2;cases h2
 exact absurd h1 (h.apart a ha)
end
end Go.Cm
namespace Go.Cm
open Go.RowKit Go.Proofs
structure rU(w:World)(S:Nat->Prop)(p:Nat)(C:Array Value):Prop where
 c:∀i,i<C.size->w.cell? ⟨p,i,none⟩=some (C.getD i undef)
 lt:p<w.heap.size
 no:¬S p
theorem rU.gw{S S1:Nat->Prop}{w w':World}{p:Nat}{C:Array Value}(h:rU w S p C)(hg:Gw S w S1 w'):rU w' S1 p C:=⟨fun i hi=>(hg.cell h.lt h.no).trans (h.c i hi),qe h.lt hg.size,hg.out h.lt h.no⟩
theorem rU.up{S:Nat->Prop}{w w':World}{p:Nat}{C:Array Value}(h:rU w S p C)(hb:Below w.heap.size w w'):rU w' S p C:=h.gw (bZ S hb)
theorem uS(w:World)(S:Nat->Prop)(C:Array Value)(E:TypeId)(hn:¬S w.heap.size):rU (w.alloc (.cells C E)) S w.heap.size C:=⟨fun i hi=>by rw[World.cell?_alloc_new];simp[qR,hi],by simp,hn⟩
theorem oL{w:World}{S:Nat->Prop}{p:Nat}{C:Array Value}(h:rU w S p C)(n:Nat)(hn:C.size=n):∀c,c<n->w.cell? ⟨p,0+c,none⟩=some (C.getD c undef):=fun c hc=>by rw[qH];exact h.c c (by omega)
abbrev ndV(x:Nd):Array Value:=#[.int .i64 x.kd,.int .i64 x.n,.int .u64 x.a,.int .u64 x.b,.int .u64 x.c,.int .u64 x.d,.int .i64 x.lo,.int .i64 x.hi]
theorem q0q{w:World}{S:Nat->Prop}{g q:Nat}{s:St}{F:Int}(J:(Nat->Prop)->World->Prop)(hJg:∀S w S' w',J S w->Gw S w S' w'->J S' w')(hJb:∀S w w',J S w->Below w.heap.size w w'->J S w')
  (k n a b c d lo hi:Int) (pa pb:Nat) (part:St->Pc×St) (u t:Nat) (htt:dC ⟨k,n,a,b,c,d,lo,hi⟩=t) (q7B:t<=30) (_hlo:0<=lo) (_hlo2:lo<=30) (_hhi: -1<=hi) (hp:∀s,wD s ([(part s).1],(part s).2) u 1)
  (q6a:∀(w1:World) (S1:Nat->Prop) (s1:St),MkT w1 S1 g q s1 F->J S1 w1->s1.e.length+u<=4000->s1.r.length+u<=4000->tot s1.e+2*u<=90000->∀n m:Nat,n=(part s1).1.f->m=(part s1).1.l->Calls prog 62 #[.pointer (some ⟨pa,0,none⟩),.pointer (some ⟨pb,0,none⟩)] w1 fun e w2=>e=.returned (.agg #[.int .i64 n,.int .i64 m])/\∃S2,MkT w2 S2 g q (part s1).2 F/\Gw S1 w1 S2 w2)
  (h:MkT w S g q s F) (hj0:J S w) (hl:s.e.length+2+t*u<=4000) (hr:s.r.length+2+t*u<=4000) (q6Y:tot s.e+1+t*(2*u)<=90000) (np mp:Nat) (hl0:lo=0) (hnp:np=s.e.length) (hmp:mp=s.e.length+1):
  Calls prog 61 #[.pointer (some ⟨g,0,none⟩),.agg #[.int .i64 k,.int .i64 n,.int .u64 a,.int .u64 b,.int .u64 c,.int .u64 d,.int .i64 lo,.int .i64 hi],.func (.func 62) #[] #[.pointer (some ⟨pa,0,none⟩),.pointer (some ⟨pb,0,none⟩)]] w fun e w'=>e=.returned (.agg #[.int .i64 np,.int .i64 mp])/\∃S',MkT w' S' g q (cT ⟨k,n,a,b,c,d,lo,hi⟩ t (aP s) part (iff (decide (lo=0)) (bT (aP s).f (aP s).l) (two s)) t).2 F/\Gw S w S' w':=by
 have hgq:=h.gq;have hno:=h.no (qb _);have q70:=h.no (jc _);have hAP:aP s=⟨np,mp⟩:=by rw[hnp,hmp];rfl
 have HRO:=qa (zW ⟨k,n,a,b,c,d,lo,hi⟩ t part u hp s);rw[hAP]at HRO⊢;have HPL:=qa hp;have HPT:=qa q6a;have HTM:Hid (∀w,Calls prog 73 #[.agg #[.int .i64 k,.int .i64 n,.int .u64 a,.int .u64 b,.int .u64 c,.int .u64 d,.int .i64 lo,.int .i64 hi]] w fun e w'=>e=.returned (.int .i64 (t:Nat))/\∃x,w'=ext w x):=qa (fun w=>by rw[<-htt];exact N6 k n a b c d lo hi);obtain⟨Y,hY⟩:∃Y:Nat->Nat×St,Y=cT ⟨k,n,a,b,c,d,lo,hi⟩ t ⟨np,mp⟩ part (iff (decide (lo=0)) (bT np mp) (two s)):=⟨_,rfl⟩;change Hid (∀i,q24 s u i (cT ⟨k,n,a,b,c,d,lo,hi⟩ t ⟨np,mp⟩ part (iff (decide (lo=0)) (bT np mp) (two s)) i))at HRO;change Calls _ _ _ _ fun e w'=>_/\∃S',MkT w' S' g q (cT ⟨k,n,a,b,c,d,lo,hi⟩ t ⟨np,mp⟩ part (iff (decide (lo=0)) (bT np mp) (two s)) t).2 F/\Gw S w S' w';rw[<-hY]at HRO⊢;have HY0:Hid (Y 0=(np,iff (decide (lo=0)) (bT np mp) (two s))):=qa (by rw[hY];rfl);have HYS:Hid (∀i,Y (i+1)=((part (Y i).2).1.l,iff (decide (hi<0/\i+1=t)) (bT (part (Y i).2).1.l (part (Y i).2).1.f) (iff (decide (lo<=i+1)) (bT (part (Y i).2).1.l mp) (bT (Y i).1 (part (Y i).2).1.f (part (Y i).2).2)))):=qa (fun i=>by rw[hY];rfl);have hA:Below w.heap.size w ((w.alloc (.cells #[.int .i64 k,.int .i64 n,.int .u64 a,.int .u64 b,.int .u64 c,.int .u64 d,.int .i64 lo,.int .i64 hi] 77)).alloc (.cells #[.int .i64 0,.int .i64 0] 93)):=(aB w _).trans ((aB _ _).mono (by simp));have HMA:=qa (h.up hA);have HGA:Hid (Gw S w S ((w.alloc (.cells #[.int .i64 k,.int .i64 n,.int .u64 a,.int .u64 b,.int .u64 c,.int .u64 d,.int .i64 lo,.int .i64 hi] 77)).alloc (.cells #[.int .i64 0,.int .i64 0] 93))):=qa (bZ S hA);have HJA:=qa (hJb _ _ _ hj0 hA);have HNA:Hid (rU ((w.alloc (.cells #[.int .i64 k,.int .i64 n,.int .u64 a,.int .u64 b,.int .u64 c,.int .u64 d,.int .i64 lo,.int .i64 hi] 77)).alloc (.cells #[.int .i64 0,.int .i64 0] 93)) S w.heap.size #[.int .i64 k,.int .i64 n,.int .u64 a,.int .u64 b,.int .u64 c,.int .u64 d,.int .i64 lo,.int .i64 hi]):=qa ((uS w S _ 77 hno).up (aB _ _))
 have HPA:Hid (LB ((w.alloc (.cells #[.int .i64 k,.int .i64 n,.int .u64 a,.int .u64 b,.int .u64 c,.int .u64 d,.int .i64 lo,.int .i64 hi] 77)).alloc (.cells #[.int .i64 0,.int .i64 0] 93)) S (w.heap.size+1) 0 0):=qa ⟨by
  have h:=dS (w.alloc (.cells #[.int .i64 k,.int .i64 n,.int .u64 a,.int .u64 b,.int .u64 c,.int .u64 d,.int .i64 lo,.int .i64 hi] 77)) 0 0;simpa using h,q70⟩
 have HAR:=qa (oK HMA.o (by omega) (by omega) np mp hnp hmp);have HBD:Hid (s.e.length=np/\tot s.e+1+t*(2*u)<=90000/\s.e.length+2+t*u<=4000/\s.r.length+2+t*u<=4000):=qa ⟨hnp.symm,q6Y,hl,hr⟩;have T2:=lE s;have L2:=i9 s;obtain⟨s0,hs0⟩:∃s0,s0=two s:=⟨_,rfl⟩;rw[<-hs0]at T2 L2 HAR HY0;have qb6:s0.e.length<=4000:=by omega
 have q9Q:np<s0.e.length:=by omega
 have qb5:tot s0.e<=90000:=by omega
 have q6L:w.heap.size+2<=((w.alloc (.cells #[.int .i64 k,.int .i64 n,.int .u64 a,.int .u64 b,.int .u64 c,.int .u64 d,.int .i64 lo,.int .i64 hi] 77)).alloc (.cells #[.int .i64 0,.int .i64 0] 93)).heap.size:=by simp
 clear h hp q6a htt hY hAP hA hj0 hl hr q6Y hnp hmp hs0 T2 L2;have hld:decide (lo=0)=true:=by simpa using hl0
 rw[hld]at HY0;simp only[iff,jH]at HY0;have hlb:(lo==0)=true:=by simpa using hl0
 clear hl0 hld;go_enter func61,ntmps61
 go_wp2_with((with_reducible go_at_call 60);refine HAR.o.mono ?_;rintro en w1 ⟨rfl,S1,hm1,hg1⟩;have HM1:=qa hm1;have HG1:=qa (HGA.o.trans hg1);have HJ1:=qa (hJg _ _ _ _ HJA.o hg1);have HN1:=qa (HNA.o.gw hg1);have P61:=qa (HPA.o.gw hg1);(have q6z:=qc q6L hg1.size);clear hm1 hg1;(have hn6:w1.cell? ⟨w.heap.size,6,none⟩=some (.int .i64 lo):=HN1.o.c 6 (show 6<8 by decide));have q5S:=HN1.o.lt)
 have HM2:=qa (HM1.o.up (aB w1 (.cells #[.int .i64 np,.int .i64 mp] 93)));have HJ2:=qa (hJb _ _ _ HJ1.o (aB w1 (.cells #[.int .i64 np,.int .i64 mp] 93)));have HN2:=qa (HN1.o.up (aB w1 (.cells #[.int .i64 np,.int .i64 mp] 93)));have P62:=qa (P61.o.up (aB w1 (.cells #[.int .i64 np,.int .i64 mp] 93)));have P72:Hid (LB (w1.alloc (.cells #[.int .i64 np,.int .i64 mp] 93)) S1 w1.heap.size np mp):=qa ⟨dS w1 np mp,HM1.o.no (qb _)⟩;have HG2:=qa (HG1.o.up (aB w1 (.cells #[.int .i64 np,.int .i64 mp] 93)));clear HM1 HG1 HJ1 HN1 P61 hn6 q5S HMA HGA HJA HNA HPA HAR;generalize w1.heap.size=p7 at*;generalize w1.alloc (.cells #[.int .i64 np,.int .i64 mp] 93)=w2 at*;have hc4:=HM2.o.f4;have hgl:=HM2.o.glt;have P7a:=P72.o.box.c0;have P7b:=P72.o.box.c1;have P7l:=P72.o.box.lt;have hn6:w2.cell? ⟨w.heap.size,6,none⟩=some (.int .i64 lo):=HN2.o.c 6 (show 6<8 by decide);have hn7:w2.cell? ⟨w.heap.size,7,none⟩=some (.int .i64 hi):=HN2.o.c 7 (show 7<8 by decide);have q5S:=HN2.o.lt
 try go_wp2
 refine aH [0,1,2,3,4,5,6] [] [7] (by kernel_rfl) (by kernel_rfl) ?_;simp only[pk]
 repeat(go_big_quiet_step (fail))
 refine wpQuiet_nil ?_;unfold aD;unfold aD
 go_wp2_with((with_reducible go_at_call 58);refine(kW (HM2.o.up (aG _)) np mp q9Q (by omega) (by omega)).mono ?_;rintro en w3 ⟨rfl,S3,hm,hg⟩;have HM3:=qa hm;have HG3:=qa ((HG2.o.up (aG _)).trans hg);have P73:=qa ((P72.o.up (aG _)).gw hg);have HN3:=qa ((HN2.o.up (aG _)).gw hg);have P63:=qa ((P62.o.up (aG _)).gw hg);have HJ3:=qa (hJg _ _ _ _ (hJb _ _ _ HJ2.o (aG _)) hg);clear hm hg)
 refine⟨trivial,?_⟩;unfold aD;clear hc4 hgl hn6 hn7 q5S P7a P7b P7l HM2 HG2 HJ2 P72 HN2 P62;have HMY:Hid (MkT w3 S3 g q (Y 0).2 F):=qa (by rw[HY0.o];exact HM3.o);generalize w3=wx at*;generalize S3=Sx at*;have HMX:=HMY;have HGX:=HG3;have HJX:=HJ3;have HNX:=HN3;have P6X:=P63;have P7X:=P73;clear HMY HG3 HJ3 HN3 P63 P73 HM3;have q85:((Y 0).1:Int)=np:=by rw[HY0.o]
 clear hlb;have q7C:=HGX.o.size;have P7a:=P7X.o.box.c0;have P7b:=P7X.o.box.c1;have P7l:=P7X.o.box.lt;have hn6:wx.cell? ⟨w.heap.size,6,none⟩=some (.int .i64 lo):=HNX.o.c 6 (show 6<8 by decide);have q5S:=HNX.o.lt
 go_wp2_with(first|(refine aJ rfl 77 _ rfl w.heap.size 0 8 rfl _ _ (oL HNX.o 8 rfl) rfl underlying77 rfl (by kernel_rfl) ?_)|((with_reducible go_at_call 73);refine(HTM.o _).mono ?_;rintro en' w' ⟨rfl,x5,rfl⟩))
 go_loopg [8,28] t (fun gk av iv wr=>∃(j:Nat) (Sr:Nat->Prop),iv=.int .i64 j/\av=.int .i64 ((Y j).1:Nat)/\j<=t/\MkT wr Sr g q (Y j).2 F/\Gw S w Sr wr/\J Sr wr/\rU wr Sr w.heap.size #[.int .i64 k,.int .i64 n,.int .u64 a,.int .u64 b,.int .u64 c,.int .u64 d,.int .i64 lo,.int .i64 hi]/\LB wr Sr (w.heap.size+1) 0 0/\LB wr Sr p7 np mp/\gk=t-j)
 case atStart=>
  exact ZmE6
 case round=>
  exact ZmE0
theorem q0r{w:World}{S:Nat->Prop}{g q:Nat}{s:St}{F:Int}(J:(Nat->Prop)->World->Prop)(hJg:∀S w S' w',J S w->Gw S w S' w'->J S' w')(hJb:∀S w w',J S w->Below w.heap.size w w'->J S w')
  (k n a b c d lo hi:Int) (pa pb:Nat) (part:St->Pc×St) (u t:Nat) (htt:dC ⟨k,n,a,b,c,d,lo,hi⟩=t) (q7B:t<=30) (_hlo:0<=lo) (_hlo2:lo<=30) (_hhi: -1<=hi) (hp:∀s,wD s ([(part s).1],(part s).2) u 1)
  (q6a:∀(w1:World) (S1:Nat->Prop) (s1:St),MkT w1 S1 g q s1 F->J S1 w1->s1.e.length+u<=4000->s1.r.length+u<=4000->tot s1.e+2*u<=90000->∀n m:Nat,n=(part s1).1.f->m=(part s1).1.l->Calls prog 62 #[.pointer (some ⟨pa,0,none⟩),.pointer (some ⟨pb,0,none⟩)] w1 fun e w2=>e=.returned (.agg #[.int .i64 n,.int .i64 m])/\∃S2,MkT w2 S2 g q (part s1).2 F/\Gw S1 w1 S2 w2)
  (h:MkT w S g q s F) (hj0:J S w) (hl:s.e.length+2+t*u<=4000) (hr:s.r.length+2+t*u<=4000) (q6Y:tot s.e+1+t*(2*u)<=90000) (np mp:Nat) (hl0:lo≠0) (hnp:np=s.e.length) (hmp:mp=s.e.length+1):
  Calls prog 61 #[.pointer (some ⟨g,0,none⟩),.agg #[.int .i64 k,.int .i64 n,.int .u64 a,.int .u64 b,.int .u64 c,.int .u64 d,.int .i64 lo,.int .i64 hi],.func (.func 62) #[] #[.pointer (some ⟨pa,0,none⟩),.pointer (some ⟨pb,0,none⟩)]] w fun e w'=>e=.returned (.agg #[.int .i64 np,.int .i64 mp])/\∃S',MkT w' S' g q (cT ⟨k,n,a,b,c,d,lo,hi⟩ t (aP s) part (iff (decide (lo=0)) (bT (aP s).f (aP s).l) (two s)) t).2 F/\Gw S w S' w':=by
 have hgq:=h.gq;have hno:=h.no (qb _);have q70:=h.no (jc _);have hAP:aP s=⟨np,mp⟩:=by rw[hnp,hmp];rfl
 have HRO:=qa (zW ⟨k,n,a,b,c,d,lo,hi⟩ t part u hp s);rw[hAP]at HRO⊢;have HPL:=qa hp;have HPT:=qa q6a;have HTM:Hid (∀w,Calls prog 73 #[.agg #[.int .i64 k,.int .i64 n,.int .u64 a,.int .u64 b,.int .u64 c,.int .u64 d,.int .i64 lo,.int .i64 hi]] w fun e w'=>e=.returned (.int .i64 (t:Nat))/\∃x,w'=ext w x):=qa (fun w=>by rw[<-htt];exact N6 k n a b c d lo hi);obtain⟨Y,hY⟩:∃Y:Nat->Nat×St,Y=cT ⟨k,n,a,b,c,d,lo,hi⟩ t ⟨np,mp⟩ part (iff (decide (lo=0)) (bT np mp) (two s)):=⟨_,rfl⟩;change Hid (∀i,q24 s u i (cT ⟨k,n,a,b,c,d,lo,hi⟩ t ⟨np,mp⟩ part (iff (decide (lo=0)) (bT np mp) (two s)) i))at HRO;change Calls _ _ _ _ fun e w'=>_/\∃S',MkT w' S' g q (cT ⟨k,n,a,b,c,d,lo,hi⟩ t ⟨np,mp⟩ part (iff (decide (lo=0)) (bT np mp) (two s)) t).2 F/\Gw S w S' w';rw[<-hY]at HRO⊢;have HY0:Hid (Y 0=(np,iff (decide (lo=0)) (bT np mp) (two s))):=qa (by rw[hY];rfl);have HYS:Hid (∀i,Y (i+1)=((part (Y i).2).1.l,iff (decide (hi<0/\i+1=t)) (bT (part (Y i).2).1.l (part (Y i).2).1.f) (iff (decide (lo<=i+1)) (bT (part (Y i).2).1.l mp) (bT (Y i).1 (part (Y i).2).1.f (part (Y i).2).2)))):=qa (fun i=>by rw[hY];rfl);have hA:Below w.heap.size w ((w.alloc (.cells #[.int .i64 k,.int .i64 n,.int .u64 a,.int .u64 b,.int .u64 c,.int .u64 d,.int .i64 lo,.int .i64 hi] 77)).alloc (.cells #[.int .i64 0,.int .i64 0] 93)):=(aB w _).trans ((aB _ _).mono (by simp));have HMA:=qa (h.up hA);have HGA:Hid (Gw S w S ((w.alloc (.cells #[.int .i64 k,.int .i64 n,.int .u64 a,.int .u64 b,.int .u64 c,.int .u64 d,.int .i64 lo,.int .i64 hi] 77)).alloc (.cells #[.int .i64 0,.int .i64 0] 93))):=qa (bZ S hA);have HJA:=qa (hJb _ _ _ hj0 hA);have HNA:Hid (rU ((w.alloc (.cells #[.int .i64 k,.int .i64 n,.int .u64 a,.int .u64 b,.int .u64 c,.int .u64 d,.int .i64 lo,.int .i64 hi] 77)).alloc (.cells #[.int .i64 0,.int .i64 0] 93)) S w.heap.size #[.int .i64 k,.int .i64 n,.int .u64 a,.int .u64 b,.int .u64 c,.int .u64 d,.int .i64 lo,.int .i64 hi]):=qa ((uS w S _ 77 hno).up (aB _ _))
 have HPA:Hid (LB ((w.alloc (.cells #[.int .i64 k,.int .i64 n,.int .u64 a,.int .u64 b,.int .u64 c,.int .u64 d,.int .i64 lo,.int .i64 hi] 77)).alloc (.cells #[.int .i64 0,.int .i64 0] 93)) S (w.heap.size+1) 0 0):=qa ⟨by
  have h:=dS (w.alloc (.cells #[.int .i64 k,.int .i64 n,.int .u64 a,.int .u64 b,.int .u64 c,.int .u64 d,.int .i64 lo,.int .i64 hi] 77)) 0 0;simpa using h,q70⟩
 have HAR:=qa (oK HMA.o (by omega) (by omega) np mp hnp hmp);have HBD:Hid (s.e.length=np/\tot s.e+1+t*(2*u)<=90000/\s.e.length+2+t*u<=4000/\s.r.length+2+t*u<=4000):=qa ⟨hnp.symm,q6Y,hl,hr⟩;have T2:=lE s;have L2:=i9 s;obtain⟨s0,hs0⟩:∃s0,s0=two s:=⟨_,rfl⟩;rw[<-hs0]at T2 L2 HAR HY0;have qb6:s0.e.length<=4000:=by omega
 have q9Q:np<s0.e.length:=by omega
 have qb5:tot s0.e<=90000:=by omega
 have q6L:w.heap.size+2<=((w.alloc (.cells #[.int .i64 k,.int .i64 n,.int .u64 a,.int .u64 b,.int .u64 c,.int .u64 d,.int .i64 lo,.int .i64 hi] 77)).alloc (.cells #[.int .i64 0,.int .i64 0] 93)).heap.size:=by simp
 clear h hp q6a htt hY hAP hA hj0 hl hr q6Y hnp hmp hs0 T2 L2;have hld:decide (lo=0)=false:=by simpa using hl0
 rw[hld]at HY0;simp only[iff,qS,jr]at HY0;have hlb:(lo==0)=false:=by simpa using hl0
 clear hl0 hld;go_enter func61,ntmps61
 go_upto_region 5 with((with_reducible go_at_call 60);refine HAR.o.mono ?_;rintro en w1 ⟨rfl,S1,hm1,hg1⟩;have HM1:=qa hm1;have HG1:=qa (HGA.o.trans hg1);have HJ1:=qa (hJg _ _ _ _ HJA.o hg1);have HN1:=qa (HNA.o.gw hg1);have P61:=qa (HPA.o.gw hg1);(have q6z:=qc q6L hg1.size);clear hm1 hg1;(have hn6:w1.cell? ⟨w.heap.size,6,none⟩=some (.int .i64 lo):=HN1.o.c 6 (show 6<8 by decide));have q5S:=HN1.o.lt)
 have HM2:=qa (HM1.o.up (aB w1 (.cells #[.int .i64 np,.int .i64 mp] 93)));have HJ2:=qa (hJb _ _ _ HJ1.o (aB w1 (.cells #[.int .i64 np,.int .i64 mp] 93)));have HN2:=qa (HN1.o.up (aB w1 (.cells #[.int .i64 np,.int .i64 mp] 93)));have P62:=qa (P61.o.up (aB w1 (.cells #[.int .i64 np,.int .i64 mp] 93)));have P72:Hid (LB (w1.alloc (.cells #[.int .i64 np,.int .i64 mp] 93)) S1 w1.heap.size np mp):=qa ⟨dS w1 np mp,HM1.o.no (qb _)⟩;have HG2:=qa (HG1.o.up (aB w1 (.cells #[.int .i64 np,.int .i64 mp] 93)));clear HM1 HG1 HJ1 HN1 P61 hn6 q5S HMA HGA HJA HNA HPA HAR;generalize w1.heap.size=p7 at*;generalize w1.alloc (.cells #[.int .i64 np,.int .i64 mp] 93)=w2 at*;have HMY:Hid (MkT w2 S1 g q (Y 0).2 F):=qa (by rw[HY0.o];exact HM2.o);generalize w2=wx at*;generalize S1=Sx at*;have HMX:=HMY;have HGX:=HG2;have HJX:=HJ2;have HNX:=HN2;have P6X:=P62;have P7X:=P72;clear HMY HG2 HJ2 HN2 P62 P72 HM2;have q85:((Y 0).1:Int)=np:=by rw[HY0.o]
 clear hlb;have q7C:=HGX.o.size;have P7a:=P7X.o.box.c0;have P7b:=P7X.o.box.c1;have P7l:=P7X.o.box.lt;have hn6:wx.cell? ⟨w.heap.size,6,none⟩=some (.int .i64 lo):=HNX.o.c 6 (show 6<8 by decide);have q5S:=HNX.o.lt
 go_wp2_with(first|(refine aJ rfl 77 _ rfl w.heap.size 0 8 rfl _ _ (oL HNX.o 8 rfl) rfl underlying77 rfl (by kernel_rfl) ?_)|((with_reducible go_at_call 73);refine(HTM.o _).mono ?_;rintro en' w' ⟨rfl,x5,rfl⟩))
 go_loopg [8,28] t (fun gk av iv wr=>∃(j:Nat) (Sr:Nat->Prop),iv=.int .i64 j/\av=.int .i64 ((Y j).1:Nat)/\j<=t/\MkT wr Sr g q (Y j).2 F/\Gw S w Sr wr/\J Sr wr/\rU wr Sr w.heap.size #[.int .i64 k,.int .i64 n,.int .u64 a,.int .u64 b,.int .u64 c,.int .u64 d,.int .i64 lo,.int .i64 hi]/\LB wr Sr (w.heap.size+1) 0 0/\LB wr Sr p7 np mp/\gk=t-j)
 case atStart=>
  exact ZmE6
 case round=>
  exact ZmE0
theorem pK.upP{w w':World}{B b:Nat}{u:Value}{vs:List Value}{tl:List (List Nd)}(h:pK w B b u vs tl)(hb:Below w.heap.size w w'):pK w' B b u vs tl:=⟨h.own.up hb,h.len,fun i hi=>(h.rows i hi).up hb⟩
theorem pK.keepP{w w':World}{B b:Nat}{u:Value}{vs:List Value}{tl:List (List Nd)}{row:Option Nat}(h:pK w B b u vs tl)(hg:w.grownBy w' row)(hu:∀z,u.ownBlock=some z->row≠some z)(hb:row≠some b):pK w' B b u vs tl:=
 ⟨h.own.keep hg (aY hu),h.len,fun i hi=>(h.rows i hi).gw (S:=fun k=>some k=row) (S1:=fun k=>some k=row) ⟨⟨hg.os,hg.tape,hg.output,hg.size,fun k hk hn=>hg.block k hk hn⟩,fun _ h=>.inl h⟩ (fun e=>hb e.symm)⟩
theorem pK.monoP{w:World}{B B' b:Nat}{u:Value}{vs:List Value}{tl:List (List Nd)}(h:pK w B b u vs tl)(hB:B'<=B):pK w B' b u vs tl:=⟨h.own.mono hB,h.len,h.rows⟩
theorem oM(x:Nd):∀u∈(ndV x).toList,u.oneCell'=true:=by
 intro u hu;simp at hu;rcases hu with rfl|rfl|rfl|rfl|rfl|rfl|rfl|rfl<;>rfl
noncomputable def wrt(S:Nat->Prop)(w x:World):World:=@ite _ (p3 S w x) (Classical.propDecidable _) x w
theorem q3g(S:Nat->Prop)(w x:World):p3 S w (wrt S w x):=by
 unfold wrt;split
 ·assumption
 exact p3.refl _ _
theorem mY{S:Nat->Prop}{w x:World}(h:p3 S w x):∃y,x=wrt S w y:=⟨x,by unfold wrt;rw[qv h]⟩
@[go_sem] theorem cell?_wrt(S:Nat->Prop)(w x:World)(b o:Nat)(h:b<w.heap.size)(hn:¬S b):(wrt S w x).cell? ⟨b,o,none⟩=w.cell? ⟨b,o,none⟩:=World.cell?_of_block (w:=w) ((q3g S w x).block b h hn)
theorem rU.keepO{S:Nat->Prop}{w w':World}{p:Nat}{C:Array Value}(h:rU w S p C){row:Option Nat}(hg:w.grownBy w' row)(hr:∀z,row=some z->z≠p):rU w' S p C:=
 ⟨fun i hi=>(World.cell?_of_block (w:=w) (hg.block p h.lt (fun e=>hr p e.symm rfl))).trans (h.c i hi),qe h.lt hg.size,h.no⟩
theorem LB.keepO{S:Nat->Prop}{w w':World}{p:Nat}{f l:Int}(h:LB w S p f l){row:Option Nat}(hg:w.grownBy w' row)(hr:∀z,row=some z->z≠p):LB w' S p f l:=⟨h.box.keep hg (fun e=>hr p e rfl),h.no⟩
theorem dE.keepO{w w':World}{b:Nat}{v:Value}{l:List Nd}(h:dE w b v l){row:Option Nat}(hg:w.grownBy w' row)(hr:∀z,row=some z->z≠b):dE w' b v l:=
 h.gw (S:=fun k=>row=some k) (S1:=fun k=>row=some k) ⟨⟨hg.os,hg.tape,hg.output,hg.size,fun k hk hn=>hg.block k hk (fun e=>hn e.symm)⟩,fun _ h=>.inl h⟩ (fun e=>hr b e rfl)
theorem MkW.keepO{w w':World}{S:Nat->Prop}{g q:Nat}{ll:List (List Ed)}{rl:List Int}{F:Int}(h:MkW w S g q ll rl F){row:Option Nat}(hg:w.grownBy w' row)(hr:∀z,row=some z->¬S z/\z≠q):MkW w' S g q ll rl F:=by
 cases row with
 |none=>
  obtain⟨ve,vs,vr,h1,rfl⟩:=h;exact⟨ve,vs,vr,h1.keep hg (fun _ _ _ e=>by cases e),rfl⟩
 |some p=>exact h.keep hg (hr p rfl).1 (hr p rfl).2
theorem Gw.newO{S S1:Nat->Prop}{w w1 w2:World}(h:Gw S w S1 w1){row:Option Nat}(hg:w1.grownBy w2 row)(hr:∀z,row=some z->w.heap.size<=z):Gw S w S1 w2:=by
 cases row with
 |none=>exact h.trans (dB hg (fun k e=>by cases e) (fun k h=>.inl h))
 |some p=>exact h.new hg (hr p rfl)
theorem d4.gw{S S1:Nat->Prop}{k:Nat}{w w1:World}(h:Gw S w S1 w1){B E:Nat}{v:Value}{l:List (List Value)}(ho:d4 k w B E v l)(hv:∀z,v.ownBlock=some z->¬S z):d4 k w1 B E v l:=by
 refine⟨⟨ho.1.1,ho.1.2.imp id ?_⟩,ho.2⟩;rintro⟨g,cap,cur,rfl,h2,h3,h4⟩;exact⟨g,cap,cur,rfl,h2,by rw[h.fx.block g (Array.getElem?_eq_some_iff.1 h3).1 (hv g rfl)];exact h3,h4⟩
theorem q2d(x:Nd)(K:St->List Pc×St)(s:St)(h:x.kd=8):cY x K s=pW x (fun s=>dD (K s)) s:=by unfold cY;rw[qu (by omega),qv h]
theorem oN(x:Nd)(K:St->List Pc×St)(s:St)(h:x.kd=5\/x.kd=6\/x.kd=7):cY x K s=(aP (K s).2,lD (decide (x.kd≠6)) (decide (x.kd≠7)) (dD (K s)).1 (K s).2):=by unfold cY;rw[qu (by omega),qu (by omega),qv h]
theorem O7(x:Nd)(K:St->List Pc×St)(s:St)(h:x.kd=3):cY x K s=(rN (K s).1,fC (K s).1 (K s).1.length (K s).2):=by unfold cY;rw[qu (by omega),qu (by omega),qu (by omega),qv h]
theorem O8(x:Nd)(K:St->List Pc×St)(s:St)(h:x.kd=4):cY x K s=(aP (K s).2,d5 (aP (K s).2) (K s).1 (K s).1.length (two (K s).2)):=by unfold cY;rw[qu (by omega),qu (by omega),qu (by omega),qu (by omega)]
theorem q0s(x:Nd)(u:Nat)(h:x.kd=8):bS x u=2+(dC x).toNat*u:=by unfold bS;rw[qu (by omega),qu (by omega),qv h]
theorem pZ(x:Nd)(u:Nat)(h:x.kd=4\/x.kd=5\/x.kd=6\/x.kd=7):bS x u=u+2:=by unfold bS;rw[qu (by omega),qv h]
theorem q0t(x:Nd)(u:Nat)(h:x.kd=3):bS x u=u:=by unfold bS;rw[qu (by omega),qu (by omega),qu (by omega)]
structure KJ(g a p6 bo b:Nat)(u:Value)(vs:List Value)(tl:List (List Nd))(S:Nat->Prop)(w:World):Prop where
 va:rU w S a #[.pointer (some ⟨g,0,none⟩)]
 vb:rU w S p6 #[u]
 out:rU w S bo vs.toArray
 nb:¬S b
 rows:∀i,i<tl.length->dE w b (vs.getD i undef) (tl.getD i [])
theorem KJ.gw{g a p6 bo b:Nat}{u:Value}{vs:List Value}{tl:List (List Nd)}(S:Nat->Prop)(w:World)(S':Nat->Prop)(w':World)(hp:0<tl.length)(h:KJ g a p6 bo b u vs tl S w)(hg:Gw S w S' w'):KJ g a p6 bo b u vs tl S' w':=
 ⟨h.va.gw hg,h.vb.gw hg,h.out.gw hg,hg.out (h.rows 0 hp).lt h.nb,fun i hi=>(h.rows i hi).gw hg h.nb⟩
theorem KJ.up{g a p6 bo b:Nat}{u:Value}{vs:List Value}{tl:List (List Nd)}(S:Nat->Prop)(w w':World)(h:KJ g a p6 bo b u vs tl S w)(hb:Below w.heap.size w w'):KJ g a p6 bo b u vs tl S w':=
 ⟨h.va.up hb,h.vb.up hb,h.out.up hb,h.nb,fun i hi=>(h.rows i hi).up hb⟩
theorem KJ.keepO{g a p6 bo b:Nat}{u:Value}{vs:List Value}{tl:List (List Nd)}{S:Nat->Prop}{w w':World}(h:KJ g a p6 bo b u vs tl S w){row:Option Nat}(hg:w.grownBy w' row)(h1:∀z,row=some z->z≠a/\z≠p6/\z≠bo/\z≠b):KJ g a p6 bo b u vs tl S w':=
 ⟨h.va.keepO hg (fun z hz=>(h1 z hz).1),h.vb.keepO hg (fun z hz=>(h1 z hz).2.1),h.out.keepO hg (fun z hz=>(h1 z hz).2.2.1),h.nb,fun i hi=>(h.rows i hi).keepO hg (fun z hz=>(h1 z hz).2.2.2)⟩
theorem q3h{g q a p6 bo b cu:Nat}{u0:Value}{vs:List Value}{y:Nd}{ky:Fo}{F:Int}
  (hT:∀(w:World) (S:Nat->Prop) (s:St),dE w b u0 (y::aT ky)->¬S b->MkT w S g q s F->s.e.length+bS y (usz ky)<=4000->s.r.length+bS y (usz ky)<=4000->tot s.e+2*bS y (usz ky)<=90000->
   ∀n m:Nat,n=(cY y (fun s=>eN ky s) s).1.f->m=(cY y (fun s=>eN ky s) s).1.l->Calls prog 38 #[.pointer (some ⟨g,0,none⟩),u0] w fun e w'=>e=.returned (.agg #[.int .i64 n,.int .i64 m])/\∃S',MkT w' S' g q (cY y (fun s=>eN ky s) s).2 F/\Gw S w S' w')
  {w:World} {S:Nat->Prop} {s:St} (hj:KJ g a p6 bo b (.slice (some ⟨bo,0,none⟩) 1 cu) vs [y::aT ky] S w) (hvs:vs=[u0]) (hcu:1<=cu) (q6k:cu<=maxLen) (h:MkT w S g q s F) (hl:s.e.length+bS y (usz ky)<=4000) (hr:s.r.length+bS y (usz ky)<=4000) (ht:tot s.e+2*bS y (usz ky)<=90000)
  (n m:Nat) (hn:n=(cY y (fun s=>eN ky s) s).1.f) (hm:m=(cY y (fun s=>eN ky s) s).1.l):
  Calls prog 62 #[.pointer (some ⟨a,0,none⟩),.pointer (some ⟨p6,0,none⟩)] w fun e w'=>e=.returned (.agg #[.int .i64 n,.int .i64 m])/\∃S',MkT w' S' g q (cY y (fun s=>eN ky s) s).2 F/\Gw S w S' w':=by
 subst hvs;have hno:=h.no (qb _);have hgq:=h.gq;have hac:w.cell? ⟨a,0,none⟩=some (.pointer (some ⟨g,0,none⟩)):=hj.va.c 0 (show 0<1 by decide);have hal:=hj.va.lt;have h6c:w.cell? ⟨p6,0,none⟩=some (.slice (some ⟨bo,0,none⟩) 1 cu):=hj.vb.c 0 (show 0<1 by decide);have h6l:=hj.vb.lt;have hoc:w.cell? ⟨bo,0,none⟩=some u0:=hj.out.c 0 (show 0<1 by decide);have hol:=hj.out.lt;have hdo:Hd w (some ⟨bo,0,none⟩) 1 cu bo 0:=⟨fun _=>rfl,hcu,q6k,by decide,fun _=>hol⟩
 have hix:∀W:World,(Instr.indexAt 22 (.slice (some ⟨bo,0,none⟩) 1 cu) (.int .i64 0)).run prog W=.ok (.pointer (some ⟨bo,0,none⟩)) W:=fun W=>by
  have:=d9 hdo W .i64 0 (by omega) (by omega);simpa using this
 have hr0:dE w b u0 (y::aT ky):=hj.rows 0 (by simp);have hlW:Below w.heap.size w (w.alloc (.cells #[.int .i64 0,.int .i64 0] 93)).drew:=fR (aB w _);have HCL:=qa (hT _ S s (hr0.up hlW) hj.nb (h.up hlW) hl hr ht n m hn hm);have HGW:=qa (bZ S hlW);have HPB:=qa ((LB.mk (dS w 0 0) hno:LB _ S w.heap.size 0 0).up (aG _));clear hT hj h hl hr ht hn hm hdo hr0 hlW;go_enter func62,ntmps62;go_wp2;refine aH [0,1,2,3] [] [4,5] (by kernel_rfl) (by kernel_rfl) ?_;simp only[pk]
 repeat(go_big_quiet_step (fail))
 refine wpQuiet_nil ?_;unfold aD;unfold aD
 go_wp2_with((with_reducible go_at_call 38);refine HCL.o.mono ?_;rintro en w1 ⟨rfl,S1,hm1,hg1⟩;have HM1:=qa hm1;have HG1:=qa (HGW.o.trans hg1);have HP1:=qa (HPB.o.gw hg1);clear hm1 hg1)
 refine⟨trivial,?_⟩;have P4a:=HP1.o.box.c0;have P4b:=HP1.o.box.c1;have P4l:=HP1.o.box.lt;have P4f:=HP1.o.box.free 0;have P4g:=HP1.o.box.free 1;have HST:=qa (HP1.o.box.set n m);unfold aD;go_wp2;refine⟨trivial,?_⟩;unfold aD;go_wp2;refine bI rfl rfl rfl HST.o.1.load ?_;exact⟨rfl,S1,HM1.o.keep HST.o.2 HP1.o.no (by omega),HG1.o.new HST.o.2 (qb _)⟩
theorem q4z(N:Nat):∀(w:World) (S:Nat->Prop) (g q:Nat) (s:St) (F:Int) (v:Value) (b:Nat) (x:Nd) (k:Fo),(aT k).length<N->dE w b v (x::aT k)->¬S b->(aT k).length<400->x.n=cnt k->wf k->okN x->gT okN k->MkT w S g q s F->s.e.length+bS x (usz k)<=4000->s.r.length+bS x (usz k)<=4000->tot s.e+2*bS x (usz k)<=90000->
  ∀n m:Nat,n=(cY x (fun s=>eN k s) s).1.f->m=(cY x (fun s=>eN k s) s).1.l->Calls prog 38 #[.pointer (some ⟨g,0,none⟩),v] w fun e w'=>e=.returned (.agg #[.int .i64 n,.int .i64 m])/\∃S',MkT w' S' g q (cY x (fun s=>eN k s) s).2 F/\Gw S w S' w':=by
 induction N with
 |zero=>intro w S g q s F v b x k h;omega
 |succ N ih=>
 intro w S g q s F v b x k hN hnb hbS q6T hxn hwk hox hak h hl hr q6Y n m hn hm;have HIH:=qa ih;have hno:=h.no (qb _);have q70:=h.no (jc _);have hgq:=h.gq;have hA:Below w.heap.size w ((w.alloc (.cells #[.pointer (some ⟨g,0,none⟩)] 87)).alloc (.cells #[.int .i64 0,.int .i64 0] 93)):=(aB w _).trans ((aB _ _).mono (by simp));have HMA:=qa (h.up hA);have HGA:=qa (bZ S hA);have HNA:=qa (hnb.up hA);have HFA:=qa ((uS w S #[.pointer (some ⟨g,0,none⟩)] 87 hno).up (aB _ (.cells #[.int .i64 0,.int .i64 0] 93)))
 have HPA:Hid (LB ((w.alloc (.cells #[.pointer (some ⟨g,0,none⟩)] 87)).alloc (.cells #[.int .i64 0,.int .i64 0] 93)) S (w.heap.size+1) 0 0):=qa ⟨by
  have h:=dS (w.alloc (.cells #[.pointer (some ⟨g,0,none⟩)] 87)) 0 0;simpa using h,q70⟩
 have qb4:((w.alloc (.cells #[.pointer (some ⟨g,0,none⟩)] 87)).alloc (.cells #[.int .i64 0,.int .i64 0] 93)).heap.size=w.heap.size+2:=by simp
 have qbG:=hnb.lt;have HLY:=qa (hJ k hwk hak);have HXN:=qa hxn;have HWK:=qa hwk;have HOX:=qa hox;have HAK:=qa hak;have HKD:=qa (A4 hox);have HN:=qa hn;have HMM:=qa hm;have HB:=qa (And.intro hl (And.intro hr q6Y));obtain⟨Z,hZ⟩:∃Z,Z=(cY x (fun s=>eN k s) s):=⟨_,rfl⟩;have HZ:=qa hZ;rw[<-hZ]at HN HMM⊢;clear ih h hnb hxn hwk hox hak hn hm hl hr q6Y hA hZ;go_enter func38,ntmps38
 go_upto_region 1 with fail
 generalize ((w.alloc (.cells #[.pointer (some ⟨g,0,none⟩)] 87)).alloc (.cells #[.int .i64 0,.int .i64 0] 93))=wr at*
 go_cut [5,6] (fun s5 s6 wx=>∃(p5 p6:Nat) (u:Value) (vs:List Value),s5=.pointer (some ⟨p5,0,none⟩)/\s6=.pointer (some ⟨p6,0,none⟩)/\wr.heap.size<=p5/\wr.heap.size<=p6/\Own wx 0 77 (.slice (some ⟨p5,0,none⟩) 8 8) (ndC x)/\Own wx 0 22 (.slice (some ⟨p6,0,none⟩) 1 1) [u]/\pK wx wr.heap.size b u vs (bO k)/\Below wr.heap.size wr wx)
 case first=>
  obtain⟨oa,cap,b',off,rfl,hd,hc⟩:=HNA.o.at_.open
  have q6Q:∀W:World,(Instr.indexAt 39 (.slice oa (x::aT k).length cap) (.int .i64 0)).run prog W=.ok (.pointer (some ⟨b',off,none⟩)) W:=fun(W:World)=>by
   have:=d8 hd W .i64 0 (by omega) (by simp);simpa using this
  have hbl:=hd.hblk (by simp)
  have HCQ:Hid (∀w',(∃y,w'=ext wr y)->∀c,c<8->w'.cell? ⟨b',off+c,none⟩=some ((ndV x).getD c undef)):=qa (by
   rintro w' ⟨y,rfl⟩ c hcl;rw[cell?_ext _ _ _ _ hbl];have:=hc 0 (by simp) c hcl;rw[Nat.zero_mul,jD,oJ]at this;exact this)
  have hxl:(x::aT k).length<=400:=by simp;omega
  clear hd hc;generalize (x::aT k).length=ln at*;have C0:Hid (Below wr.heap.size wr wr.drew):=qa (aW wr 1);have hbr:b<wr.heap.size:=by omega
  clear qb4;refine fD (C:=fun w'=>∃x,w'=ext wr x) (.q 0 (.q 1 (.q 2 (.q 3 (.br 4 (.br 5 (.br 6 (.br 7 (.br 8 .done .no) .no) .no) (.br 6 (.br 5 (.br 7 (.br 8 .done .no) .no) .no) .no)) (.br 5 (.br 4 (.br 6 (.br 7 (.br 8 .done .no) .no) .no) (.br 6 (.br 4 (.br 7 (.br 8 .done .no) .no) .no) .no)) (.br 6 (.br 4 (.br 5 (.br 7 (.br 8 .done .no) .no) .no) (.br 5 (.br 4 (.br 7 (.br 8 .done .no) .no) .no) .no)) .no))))))) (by kernel_rfl) (by kernel_rfl) (aF C0.o) ?_
  (unfold aN;simp only[lA,qI,js,j9])
  repeat(go_big_quiet_step (fail))
  refine wpQuiet_nil ?_
  (unfold aN;simp only[pk])
  repeat(go_big_quiet_step (fail))
  refine wpQuiet_nil ?_
  (unfold aN;simp only[pk])
  repeat(first|(go_big_quiet_want;refine bP 77 8 _ rfl b' off rfl (ndV x) rfl HCQ.o _ underlying77 rfl (by kernel_rfl) ?_;go_simp;go_big_quiet_on)|go_big_quiet_step (fail))
  refine wpQuiet_nil ?_
  (unfold aN;simp only[pk])
  repeat(go_big_quiet_step (fail))
  refine wpQuiet_nil ?_
  (unfold aN;simp only[pk])
  refine⟨?_,?_⟩
  ·unfold aD
   go_wp2_with((with_reducible go_at_call 59);refine(O2 (HNA.o.up C0.o) q6T HXN.o HWK.o).mono ?_;rintro en w4 ⟨u,vs,rfl,hP,hbK⟩;have HPK:=qa hP;have B4:=qa hbK;have C4:=qa (dK C0.o hbK);have Z4:=qa hbK.size;clear hP hbK)
   refine⟨aF C4.o,?_⟩;unfold aD
   (unfold aN;simp only[pk])
   refine⟨?_,?_⟩
   ·unfold aD
    go_wp2;have F5:=qa ((by simpa using cX w4 0 #[.int .i64 0,.int .i64 0,.int .u64 0,.int .u64 0,.int .u64 0,.int .u64 0,.int .i64 0,.int .i64 0] 77 (by simp) (qd _):Own (w4.alloc (.cells #[.int .i64 0,.int .i64 0,.int .u64 0,.int .u64 0,.int .u64 0,.int .u64 0,.int .i64 0,.int .i64 0] 77)) 0 77 (.slice (some ⟨w4.heap.size,0,none⟩) 8 8) [.int .i64 0,.int .i64 0,.int .u64 0,.int .u64 0,.int .u64 0,.int .u64 0,.int .i64 0,.int .i64 0]));have B5:=qa (aB w4 (.cells #[.int .i64 0,.int .i64 0,.int .u64 0,.int .u64 0,.int .u64 0,.int .u64 0,.int .i64 0,.int .i64 0] 77));have C5:=qa (dK C4.o B5.o);refine⟨aF C5.o,?_⟩;have Z5:Hid ((w4.alloc (.cells #[.int .i64 0,.int .i64 0,.int .u64 0,.int .u64 0,.int .u64 0,.int .u64 0,.int .i64 0,.int .i64 0] 77)).heap.size=(w4).heap.size+1):=qa (by simp);obtain⟨p5,hp5⟩:∃p5,p5=w4.heap.size:=⟨_,rfl⟩;have HP5:=qa hp5;rw[<-hp5]at⊢;rw[show w4.heap.size=p5 from hp5.symm]at F5;clear hp5;generalize w4.alloc (.cells #[.int .i64 0,.int .i64 0,.int .u64 0,.int .u64 0,.int .u64 0,.int .u64 0,.int .i64 0,.int .i64 0] 77)=w5 at*;unfold aD
    (unfold aN;simp only[pk])
    refine⟨?_,?_⟩
    ·unfold aD
     go_wp2;have F6:=qa ((by simpa using cX w5 0 #[.slice none 0 0] 22 (by simp) (qd _):Own (w5.alloc (.cells #[.slice none 0 0] 22)) 0 22 (.slice (some ⟨w5.heap.size,0,none⟩) 1 1) [.slice none 0 0]));have B6:=qa (aB w5 (.cells #[.slice none 0 0] 22));have C6:=qa (dK C5.o B6.o);refine⟨aF C6.o,?_⟩;have Z6:Hid ((w5.alloc (.cells #[.slice none 0 0] 22)).heap.size=(w5).heap.size+1):=qa (by simp);obtain⟨p6,hp6⟩:∃p6,p6=w5.heap.size:=⟨_,rfl⟩;have HP6:=qa hp6;rw[<-hp6]at⊢;rw[show w5.heap.size=p6 from hp6.symm]at F6;clear hp6;generalize w5.alloc (.cells #[.slice none 0 0] 22)=w6 at*;unfold aD
     (unfold aN;simp only[pk])
     refine⟨?_,by unfold aN;trivial⟩;unfold aD;have hkk:=HPK.o.own.lt;have q4:=Z4.o;have q5:=Z5.o;have q6:=Z6.o;have q7:=HP5.o;have q8:=HP6.o;have q9:wr.drew.heap.size=wr.heap.size:=rfl;have h5r:wr.heap.size<=p5:=by omega
     have h6r:wr.heap.size<=p6:=by omega
     have O5:=qa (F5.o.up B6.o);have O6:=qa F6.o;have OP:=qa (((HPK.o).upP B5.o).upP B6.o);have h56:p5≠p6:=by omega
     have hk5:∀z,u.ownBlock=some z->z≠p5:=fun z hz=>by have:=hkk z hz;omega
     have hk6:∀z,u.ownBlock=some z->z≠p6:=fun z hz=>by have:=hkk z hz;omega
     have hBk:wr.heap.size<=wr.drew.heap.size:=by omega
     have q6F:b≠p5:=by omega
     have q81:b≠p6:=by omega
     clear q4 q5 q6 q7 q8 q9 hkk Z4 Z5 Z6 HP5 HP6;generalize w6=wz at*;have CZ:=C6
     exact ZmE1
    unfold aN
    trivial
   (unfold aN;simp only[pk])
   refine⟨?_,?_⟩
   ·unfold aD
    go_wp2;have F6:=qa ((by simpa using cX w4 0 #[.slice none 0 0] 22 (by simp) (qd _):Own (w4.alloc (.cells #[.slice none 0 0] 22)) 0 22 (.slice (some ⟨w4.heap.size,0,none⟩) 1 1) [.slice none 0 0]));have B6:=qa (aB w4 (.cells #[.slice none 0 0] 22));have C6:=qa (dK C4.o B6.o);refine⟨aF C6.o,?_⟩;have Z6:Hid ((w4.alloc (.cells #[.slice none 0 0] 22)).heap.size=(w4).heap.size+1):=qa (by simp);obtain⟨p6,hp6⟩:∃p6,p6=w4.heap.size:=⟨_,rfl⟩;have HP6:=qa hp6;rw[<-hp6]at⊢;rw[show w4.heap.size=p6 from hp6.symm]at F6;clear hp6;generalize w4.alloc (.cells #[.slice none 0 0] 22)=w6 at*;unfold aD
    (unfold aN;simp only[pk])
    refine⟨?_,?_⟩
    ·unfold aD
     go_wp2;have F5:=qa ((by simpa using cX w6 0 #[.int .i64 0,.int .i64 0,.int .u64 0,.int .u64 0,.int .u64 0,.int .u64 0,.int .i64 0,.int .i64 0] 77 (by simp) (qd _):Own (w6.alloc (.cells #[.int .i64 0,.int .i64 0,.int .u64 0,.int .u64 0,.int .u64 0,.int .u64 0,.int .i64 0,.int .i64 0] 77)) 0 77 (.slice (some ⟨w6.heap.size,0,none⟩) 8 8) [.int .i64 0,.int .i64 0,.int .u64 0,.int .u64 0,.int .u64 0,.int .u64 0,.int .i64 0,.int .i64 0]));have B5:=qa (aB w6 (.cells #[.int .i64 0,.int .i64 0,.int .u64 0,.int .u64 0,.int .u64 0,.int .u64 0,.int .i64 0,.int .i64 0] 77));have C5:=qa (dK C6.o B5.o);refine⟨aF C5.o,?_⟩;have Z5:Hid ((w6.alloc (.cells #[.int .i64 0,.int .i64 0,.int .u64 0,.int .u64 0,.int .u64 0,.int .u64 0,.int .i64 0,.int .i64 0] 77)).heap.size=(w6).heap.size+1):=qa (by simp);obtain⟨p5,hp5⟩:∃p5,p5=w6.heap.size:=⟨_,rfl⟩;have HP5:=qa hp5;rw[<-hp5]at⊢;rw[show w6.heap.size=p5 from hp5.symm]at F5;clear hp5;generalize w6.alloc (.cells #[.int .i64 0,.int .i64 0,.int .u64 0,.int .u64 0,.int .u64 0,.int .u64 0,.int .i64 0,.int .i64 0] 77)=w5 at*;unfold aD
     (unfold aN;simp only[pk])
     refine⟨?_,by unfold aN;trivial⟩;unfold aD;have hkk:=HPK.o.own.lt;have q4:=Z4.o;have q5:=Z5.o;have q6:=Z6.o;have q7:=HP5.o;have q8:=HP6.o;have q9:wr.drew.heap.size=wr.heap.size:=rfl;have h5r:wr.heap.size<=p5:=by omega
     have h6r:wr.heap.size<=p6:=by omega
     have O5:=qa F5.o;have O6:=qa (F6.o.up B5.o);have OP:=qa (((HPK.o).upP B6.o).upP B5.o);have h56:p5≠p6:=by omega
     have hk5:∀z,u.ownBlock=some z->z≠p5:=fun z hz=>by have:=hkk z hz;omega
     have hk6:∀z,u.ownBlock=some z->z≠p6:=fun z hz=>by have:=hkk z hz;omega
     have hBk:wr.heap.size<=wr.drew.heap.size:=by omega
     have q6F:b≠p5:=by omega
     have q81:b≠p6:=by omega
     clear q4 q5 q6 q7 q8 q9 hkk Z4 Z5 Z6 HP5 HP6;generalize w5=wz at*;have CZ:=C5
     exact ZmE1
    unfold aN
    trivial
   unfold aN
   trivial
  (unfold aN;simp only[pk])
  refine⟨?_,?_⟩
  ·unfold aD
   go_wp2;have F5:=qa ((by simpa using cX wr 0 #[.int .i64 0,.int .i64 0,.int .u64 0,.int .u64 0,.int .u64 0,.int .u64 0,.int .i64 0,.int .i64 0] 77 (by simp) (qd _):Own (wr.alloc (.cells #[.int .i64 0,.int .i64 0,.int .u64 0,.int .u64 0,.int .u64 0,.int .u64 0,.int .i64 0,.int .i64 0] 77)) 0 77 (.slice (some ⟨wr.heap.size,0,none⟩) 8 8) [.int .i64 0,.int .i64 0,.int .u64 0,.int .u64 0,.int .u64 0,.int .u64 0,.int .i64 0,.int .i64 0]).up (aG _));have C5:Hid (Below wr.heap.size wr ((wr.alloc (.cells #[.int .i64 0,.int .i64 0,.int .u64 0,.int .u64 0,.int .u64 0,.int .u64 0,.int .i64 0,.int .i64 0] 77)).drew)):=qa (fR (aB wr _));refine⟨aF C5.o,?_⟩;have Z5:Hid (((wr.alloc (.cells #[.int .i64 0,.int .i64 0,.int .u64 0,.int .u64 0,.int .u64 0,.int .u64 0,.int .i64 0,.int .i64 0] 77)).drew).heap.size=(wr.drew).heap.size+1):=qa (by simp);obtain⟨p5,hp5⟩:∃p5,p5=wr.heap.size:=⟨_,rfl⟩;have HP5:=qa hp5;rw[<-hp5]at⊢;rw[show wr.heap.size=p5 from hp5.symm]at F5;clear hp5;generalize (wr.alloc (.cells #[.int .i64 0,.int .i64 0,.int .u64 0,.int .u64 0,.int .u64 0,.int .u64 0,.int .i64 0,.int .i64 0] 77)).drew=w5 at*;unfold aD
   (unfold aN;simp only[pk])
   refine⟨?_,?_⟩
   ·unfold aD
    go_wp2_with((with_reducible go_at_call 59);refine(O2 (HNA.o.up C5.o) q6T HXN.o HWK.o).mono ?_;rintro en w4 ⟨u,vs,rfl,hP,hbK⟩;have HPK:=qa hP;have B4:=qa hbK;have C4:=qa (dK C5.o hbK);have Z4:=qa hbK.size;clear hP hbK)
    refine⟨aF C4.o,?_⟩;unfold aD
    (unfold aN;simp only[pk])
    refine⟨?_,?_⟩
    ·unfold aD
     go_wp2;have F6:=qa ((by simpa using cX w4 0 #[.slice none 0 0] 22 (by simp) (qd _):Own (w4.alloc (.cells #[.slice none 0 0] 22)) 0 22 (.slice (some ⟨w4.heap.size,0,none⟩) 1 1) [.slice none 0 0]));have B6:=qa (aB w4 (.cells #[.slice none 0 0] 22));have C6:=qa (dK C4.o B6.o);refine⟨aF C6.o,?_⟩;have Z6:Hid ((w4.alloc (.cells #[.slice none 0 0] 22)).heap.size=(w4).heap.size+1):=qa (by simp);obtain⟨p6,hp6⟩:∃p6,p6=w4.heap.size:=⟨_,rfl⟩;have HP6:=qa hp6;rw[<-hp6]at⊢;rw[show w4.heap.size=p6 from hp6.symm]at F6;clear hp6;generalize w4.alloc (.cells #[.slice none 0 0] 22)=w6 at*;unfold aD
     (unfold aN;simp only[pk])
     refine⟨?_,by unfold aN;trivial⟩;unfold aD;have hkk:=HPK.o.own.lt;have q4:=Z4.o;have q5:=Z5.o;have q6:=Z6.o;have q7:=HP5.o;have q8:=HP6.o;have q9:wr.drew.heap.size=wr.heap.size:=rfl;have h5r:wr.heap.size<=p5:=by omega
     have h6r:wr.heap.size<=p6:=by omega
     have O5:=qa ((F5.o.up B4.o).up B6.o);have O6:=qa F6.o;have OP:=qa ((HPK.o).upP B6.o);have h56:p5≠p6:=by omega
     have hk5:∀z,u.ownBlock=some z->z≠p5:=fun z hz=>by have:=hkk z hz;omega
     have hk6:∀z,u.ownBlock=some z->z≠p6:=fun z hz=>by have:=hkk z hz;omega
     have hBk:wr.heap.size<=w5.heap.size:=by omega
     have q6F:b≠p5:=by omega
     have q81:b≠p6:=by omega
     clear q4 q5 q6 q7 q8 q9 hkk Z4 Z5 Z6 HP5 HP6;generalize w6=wz at*;have CZ:=C6
     exact ZmE1
    unfold aN
    trivial
   (unfold aN;simp only[pk])
   refine⟨?_,?_⟩
   ·unfold aD
    go_wp2;have F6:=qa ((by simpa using cX w5 0 #[.slice none 0 0] 22 (by simp) (qd _):Own (w5.alloc (.cells #[.slice none 0 0] 22)) 0 22 (.slice (some ⟨w5.heap.size,0,none⟩) 1 1) [.slice none 0 0]));have B6:=qa (aB w5 (.cells #[.slice none 0 0] 22));have C6:=qa (dK C5.o B6.o);refine⟨aF C6.o,?_⟩;have Z6:Hid ((w5.alloc (.cells #[.slice none 0 0] 22)).heap.size=(w5).heap.size+1):=qa (by simp);obtain⟨p6,hp6⟩:∃p6,p6=w5.heap.size:=⟨_,rfl⟩;have HP6:=qa hp6;rw[<-hp6]at⊢;rw[show w5.heap.size=p6 from hp6.symm]at F6;clear hp6;generalize w5.alloc (.cells #[.slice none 0 0] 22)=w6 at*;unfold aD
    (unfold aN;simp only[pk])
    refine⟨?_,?_⟩
    ·unfold aD
     go_wp2_with((with_reducible go_at_call 59);refine(O2 (HNA.o.up C6.o) q6T HXN.o HWK.o).mono ?_;rintro en w4 ⟨u,vs,rfl,hP,hbK⟩;have HPK:=qa hP;have B4:=qa hbK;have C4:=qa (dK C6.o hbK);have Z4:=qa hbK.size;clear hP hbK)
     refine⟨aF C4.o,?_⟩;unfold aD
     (unfold aN;simp only[pk])
     refine⟨?_,by unfold aN;trivial⟩;unfold aD;have hkk:=HPK.o.own.lt;have q4:=Z4.o;have q5:=Z5.o;have q6:=Z6.o;have q7:=HP5.o;have q8:=HP6.o;have q9:wr.drew.heap.size=wr.heap.size:=rfl;have h5r:wr.heap.size<=p5:=by omega
     have h6r:wr.heap.size<=p6:=by omega
     have O5:=qa ((F5.o.up B6.o).up B4.o);have O6:=qa (F6.o.up B4.o);have OP:=qa (HPK.o);have h56:p5≠p6:=by omega
     have hk5:∀z,u.ownBlock=some z->z≠p5:=fun z hz=>by have:=hkk z hz;omega
     have hk6:∀z,u.ownBlock=some z->z≠p6:=fun z hz=>by have:=hkk z hz;omega
     have hBk:wr.heap.size<=w6.heap.size:=by omega
     have q6F:b≠p5:=by omega
     have q81:b≠p6:=by omega
     clear q4 q5 q6 q7 q8 q9 hkk Z4 Z5 Z6 HP5 HP6;generalize w4=wz at*;have CZ:=C4
     exact ZmE1
    unfold aN
    trivial
   unfold aN
   trivial
  (unfold aN;simp only[pk])
  refine⟨?_,?_⟩
  ·unfold aD
   go_wp2;have F6:=qa ((by simpa using cX wr 0 #[.slice none 0 0] 22 (by simp) (qd _):Own (wr.alloc (.cells #[.slice none 0 0] 22)) 0 22 (.slice (some ⟨wr.heap.size,0,none⟩) 1 1) [.slice none 0 0]).up (aG _));have C6:Hid (Below wr.heap.size wr ((wr.alloc (.cells #[.slice none 0 0] 22)).drew)):=qa (fR (aB wr _));refine⟨aF C6.o,?_⟩;have Z6:Hid (((wr.alloc (.cells #[.slice none 0 0] 22)).drew).heap.size=(wr.drew).heap.size+1):=qa (by simp);obtain⟨p6,hp6⟩:∃p6,p6=wr.heap.size:=⟨_,rfl⟩;have HP6:=qa hp6;rw[<-hp6]at⊢;rw[show wr.heap.size=p6 from hp6.symm]at F6;clear hp6;generalize (wr.alloc (.cells #[.slice none 0 0] 22)).drew=w6 at*;unfold aD
   (unfold aN;simp only[pk])
   refine⟨?_,?_⟩
   ·unfold aD
    go_wp2_with((with_reducible go_at_call 59);refine(O2 (HNA.o.up C6.o) q6T HXN.o HWK.o).mono ?_;rintro en w4 ⟨u,vs,rfl,hP,hbK⟩;have HPK:=qa hP;have B4:=qa hbK;have C4:=qa (dK C6.o hbK);have Z4:=qa hbK.size;clear hP hbK)
    refine⟨aF C4.o,?_⟩;unfold aD
    (unfold aN;simp only[pk])
    refine⟨?_,?_⟩
    ·unfold aD
     go_wp2;have F5:=qa ((by simpa using cX w4 0 #[.int .i64 0,.int .i64 0,.int .u64 0,.int .u64 0,.int .u64 0,.int .u64 0,.int .i64 0,.int .i64 0] 77 (by simp) (qd _):Own (w4.alloc (.cells #[.int .i64 0,.int .i64 0,.int .u64 0,.int .u64 0,.int .u64 0,.int .u64 0,.int .i64 0,.int .i64 0] 77)) 0 77 (.slice (some ⟨w4.heap.size,0,none⟩) 8 8) [.int .i64 0,.int .i64 0,.int .u64 0,.int .u64 0,.int .u64 0,.int .u64 0,.int .i64 0,.int .i64 0]));have B5:=qa (aB w4 (.cells #[.int .i64 0,.int .i64 0,.int .u64 0,.int .u64 0,.int .u64 0,.int .u64 0,.int .i64 0,.int .i64 0] 77));have C5:=qa (dK C4.o B5.o);refine⟨aF C5.o,?_⟩;have Z5:Hid ((w4.alloc (.cells #[.int .i64 0,.int .i64 0,.int .u64 0,.int .u64 0,.int .u64 0,.int .u64 0,.int .i64 0,.int .i64 0] 77)).heap.size=(w4).heap.size+1):=qa (by simp);obtain⟨p5,hp5⟩:∃p5,p5=w4.heap.size:=⟨_,rfl⟩;have HP5:=qa hp5;rw[<-hp5]at⊢;rw[show w4.heap.size=p5 from hp5.symm]at F5;clear hp5;generalize w4.alloc (.cells #[.int .i64 0,.int .i64 0,.int .u64 0,.int .u64 0,.int .u64 0,.int .u64 0,.int .i64 0,.int .i64 0] 77)=w5 at*;unfold aD
     (unfold aN;simp only[pk])
     refine⟨?_,by unfold aN;trivial⟩;unfold aD;have hkk:=HPK.o.own.lt;have q4:=Z4.o;have q5:=Z5.o;have q6:=Z6.o;have q7:=HP5.o;have q8:=HP6.o;have q9:wr.drew.heap.size=wr.heap.size:=rfl;have h5r:wr.heap.size<=p5:=by omega
     have h6r:wr.heap.size<=p6:=by omega
     have O5:=qa F5.o;have O6:=qa ((F6.o.up B4.o).up B5.o);have OP:=qa ((HPK.o).upP B5.o);have h56:p5≠p6:=by omega
     have hk5:∀z,u.ownBlock=some z->z≠p5:=fun z hz=>by have:=hkk z hz;omega
     have hk6:∀z,u.ownBlock=some z->z≠p6:=fun z hz=>by have:=hkk z hz;omega
     have hBk:wr.heap.size<=w6.heap.size:=by omega
     have q6F:b≠p5:=by omega
     have q81:b≠p6:=by omega
     clear q4 q5 q6 q7 q8 q9 hkk Z4 Z5 Z6 HP5 HP6;generalize w5=wz at*;have CZ:=C5
     exact ZmE1
    unfold aN
    trivial
   (unfold aN;simp only[pk])
   refine⟨?_,?_⟩
   ·unfold aD
    go_wp2;have F5:=qa ((by simpa using cX w6 0 #[.int .i64 0,.int .i64 0,.int .u64 0,.int .u64 0,.int .u64 0,.int .u64 0,.int .i64 0,.int .i64 0] 77 (by simp) (qd _):Own (w6.alloc (.cells #[.int .i64 0,.int .i64 0,.int .u64 0,.int .u64 0,.int .u64 0,.int .u64 0,.int .i64 0,.int .i64 0] 77)) 0 77 (.slice (some ⟨w6.heap.size,0,none⟩) 8 8) [.int .i64 0,.int .i64 0,.int .u64 0,.int .u64 0,.int .u64 0,.int .u64 0,.int .i64 0,.int .i64 0]));have B5:=qa (aB w6 (.cells #[.int .i64 0,.int .i64 0,.int .u64 0,.int .u64 0,.int .u64 0,.int .u64 0,.int .i64 0,.int .i64 0] 77));have C5:=qa (dK C6.o B5.o);refine⟨aF C5.o,?_⟩;have Z5:Hid ((w6.alloc (.cells #[.int .i64 0,.int .i64 0,.int .u64 0,.int .u64 0,.int .u64 0,.int .u64 0,.int .i64 0,.int .i64 0] 77)).heap.size=(w6).heap.size+1):=qa (by simp);obtain⟨p5,hp5⟩:∃p5,p5=w6.heap.size:=⟨_,rfl⟩;have HP5:=qa hp5;rw[<-hp5]at⊢;rw[show w6.heap.size=p5 from hp5.symm]at F5;clear hp5;generalize w6.alloc (.cells #[.int .i64 0,.int .i64 0,.int .u64 0,.int .u64 0,.int .u64 0,.int .u64 0,.int .i64 0,.int .i64 0] 77)=w5 at*;unfold aD
    (unfold aN;simp only[pk])
    refine⟨?_,?_⟩
    ·unfold aD
     go_wp2_with((with_reducible go_at_call 59);refine(O2 (HNA.o.up C5.o) q6T HXN.o HWK.o).mono ?_;rintro en w4 ⟨u,vs,rfl,hP,hbK⟩;have HPK:=qa hP;have B4:=qa hbK;have C4:=qa (dK C5.o hbK);have Z4:=qa hbK.size;clear hP hbK)
     refine⟨aF C4.o,?_⟩;unfold aD
     (unfold aN;simp only[pk])
     refine⟨?_,by unfold aN;trivial⟩;unfold aD;have hkk:=HPK.o.own.lt;have q4:=Z4.o;have q5:=Z5.o;have q6:=Z6.o;have q7:=HP5.o;have q8:=HP6.o;have q9:wr.drew.heap.size=wr.heap.size:=rfl;have h5r:wr.heap.size<=p5:=by omega
     have h6r:wr.heap.size<=p6:=by omega
     have O5:=qa (F5.o.up B4.o);have O6:=qa ((F6.o.up B5.o).up B4.o);have OP:=qa (HPK.o);have h56:p5≠p6:=by omega
     have hk5:∀z,u.ownBlock=some z->z≠p5:=fun z hz=>by have:=hkk z hz;omega
     have hk6:∀z,u.ownBlock=some z->z≠p6:=fun z hz=>by have:=hkk z hz;omega
     have hBk:wr.heap.size<=w5.heap.size:=by omega
     have q6F:b≠p5:=by omega
     have q81:b≠p6:=by omega
     clear q4 q5 q6 q7 q8 q9 hkk Z4 Z5 Z6 HP5 HP6;generalize w4=wz at*;have CZ:=C4
     exact ZmE1
    unfold aN
    trivial
   unfold aN
   trivial
  unfold aN
  trivial
 case rest=>
  obtain⟨p5,p6,u,vs,rfl,rfl,h5r,h6r,hn5,hn6,hpt,q5T⟩:=hcut;have HM0:=qa (HMA.o.up q5T);have HG0:=qa (HGA.o.up q5T);have HF0:=qa (HFA.o.up q5T);have P40:=qa (HPA.o.up q5T);have q9Z:=HMA.o.no h5r;have q9Y:=HMA.o.no h6r;have HX0:Hid (rU wc S p5 (ndV x)):=qa ⟨fun i hi=>by rw[hn5.cell (by simpa[ndC]using hi),oJ];rfl,hn5.blk.2,q9Z⟩
  have H60:Hid (rU wc S p6 #[u]):=qa ⟨fun i hi=>by
   obtain rfl:i=0:=by simpa using hi
   exact hn6.cell (by simp),hn6.blk.2,q9Y⟩
  have HPT:=qa hpt;have HBE:=qa q5T;have HMR:=HMA;have qcE:=q5T.size;have qcB:w.heap.size+2<=wr.heap.size:=by omega
  clear HMA HGA HNA HFA HPA hn5 hn6 hpt q5T q9Z q9Y;obtain⟨xk,xn,xa,xb,xc,xd,xl,xh⟩:=x;have hkd:=HKD.o
  try simp only at hkd
  rcases hkd with h|h|h|h|h|h|h|h
  all_goals subst h
  case inl=>
   have HZ2:Hid (Z=(aP s,rM ⟨1,xn,xa,xb,xc,xd,xl,xh⟩ s)):=qa (by rw[HZ.o];simp[cY]);have hn2:n=s.e.length:=by rw[HN.o,HZ2.o];rfl
   have hm2:m=s.e.length+1:=by rw[HMM.o,HZ2.o];rfl
   obtain⟨hb1,hb2,hb3⟩:=HB.o;simp only[bS]at hb1 hb2;have HAR:=qa (oK HM0.o (by omega) (by omega) n m hn2 hm2);have HN2:=qa hn2;have q9i:=qa hm2;have hnb:n<=4000:=by omega
   have hmb:m<=4001:=by omega
   clear hn2 hm2;have hkc:wc.cell? ⟨p5,0,none⟩=some (.int .i64 1):=HX0.o.c 0 (show 0<8 by decide);have hkl:=HX0.o.lt;have hac:wc.cell? ⟨w.heap.size,0,none⟩=some (.pointer (some ⟨g,0,none⟩)):=HF0.o.c 0 (show 0<1 by decide);have hal:=HF0.o.lt
   go_wp2_with((with_reducible go_at_call 60);refine HAR.o.mono ?_;rintro en w1 ⟨rfl,S1,hm1,hg1⟩;have HM1:=qa hm1;have HG1:=qa (HG0.o.trans hg1);have HF1:=qa (HF0.o.gw hg1);have HX1:=qa (HX0.o.gw hg1);have P41:=qa (P40.o.gw hg1);(have q6z:=hg1.size);clear hm1 hg1)
   have HM2:=qa (HM1.o.up (aB w1 (.cells #[.int .i64 n,.int .i64 m] 93)));have HG2:=qa (HG1.o.up (aB w1 (.cells #[.int .i64 n,.int .i64 m] 93)));have HF2:=qa (HF1.o.up (aB w1 (.cells #[.int .i64 n,.int .i64 m] 93)));have HX2:=qa (HX1.o.up (aB w1 (.cells #[.int .i64 n,.int .i64 m] 93)));have P42:=qa (P41.o.up (aB w1 (.cells #[.int .i64 n,.int .i64 m] 93)));have P72:Hid (LB (w1.alloc (.cells #[.int .i64 n,.int .i64 m] 93)) S1 w1.heap.size n m):=qa ⟨dS w1 n m,HM1.o.no (qb _)⟩;clear HM1 HG1 HF1 HX1 P41 HM0 HG0 HF0 HX0 P40 hkc hkl hac hal HAR;generalize w1.heap.size=p7 at*;generalize w1.alloc (.cells #[.int .i64 n,.int .i64 m] 93)=w2 at*;obtain⟨ve,vz,vr,hmk,hS1⟩:=HM2.o;have hvl:=hmk.len;have htl:=i9 s;rw[htl]at hvl;have hn2:=HN2.o;obtain⟨oa,cap,ge,rfl,hdo,-,hco,hfo,-⟩:=hmk.outer.cases;have hoa:=hdo.hat (by omega);subst hoa;have hix:=fun(W:World)=>aZ (P:=prog) 46 109 underlying46 (by kernel_rfl) hdo W .i64 n (by omega) (by omega);simp only[qC,qH]at hix;have hcr:=hco n (by omega);have hfr:=hfo n (by omega);have q7o:=hdo.hblk (by omega);have hc0:=hmk.c0;have hg2:=hmk.lt;have hac:w2.cell? ⟨w.heap.size,0,none⟩=some (.pointer (some ⟨g,0,none⟩)):=HF2.o.c 0 (show 0<1 by decide);have hal:=HF2.o.lt;have hk0:w2.cell? ⟨p5,0,none⟩=some (.int .i64 1):=HX2.o.c 0 (show 0<8 by decide);have hkl:=HX2.o.lt;have P7a:=P72.o.box.c0;have P7b:=P72.o.box.c1;have P7l:=P72.o.box.lt
   have HSC:Hid (∀w',(∃y,w'=ext w2 y)->∀c,c<4->w'.cell? ⟨p5,2+c,none⟩=some ((#[.int .u64 xa,.int .u64 xb,.int .u64 xc,.int .u64 xd]:Array Value).getD c undef)):=qa (by
    rintro w' ⟨y,rfl⟩ c hcl;rw[cell?_ext _ _ _ _ hkl];have:=HX2.o.c (2+c) (show 2+c<8 by omega);rw[this];rcases(show c=0\/c=1\/c=2\/c=3 by omega)with rfl|rfl|rfl|rfl<;>rfl)
   have HMK:=qa hmk;have hvz:vz.length<=10000:=by omega
   have HVN:Hid (n<(two s).e.length):=qa (by omega);have hlW:Below w2.heap.size w2 (w2.alloc (.cells #[.int .i64 m,.bool false,.int .u64 xa,.int .u64 xb,.int .u64 xc,.int .u64 xd] 111)).drew:=aS;have HX:=qa ((iX 6 w2 0 #[.int .i64 m,.bool false,.int .u64 xa,.int .u64 xb,.int .u64 xc,.int .u64 xd] 111 ([⟨m,false,xa,xb,xc,xd⟩].map edC) (by simp[edC]) (uG _) (by simp) (qd _)).up (aG _));have HLW:=qa hlW;have hlz:vz.length=n+2:=by omega
   rw[hlz]at hix HMK hvz hc0 hS1;clear hmk hdo hco hfo hvl htl hlW hn2 hlz;go_wp2;refine aH [0,1,2,3,4,5,6,7,8,9,10,11,12,13,14] [15,16] [17] (by kernel_rfl) (by kernel_rfl) ?_;simp only[pk]
   repeat(first|(go_big_quiet_want;refine bP 54 4 _ rfl p5 2 rfl #[.int .u64 xa,.int .u64 xb,.int .u64 xc,.int .u64 xd] rfl HSC.o _ underlying54 rfl (by kernel_rfl) ?_;go_simp;go_big_quiet_on)|go_big_quiet_step (fail))
   refine wpQuiet_nil ?_
   (unfold aD;go_wp2;refine⟨(aF aS),?_⟩)
   (unfold aD;go_wp2;refine⟨(aF aS),?_⟩)
   have HPU:=qa (HMK.o.setRow (r:=.slice (some ⟨w2.heap.size,0,none⟩) 1 1) (xs:=[⟨m,false,xa,xb,xc,xd⟩]) HVN.o HX.o (aI HLW.o _) (fun k hk=>.inr (Nat.le_of_eq (qp (show some w2.heap.size=some k from hk)))));have HGX:Hid (Gw S1 w2 (MkS g (.slice (some ⟨ge,0,none⟩) (n+2) cap) vr (vz.set n (.slice (some ⟨w2.heap.size,0,none⟩) 1 1))) ((w2.alloc (.cells #[.int .i64 m,.bool false,.int .u64 xa,.int .u64 xb,.int .u64 xc,.int .u64 xd] 111)).drew.setCell ⟨ge,n,none⟩ (.slice (some ⟨w2.heap.size,0,none⟩) 1 1))):=qa (by rw[hS1];exact HPU.o.2);have hZ3:Z.2=⟨(two s).e.set n [⟨m,false,xa,xb,xc,xd⟩],(two s).r⟩:=by rw[HZ2.o];simp[rM,bW,HN2.o,q9i.o]
   have HZ3:=qa hZ3;clear hZ3;unfold aD;unfold aD;go_wp2;refine⟨trivial,?_⟩;unfold aD;have HM3:Hid (MkT ((w2.alloc (.cells #[.int .i64 m,.bool false,.int .u64 xa,.int .u64 xb,.int .u64 xc,.int .u64 xd] 111)).drew.setCell ⟨ge,n,none⟩ (.slice (some ⟨w2.heap.size,0,none⟩) 1 1)) (MkS g (.slice (some ⟨ge,0,none⟩) (n+2) cap) vr (vz.set n (.slice (some ⟨w2.heap.size,0,none⟩) 1 1))) g q Z.2 F):=qa ⟨_,_,_,by rw[HZ3.o];exact HPU.o.1,rfl⟩;have HG3:=qa (HG2.o.trans HGX.o);have P43:=qa (P42.o.gw HGX.o);have P73:=qa (P72.o.gw HGX.o);have q7y:(w2.alloc (.cells #[.int .i64 m,.bool false,.int .u64 xa,.int .u64 xb,.int .u64 xc,.int .u64 xd] 111)).drew.setCell ⟨ge,n,none⟩ (.slice (some ⟨w2.heap.size,0,none⟩) 1 1)=((w2.setCell ⟨ge,n,none⟩ (.slice (some ⟨w2.heap.size,0,none⟩) 1 1)).alloc (.cells #[.int .i64 m,.bool false,.int .u64 xa,.int .u64 xb,.int .u64 xc,.int .u64 xd] 111)).drew:=by rw[World.setCell_drew,World.setCell_alloc_past _ _ _ _ q7o]
   rw[q7y]at HM3 HG3 P43 P73;clear q7y;clear HMK HPU HGX HM2 HG2 HX HLW HF2 HX2 P42 P72 HSC hix hcr hfr q7o hc0 hg2 hac hal hk0 hkl P7a P7b P7l hS1;generalize ((w2.setCell ⟨ge,n,none⟩ (.slice (some ⟨w2.heap.size,0,none⟩) 1 1)).alloc (.cells #[.int .i64 m,.bool false,.int .u64 xa,.int .u64 xb,.int .u64 xc,.int .u64 xd] 111)).drew=w3 at*
   exact ZmE4
  case inr.inl=>
   have HZ2:Hid (Z=(aP s,rM ⟨2,xn,xa,xb,xc,xd,xl,xh⟩ s)):=qa (by rw[HZ.o];simp[cY]);have hn2:n=s.e.length:=by rw[HN.o,HZ2.o];rfl
   have hm2:m=s.e.length+1:=by rw[HMM.o,HZ2.o];rfl
   obtain⟨hb1,hb2,hb3⟩:=HB.o;simp only[bS]at hb1 hb2;have HAR:=qa (oK HM0.o (by omega) (by omega) n m hn2 hm2);have HN2:=qa hn2;have q9i:=qa hm2;have hnb:n<=4000:=by omega
   have hmb:m<=4001:=by omega
   clear hn2 hm2;have hkc:wc.cell? ⟨p5,0,none⟩=some (.int .i64 2):=HX0.o.c 0 (show 0<8 by decide);have hkl:=HX0.o.lt;have hac:wc.cell? ⟨w.heap.size,0,none⟩=some (.pointer (some ⟨g,0,none⟩)):=HF0.o.c 0 (show 0<1 by decide);have hal:=HF0.o.lt
   go_wp2_with((with_reducible go_at_call 60);refine HAR.o.mono ?_;rintro en w1 ⟨rfl,S1,hm1,hg1⟩;have HM1:=qa hm1;have HG1:=qa (HG0.o.trans hg1);have HF1:=qa (HF0.o.gw hg1);have HX1:=qa (HX0.o.gw hg1);have P41:=qa (P40.o.gw hg1);(have q6z:=hg1.size);clear hm1 hg1)
   have HM2:=qa (HM1.o.up (aB w1 (.cells #[.int .i64 n,.int .i64 m] 93)));have HG2:=qa (HG1.o.up (aB w1 (.cells #[.int .i64 n,.int .i64 m] 93)));have HF2:=qa (HF1.o.up (aB w1 (.cells #[.int .i64 n,.int .i64 m] 93)));have HX2:=qa (HX1.o.up (aB w1 (.cells #[.int .i64 n,.int .i64 m] 93)));have P42:=qa (P41.o.up (aB w1 (.cells #[.int .i64 n,.int .i64 m] 93)));have P72:Hid (LB (w1.alloc (.cells #[.int .i64 n,.int .i64 m] 93)) S1 w1.heap.size n m):=qa ⟨dS w1 n m,HM1.o.no (qb _)⟩;clear HM1 HG1 HF1 HX1 P41 HM0 HG0 HF0 HX0 P40 hkc hkl hac hal HAR;generalize w1.heap.size=p7 at*;generalize w1.alloc (.cells #[.int .i64 n,.int .i64 m] 93)=w2 at*;obtain⟨ve,vz,vr,hmk,hS1⟩:=HM2.o;have hvl:=hmk.len;have htl:=i9 s;rw[htl]at hvl;have hn2:=HN2.o;obtain⟨oa,cap,ge,rfl,hdo,-,hco,hfo,-⟩:=hmk.outer.cases;have hoa:=hdo.hat (by omega);subst hoa;have hix:=fun(W:World)=>aZ (P:=prog) 46 109 underlying46 (by kernel_rfl) hdo W .i64 n (by omega) (by omega);simp only[qC,qH]at hix;have hcr:=hco n (by omega);have hfr:=hfo n (by omega);have q7o:=hdo.hblk (by omega);have hc0:=hmk.c0;have hg2:=hmk.lt;have hac:w2.cell? ⟨w.heap.size,0,none⟩=some (.pointer (some ⟨g,0,none⟩)):=HF2.o.c 0 (show 0<1 by decide);have hal:=HF2.o.lt;have hk0:w2.cell? ⟨p5,0,none⟩=some (.int .i64 2):=HX2.o.c 0 (show 0<8 by decide);have hkl:=HX2.o.lt;have P7a:=P72.o.box.c0;have P7b:=P72.o.box.c1;have P7l:=P72.o.box.lt
   have HSC:Hid (∀w',(∃y,w'=ext w2 y)->∀c,c<4->w'.cell? ⟨p5,2+c,none⟩=some ((#[.int .u64 xa,.int .u64 xb,.int .u64 xc,.int .u64 xd]:Array Value).getD c undef)):=qa (by
    rintro w' ⟨y,rfl⟩ c hcl;rw[cell?_ext _ _ _ _ hkl];have:=HX2.o.c (2+c) (show 2+c<8 by omega);rw[this];rcases(show c=0\/c=1\/c=2\/c=3 by omega)with rfl|rfl|rfl|rfl<;>rfl)
   have HMK:=qa hmk;have hvz:vz.length<=10000:=by omega
   have HVN:Hid (n<(two s).e.length):=qa (by omega);have hlW:Below w2.heap.size w2 (w2.alloc (.cells #[.int .i64 m,.bool true,.int .u64 xa,.int .u64 xb,.int .u64 xc,.int .u64 xd] 111)).drew:=aS;have HX:=qa ((iX 6 w2 0 #[.int .i64 m,.bool true,.int .u64 xa,.int .u64 xb,.int .u64 xc,.int .u64 xd] 111 ([⟨m,true,xa,xb,xc,xd⟩].map edC) (by simp[edC]) (uG _) (by simp) (qd _)).up (aG _));have HLW:=qa hlW;have hlz:vz.length=n+2:=by omega
   rw[hlz]at hix HMK hvz hc0 hS1;clear hmk hdo hco hfo hvl htl hlW hn2 hlz;go_wp2;refine aH [0,1,2,3,4,5,6,7,8,9,10,11,12,13,14] [15,16] [17] (by kernel_rfl) (by kernel_rfl) ?_;simp only[pk]
   repeat(first|(go_big_quiet_want;refine bP 54 4 _ rfl p5 2 rfl #[.int .u64 xa,.int .u64 xb,.int .u64 xc,.int .u64 xd] rfl HSC.o _ underlying54 rfl (by kernel_rfl) ?_;go_simp;go_big_quiet_on)|go_big_quiet_step (fail))
   refine wpQuiet_nil ?_
   (unfold aD;go_wp2;refine⟨(aF aS),?_⟩)
   (unfold aD;go_wp2;refine⟨(aF aS),?_⟩)
   have HPU:=qa (HMK.o.setRow (r:=.slice (some ⟨w2.heap.size,0,none⟩) 1 1) (xs:=[⟨m,true,xa,xb,xc,xd⟩]) HVN.o HX.o (aI HLW.o _) (fun k hk=>.inr (Nat.le_of_eq (qp (show some w2.heap.size=some k from hk)))));have HGX:Hid (Gw S1 w2 (MkS g (.slice (some ⟨ge,0,none⟩) (n+2) cap) vr (vz.set n (.slice (some ⟨w2.heap.size,0,none⟩) 1 1))) ((w2.alloc (.cells #[.int .i64 m,.bool true,.int .u64 xa,.int .u64 xb,.int .u64 xc,.int .u64 xd] 111)).drew.setCell ⟨ge,n,none⟩ (.slice (some ⟨w2.heap.size,0,none⟩) 1 1))):=qa (by rw[hS1];exact HPU.o.2);have hZ3:Z.2=⟨(two s).e.set n [⟨m,true,xa,xb,xc,xd⟩],(two s).r⟩:=by rw[HZ2.o];simp[rM,bW,HN2.o,q9i.o]
   have HZ3:=qa hZ3;clear hZ3;unfold aD;unfold aD;go_wp2;refine⟨trivial,?_⟩;unfold aD;have HM3:Hid (MkT ((w2.alloc (.cells #[.int .i64 m,.bool true,.int .u64 xa,.int .u64 xb,.int .u64 xc,.int .u64 xd] 111)).drew.setCell ⟨ge,n,none⟩ (.slice (some ⟨w2.heap.size,0,none⟩) 1 1)) (MkS g (.slice (some ⟨ge,0,none⟩) (n+2) cap) vr (vz.set n (.slice (some ⟨w2.heap.size,0,none⟩) 1 1))) g q Z.2 F):=qa ⟨_,_,_,by rw[HZ3.o];exact HPU.o.1,rfl⟩;have HG3:=qa (HG2.o.trans HGX.o);have P43:=qa (P42.o.gw HGX.o);have P73:=qa (P72.o.gw HGX.o);have q7y:(w2.alloc (.cells #[.int .i64 m,.bool true,.int .u64 xa,.int .u64 xb,.int .u64 xc,.int .u64 xd] 111)).drew.setCell ⟨ge,n,none⟩ (.slice (some ⟨w2.heap.size,0,none⟩) 1 1)=((w2.setCell ⟨ge,n,none⟩ (.slice (some ⟨w2.heap.size,0,none⟩) 1 1)).alloc (.cells #[.int .i64 m,.bool true,.int .u64 xa,.int .u64 xb,.int .u64 xc,.int .u64 xd] 111)).drew:=by rw[World.setCell_drew,World.setCell_alloc_past _ _ _ _ q7o]
   rw[q7y]at HM3 HG3 P43 P73;clear q7y;clear HMK HPU HGX HM2 HG2 HX HLW HF2 HX2 P42 P72 HSC hix hcr hfr q7o hc0 hg2 hac hal hk0 hkl P7a P7b P7l hS1;generalize ((w2.setCell ⟨ge,n,none⟩ (.slice (some ⟨w2.heap.size,0,none⟩) 1 1)).alloc (.cells #[.int .i64 m,.bool true,.int .u64 xa,.int .u64 xb,.int .u64 xc,.int .u64 xd] 111)).drew=w3 at*
   exact ZmE4
  case inr.inr.inl=>
   have hvl:=HPT.o.len;rw[bX]at hvl;have hcp:0<vs.length:=by have h1:=HXN.o;have h2:=HOX.o;unfold okN at h2;simp only at h1 h2;omega
   obtain⟨ou,cu,bo,hu,hdo,hgo,hco,-,-⟩:=HPT.o.own.cases;have hou:=hdo.hat hcp;subst hou;obtain⟨q6A,q6e⟩:=hgo hcp;have hcu:=hdo.hcap;have q6k:=hdo.hmax;have q6g:=hdo.hblk hcp;have q6v:=HMR.o.no q6e
   have KJ0:KJ g w.heap.size p6 bo b u vs (bO k) S wc:=⟨HF0.o,H60.o,⟨fun i hi=>by
    have hi':i<vs.length:=by simpa using hi
    rw[hco i hi'];simp[List.getD,qR,hi'],q6g,q6v⟩,hbS,HPT.o.rows⟩
   have HKJ:=qa KJ0;clear KJ0;have hwk:=HWK.o;have hak:=HAK.o;obtain⟨hb1,hb2,hb3⟩:=HB.o;rw[q0t _ _ rfl]at hb1 hb2 hb3;have hix:=fun(W:World) (i:Nat) (hi:i<vs.length)=>d9 hdo W .i64 i (by omega) (by omega);have h6c:wc.cell? ⟨p6,0,none⟩=some (.slice (some ⟨bo,0,none⟩) vs.length cu):=by rw[<-hu];exact H60.o.c 0 (show 0<1 by decide)
   have h6l:=H60.o.lt;have hkc:wc.cell? ⟨p5,0,none⟩=some (.int .i64 3):=HX0.o.c 0 (show 0<8 by decide);have q6O:=HX0.o.lt;have qbE:=q6g;have h6w:=h6l;have h5w:=q6O;have q93:b<wc.heap.size:=by omega
   have HVL:=qa hvl;have hvB:vs.length<=400:=by have:=cnt_le k;omega
   have HLO:=qa (hJ k hwk hak s);have HCS:=qa HZ.o;obtain⟨kl,hkl⟩:∃kl,kl=vs.length:=⟨_,rfl⟩;have HKL:=qa hkl;rw[<-hkl]at hix h6c hvB;clear hvl hcp hdo hgo hco q6A q6e hcu q6k hkl;go_wp2
   go_loopg [8,69] (cnt k) (fun gk ov iv wr=>∃(j:Nat) (r:Fo) (sj:St) (ps:List Pc) (dn:List (List Nd)) (Sr:Nat->Prop),iv=.int .i64 j/\j+cnt r=cnt k/\wf r/\gT okN r/\(aT r).length<=(aT k).length/\dn++bO r=bO k/\dn.length=j/\ps.length=j/\eN k s=(ps++(eN r sj).1,(eN r sj).2)/\sj.e.length+usz r=s.e.length+usz k/\sj.r.length+usz r=s.r.length+usz k/\tot sj.e+2*usz r<=tot s.e+2*usz k/\
     MkT wr Sr g q sj F/\Gw S w Sr wr/\KJ g w.heap.size p6 bo b u vs (bO k) Sr wr/\LB wr Sr (w.heap.size+1) 0 0/\rU wr Sr p5 (ndV ⟨3,xn,xa,xb,xc,xd,xl,xh⟩)/\d4 2 wr wc.heap.size 93 ov (ps.map pcC)/\(∀z,ov.ownBlock=some z->¬Sr z)/\wc.heap.size<=wr.heap.size/\gk=cnt k-j)
   case atStart=>
    exact ZmE5
   case round=>
    obtain⟨j,r,sj,ps,dn,Sr,rfl,hj,hwr,har,hrl,hdn,hdl,hpl,q6p,hel,q6Z,htl,hm1,hg1,hkj,hp4,hx5,hov,q7J,q7D,rfl⟩:=hrel;have HM1:=qa hm1;have HG1:=qa hg1;have HK1:=qa hkj;have P41:=qa hp4;have HX1:=qa hx5;have HO1:=qa hov;have HNO:=qa q7J;have q8j:=qa q6p;have HDN:=qa hdn;have q6g:=HK1.o.out.lt;have qal:=HK1.o.va.lt;have qao:wr.cell? ⟨p6,0,none⟩=some (.slice (some ⟨bo,0,none⟩) kl cu):=by rw[HKL.o,<-hu];exact HK1.o.vb.c 0 (show 0<1 by decide)
    have qan:=HK1.o.vb.lt;have qak:wr.cell? ⟨w.heap.size,0,none⟩=some (.pointer (some ⟨g,0,none⟩)):=HK1.o.va.c 0 (show 0<1 by decide);have q7T:kl=cnt k:=by rw[HKL.o,HVL.o]
    have HKC:=qa q7T;clear q7T;clear hm1 hg1 hkj hp4 hx5 hov q7J q6p hdn HM0 HG0 HF0 P40 HX0 H60 HKJ h6c h6l hkc q6O;cases r with
    |cons y ky r'=>
     exact ZmE2
    |nil=>
     have hje:j=cnt k:=by simpa[cnt]using hj
     have q6p:eN k s=(ps,sj):=by rw[q8j.o];simp[eN]
     have h2:2<=cnt k:=by have h1:=HXN.o;have h2:=HOX.o;unfold okN at h2;simp only at h1 h2;omega
     have q69:0<ps.length:=by omega
     obtain⟨b8,off8,cap8,hps,hob⟩:=A6 HO1.o q69;have q7N:=HNO.o b8 hob;have hlo:=HLO.o;rw[q6p]at hlo;have hrg:∀i,i<ps.length->(ps.getD i zP).f<sj.e.length/\(ps.getD i zP).l<sj.e.length:=fun i hi=>hlo.rng i (by omega);simp only[usz,jD]at hel q6Z htl;have q9T:ps.length<=400:=by have:=cnt_le k;omega
     have q9K:wr.cell? ⟨p5,0,none⟩=some (.int .i64 3):=HX1.o.c 0 (show 0<8 by decide);have q9J:=HX1.o.lt;have hZe:Z=(rN ps,fC ps ps.length sj):=by rw[HZ.o,O7 _ _ _ rfl,q6p]
     have HCH:=qa (q3f HM1.o (by omega) (by omega) hps q7N hrg n m (by rw[HN.o,hZe]) (by rw[HMM.o,hZe]));have HEZ:Hid (Z.2=fC ps ps.length sj):=qa (by rw[hZe]);have q8U:=HKC.o;have hjk:((j:Int))=(kl:Int):=by omega
     clear q6p hlo hrg hZe hps hpl hdl hix hje q8U
     go_wp2_with((with_reducible go_at_call 64);refine HCH.o.mono ?_;rintro en w3 ⟨rfl,S3,hm3,hg3⟩;have HM3:=qa hm3;(have HG3:=qa (HG1.o.trans hg3));(have P43:=qa (P41.o.gw hg3));(have P4a:=P43.o.box.c0);(have P4b:=P43.o.box.c1);(have P4l:=P43.o.box.lt);(have P4f:=P43.o.box.free 0);(have P4g:=P43.o.box.free 1);clear hm3 hg3)
     have HST:=qa (P43.o.box.set n m);refine bI rfl rfl rfl HST.o.1.load ?_;exact⟨rfl,S3,(by rw[HEZ.o];exact HM3.o:MkT w3 S3 g q Z.2 F).keep HST.o.2 P43.o.no (by omega),HG3.o.new HST.o.2 (by omega)⟩
  case inr.inr.inr.inl=>
   have hvl:=HPT.o.len;rw[bX]at hvl;have hcp:0<vs.length:=by have h1:=HXN.o;have h2:=HOX.o;unfold okN at h2;simp only at h1 h2;omega
   obtain⟨ou,cu,bo,hu,hdo,hgo,hco,-,-⟩:=HPT.o.own.cases;have hou:=hdo.hat hcp;subst hou;obtain⟨q6A,q6e⟩:=hgo hcp;have hcu:=hdo.hcap;have q6k:=hdo.hmax;have q6g:=hdo.hblk hcp;have q6v:=HMR.o.no q6e
   have KJ0:KJ g w.heap.size p6 bo b u vs (bO k) S wc:=⟨HF0.o,H60.o,⟨fun i hi=>by
    have hi':i<vs.length:=by simpa using hi
    rw[hco i hi'];simp[List.getD,qR,hi'],q6g,q6v⟩,hbS,HPT.o.rows⟩
   have HKJ:=qa KJ0;clear KJ0;have hwk:=HWK.o;have hak:=HAK.o;obtain⟨hb1,hb2,hb3⟩:=HB.o;rw[pZ _ _ (.inl rfl)]at hb1 hb2 hb3;have hix:=fun(W:World) (i:Nat) (hi:i<vs.length)=>d9 hdo W .i64 i (by omega) (by omega);have h6c:wc.cell? ⟨p6,0,none⟩=some (.slice (some ⟨bo,0,none⟩) vs.length cu):=by rw[<-hu];exact H60.o.c 0 (show 0<1 by decide)
   have h6l:=H60.o.lt;have hkc:wc.cell? ⟨p5,0,none⟩=some (.int .i64 4):=HX0.o.c 0 (show 0<8 by decide);have q6O:=HX0.o.lt;have qbE:=q6g;have h6w:=h6l;have h5w:=q6O;have q93:b<wc.heap.size:=by omega
   have HVL:=qa hvl;have hvB:vs.length<=400:=by have:=cnt_le k;omega
   have HLO:=qa (hJ k hwk hak s);have HCS:=qa HZ.o;obtain⟨kl,hkl⟩:∃kl,kl=vs.length:=⟨_,rfl⟩;have HKL:=qa hkl;rw[<-hkl]at hix h6c hvB;clear hvl hcp hdo hgo hco q6A q6e hcu q6k hkl;go_wp2
   go_loopg [8,69] (cnt k) (fun gk ov iv wr=>∃(j:Nat) (r:Fo) (sj:St) (ps:List Pc) (dn:List (List Nd)) (Sr:Nat->Prop),iv=.int .i64 j/\j+cnt r=cnt k/\wf r/\gT okN r/\(aT r).length<=(aT k).length/\dn++bO r=bO k/\dn.length=j/\ps.length=j/\eN k s=(ps++(eN r sj).1,(eN r sj).2)/\sj.e.length+usz r=s.e.length+usz k/\sj.r.length+usz r=s.r.length+usz k/\tot sj.e+2*usz r<=tot s.e+2*usz k/\
     MkT wr Sr g q sj F/\Gw S w Sr wr/\KJ g w.heap.size p6 bo b u vs (bO k) Sr wr/\LB wr Sr (w.heap.size+1) 0 0/\rU wr Sr p5 (ndV ⟨4,xn,xa,xb,xc,xd,xl,xh⟩)/\d4 2 wr wc.heap.size 93 ov (ps.map pcC)/\(∀z,ov.ownBlock=some z->¬Sr z)/\wc.heap.size<=wr.heap.size/\gk=cnt k-j)
   case atStart=>
    exact ZmE5
   case round=>
    obtain⟨j,r,sj,ps,dn,Sr,rfl,hj,hwr,har,hrl,hdn,hdl,hpl,q6p,hel,q6Z,htl,hm1,hg1,hkj,hp4,hx5,hov,q7J,q7D,rfl⟩:=hrel;have HM1:=qa hm1;have HG1:=qa hg1;have HK1:=qa hkj;have P41:=qa hp4;have HX1:=qa hx5;have HO1:=qa hov;have HNO:=qa q7J;have q8j:=qa q6p;have HDN:=qa hdn;have q6g:=HK1.o.out.lt;have qal:=HK1.o.va.lt;have qao:wr.cell? ⟨p6,0,none⟩=some (.slice (some ⟨bo,0,none⟩) kl cu):=by rw[HKL.o,<-hu];exact HK1.o.vb.c 0 (show 0<1 by decide)
    have qan:=HK1.o.vb.lt;have qak:wr.cell? ⟨w.heap.size,0,none⟩=some (.pointer (some ⟨g,0,none⟩)):=HK1.o.va.c 0 (show 0<1 by decide);have q7T:kl=cnt k:=by rw[HKL.o,HVL.o]
    have HKC:=qa q7T;clear q7T;clear hm1 hg1 hkj hp4 hx5 hov q7J q6p hdn HM0 HG0 HF0 P40 HX0 H60 HKJ h6c h6l hkc q6O;cases r with
    |cons y ky r'=>
     exact ZmE2
    |nil=>
     have hje:j=cnt k:=by simpa[cnt]using hj
     have q6p:eN k s=(ps,sj):=by rw[q8j.o];simp[eN]
     have h2:2<=cnt k:=by have h1:=HXN.o;have h2:=HOX.o;unfold okN at h2;simp only at h1 h2;omega
     have q69:0<ps.length:=by omega
     obtain⟨b8,off8,cap8,hps,hob⟩:=A6 HO1.o q69;have q7N:=HNO.o b8 hob;have hlo:=HLO.o;rw[q6p]at hlo;have hrg:∀i,i<ps.length->(ps.getD i zP).f<sj.e.length/\(ps.getD i zP).l<sj.e.length:=fun i hi=>hlo.rng i (by omega);simp only[usz,jD]at hel q6Z htl;have q9T:ps.length<=400:=by have:=cnt_le k;omega
     have q9K:wr.cell? ⟨p5,0,none⟩=some (.int .i64 4):=HX1.o.c 0 (show 0<8 by decide);have q9J:=HX1.o.lt;have hZe:Z=(aP sj,d5 (aP sj) ps ps.length (two sj)):=by rw[HZ.o,O8 _ _ _ rfl,q6p]
     have hn2:n=sj.e.length:=by rw[HN.o,hZe];rfl
     have hm2:m=sj.e.length+1:=by rw[HMM.o,hZe];rfl
     have HAR:=qa (oK HM1.o (by omega) (by omega) n m hn2 hm2);have HEZ:Hid (Z.2=d5 ⟨n,m⟩ ps ps.length (two sj)):=qa (by rw[hZe,hn2,hm2];rfl);have HRG:Hid (∀i,i<ps.length->(ps.getD i zP).f<(two sj).e.length/\(ps.getD i zP).l<(two sj).e.length):=qa (fun i hi=>by have:=hrg i hi;rw[i9];omega);have HBD:Hid (n<(two sj).e.length/\(two sj).e.length<=9000/\tot (two sj).e<=90000):=qa (by rw[i9,lE];omega);have HAL:=qa (gV ⟨n,m⟩ ps (two sj));have HAT:=qa (yN ⟨n,m⟩ ps (two sj));have q8U:=HKC.o;have hjk:((j:Int))=(kl:Int):=by omega
     have q8C:=qa hps;have qbq:=rT hps;have hv8:=hps.v;subst hv8;have qcO:=hgq.1;clear q6p hlo hrg hZe hps hpl hdl hix hje q8U hn2 hm2 hel q6Z htl;generalize hln:ps.length=ln at*
     go_wp2_with((with_reducible go_at_call 60);refine HAR.o.mono ?_;rintro en w3 ⟨rfl,S3,hm3,hg3⟩;have HM3:=qa hm3;(have HG3:=qa (HG1.o.trans hg3));(have P43:=qa (P41.o.gw hg3));(have HA3:=qa (HK1.o.va.gw hg3));(have PS3:=qa (q8C.o.gw hg3 q7N));(have NB3:=qa (hg3.out (q8C.o.hd.hblk q8C.o.pos) q7N));(have q8u:=hg3.size);clear hm3 hg3)
     have HM4:=qa (HM3.o.up (aB w3 (.cells #[.int .i64 n,.int .i64 m] 93)));have HG4:=qa (HG3.o.up (aB w3 (.cells #[.int .i64 n,.int .i64 m] 93)));have PD4:=qa (P43.o.up (aB w3 (.cells #[.int .i64 n,.int .i64 m] 93)));have HA4:=qa (HA3.o.up (aB w3 (.cells #[.int .i64 n,.int .i64 m] 93)));have PS4:=qa (PS3.o.up (aB w3 (.cells #[.int .i64 n,.int .i64 m] 93)));have PB4:Hid (LB (w3.alloc (.cells #[.int .i64 n,.int .i64 m] 93)) S3 w3.heap.size n m):=qa ⟨dS w3 n m,HM3.o.no (qb _)⟩;clear HM1 HG1 HK1 P41 HX1 HO1 HNO HM3 HG3 P43 HA3 PS3 HAR q8C q9K q9J qao qan qak qal q6g q7N hob;generalize w3.heap.size=p11 at*;generalize w3.alloc (.cells #[.int .i64 n,.int .i64 m] 93)=w4 at*
     go_loopg [90] ln (fun gk iv wr=>∃(j:Nat) (Sr:Nat->Prop),iv=.int .i64 j/\j<=ln/\MkT wr Sr g q (d5 ⟨n,m⟩ ps j (two sj)) F/\Gw S w Sr wr/\O3 wr (.slice (some ⟨b8,off8,none⟩) ln cap8) b8 off8 cap8 ps/\¬Sr b8/\LB wr Sr (w.heap.size+1) 0 0/\LB wr Sr p11 n m/\rU wr Sr w.heap.size #[.pointer (some ⟨g,0,none⟩)]/\gk=ln-j)
     case atStart=>exact⟨0,S3,rfl,qd _,HM4.o,HG4.o,PS4.o,NB3.o,PD4.o,PB4.o,HA4.o,rfl⟩
     case round=>
      obtain⟨i,Sr,rfl,hi,hm,hgw,q7G,hnb,hlb,qa3,hfa,rfl⟩:=hrel;have HM1:=qa hm;have HG1:=qa hgw;have PS1:=qa q7G;have PD1:=qa hlb;have PB1:=qa qa3;have HA1:=qa hfa;have NB1:=qa hnb;clear hm hgw q7G hlb qa3 hnb hfa HM4 HG4 PD4 HA4 PS4 PB4 NB3;obtain⟨b1,b2,b3⟩:=HBD.o;have hal:=HAL.o i;have hat:=HAT.o i;by_cases hlt:i<ln
      ·have q64:=fun W=>qbq W i hlt
       obtain⟨pj,hpj⟩:∃p,p=ps.getD i zP:=⟨_,rfl⟩;have hrg:=HRG.o i hlt;rw[<-hpj]at hrg
       have HCE:Hid (∀c',c'<2->wr.cell? ⟨b8,off8+i*2+c',none⟩=some ((#[.int .i64 (pj.f:Nat),.int .i64 (pj.l:Nat)]:Array Value).getD c' undef)):=qa (fun c' h=>by
        rw[hpj];rcases(show c'=0\/c'=1 by omega)with rfl|rfl
        ·exact PS1.o.c0 i (by omega)
        exact PS1.o.c1 i (by omega))
       have HCS:Hid (d5 ⟨n,m⟩ ps (i+1) (two sj)=bT pj.l m (bT n pj.f (d5 ⟨n,m⟩ ps i (two sj)))):=qa (by rw[hpj];rfl);obtain⟨si,hsi⟩:∃si,si=d5 ⟨n,m⟩ ps i (two sj):=⟨_,rfl⟩;rw[<-hsi]at hal hat HM1 HCS;have t1:=cS n pj.f si;have l1:=dN n pj.f si;have qcI:ln<=400:=q9T;clear hpj hsi
       go_wp2_with(refine aJ rfl 93 _ rfl b8 (off8+i*2) 2 rfl _ _ HCE.o rfl underlying93 rfl (by kernel_rfl) ?_)
       have HM2:=qa (HM1.o.up (aB wr (.cells #[.int .i64 (pj.f:Nat),.int .i64 (pj.l:Nat)] 93)));have HG2:=qa (HG1.o.up (aB wr (.cells #[.int .i64 (pj.f:Nat),.int .i64 (pj.l:Nat)] 93)));have PD2:=qa (PD1.o.up (aB wr (.cells #[.int .i64 (pj.f:Nat),.int .i64 (pj.l:Nat)] 93)));have PB2:=qa (PB1.o.up (aB wr (.cells #[.int .i64 (pj.f:Nat),.int .i64 (pj.l:Nat)] 93)));have HA2:=qa (HA1.o.up (aB wr (.cells #[.int .i64 (pj.f:Nat),.int .i64 (pj.l:Nat)] 93)));have PS2:=qa (PS1.o.up (aB wr (.cells #[.int .i64 (pj.f:Nat),.int .i64 (pj.l:Nat)] 93)));have PC2:Hid (LB (wr.alloc (.cells #[.int .i64 (pj.f:Nat),.int .i64 (pj.l:Nat)] 93)) Sr wr.heap.size pj.f pj.l):=qa ⟨dS wr _ _,HM1.o.no (qb _)⟩;have NB2:=NB1;clear HM1 HG1 PD1 PB1 HA1 PS1 NB1 HCE;generalize wr.heap.size=p13 at*;generalize wr.alloc (.cells #[.int .i64 (pj.f:Nat),.int .i64 (pj.l:Nat)] 93)=w2 at*;have hc4:=HM2.o.f4;have hgl:=HM2.o.glt;have qbL:w2.cell? ⟨w.heap.size,0,none⟩=some (.pointer (some ⟨g,0,none⟩)):=HA2.o.c 0 (show 0<1 by decide);have qbI:=HA2.o.lt;have PBa:=PB2.o.box.c0;have PBb:=PB2.o.box.c1;have PBl:=PB2.o.box.lt;have PCa:=PC2.o.box.c0;have PCb:=PC2.o.box.c1;have PCl:=PC2.o.box.lt
       try go_wp2
       refine aH [0,1,2,3,4,5,6,7] [] [8] (by kernel_rfl) (by kernel_rfl) ?_;simp only[pk]
       repeat(go_big_quiet_step (fail))
       refine wpQuiet_nil ?_;unfold aD;unfold aD
       go_wp2_with((with_reducible go_at_call 58);refine(kW (HM2.o.up (aG _)) n pj.f (by omega) (by omega) (by omega)).mono ?_;rintro en w3 ⟨rfl,S3,hm,hg⟩;have HM3:=qa hm;have HG3:=qa ((HG2.o.up (aG _)).trans hg);have HA3:=qa ((HA2.o.up (aG _)).gw hg);have PD3:=qa ((PD2.o.up (aG _)).gw hg);have PB3:=qa ((PB2.o.up (aG _)).gw hg);have PC3:=qa ((PC2.o.up (aG _)).gw hg);have PS3:=qa ((PS2.o.up (aG _)).gw hg NB2.o);have NB3:=qa (hg.out (qe (PS2.o.hd.hblk PS2.o.pos) (aG _).size) NB2.o);clear hm hg)
       refine⟨trivial,?_⟩;unfold aD;clear hc4 hgl qbL qbI PBa PBb PBl PCa PCb PCl HM2 HG2 HA2 PD2 PB2 PC2 PS2 NB2;have t2:=cS pj.l m (bT n pj.f si);have l2:=dN pj.l m (bT n pj.f si);have hc4:=HM3.o.f4;have hgl:=HM3.o.glt;have qbK:w3.cell? ⟨w.heap.size,0,none⟩=some (.pointer (some ⟨g,0,none⟩)):=HA3.o.c 0 (show 0<1 by decide);have qbH:=HA3.o.lt;have PBa:=PB3.o.box.c0;have PBb:=PB3.o.box.c1;have PBl:=PB3.o.box.lt;have PCa:=PC3.o.box.c0;have PCb:=PC3.o.box.c1;have PCl:=PC3.o.box.lt
       try go_wp2
       refine aH [0,1,2,3,4,5,6,7] [] [8] (by kernel_rfl) (by kernel_rfl) ?_;simp only[pk]
       repeat(go_big_quiet_step (fail))
       refine wpQuiet_nil ?_;unfold aD;unfold aD
       go_wp2_with((with_reducible go_at_call 58);refine(kW (HM3.o.up (aG _)) pj.l m (by omega) (by omega) (by omega)).mono ?_;rintro en w4 ⟨rfl,S4,hm,hg⟩;have HM4:=qa hm;have HG4:=qa ((HG3.o.up (aG _)).trans hg);have HA4:=qa ((HA3.o.up (aG _)).gw hg);have PD4:=qa ((PD3.o.up (aG _)).gw hg);have PB4:=qa ((PB3.o.up (aG _)).gw hg);have PC4:=qa ((PC3.o.up (aG _)).gw hg);have PS4:=qa ((PS3.o.up (aG _)).gw hg NB3.o);have NB4:=qa (hg.out (qe (PS3.o.hd.hblk PS3.o.pos) (aG _).size) NB3.o);clear hm hg)
       refine⟨trivial,?_⟩;unfold aD;clear hc4 hgl qbK qbH PBa PBb PBl PCa PCb PCl HM3 HG3 HA3 PD3 PB3 PC3 PS3 NB3;go_wp2
       go_roundg (ln-(i+1))
       case measure=>omega
       case rel=>
        exact⟨i+1,S4,by go_num,by omega,by rw[HCS.o];exact HM4.o,HG4.o,PS4.o,NB4.o,PD4.o,PB4.o,HA4.o,rfl⟩
      have hie:i=ln:=by omega
      subst hie;have P73:=PB1;have P43:=PD1;have HM3:Hid (MkT wr Sr g q Z.2 F):=qa (by rw[HEZ.o];exact HM1.o);have HG3:=HG1;clear HM1 HG1 PB1 PD1 HA1 PS1 hal hat;generalize wr=w3 at*
      have HC7:Hid (∀c,c<2->w3.cell? ⟨p11,0+c,none⟩=some ((#[.int .i64 n,.int .i64 m]:Array Value).getD c undef)):=qa (fun c hcl=>by
       rw[qH];rcases(show c=0\/c=1 by omega)with rfl|rfl
       ·exact P73.o.box.c0
       exact P73.o.box.c1)
      have P4a:=P43.o.box.c0;have P4b:=P43.o.box.c1;have P4l:=P43.o.box.lt;have P4f:=P43.o.box.free 0;have P4g:=P43.o.box.free 1;have HST:=qa (P43.o.box.set n m)
      go_wp2_with(refine aJ rfl 93 _ rfl p11 0 2 rfl _ _ HC7.o rfl underlying93 rfl (by kernel_rfl) ?_)
      refine bI rfl rfl rfl HST.o.1.load ?_;exact⟨rfl,_,HM3.o.keep HST.o.2 P43.o.no (by omega),HG3.o.new HST.o.2 (by omega)⟩
  case inr.inr.inr.inr.inl=>
   have hxn:=HXN.o;have hc1:cnt k=1:=by have h2:=HOX.o;unfold okN at h2;simp only at hxn h2;omega
   cases k with
   |nil=>simp[cnt]at hc1
   |cons y ky r=>
    have hr0:=fY r (by simpa[cnt]using hc1);subst hr0;have hvl:=HPT.o.len;rw[bX]at hvl;have hcp:0<vs.length:=by rw[hvl];simp[cnt]
    obtain⟨ou,cu,bo,hu,hdo,hgo,hco,-,-⟩:=HPT.o.own.cases;have hou:=hdo.hat hcp;subst hou;obtain⟨q6A,q6e⟩:=hgo hcp;have hcu:=hdo.hcap;have q6k:=hdo.hmax;have q6g:=hdo.hblk hcp;have q6v:=HMR.o.no q6e
    have KJ0:KJ g w.heap.size p6 bo b u vs (bO (.cons y ky .nil)) S wc:=⟨HF0.o,H60.o,⟨fun i hi=>by
     have hi':i<vs.length:=by simpa using hi
     rw[hco i hi'];simp[List.getD,qR,hi'],q6g,q6v⟩,hbS,HPT.o.rows⟩
    have HKJ:=qa KJ0;clear KJ0;have hwk:=HWK.o;have hak:=HAK.o;obtain⟨Y,hY⟩:∃Y,Y=cY y (fun s=>eN ky s) s:=⟨_,rfl⟩;have hnk:=iZ y (fun s=>eN ky s) (usz ky) (cnt ky) hak.1 hwk.1 (hJ ky hwk.2.1 hak.2.1) s;rw[<-hY]at hnk;have k1:=hnk.len;have k2:=hnk.rlen;have k3:=hnk.rng 0 (by omega);have k4:=hnk.tot;simp only[j9]at k1 k2 k3 k4
    have hZe:Z=(aP Y.2,lD true true Y.1 Y.2):=by
     rw[HZ.o,oN _ _ _ (by simp)];rw[hY];simp[eN,dD]
    have HZ2:=qa hZe;have hn2:n=Y.2.e.length:=by rw[HN.o,hZe];rfl
    have hm2:m=Y.2.e.length+1:=by rw[HMM.o,hZe];rfl
    obtain⟨hb1,hb2,hb3⟩:=HB.o
    have hun:bS ⟨5,xn,xa,xb,xc,xd,xl,xh⟩ (usz (.cons y ky .nil))=bS y (usz ky)+2:=by
     rw[pZ _ _ (by simp)];simp[usz]
    rw[hun]at hb1 hb2 hb3;have hkl:(aT ky).length<N:=by simp only[aT,qz,qj,qN]at hN;omega
    have hk4:(aT ky).length<400:=by simp only[aT,qz,qj,qN]at q6T;omega
    obtain⟨u0,hu0⟩:∃u0,u0=vs.getD 0 undef:=⟨_,rfl⟩;obtain⟨qf,hqf⟩:∃qf,qf=Y.1.f:=⟨_,rfl⟩;obtain⟨ql,hql⟩:∃ql,ql=Y.1.l:=⟨_,rfl⟩;have hr0:dE wc b u0 (y::aT ky):=by rw[hu0];exact HKJ.o.rows 0 (by simp[bO])
    have HTR:=qa (HIH.o wc.drew S g q s F u0 b y ky hkl (hr0.up (aG _)) hbS hk4 hwk.1 hwk.2.1 hak.1 hak.2.1 (HM0.o.up (aG _)) (by omega) (by omega) (by omega) qf ql (by rw[<-hY];exact hqf) (by rw[<-hY];exact hql));rw[<-hY]at HTR;have hoc:wc.cell? ⟨bo,0,none⟩=some u0:=by rw[hco 0 hcp,hu0]
    have hix:∀W:World,(Instr.indexAt 22 (.slice (some ⟨bo,0,none⟩) vs.length cu) (.int .i64 0)).run prog W=.ok (.pointer (some ⟨bo,0,none⟩)) W:=fun W=>by
     have:=d9 hdo W .i64 0 (by omega) (by omega);simpa using this
    have h6c:wc.cell? ⟨p6,0,none⟩=some (.slice (some ⟨bo,0,none⟩) vs.length cu):=by rw[<-hu];exact H60.o.c 0 (show 0<1 by decide)
    have h6l:=H60.o.lt;have h6n:=H60.o.no;have hkc:wc.cell? ⟨p5,0,none⟩=some (.int .i64 5):=HX0.o.c 0 (show 0<8 by decide);have q6O:=HX0.o.lt;have q9I:=HX0.o.no;have hac:wc.cell? ⟨w.heap.size,0,none⟩=some (.pointer (some ⟨g,0,none⟩)):=HF0.o.c 0 (show 0<1 by decide);have hal:=HF0.o.lt;have qaj:=HF0.o.no;have HQ:=qa (And.intro hqf hql);have HBY:Hid (Y.2.e.length<=4000/\Y.2.r.length<=4000/\tot Y.2.e<=90000/\qf<Y.2.e.length/\ql<Y.2.e.length):=qa ⟨by omega,by omega,by omega,by omega,by omega⟩;have HE2:=qa (And.intro hn2 hm2);have HEZ:Hid (Z.2=lD true true ⟨qf,ql⟩ Y.2):=qa (by rw[hZe,hqf,hql]);have q6X:vs.length=1:=by rw[hvl,hc1]
    rw[q6X]at hix h6c;clear hxn hc1 hvl hcp hdo hgo hco q6A q6e hcu q6k hwk hak hY hnk k1 k2 k3 k4 hZe hn2 hm2 hb1 hb2 hb3 hun hkl hk4 hu0 hqf hql hr0 hu q6X;go_wp2;refine bQ (fun w'=>∃x,w'=wrt S wc x) [0,1,2,3,4,5,6,7,8,9,10] [11,12] [13] (by kernel_rfl) (by kernel_rfl) (mY (bZ S (aG wc)).fx) ?_;simp only[pk]
    repeat(go_big_quiet_step (fail))
    refine wpQuiet_nil ?_;unfold aD
    go_wp2_with((with_reducible go_at_call 38);refine HTR.o.mono ?_;rintro en w1 ⟨rfl,S1,hm1,hg1⟩;have HM1:=qa hm1;have HD1:=qa ((bZ S (aG wc)).trans hg1);clear hm1 hg1)
    refine⟨mY HD1.o.fx,?_⟩;obtain⟨y1,y2,y3,y4,y5⟩:=HBY.o;have HLO:=qa (q2b HM1.o (by omega) (by omega) (by omega) true true qf ql y4 y5 n m HE2.o.1 HE2.o.2);clear y1 y2 y3 y4 y5;unfold aD
    exact ZmE3
  case inr.inr.inr.inr.inr.inl=>
   have hxn:=HXN.o;have hc1:cnt k=1:=by have h2:=HOX.o;unfold okN at h2;simp only at hxn h2;omega
   cases k with
   |nil=>simp[cnt]at hc1
   |cons y ky r=>
    have hr0:=fY r (by simpa[cnt]using hc1);subst hr0;have hvl:=HPT.o.len;rw[bX]at hvl;have hcp:0<vs.length:=by rw[hvl];simp[cnt]
    obtain⟨ou,cu,bo,hu,hdo,hgo,hco,-,-⟩:=HPT.o.own.cases;have hou:=hdo.hat hcp;subst hou;obtain⟨q6A,q6e⟩:=hgo hcp;have hcu:=hdo.hcap;have q6k:=hdo.hmax;have q6g:=hdo.hblk hcp;have q6v:=HMR.o.no q6e
    have KJ0:KJ g w.heap.size p6 bo b u vs (bO (.cons y ky .nil)) S wc:=⟨HF0.o,H60.o,⟨fun i hi=>by
     have hi':i<vs.length:=by simpa using hi
     rw[hco i hi'];simp[List.getD,qR,hi'],q6g,q6v⟩,hbS,HPT.o.rows⟩
    have HKJ:=qa KJ0;clear KJ0;have hwk:=HWK.o;have hak:=HAK.o;obtain⟨Y,hY⟩:∃Y,Y=cY y (fun s=>eN ky s) s:=⟨_,rfl⟩;have hnk:=iZ y (fun s=>eN ky s) (usz ky) (cnt ky) hak.1 hwk.1 (hJ ky hwk.2.1 hak.2.1) s;rw[<-hY]at hnk;have k1:=hnk.len;have k2:=hnk.rlen;have k3:=hnk.rng 0 (by omega);have k4:=hnk.tot;simp only[j9]at k1 k2 k3 k4
    have hZe:Z=(aP Y.2,lD false true Y.1 Y.2):=by
     rw[HZ.o,oN _ _ _ (by simp)];rw[hY];simp[eN,dD]
    have HZ2:=qa hZe;have hn2:n=Y.2.e.length:=by rw[HN.o,hZe];rfl
    have hm2:m=Y.2.e.length+1:=by rw[HMM.o,hZe];rfl
    obtain⟨hb1,hb2,hb3⟩:=HB.o
    have hun:bS ⟨6,xn,xa,xb,xc,xd,xl,xh⟩ (usz (.cons y ky .nil))=bS y (usz ky)+2:=by
     rw[pZ _ _ (by simp)];simp[usz]
    rw[hun]at hb1 hb2 hb3;have hkl:(aT ky).length<N:=by simp only[aT,qz,qj,qN]at hN;omega
    have hk4:(aT ky).length<400:=by simp only[aT,qz,qj,qN]at q6T;omega
    obtain⟨u0,hu0⟩:∃u0,u0=vs.getD 0 undef:=⟨_,rfl⟩;obtain⟨qf,hqf⟩:∃qf,qf=Y.1.f:=⟨_,rfl⟩;obtain⟨ql,hql⟩:∃ql,ql=Y.1.l:=⟨_,rfl⟩;have hr0:dE wc b u0 (y::aT ky):=by rw[hu0];exact HKJ.o.rows 0 (by simp[bO])
    have HTR:=qa (HIH.o wc.drew S g q s F u0 b y ky hkl (hr0.up (aG _)) hbS hk4 hwk.1 hwk.2.1 hak.1 hak.2.1 (HM0.o.up (aG _)) (by omega) (by omega) (by omega) qf ql (by rw[<-hY];exact hqf) (by rw[<-hY];exact hql));rw[<-hY]at HTR;have hoc:wc.cell? ⟨bo,0,none⟩=some u0:=by rw[hco 0 hcp,hu0]
    have hix:∀W:World,(Instr.indexAt 22 (.slice (some ⟨bo,0,none⟩) vs.length cu) (.int .i64 0)).run prog W=.ok (.pointer (some ⟨bo,0,none⟩)) W:=fun W=>by
     have:=d9 hdo W .i64 0 (by omega) (by omega);simpa using this
    have h6c:wc.cell? ⟨p6,0,none⟩=some (.slice (some ⟨bo,0,none⟩) vs.length cu):=by rw[<-hu];exact H60.o.c 0 (show 0<1 by decide)
    have h6l:=H60.o.lt;have h6n:=H60.o.no;have hkc:wc.cell? ⟨p5,0,none⟩=some (.int .i64 6):=HX0.o.c 0 (show 0<8 by decide);have q6O:=HX0.o.lt;have q9I:=HX0.o.no;have hac:wc.cell? ⟨w.heap.size,0,none⟩=some (.pointer (some ⟨g,0,none⟩)):=HF0.o.c 0 (show 0<1 by decide);have hal:=HF0.o.lt;have qaj:=HF0.o.no;have HQ:=qa (And.intro hqf hql);have HBY:Hid (Y.2.e.length<=4000/\Y.2.r.length<=4000/\tot Y.2.e<=90000/\qf<Y.2.e.length/\ql<Y.2.e.length):=qa ⟨by omega,by omega,by omega,by omega,by omega⟩;have HE2:=qa (And.intro hn2 hm2);have HEZ:Hid (Z.2=lD false true ⟨qf,ql⟩ Y.2):=qa (by rw[hZe,hqf,hql]);have q6X:vs.length=1:=by rw[hvl,hc1]
    rw[q6X]at hix h6c;clear hxn hc1 hvl hcp hdo hgo hco q6A q6e hcu q6k hwk hak hY hnk k1 k2 k3 k4 hZe hn2 hm2 hb1 hb2 hb3 hun hkl hk4 hu0 hqf hql hr0 hu q6X;go_wp2;refine bQ (fun w'=>∃x,w'=wrt S wc x) [0,1,2,3,4,5,6,7,8,9,10] [11,12] [13] (by kernel_rfl) (by kernel_rfl) (mY (bZ S (aG wc)).fx) ?_;simp only[pk]
    repeat(go_big_quiet_step (fail))
    refine wpQuiet_nil ?_;unfold aD
    go_wp2_with((with_reducible go_at_call 38);refine HTR.o.mono ?_;rintro en w1 ⟨rfl,S1,hm1,hg1⟩;have HM1:=qa hm1;have HD1:=qa ((bZ S (aG wc)).trans hg1);clear hm1 hg1)
    refine⟨mY HD1.o.fx,?_⟩;obtain⟨y1,y2,y3,y4,y5⟩:=HBY.o;have HLO:=qa (q2b HM1.o (by omega) (by omega) (by omega) false true qf ql y4 y5 n m HE2.o.1 HE2.o.2);clear y1 y2 y3 y4 y5;unfold aD
    exact ZmE3
  case inr.inr.inr.inr.inr.inr.inl=>
   have hxn:=HXN.o;have hc1:cnt k=1:=by have h2:=HOX.o;unfold okN at h2;simp only at hxn h2;omega
   cases k with
   |nil=>simp[cnt]at hc1
   |cons y ky r=>
    have hr0:=fY r (by simpa[cnt]using hc1);subst hr0;have hvl:=HPT.o.len;rw[bX]at hvl;have hcp:0<vs.length:=by rw[hvl];simp[cnt]
    obtain⟨ou,cu,bo,hu,hdo,hgo,hco,-,-⟩:=HPT.o.own.cases;have hou:=hdo.hat hcp;subst hou;obtain⟨q6A,q6e⟩:=hgo hcp;have hcu:=hdo.hcap;have q6k:=hdo.hmax;have q6g:=hdo.hblk hcp;have q6v:=HMR.o.no q6e
    have KJ0:KJ g w.heap.size p6 bo b u vs (bO (.cons y ky .nil)) S wc:=⟨HF0.o,H60.o,⟨fun i hi=>by
     have hi':i<vs.length:=by simpa using hi
     rw[hco i hi'];simp[List.getD,qR,hi'],q6g,q6v⟩,hbS,HPT.o.rows⟩
    have HKJ:=qa KJ0;clear KJ0;have hwk:=HWK.o;have hak:=HAK.o;obtain⟨Y,hY⟩:∃Y,Y=cY y (fun s=>eN ky s) s:=⟨_,rfl⟩;have hnk:=iZ y (fun s=>eN ky s) (usz ky) (cnt ky) hak.1 hwk.1 (hJ ky hwk.2.1 hak.2.1) s;rw[<-hY]at hnk;have k1:=hnk.len;have k2:=hnk.rlen;have k3:=hnk.rng 0 (by omega);have k4:=hnk.tot;simp only[j9]at k1 k2 k3 k4
    have hZe:Z=(aP Y.2,lD true false Y.1 Y.2):=by
     rw[HZ.o,oN _ _ _ (by simp)];rw[hY];simp[eN,dD]
    have HZ2:=qa hZe;have hn2:n=Y.2.e.length:=by rw[HN.o,hZe];rfl
    have hm2:m=Y.2.e.length+1:=by rw[HMM.o,hZe];rfl
    obtain⟨hb1,hb2,hb3⟩:=HB.o
    have hun:bS ⟨7,xn,xa,xb,xc,xd,xl,xh⟩ (usz (.cons y ky .nil))=bS y (usz ky)+2:=by
     rw[pZ _ _ (by simp)];simp[usz]
    rw[hun]at hb1 hb2 hb3;have hkl:(aT ky).length<N:=by simp only[aT,qz,qj,qN]at hN;omega
    have hk4:(aT ky).length<400:=by simp only[aT,qz,qj,qN]at q6T;omega
    obtain⟨u0,hu0⟩:∃u0,u0=vs.getD 0 undef:=⟨_,rfl⟩;obtain⟨qf,hqf⟩:∃qf,qf=Y.1.f:=⟨_,rfl⟩;obtain⟨ql,hql⟩:∃ql,ql=Y.1.l:=⟨_,rfl⟩;have hr0:dE wc b u0 (y::aT ky):=by rw[hu0];exact HKJ.o.rows 0 (by simp[bO])
    have HTR:=qa (HIH.o wc.drew S g q s F u0 b y ky hkl (hr0.up (aG _)) hbS hk4 hwk.1 hwk.2.1 hak.1 hak.2.1 (HM0.o.up (aG _)) (by omega) (by omega) (by omega) qf ql (by rw[<-hY];exact hqf) (by rw[<-hY];exact hql));rw[<-hY]at HTR;have hoc:wc.cell? ⟨bo,0,none⟩=some u0:=by rw[hco 0 hcp,hu0]
    have hix:∀W:World,(Instr.indexAt 22 (.slice (some ⟨bo,0,none⟩) vs.length cu) (.int .i64 0)).run prog W=.ok (.pointer (some ⟨bo,0,none⟩)) W:=fun W=>by
     have:=d9 hdo W .i64 0 (by omega) (by omega);simpa using this
    have h6c:wc.cell? ⟨p6,0,none⟩=some (.slice (some ⟨bo,0,none⟩) vs.length cu):=by rw[<-hu];exact H60.o.c 0 (show 0<1 by decide)
    have h6l:=H60.o.lt;have h6n:=H60.o.no;have hkc:wc.cell? ⟨p5,0,none⟩=some (.int .i64 7):=HX0.o.c 0 (show 0<8 by decide);have q6O:=HX0.o.lt;have q9I:=HX0.o.no;have hac:wc.cell? ⟨w.heap.size,0,none⟩=some (.pointer (some ⟨g,0,none⟩)):=HF0.o.c 0 (show 0<1 by decide);have hal:=HF0.o.lt;have qaj:=HF0.o.no;have HQ:=qa (And.intro hqf hql);have HBY:Hid (Y.2.e.length<=4000/\Y.2.r.length<=4000/\tot Y.2.e<=90000/\qf<Y.2.e.length/\ql<Y.2.e.length):=qa ⟨by omega,by omega,by omega,by omega,by omega⟩;have HE2:=qa (And.intro hn2 hm2);have HEZ:Hid (Z.2=lD true false ⟨qf,ql⟩ Y.2):=qa (by rw[hZe,hqf,hql]);have q6X:vs.length=1:=by rw[hvl,hc1]
    rw[q6X]at hix h6c;clear hxn hc1 hvl hcp hdo hgo hco q6A q6e hcu q6k hwk hak hY hnk k1 k2 k3 k4 hZe hn2 hm2 hb1 hb2 hb3 hun hkl hk4 hu0 hqf hql hr0 hu q6X;go_wp2;refine bQ (fun w'=>∃x,w'=wrt S wc x) [0,1,2,3,4,5,6,7,8,9,10] [11,12] [13] (by kernel_rfl) (by kernel_rfl) (mY (bZ S (aG wc)).fx) ?_;simp only[pk]
    repeat(go_big_quiet_step (fail))
    refine wpQuiet_nil ?_;unfold aD
    go_wp2_with((with_reducible go_at_call 38);refine HTR.o.mono ?_;rintro en w1 ⟨rfl,S1,hm1,hg1⟩;have HM1:=qa hm1;have HD1:=qa ((bZ S (aG wc)).trans hg1);clear hm1 hg1)
    refine⟨mY HD1.o.fx,?_⟩;obtain⟨y1,y2,y3,y4,y5⟩:=HBY.o;have HLO:=qa (q2b HM1.o (by omega) (by omega) (by omega) true false qf ql y4 y5 n m HE2.o.1 HE2.o.2);clear y1 y2 y3 y4 y5;unfold aD
    exact ZmE3
  case inr.inr.inr.inr.inr.inr.inr=>
   have hxn:=HXN.o;have hc1:cnt k=1:=by have h2:=HOX.o;unfold okN at h2;simp only at hxn h2;omega
   cases k with
   |nil=>simp[cnt]at hc1
   |cons y ky r=>
    have hr0:=fY r (by simpa[cnt]using hc1);subst hr0;have hvl:=HPT.o.len;rw[bX]at hvl;have hcp:0<vs.length:=by rw[hvl];simp[cnt]
    obtain⟨ou,cu,bo,hu,hdo,hgo,hco,-,-⟩:=HPT.o.own.cases;have hou:=hdo.hat hcp;subst hou;obtain⟨q6A,q6e⟩:=hgo hcp;have hcu:=hdo.hcap;have q6k:=hdo.hmax;have q6g:=hdo.hblk hcp;have q6v:=HMR.o.no q6e
    have KJ0:KJ g w.heap.size p6 bo b u vs (bO (.cons y ky .nil)) S wc:=⟨HF0.o,H60.o,⟨fun i hi=>by
     have hi':i<vs.length:=by simpa using hi
     rw[hco i hi'];simp[List.getD,qR,hi'],q6g,q6v⟩,hbS,HPT.o.rows⟩
    have HKJ:=qa KJ0;clear KJ0;have hok:=HOX.o;have hlo:0<=xl/\xl<=30/\ -1<=xh:=by unfold okN at hok;simp only at hok;omega
    have htl:=lC hok rfl;obtain⟨t,ht⟩:∃t:Nat,dC ⟨8,xn,xa,xb,xc,xd,xl,xh⟩=t:=⟨_,(Int.toNat_of_nonneg htl.1).symm⟩;have q7B:t<=30:=by omega
    have htn:(dC ⟨8,xn,xa,xb,xc,xd,xl,xh⟩).toNat=t:=by rw[ht];rfl
    have hpe:(fun s=>dD (eN (.cons y ky .nil) s))=fun s=>cY y (fun s=>eN ky s) s:=by funext s;simp[eN,dD]
    have hus:usz (.cons y ky .nil)=bS y (usz ky):=by simp[usz]
    have hZe:Z=(aP s,(cT ⟨8,xn,xa,xb,xc,xd,xl,xh⟩ t (aP s) (fun s=>cY y (fun s=>eN ky s) s) (iff (decide (xl=0)) (bT (aP s).f (aP s).l) (two s)) t).2):=by
     rw[HZ.o,q2d _ _ _ rfl];unfold pW;rw[hpe,htn]
    have HZ2:=qa hZe;have hn2:n=s.e.length:=by rw[HN.o,hZe];rfl
    have hm2:m=s.e.length+1:=by rw[HMM.o,hZe];rfl
    obtain⟨hb1,hb2,hb3⟩:=HB.o
    have hun:bS ⟨8,xn,xa,xb,xc,xd,xl,xh⟩ (usz (.cons y ky .nil))=2+t*bS y (usz ky):=by
     rw[q0s _ _ rfl,htn,hus]
    rw[hun]at hb1 hb2 hb3;have hwk:=HWK.o;have hak:=HAK.o;have hkl:(aT ky).length<N:=by simp only[aT,qz,qj,qN]at hN;omega
    have hk4:(aT ky).length<400:=by simp only[aT,qz,qj,qN]at q6T;omega
    have hv1:vs=[vs.getD 0 undef]:=by
     have h1:vs.length=1:=by rw[hvl,hc1]
     match vs,h1 with
     |[z],_=>rfl
    obtain⟨u0,hu0⟩:∃u0,u0=vs.getD 0 undef:=⟨_,rfl⟩;rw[<-hu0]at hv1;have hKP:=hJ (.cons y ky .nil) hwk hak;have hp:∀s,wD s ([(cY y (fun s=>eN ky s) s).1],(cY y (fun s=>eN ky s) s).2) (bS y (usz ky)) 1:=fun s=>iZ y (fun s=>eN ky s) (usz ky) (cnt ky) hak.1 hwk.1 (hJ ky hwk.2.1 hak.2.1) s
    have hT:∀(w:World) (S:Nat->Prop) (s:St),dE w b u0 (y::aT ky)->¬S b->MkT w S g q s F->s.e.length+bS y (usz ky)<=4000->s.r.length+bS y (usz ky)<=4000->tot s.e+2*bS y (usz ky)<=90000->
      ∀n m:Nat,n=(cY y (fun s=>eN ky s) s).1.f->m=(cY y (fun s=>eN ky s) s).1.l->Calls prog 38 #[.pointer (some ⟨g,0,none⟩),u0] w fun e w'=>e=.returned (.agg #[.int .i64 n,.int .i64 m])/\∃S',MkT w' S' g q (cY y (fun s=>eN ky s) s).2 F/\Gw S w S' w':=
     fun w S s hnb hb hm b1 b2 b3 n m hn hm2=>HIH.o w S g q s F u0 b y ky hkl hnb hb hk4 hwk.1 hwk.2.1 hak.1 hak.2.1 hm b1 b2 b3 n m hn hm2
    have q6a:∀(w1:World) (S1:Nat->Prop) (s1:St),MkT w1 S1 g q s1 F->KJ g w.heap.size p6 bo b u vs (bO (.cons y ky .nil)) S1 w1->s1.e.length+bS y (usz ky)<=4000->s1.r.length+bS y (usz ky)<=4000->tot s1.e+2*bS y (usz ky)<=90000->∀n m:Nat,n=(cY y (fun s=>eN ky s) s1).1.f->m=(cY y (fun s=>eN ky s) s1).1.l->Calls prog 62 #[.pointer (some ⟨w.heap.size,0,none⟩),.pointer (some ⟨p6,0,none⟩)] w1 fun e w2=>e=.returned (.agg #[.int .i64 n,.int .i64 m])/\∃S2,MkT w2 S2 g q (cY y (fun s=>eN ky s) s1).2 F/\Gw S1 w1 S2 w2:=
     fun w1 S1 s1 hm1 hj1 b1 b2 b3 n m hn hm2=>by
      have hv2:vs.length=1:=by rw[hvl,hc1]
      rw[hu,hv2]at hj1;exact q3h hT hj1 hv1 (by omega) q6k hm1 b1 b2 b3 n m hn hm2
    have HRE:Hid (Calls prog 61 #[.pointer (some ⟨g,0,none⟩),.agg #[.int .i64 8,.int .i64 xn,.int .u64 xa,.int .u64 xb,.int .u64 xc,.int .u64 xd,.int .i64 xl,.int .i64 xh],.func (.func 62) #[] #[.pointer (some ⟨w.heap.size,0,none⟩),.pointer (some ⟨p6,0,none⟩)]] wc fun e w'=>e=.returned (.agg #[.int .i64 n,.int .i64 m])/\∃S',MkT w' S' g q Z.2 F/\Gw S wc S' w'):=qa (by
     rw[hZe];have e1:t*(2*bS y (usz ky))=2*(t*bS y (usz ky)):=by rw[Nat.mul_left_comm]
     rcases Classical.em (xl=0)with hz|hz
     ·exact q0q (fun S w'=>KJ g w.heap.size p6 bo b u vs (bO (.cons y ky .nil)) S w') (fun S w1 S' w2 h1 h2=>KJ.gw S w1 S' w2 (by simp[bO]) h1 h2) (fun S w1 w2 h1 h2=>KJ.up S w1 w2 h1 h2) 8 xn xa xb xc xd xl xh w.heap.size p6 (fun s=>cY y (fun s=>eN ky s) s) (bS y (usz ky)) t ht q7B hlo.1 hlo.2.1 hlo.2.2 hp q6a HM0.o HKJ.o (by omega) (by omega) (by omega) n m hz hn2 hm2
     exact q0r (fun S w'=>KJ g w.heap.size p6 bo b u vs (bO (.cons y ky .nil)) S w') (fun S w1 S' w2 h1 h2=>KJ.gw S w1 S' w2 (by simp[bO]) h1 h2) (fun S w1 w2 h1 h2=>KJ.up S w1 w2 h1 h2) 8 xn xa xb xc xd xl xh w.heap.size p6 (fun s=>cY y (fun s=>eN ky s) s) (bS y (usz ky)) t ht q7B hlo.1 hlo.2.1 hlo.2.2 hp q6a HM0.o HKJ.o (by omega) (by omega) (by omega) n m hz hn2 hm2)
    have hkc:wc.cell? ⟨p5,0,none⟩=some (.int .i64 8):=HX0.o.c 0 (show 0<8 by decide);have q6O:=HX0.o.lt;have hac:wc.cell? ⟨w.heap.size,0,none⟩=some (.pointer (some ⟨g,0,none⟩)):=HF0.o.c 0 (show 0<1 by decide);have hal:=HF0.o.lt;clear hxn hc1 hvl hcp hdo hgo hco q6A q6e hcu q6k q6g q6v hok hlo htl ht q7B htn hpe hus hZe hn2 hm2 hb1 hb2 hb3 hun hwk hak hkl hk4 hv1 hu0 hKP hp hT q6a hu
    go_wp2_with(first|(refine aJ rfl 77 _ rfl p5 0 8 rfl _ _ (oL HX0.o 8 rfl) rfl underlying77 rfl (by kernel_rfl) ?_)|((with_reducible go_at_call 61);refine HRE.o.mono ?_;rintro en w1 ⟨rfl,S1,hm1,hg1⟩;have HM1:=qa hm1;have HG1:=qa (HG0.o.trans hg1);have P41:=qa (P40.o.gw hg1);(have P4a:=P41.o.box.c0);(have P4b:=P41.o.box.c1);(have P4l:=P41.o.box.lt);(have P4f:=P41.o.box.free 0);(have P4g:=P41.o.box.free 1);clear hm1 hg1))
    have HST:=qa (P41.o.box.set n m);refine bI rfl rfl rfl HST.o.1.load ?_;exact⟨rfl,S1,HM1.o.keep HST.o.2 P41.o.no (by omega),HG1.o.new HST.o.2 (by omega)⟩
theorem q3i{w:World}:Calls prog 37 #[] w fun e w'=>∃S,e=.returned (.pointer (some ⟨w.heap.size,0,none⟩))/\MkT w' S w.heap.size (w.heap.size+1) ⟨[],[]⟩ 0/\Below w.heap.size w w'/\(∀k,S k->w.heap.size<=k):=by
 go_enter func37,ntmps37;go_wp2;go_ret;have hb1:=aB w (.cells #[.slice none 0 0,.int .i64 0,.slice none 0 0,stV (w.heap.size+1),ffV (w.heap.size+1)] 91);have hb2:=aB (w.alloc (.cells #[.slice none 0 0,.int .i64 0,.slice none 0 0,stV (w.heap.size+1),ffV (w.heap.size+1)] 91)) (.cells #[.pointer (some ⟨w.heap.size,0,none⟩)] 87);refine⟨MkS w.heap.size (.slice none 0 0) (.slice none 0 0) [],rfl,⟨.slice none 0 0,[],.slice none 0 0,⟨?_,?_,?_,Own.nil _ _ _,rfl,fun i hi=>absurd hi (qB i),Own.nil _ _ _,?_⟩,rfl⟩,hb1.trans (hb2.mono (by simp)),?_⟩
 ·have h:=cX w 0 #[.slice none 0 0,.int .i64 0,.slice none 0 0,stV (w.heap.size+1),ffV (w.heap.size+1)] 91 (by simp) (qd _)
  have h2:=h.up hb2;simpa[stV,ffV]using h2
 ·have h:(w.alloc (.cells #[.slice none 0 0,.int .i64 0,.slice none 0 0,stV (w.heap.size+1),ffV (w.heap.size+1)] 91)).heap.size=w.heap.size+1:=by simp
  have h2:=World.cell?_alloc_new (w.alloc (.cells #[.slice none 0 0,.int .i64 0,.slice none 0 0,stV (w.heap.size+1),ffV (w.heap.size+1)] 91)) #[.pointer (some ⟨w.heap.size,0,none⟩)] 87 0;rw[h]at h2;exact h2
 ·simp
 ·intro i j k hi hj
  have key:∀i:Nat,(mkL (w.heap.size+1) w.heap.size (.slice none 0 0) (.slice none 0 0) [])[i]? =some (some k)->(i=0/\k=w.heap.size+1)\/(i=1/\k=w.heap.size):=fun i h=>by
   rcases i with _|_|_|_|i
   ·simp[mkL]at h;exact .inl ⟨rfl,h.symm⟩
   ·simp[mkL]at h;exact .inr ⟨rfl,h.symm⟩
   ·simp[mkL,Value.ownBlock]at h
   ·simp[mkL,Value.ownBlock]at h
   simp[mkL]at h
  rcases key i hi with⟨h1,h2⟩|⟨h1,h2⟩<;>rcases key j hj with⟨h3,h4⟩|⟨h3,h4⟩<;>omega
 rintro k (rfl|h|h|⟨i,hi,-⟩)
 ·exact qb _
 ·cases h
 ·cases h
 exact absurd hi (qB i)
def oO(w:World)(v:Value)(ll:List (List Ed)):Prop:=∃vs,Sl w v vs/\vs.length=ll.length/\∀i,i<ll.length->SlK 6 w (vs.getD i undef) ((ll.getD i []).map edC)
theorem oO.up{w w':World}{v:Value}{ll:List (List Ed)}(h:oO w v ll)(hb:Below w.heap.size w w'):oO w' v ll:=by
 obtain⟨vs,h1,h2,h3⟩:=h;exact⟨vs,h1.up hb,h2,fun i hi=>(h3 i hi).up hb⟩
def q32(w:World)(A:Array Value)(e:List (List Ed))(F:Int)(r:List Int):Prop:=∃ve vr,A=#[ve,.int .i64 F,vr]/\oO w ve e/\fN w vr r
theorem q32.up{w w':World}{A:Array Value}{e:List (List Ed)}{F:Int}{r:List Int}(h:q32 w A e F r)(hb:Below w.heap.size w w'):q32 w' A e F r:=by
 obtain⟨ve,vr,h1,h2,h3⟩:=h;exact⟨ve,vr,h1,h2.up hb,h3.up hb⟩
theorem Mk.nfa{w:World}{g q:Nat}{ve:Value}{vs:List Value}{vr:Value}{ll:List (List Ed)}{rl:List Int}{F:Int}(h:Mk w g q ve vs vr ll rl F):q32 w #[ve,.int .i64 F,vr] ll F rl:=
 ⟨ve,vr,rfl,⟨vs,h.outer.sl,h.len,fun i hi=>(h.rows i hi).sl⟩,h.rules.sl⟩
theorem O9{w:World}{v:Value}{l:List Nd}(h:aO w v l)(hp:0<l.length):∃b,dE w b v l:=by
 have h0:=h;obtain⟨oa,cap,b,off,hv,hd,hc⟩:=h.open;obtain rfl:=hd.hat hp;exact⟨b,h0,by rw[hv];rfl,hp,by rw[hv];rfl⟩
theorem P0(ve vr:Value)(F:Int)(h1:ve.oneCell'=true)(h2:vr.oneCell'=true):∀u∈(#[ve,.int .i64 F,vr]:Array Value).toList,u.oneCell'=true:=by
 intro u hu;simp at hu;rcases hu with rfl|rfl|rfl
 ·exact h1
 ·rfl
 exact h2
theorem MkW.f1{w:World}{S:Nat->Prop}{g q:Nat}{ll:List (List Ed)}{rl:List Int}{F:Int}(h:MkW w S g q ll rl F):w.cell? ⟨g,1,none⟩=some (.int .i64 F):=by
 obtain⟨ve,vs,vr,h1,rfl⟩:=h;exact h1.c1
theorem kE{w:World}{B E:Nat}{v:Value}{xs:List Value}(h:Own w B E v xs):v.oneCell'=true:=by
 rcases h.1.2 with⟨rfl,_⟩|⟨g,cap,cur,rfl,_⟩<;>rfl
theorem A8{w:World}{p:Nat}{C:Array Value}{xs:List Value}(h:Own w 0 48 (.slice (some ⟨p,0,none⟩) 3 3) (C.toList++xs.drop C.size))(hs:C.size=3:=by rfl):(loadVar 48 ⟨p,0,none⟩).run prog w=.ok (.agg C) w:=
 eL w p 0 3 48 C _ (fun c hc=>by
  rw[qH,h.cell (by simp;omega),qt,qV (by simp;omega)];simp[qR]) hs underlying48 rfl (by kernel_rfl)
theorem Mk.nfaKeep{w w':World}{g q:Nat}{ve:Value}{vs:List Value}{vr:Value}{ll:List (List Ed)}{rl:List Int}{F:Int}(h:Mk w g q ve vs vr ll rl F){p:Nat}(hg:w.grownBy w' (some p))(hp:∀k,MkS g ve vr vs k->p<k)(hq:p<q):q32 w' #[ve,.int .i64 F,vr] ll F rl:=
 (h.keep hg (fun j k hj e=>by
  have e2:=qp e;rcases jE j with h0|h0
  ·subst h0
   have:q=k:=qp (qp hj);omega
  have hk:MkS g ve vr vs k:=by
   rcases j with _|_|_|_|j
   ·omega
   ·exact .inl (qp (qp hj)).symm
   ·exact .inr (.inl (by simpa[mkL]using hj))
   ·exact .inr (.inr (.inl (by simpa[mkL]using hj)))
   by_cases hjl:j<vs.length
   ·rw[lB _ _ _ _ _ j hjl]at hj
    exact .inr (.inr (.inr ⟨j,hjl,qp hj⟩))
   simp[mkL,qP (show vs.length<=j by omega)]at hj
  have:=hp k hk;omega)).nfa
theorem q0u{w:World}{v:Value}{ll:List (List Nd)}(h:dO w v ll):
  Calls prog 16 #[v] w fun e w'=>∃A,e=.returned (.tuple #[.agg A,.int .i64 (oC ll)])/\(oC ll=0->q32 w' A (mkS ll ll.length).e 0 (mkS ll ll.length).r)/\(oC ll≠0->A=#[.slice none 0 0,.int .i64 0,.slice none 0 0])/\Below w.heap.size w w':=by
 have hA:=aB w (.cells #[.slice none 0 0,.int .i64 0,.slice none 0 0] 48);have HMY:=qa (q5p (h.up hA));have HBX:=qa (by simpa using cX w 0 #[.slice none 0 0,.int .i64 0,.slice none 0 0] 48 (by simp) (qd _):Own (w.alloc (.cells #[.slice none 0 0,.int .i64 0,.slice none 0 0] 48)) 0 48 (.slice (some ⟨w.heap.size,0,none⟩) 3 3) [.slice none 0 0,.int .i64 0,.slice none 0 0]);have HTR:=qa h;obtain⟨oa,cap,b,off,rfl,hd,hc⟩:=h.open;have hix:=d9 hd;have hm:=hd.len;have HB:=qa hd.hblk;have HC:=qa hc;obtain⟨R,hR⟩:∃R,R=oC ll:=⟨_,rfl⟩;rw[<-hR]at HMY⊢;have HR:=qa hR;clear h hd hc hR;have hSZ:(w.alloc (.cells #[.slice none 0 0,.int .i64 0,.slice none 0 0] 48)).heap.size=w.heap.size+1:=by simp
 by_cases h0:R=0
 ·have hbe:(R==0)=true:=by simpa using h0
  have HR0:=qa h0
  have HCK:Hid ((∀l∈ll,Chk l)/\1+(ll.map eR).sum<=3000/\ll.length<=32):=qa (by
   have h1:=HR.o;rw[h0]at h1;unfold oC at h1;by_cases c1:ll.length=0
   ·rw[qv c1]at h1;cases h1
   rw[qu c1]at h1;by_cases c2:32<ll.length
   ·rw[qv c2]at h1;cases h1
   rw[qu c2]at h1;by_cases c3:∀l∈ll,Chk l
   ·rw[qu (fun h=>h c3)]at h1
    by_cases c4:3000<1+(ll.map eR).sum
    ·rw[qv c4]at h1;cases h1
    exact⟨c3,by omega,by omega⟩
   rw[qv c3]at h1;cases h1)
  have HMO:=qa (fun i hi=>q3e ll HCK.o.1 HCK.o.2.1 i hi);clear h0;go_enter func16,ntmps16
  go_upto_region 4 with((with_reducible go_at_call 36);refine HMY.o.mono ?_;rintro en w1 ⟨rfl,x1,rfl⟩)
  have HW1:=qa (dW hA x1);have q73:=qa (HBX.o.up (aC _ x1));have q6z:=fX (w.alloc (.cells #[.slice none 0 0,.int .i64 0,.slice none 0 0] 48)) x1;rw[hSZ]at q6z;clear HMY HBX hA hSZ;generalize ext (w.alloc (.cells #[.slice none 0 0,.int .i64 0,.slice none 0 0] 48)) x1=w1 at*;have HST:=qa (q3i (w:=w1));generalize hg:w1.heap.size=g at HST;have HGE:=qa hg;have hgw:w.heap.size+1<=g:=by omega
  clear hg q6z
  go_upto_region 6 with(first|((with_reducible go_at_call 37);refine HST.o.mono ?_;rintro en w2 ⟨S2,rfl,hm2,hb2,hS2⟩;have HM2:=qa hm2;have HB2:=qa hb2;have HS2:=qa hS2;(have hc3:=hm2.f3);(have hgl:=hm2.glt);clear hm2 hb2 hS2)|((with_reducible go_at_call 57);refine(O1 HM2.o (by simp) (by simp)).mono ?_;rintro en w3 ⟨rfl,S3,hm3,hg3⟩;obtain⟨ve,vz,vr,hmk,hS3⟩:=hm3;have HMK:=qa hmk;have HG3:=qa hg3;(have hc1:=hmk.c1);(have hf1:=hmk.f 1);(have qbr:=hmk.lt);clear hmk hg3))
  have hSF:=HMK.o.setF 0;rw[<-hS3]at hSF
  have HW4:Hid (Below w.heap.size w (w3.setCell ⟨g,1,none⟩ (.int .i64 0))):=qa (by
   have e1:Below w.heap.size w w2:=HW1.o.trans (HB2.o.mono (by have:=HGE.o;omega));have e2:=(HG3.o.trans hSF.2).below (n:=w.heap.size) e1.size (fun k hk=>by have:=HS2.o k hk;omega);exact e1.trans e2)
  have HM4:Hid (MkT (w3.setCell ⟨g,1,none⟩ (.int .i64 0)) S3 g (g+1) (mkS ll 0) 0):=qa ⟨ve,vz,vr,hSF.1,hS3⟩
  have HS3:Hid (∀k,S3 k->w.heap.size+1<=k):=qa (fun k hk=>by
   rcases HG3.o.sub k hk with h|h
   ·have:=HS2.o k h;omega
   have:=HB2.o.size;have:=HGE.o;omega)
  have qaX:Hid (Own (w3.setCell ⟨g,1,none⟩ (.int .i64 0)) 0 48 (.slice (some ⟨w.heap.size,0,none⟩) 3 3) [.slice none 0 0,.int .i64 0,.slice none 0 0]):=qa (by
   refine(HG3.o.trans hSF.2).own (q73.o.up (HB2.o.mono (by have:=HGE.o;omega))) (fun k hk e=>?_);have:=HS2.o k e;have:w.heap.size=k:=qp hk;omega)
  clear HM2 HB2 HS2 hc3 hgl HMK HG3 hc1 hf1 qbr hSF hS3 HW1 q73 HST HGE;generalize w3.setCell ⟨g,1,none⟩ (.int .i64 0)=w4 at*;go_wp2
  go_loopg [27] (ll.length) (fun gk iv wr=>∃(i:Nat) (Sr:Nat->Prop),iv=.int .i64 i/\i<=ll.length/\MkT wr Sr g (g+1) (mkS ll i) 0/\Below w.heap.size w wr/\(∀k,Sr k->w.heap.size+1<=k)/\Own wr 0 48 (.slice (some ⟨w.heap.size,0,none⟩) 3 3) [.slice none 0 0,.int .i64 0,.slice none 0 0]/\gk=ll.length-i)
  case atStart=>exact⟨0,S3,rfl,qd _,HM4.o,HW4.o,HS3.o,qaX.o,rfl⟩
  case round=>
   obtain⟨i,Sr,rfl,hi,hm1,hw,hS,hbx,rfl⟩:=hrel;have HM1:=qa hm1;have HW:=qa hw;have HS1:=qa hS;have q73:=qa hbx;clear hm1 hw hS hbx HM4 HW4 HS3 qaX;by_cases hlt:i<ll.length
   ·obtain⟨u,hcu,hnu⟩:=HC.o i hlt
    have hb:=HB.o (by omega);have hcw:=(HW.o.cell (p:=⟨b,off+i,none⟩) hb).trans hcu;have hbw:b<wr.heap.size:=by have:=HW.o.size;omega
    have hck:=HCK.o.1 (ll.getD i []) (by simp[List.getD,hlt]);obtain⟨x,k,h1,h2,h3,h4,h5,h6,h7,h8⟩:=iI hck;rw[j6]at h1;rw[h1]at hnu;obtain⟨b1,hnb⟩:=O9 hnu (by simp);have hbl:=hnb.lt;have hmo:=HMO.o i hi;have qbl:=HMO.o (i+1) hlt;have q1:=hmo.len;have q2:=hmo.rlen;have q3:=hmo.tot;have hsl:=(uO ll (i+1) hlt).2;have hs0:=(uO ll i hi).1;have hss:=mV ll i hlt;rw[h8]at hss;have hz:=f9 h4 (eM k h5).1;have q7W:=HCK.o.2
    have hu:gU x (dM k)=bS x (usz k):=by
     exact ZmE8
    have hok:=iZ x (fun s=>eN k s) (usz k) (cnt k) h4 h2 (hJ k h3 h5) (mkS ll i)
    have hms:mkS ll (i+1)=uN (.cons x k .nil) i (mkS ll i):=by
     show uN _ _ _=_;rw[rR ll i hlt,h1,dR x k h2 h3]
     rfl
    have k1:=hok.len;have k2:=hok.rlen;have k3:=hok.rng 0 (by omega);have k4:=hok.tot;simp only[j9]at k1 k2 k3 k4;obtain⟨Y,hY⟩:∃Y,Y=cY x (fun s=>eN k s) (mkS ll i):=⟨_,rfl⟩;obtain⟨pf,hpf⟩:∃pf,pf=Y.1.f:=⟨_,rfl⟩;obtain⟨pl,hpl⟩:∃pl,pl=Y.1.l:=⟨_,rfl⟩;have q9b:=qa (q4z 400 wr Sr g (g+1) (mkS ll i) 0 u b1 x k h7 (hnb.up HW.o) (fun e=>by have:=HS1.o _ e;omega) h7 h2 h3 h4 h5 HM1.o (by omega) (by omega) (by omega) pf pl (by rw[<-hY];exact hpf) (by rw[<-hY];exact hpl));rw[<-hY]at q9b k1 k2 k3 k4;rw[<-hpf,<-hpl]at k3;have HMS:Hid (mkS ll (i+1)=⟨(bT 0 pf Y.2).e,(bT 0 pf Y.2).r.set pl (i:Int)⟩):=qa (by rw[hms];simp only[uN,N8];rw[<-hY,hpf,hpl]);have HRB:Hid (Y.2.r.length<=5000):=qa (by omega);have HKK:Hid (0<Y.2.e.length/\pl<Y.2.r.length/\Y.2.e.length<=5000/\tot Y.2.e<=20000):=qa ⟨by omega,by omega,by omega,by omega⟩;have qcM:i<=32:=by omega
    clear hcu hck h1 h2 h3 h4 h5 h6 h7 h8 hnu hnb hbl hmo qbl q1 q2 q3 hsl hs0 hss hz q7W hu hok hms k1 k2 k3 k4 hY hpf hpl
    go_wp2_with((with_reducible go_at_call 38);refine q9b.o.mono ?_;rintro en w5 ⟨rfl,S5,hm5,hg5⟩;have HM5:=qa hm5;have HG5:=qa hg5;clear hm5 hg5)
    have HM6:=qa (HM5.o.up (aB w5 (.cells #[.int .i64 (pf:Nat),.int .i64 (pl:Nat)] 93)));have HG6:=qa (HG5.o.up (aB w5 (.cells #[.int .i64 (pf:Nat),.int .i64 (pl:Nat)] 93)));have P86:Hid (LB (w5.alloc (.cells #[.int .i64 (pf:Nat),.int .i64 (pl:Nat)] 93)) S5 w5.heap.size pf pl):=qa ⟨dS w5 _ _,HM5.o.no (qb _)⟩;clear HM5 HG5 q9b;generalize w5.heap.size=p8 at*;generalize w5.alloc (.cells #[.int .i64 (pf:Nat),.int .i64 (pl:Nat)] 93)=w6 at*;have hc4:=HM6.o.f4;have hgl:=HM6.o.glt;have hc1:=HM6.o.f1;have P8a:=P86.o.box.c0;have P8l:=P86.o.box.lt;have HFR:=qa (kW (HM6.o.up (aG _)) 0 pf HKK.o.1 (by have:=HKK.o;omega) (by have:=HKK.o;omega));rw[show((0:Nat):Int)=0 from rfl]at HFR;go_wp2;refine aH [0,1,2,3,4,5,6,7,8,9,10] [] [11] (by kernel_rfl) (by kernel_rfl) ?_;simp only[pk]
    repeat(go_big_quiet_step (fail))
    refine wpQuiet_nil ?_;unfold aD;unfold aD
    go_wp2_with((with_reducible go_at_call 58);refine HFR.o.mono ?_;rintro en w7 ⟨rfl,S7,hm,hg⟩;have HM7:=qa hm;have HG7:=qa ((HG6.o.up (aG _)).trans hg);have P87:=qa ((P86.o.up (aG _)).gw hg);clear hm hg)
    refine⟨trivial,?_⟩;unfold aD;clear HM6 HG6 P86 hc4 hgl hc1 P8a P8l HFR;obtain⟨ve,vz,vr,hmk,hS7⟩:=HM7.o;have hpl:=HKK.o.2.1;have hrl:(ints (bT 0 pf Y.2).r).length=Y.2.r.length:=by simp
    obtain⟨orr,cr,gr,hvr,hdr,-,hcr,hfr,-⟩:=hmk.rules.cases;rw[hrl]at hvr hdr hcr hfr;have hor:=hdr.hat (by omega);subst hor;subst hvr;have qbm:=fun(W:World)=>aZ (P:=prog) 27 3 underlying27 (by kernel_rfl) hdr W .i64 pl (by omega) (by omega);simp only[qC,qH]at qbm;have qcW:=hcr pl hpl;have qcR:=hfr pl hpl;have qcN:=hdr.hblk (by omega);have hc2:=hmk.c2;have hgl:=hmk.lt;have P8a:=P87.o.box.c1;have P8l:=P87.o.box.lt;have HSR:=qa (hmk.setRule pl (i:Int));have hrb:Y.2.r.length<=100000:=by have:=hdr.hsml;have:=HRB.o;omega
    clear hmk hdr hcr hfr hrl hpl;go_wp2;refine aH [0,1,2,3,4,5,6,7,8] [] [9] (by kernel_rfl) (by kernel_rfl) ?_;simp only[pk]
    repeat(go_big_quiet_step (fail))
    refine wpQuiet_nil ?_;unfold aD;unfold aD;go_wp2;refine⟨trivial,?_⟩;unfold aD;go_wp2
    go_roundg (ll.length-(i+1))
    case measure=>omega
    case rel=>
     have hgz:Gw Sr wr S7 (w7.setCell ⟨gr,pl,none⟩ (.int .i64 (i:Int))).drew:=(HG7.o.trans (by rw[hS7];exact HSR.o.2)).up (aG _);have hbz:=hgz.below (n:=w.heap.size) HW.o.size (fun k hk=>by have:=HS1.o k hk;omega);refine⟨i+1,S7,by go_num,by omega,?_,HW.o.trans hbz,fun k hk=>?_,?_,rfl⟩
     ·rw[HMS.o]
      exact MkW.up ⟨_,_,_,HSR.o.1,hS7⟩ (aG _)
     ·rcases hgz.sub k hk with h|h
      ·exact HS1.o k h
      have:=q73.o.blk.2;omega
     exact hgz.own q73.o (fun k hk e=>by have:=HS1.o k e;have:w.heap.size=k:=qp hk;omega)
   have hie:i=ll.length:=by omega
   subst hie;obtain⟨ve,vz,vr,hmk,hS7⟩:=HM1.o;have HMK:=qa hmk
   have HCL:Hid (∀c,c<3->wr.cell? ⟨g,0+c,none⟩=some ((#[ve,.int .i64 0,vr]:Array Value).getD c undef)):=qa (fun c hcl=>by
    rw[qH];rcases(show c=0\/c=1\/c=2 by omega)with rfl|rfl|rfl
    ·exact hmk.c0
    ·exact hmk.c1
    exact hmk.c2)
   have HON:=qa (P0 ve vr 0 (kE hmk.outer) (kE hmk.rules));have hgl:=hmk.lt;clear hmk
   go_wp2_with(first|(refine aJ rfl 48 _ rfl g 0 3 rfl _ _ HCL.o rfl underlying48 rfl (by kernel_rfl) ?_)|(refine bD rfl 48 _ _ rfl 0 48 w.heap.size 3 3 rfl #[ve,.int .i64 0,vr] rfl (by kernel_rfl) _ q73.o (qb 3) HON.o ?_;intro wF hF hgF;have HF:=qa hF;have HGF:=qa hgF;clear hF hgF))
   refine bB rfl rfl rfl rfl (A8 HF.o) ?_;refine⟨#[ve,.int .i64 0,vr],by rw[HR0.o];rfl,fun _=>?_,fun h=>absurd HR0.o h,HW.o.grown HGF.o HW.o.size (fun j hj=>by cases hj;exact qb _)⟩;exact HMK.o.nfaKeep HGF.o (fun k hk=>by rw[<-hS7]at hk;have:=HS1.o k hk;omega) (by omega)
 have hbe:(R==0)=false:=by simpa using h0
 have HR0:=qa h0;clear h0;go_enter func16,ntmps16
 go_upto_region 3 with((with_reducible go_at_call 36);refine HMY.o.mono ?_;rintro en w1 ⟨rfl,x1,rfl⟩)
 have q73:=qa (HBX.o.up (aC _ x1));have HW1:=qa (dW hA x1);generalize ext (w.alloc (.cells #[.slice none 0 0,.int .i64 0,.slice none 0 0] 48)) x1=w1 at*
 go_wp2_with(refine bD rfl 48 _ _ rfl 0 48 w.heap.size 3 3 rfl #[.slice none 0 0,.int .i64 0,.slice none 0 0] rfl (by kernel_rfl) _ q73.o (qb 3) (P0 _ _ _ rfl rfl) ?_;intro wF hF hgF;have HF:=qa hF;have HGF:=qa hgF;clear hF hgF)
 refine bB rfl rfl rfl rfl (A8 HF.o) ?_;exact⟨_,rfl,fun h=>absurd h HR0.o,fun _=>rfl,HW1.o.grown HGF.o HW1.o.size (fun j hj=>by cases hj;exact qb _)⟩
end Go.Cm
