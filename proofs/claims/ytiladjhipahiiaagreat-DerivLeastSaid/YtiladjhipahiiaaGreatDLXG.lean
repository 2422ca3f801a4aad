/- Walks of functions and plain facts, joined and squeezed by a program. Conditions: as each says. -/
import Derived.Deep.CutRange
import Derived.Laws.EntriesVeiled
import Derived.Test.YtiladjhipahiiaaGreatDLXE
set_option maxHeartbeats 8000000
set_option maxRecDepth 100000
set_option linter.unusedSimpArgs false
open Go.Proofs.Tryz
namespace Go.Cm
open Go.RowKit Go.Proofs
theorem ZmG0{P:Prop}(h:P:=by
 obtain⟨j,Sr,rfl,rfl,hj,hm,hgw,hjj,hnn,hp6,hp7,rfl⟩:=hrel;have HM1:=qa hm;have HG1:=qa hgw;have HJ1:=qa hjj;have HN1:=qa hnn;have P61:=qa hp6;have P71:=qa hp7;clear hm hgw hjj hnn hp6 hp7 HMX HGX HJX HNX P6X P7X P7a P7b P7l hn6 qcA;have hro:=HRO.o j;have r1:=hro.len;have r2:=hro.rlen;have r3:=hro.at_;have r4:=hro.tot;obtain⟨b1,b2,b3,b4⟩:=HBD.o;by_cases hlt:j<t
 ·have e1:(j+1)*u<=t*u:=Nat.mul_le_mul_right u hlt
  have e2:(j+1)*(2*u)<=t*(2*u):=Nat.mul_le_mul_right (2*u) hlt;rw[jN,Nat.one_mul]at e1 e2;have hys:=HYS.o j;have hlp:=HPL.o (Y j).2;have q1:=hlp.len;have q3:=hlp.rng 0 (by omega);have q4:=hlp.tot;simp only[ja]at q1 q3 q4;have HCL:=qa (HPT.o wr Sr (Y j).2 HM1.o HJ1.o (by omega) (by omega) (by omega) (part (Y j).2).1.f (part (Y j).2).1.l rfl rfl);obtain⟨at_,hat⟩:∃at_,at_=(Y j).1:=⟨_,rfl⟩;obtain⟨sj,hsj⟩:∃sj,sj=(part (Y j).2).2:=⟨_,rfl⟩;obtain⟨qf,hqf⟩:∃qf,qf=(part (Y j).2).1.f:=⟨_,rfl⟩;obtain⟨ql,hql⟩:∃ql,ql=(part (Y j).2).1.l:=⟨_,rfl⟩;rw[<-hqf,<-hql]at HCL;rw[<-hat,<-hsj,<-hqf,<-hql]at hys;rw[<-hsj]at HCL q1 q3 q4;rw[<-hqf,<-hql]at q3;rw[<-hat]at r3⊢;have k1:at_<sj.e.length:=by omega
  have k2:sj.e.length<=4000:=by omega
  have k3:tot sj.e<=95000:=by omega
  have k4:np<sj.e.length:=by omega
  obtain⟨k5,k6⟩:=q3;have HYJ:=qa hys;have qeR:=HG1.o.size;clear hys hlp q1 q4 e1 e2 hat hsj hqf hql r1 r2 r3 r4 hro qeQ qfr
  go_wp2_with((with_reducible go_at_call 57);refine HCL.o.mono ?_;rintro en' w5 ⟨rfl,S5,hm,hg⟩;have HM5:=qa hm;have HG5:=qa (HG1.o.trans hg);have HJ5:=qa (hJg _ _ _ _ HJ1.o hg);have HN5:=qa (HN1.o.gw hg);have P65:=qa (P61.o.gw hg);have P75:=qa (P71.o.gw hg);clear hm hg)
  have HM6:=qa (HM5.o.up (aD w5 (.cells #[.int .i64 qf,.int .i64 ql] 80)));have HJ6:=qa (hJb _ _ _ HJ5.o (aD w5 (.cells #[.int .i64 qf,.int .i64 ql] 80)));have HN6:=qa (HN5.o.up (aD w5 (.cells #[.int .i64 qf,.int .i64 ql] 80)));have P66:=qa (P65.o.up (aD w5 (.cells #[.int .i64 qf,.int .i64 ql] 80)));have P76:=qa (P75.o.up (aD w5 (.cells #[.int .i64 qf,.int .i64 ql] 80)));have PA6:Hid (LB (w5.alloc (.cells #[.int .i64 qf,.int .i64 ql] 80)) S5 w5.heap.size qf ql):=qa ⟨fO w5 qf ql,HM5.o.no (qb _)⟩;have HG6:=qa (HG5.o.up (aD w5 (.cells #[.int .i64 qf,.int .i64 ql] 80)));clear HM1 HG1 HJ1 HN1 P61 P71 HM5 HG5 HJ5 HN5 P65 P75 HCL;generalize w5.heap.size=p10 at*;generalize w5.alloc (.cells #[.int .i64 qf,.int .i64 ql] 80)=w6 at*;have hc4:=HM6.o.f4;have hgl:=HM6.o.glt;have PAa:=PA6.o.box.c0;have PAb:=PA6.o.box.c1;have PAl:=PA6.o.box.lt;have hn6:w6.cell? ⟨w.heap.size,6,none⟩=some (.int .i64 lo):=HN6.o.c 6 (show 6<8 by decide);have hn7:w6.cell? ⟨w.heap.size,7,none⟩=some (.int .i64 hi):=HN6.o.c 7 (show 7<8 by decide);have qcA:=HN6.o.lt
  try go_wp2
  refine aR [0,1,2,3,4,5,6] [] [7] (by kernel_rfl) (by kernel_rfl) ?_;simp only[pk]
  repeat(go_big_quiet_step (fail))
  refine wpQuiet_nil ?_;unfold aF;unfold aF
  go_wp2_with((with_reducible go_at_call 53);refine(pV (HM6.o.up (aP _)) at_ qf k1 (by omega) (by omega)).mono ?_;rintro en w7 ⟨rfl,S7,hm,hg⟩;have HM7:=qa hm;have HG7:=qa ((HG6.o.up (aP _)).trans hg);have PA7:=qa ((PA6.o.up (aP _)).gw hg);have HN7:=qa ((HN6.o.up (aP _)).gw hg);have P67:=qa ((P66.o.up (aP _)).gw hg);have P77:=qa ((P76.o.up (aP _)).gw hg);have HJ7:=qa (hJg _ _ _ _ (hJb _ _ _ HJ6.o (aP _)) hg);clear hm hg)
  refine⟨trivial,?_⟩;unfold aF;clear hc4 hgl hn6 hn7 qcA PAa PAb PAl HM6 HG6 HJ6 PA6 HN6 P66 P76;have t7:=eE at_ qf sj;have l7:=eQ at_ qf sj;obtain⟨s7,hs7⟩:∃s7,s7=bM at_ qf sj:=⟨_,rfl⟩;rw[<-hs7]at t7 l7 HM7 HYJ;clear hs7;by_cases hc1:lo<=(j:Int)+1
  ·have hd1:decide (lo<=(j:Int)+1)=true:=by simpa using hc1
   rw[hd1]at HYJ;clear hd1;have hc4:=HM7.o.f4;have hgl:=HM7.o.glt;have PAa:=PA7.o.box.c0;have PAb:=PA7.o.box.c1;have PAl:=PA7.o.box.lt;have P7a:=P77.o.box.c0;have P7b:=P77.o.box.c1;have P7l:=P77.o.box.lt;have hn6:w7.cell? ⟨w.heap.size,6,none⟩=some (.int .i64 lo):=HN7.o.c 6 (show 6<8 by decide);have hn7:w7.cell? ⟨w.heap.size,7,none⟩=some (.int .i64 hi):=HN7.o.c 7 (show 7<8 by decide);have qcA:=HN7.o.lt
   try go_wp2
   refine aR [0,1,2,3,4,5,6] [] [7] (by kernel_rfl) (by kernel_rfl) ?_;simp only[pk]
   repeat(go_big_quiet_step (fail))
   refine wpQuiet_nil ?_;unfold aF;unfold aF
   go_wp2_with((with_reducible go_at_call 53);refine(pV (HM7.o.up (aP _)) ql mp (by omega) (by omega) (by omega)).mono ?_;rintro en w8 ⟨rfl,S8,hm,hg⟩;have HM8:=qa hm;have HG8:=qa ((HG7.o.up (aP _)).trans hg);have PA8:=qa ((PA7.o.up (aP _)).gw hg);have P78:=qa ((P77.o.up (aP _)).gw hg);have HN8:=qa ((HN7.o.up (aP _)).gw hg);have P68:=qa ((P67.o.up (aP _)).gw hg);have HJ8:=qa (hJg _ _ _ _ (hJb _ _ _ HJ7.o (aP _)) hg);clear hm hg)
   refine⟨trivial,?_⟩;unfold aF;clear hc4 hgl hn6 hn7 qcA PAa PAb PAl P7a P7b P7l HM7 HG7 HJ7 PA7 P77 HN7 P67;simp only[show∀f s,iff true f s=f s from fun f s=>rfl]at HYJ;have t8:=eE ql mp s7;have l8:=eQ ql mp s7;obtain⟨s8,hs8⟩:∃s8,s8=bM ql mp s7:=⟨_,rfl⟩;rw[<-hs8]at t8 l8 HM8 HYJ;clear hs8;by_cases hc2:hi<0
   ·have hd2:∀p:Prop,[Decidable p]->decide (hi<0/\p)=decide p:=fun p _=>by simp[hc2]
    rw[hd2]at HYJ;clear hd2;by_cases hce:j+1=t
    ·have hcb:(((j:Int)+1)==(t:Int))=true:=by simpa using(by omega:(j:Int)+1=t)
     have hdc:decide (j+1=t)=true:=by simpa using hce
     rw[hdc]at HYJ;simp only[show∀f s,iff true f s=f s from fun f s=>rfl]at HYJ;clear hce hdc;have PAa:=PA8.o.box.c0;have PAb:=PA8.o.box.c1;have PAl:=PA8.o.box.lt;have hn6:w8.cell? ⟨w.heap.size,6,none⟩=some (.int .i64 lo):=HN8.o.c 6 (show 6<8 by decide);have hn7:w8.cell? ⟨w.heap.size,7,none⟩=some (.int .i64 hi):=HN8.o.c 7 (show 7<8 by decide);have qcA:=HN8.o.lt;have hn0:w8.cell? ⟨w.heap.size,0,none⟩=some (.int .i64 k):=HN8.o.c 0 (show 0<8 by decide);have hn1:w8.cell? ⟨w.heap.size,1,none⟩=some (.int .i64 n):=HN8.o.c 1 (show 1<8 by decide);have hn2:w8.cell? ⟨w.heap.size,2,none⟩=some (.int .u64 a):=HN8.o.c 2 (show 2<8 by decide);have hn3:w8.cell? ⟨w.heap.size,3,none⟩=some (.int .u64 b):=HN8.o.c 3 (show 3<8 by decide);have hn4:w8.cell? ⟨w.heap.size,4,none⟩=some (.int .u64 c):=HN8.o.c 4 (show 4<8 by decide);have hn5:w8.cell? ⟨w.heap.size,5,none⟩=some (.int .u64 d):=HN8.o.c 5 (show 5<8 by decide)
     go_wp2_with((with_reducible go_at_call 82);refine(HTM.o _).mono ?_;rintro en' w' ⟨rfl,x9,rfl⟩;(have HM9:=qa (HM8.o.up (aE w8 x9)));(have HG9:=qa (HG8.o.up (aE w8 x9)));(have HN9:=qa (HN8.o.up (aE w8 x9)));(have P69:=qa (P68.o.up (aE w8 x9)));(have P79:=qa (P78.o.up (aE w8 x9)));(have PA9:=qa (PA8.o.up (aE w8 x9)));(have HJ9:=qa (hJb _ _ _ HJ8.o (aE w8 x9))))
     clear PAa PAb PAl hn0 hn1 hn2 hn3 hn4 hn5 hn6 hn7 qcA;generalize ext w8 x9=w9 at*;have hc4:=HM9.o.f4;have hgl:=HM9.o.glt;have PAa:=PA9.o.box.c0;have PAb:=PA9.o.box.c1;have PAl:=PA9.o.box.lt;have hn6:w9.cell? ⟨w.heap.size,6,none⟩=some (.int .i64 lo):=HN9.o.c 6 (show 6<8 by decide);have hn7:w9.cell? ⟨w.heap.size,7,none⟩=some (.int .i64 hi):=HN9.o.c 7 (show 7<8 by decide);have qcA:=HN9.o.lt
     try go_wp2
     refine aR [0,1,2,3,4,5,6] [] [7] (by kernel_rfl) (by kernel_rfl) ?_;simp only[pk]
     repeat(go_big_quiet_step (fail))
     refine wpQuiet_nil ?_;unfold aF;unfold aF
     go_wp2_with((with_reducible go_at_call 53);refine(pV (HM9.o.up (aP _)) ql qf (by omega) (by omega) (by omega)).mono ?_;rintro en w10 ⟨rfl,S10,hm,hg⟩;have qcJ:=qa hm;have qeE:=qa ((HG9.o.up (aP _)).trans hg);have PA10:=qa ((PA9.o.up (aP _)).gw hg);have qen:=qa ((HN9.o.up (aP _)).gw hg);have P610:=qa ((P69.o.up (aP _)).gw hg);have P710:=qa ((P79.o.up (aP _)).gw hg);have qhf:=qa (hJg _ _ _ _ (hJb _ _ _ HJ9.o (aP _)) hg);clear hm hg)
     refine⟨trivial,?_⟩;unfold aF;clear hc4 hgl hn6 hn7 qcA PAa PAb PAl HM9 HG9 HJ9 PA9 HN9 P69 P79;go_wp2
     go_roundg (t-(j+1))
     case measure=>omega
     case rel=>
      exact⟨j+1,S10,by go_num,by rw[HYJ.o],by omega,by rw[HYJ.o];exact qcJ.o,qeE.o,qhf.o,qen.o,P610.o,P710.o,rfl⟩
    have hcb:(((j:Int)+1)==(t:Int))=false:=by simpa using(by omega:¬(j:Int)+1=t)
    have hdc:decide (j+1=t)=false:=by simpa using hce
    rw[hdc]at HYJ;simp only[show∀f s,iff false f s=s from fun f s=>rfl]at HYJ;clear hce hdc;have PAa:=PA8.o.box.c0;have PAb:=PA8.o.box.c1;have PAl:=PA8.o.box.lt;have hn6:w8.cell? ⟨w.heap.size,6,none⟩=some (.int .i64 lo):=HN8.o.c 6 (show 6<8 by decide);have hn7:w8.cell? ⟨w.heap.size,7,none⟩=some (.int .i64 hi):=HN8.o.c 7 (show 7<8 by decide);have qcA:=HN8.o.lt;have hn0:w8.cell? ⟨w.heap.size,0,none⟩=some (.int .i64 k):=HN8.o.c 0 (show 0<8 by decide);have hn1:w8.cell? ⟨w.heap.size,1,none⟩=some (.int .i64 n):=HN8.o.c 1 (show 1<8 by decide);have hn2:w8.cell? ⟨w.heap.size,2,none⟩=some (.int .u64 a):=HN8.o.c 2 (show 2<8 by decide);have hn3:w8.cell? ⟨w.heap.size,3,none⟩=some (.int .u64 b):=HN8.o.c 3 (show 3<8 by decide);have hn4:w8.cell? ⟨w.heap.size,4,none⟩=some (.int .u64 c):=HN8.o.c 4 (show 4<8 by decide);have hn5:w8.cell? ⟨w.heap.size,5,none⟩=some (.int .u64 d):=HN8.o.c 5 (show 5<8 by decide)
    go_wp2_with((with_reducible go_at_call 82);refine(HTM.o _).mono ?_;rintro en' w' ⟨rfl,x9,rfl⟩;(have HM9:=qa (HM8.o.up (aE w8 x9)));(have HG9:=qa (HG8.o.up (aE w8 x9)));(have HN9:=qa (HN8.o.up (aE w8 x9)));(have P69:=qa (P68.o.up (aE w8 x9)));(have P79:=qa (P78.o.up (aE w8 x9)));(have PA9:=qa (PA8.o.up (aE w8 x9)));(have HJ9:=qa (hJb _ _ _ HJ8.o (aE w8 x9))))
    clear PAa PAb PAl hn0 hn1 hn2 hn3 hn4 hn5 hn6 hn7 qcA;generalize ext w8 x9=w9 at*
    go_roundg (t-(j+1))
    case measure=>omega
    case rel=>
     exact⟨j+1,S8,by go_num,by rw[HYJ.o],by omega,by rw[HYJ.o];exact HM9.o,HG9.o,HJ9.o,HN9.o,P69.o,P79.o,rfl⟩
   have hd2:∀p:Prop,[Decidable p]->decide (hi<0/\p)=false:=fun p _=>by simp[hc2]
   rw[hd2]at HYJ;clear hd2;simp only[iff,qT,jt]at HYJ;have PAa:=PA8.o.box.c0;have PAb:=PA8.o.box.c1;have PAl:=PA8.o.box.lt;have hn6:w8.cell? ⟨w.heap.size,6,none⟩=some (.int .i64 lo):=HN8.o.c 6 (show 6<8 by decide);have hn7:w8.cell? ⟨w.heap.size,7,none⟩=some (.int .i64 hi):=HN8.o.c 7 (show 7<8 by decide);have qcA:=HN8.o.lt;go_wp2
   go_roundg (t-(j+1))
   case measure=>omega
   case rel=>
    exact⟨j+1,S8,by go_num,by rw[HYJ.o],by omega,by rw[HYJ.o];exact HM8.o,HG8.o,HJ8.o,HN8.o,P68.o,P78.o,rfl⟩
  have hd1:decide (lo<=(j:Int)+1)=false:=by simpa using hc1
  rw[hd1]at HYJ;clear hd1;simp only[show∀f s,iff false f s=s from fun f s=>rfl]at HYJ;by_cases hc2:hi<0
  ·have hd2:∀p:Prop,[Decidable p]->decide (hi<0/\p)=decide p:=fun p _=>by simp[hc2]
   rw[hd2]at HYJ;clear hd2;by_cases hce:j+1=t
   ·have hcb:(((j:Int)+1)==(t:Int))=true:=by simpa using(by omega:(j:Int)+1=t)
    have hdc:decide (j+1=t)=true:=by simpa using hce
    rw[hdc]at HYJ;simp only[show∀f s,iff true f s=f s from fun f s=>rfl]at HYJ;clear hce hdc;have PAa:=PA7.o.box.c0;have PAb:=PA7.o.box.c1;have PAl:=PA7.o.box.lt;have hn6:w7.cell? ⟨w.heap.size,6,none⟩=some (.int .i64 lo):=HN7.o.c 6 (show 6<8 by decide);have hn7:w7.cell? ⟨w.heap.size,7,none⟩=some (.int .i64 hi):=HN7.o.c 7 (show 7<8 by decide);have qcA:=HN7.o.lt;have hn0:w7.cell? ⟨w.heap.size,0,none⟩=some (.int .i64 k):=HN7.o.c 0 (show 0<8 by decide);have hn1:w7.cell? ⟨w.heap.size,1,none⟩=some (.int .i64 n):=HN7.o.c 1 (show 1<8 by decide);have hn2:w7.cell? ⟨w.heap.size,2,none⟩=some (.int .u64 a):=HN7.o.c 2 (show 2<8 by decide);have hn3:w7.cell? ⟨w.heap.size,3,none⟩=some (.int .u64 b):=HN7.o.c 3 (show 3<8 by decide);have hn4:w7.cell? ⟨w.heap.size,4,none⟩=some (.int .u64 c):=HN7.o.c 4 (show 4<8 by decide);have hn5:w7.cell? ⟨w.heap.size,5,none⟩=some (.int .u64 d):=HN7.o.c 5 (show 5<8 by decide)
    go_wp2_with((with_reducible go_at_call 82);refine(HTM.o _).mono ?_;rintro en' w' ⟨rfl,x9,rfl⟩;(have HM8:=qa (HM7.o.up (aE w7 x9)));(have HG8:=qa (HG7.o.up (aE w7 x9)));(have HN8:=qa (HN7.o.up (aE w7 x9)));(have P68:=qa (P67.o.up (aE w7 x9)));(have P78:=qa (P77.o.up (aE w7 x9)));(have PA8:=qa (PA7.o.up (aE w7 x9)));(have HJ8:=qa (hJb _ _ _ HJ7.o (aE w7 x9))))
    clear PAa PAb PAl hn0 hn1 hn2 hn3 hn4 hn5 hn6 hn7 qcA;generalize ext w7 x9=w8 at*;have hc4:=HM8.o.f4;have hgl:=HM8.o.glt;have PAa:=PA8.o.box.c0;have PAb:=PA8.o.box.c1;have PAl:=PA8.o.box.lt;have hn6:w8.cell? ⟨w.heap.size,6,none⟩=some (.int .i64 lo):=HN8.o.c 6 (show 6<8 by decide);have hn7:w8.cell? ⟨w.heap.size,7,none⟩=some (.int .i64 hi):=HN8.o.c 7 (show 7<8 by decide);have qcA:=HN8.o.lt
    try go_wp2
    refine aR [0,1,2,3,4,5,6] [] [7] (by kernel_rfl) (by kernel_rfl) ?_;simp only[pk]
    repeat(go_big_quiet_step (fail))
    refine wpQuiet_nil ?_;unfold aF;unfold aF
    go_wp2_with((with_reducible go_at_call 53);refine(pV (HM8.o.up (aP _)) ql qf (by omega) (by omega) (by omega)).mono ?_;rintro en w9 ⟨rfl,S9,hm,hg⟩;have HM9:=qa hm;have HG9:=qa ((HG8.o.up (aP _)).trans hg);have PA9:=qa ((PA8.o.up (aP _)).gw hg);have HN9:=qa ((HN8.o.up (aP _)).gw hg);have P69:=qa ((P68.o.up (aP _)).gw hg);have P79:=qa ((P78.o.up (aP _)).gw hg);have HJ9:=qa (hJg _ _ _ _ (hJb _ _ _ HJ8.o (aP _)) hg);clear hm hg)
    refine⟨trivial,?_⟩;unfold aF;clear hc4 hgl hn6 hn7 qcA PAa PAb PAl HM8 HG8 HJ8 PA8 HN8 P68 P78;go_wp2
    go_roundg (t-(j+1))
    case measure=>omega
    case rel=>
     exact⟨j+1,S9,by go_num,by rw[HYJ.o],by omega,by rw[HYJ.o];exact HM9.o,HG9.o,HJ9.o,HN9.o,P69.o,P79.o,rfl⟩
   have hcb:(((j:Int)+1)==(t:Int))=false:=by simpa using(by omega:¬(j:Int)+1=t)
   have hdc:decide (j+1=t)=false:=by simpa using hce
   rw[hdc]at HYJ;simp only[show∀f s,iff false f s=s from fun f s=>rfl]at HYJ;clear hce hdc;have PAa:=PA7.o.box.c0;have PAb:=PA7.o.box.c1;have PAl:=PA7.o.box.lt;have hn6:w7.cell? ⟨w.heap.size,6,none⟩=some (.int .i64 lo):=HN7.o.c 6 (show 6<8 by decide);have hn7:w7.cell? ⟨w.heap.size,7,none⟩=some (.int .i64 hi):=HN7.o.c 7 (show 7<8 by decide);have qcA:=HN7.o.lt;have hn0:w7.cell? ⟨w.heap.size,0,none⟩=some (.int .i64 k):=HN7.o.c 0 (show 0<8 by decide);have hn1:w7.cell? ⟨w.heap.size,1,none⟩=some (.int .i64 n):=HN7.o.c 1 (show 1<8 by decide);have hn2:w7.cell? ⟨w.heap.size,2,none⟩=some (.int .u64 a):=HN7.o.c 2 (show 2<8 by decide);have hn3:w7.cell? ⟨w.heap.size,3,none⟩=some (.int .u64 b):=HN7.o.c 3 (show 3<8 by decide);have hn4:w7.cell? ⟨w.heap.size,4,none⟩=some (.int .u64 c):=HN7.o.c 4 (show 4<8 by decide);have hn5:w7.cell? ⟨w.heap.size,5,none⟩=some (.int .u64 d):=HN7.o.c 5 (show 5<8 by decide)
   go_wp2_with((with_reducible go_at_call 82);refine(HTM.o _).mono ?_;rintro en' w' ⟨rfl,x9,rfl⟩;(have HM8:=qa (HM7.o.up (aE w7 x9)));(have HG8:=qa (HG7.o.up (aE w7 x9)));(have HN8:=qa (HN7.o.up (aE w7 x9)));(have P68:=qa (P67.o.up (aE w7 x9)));(have P78:=qa (P77.o.up (aE w7 x9)));(have PA8:=qa (PA7.o.up (aE w7 x9)));(have HJ8:=qa (hJb _ _ _ HJ7.o (aE w7 x9))))
   clear PAa PAb PAl hn0 hn1 hn2 hn3 hn4 hn5 hn6 hn7 qcA;generalize ext w7 x9=w8 at*
   go_roundg (t-(j+1))
   case measure=>omega
   case rel=>
    exact⟨j+1,S7,by go_num,by rw[HYJ.o],by omega,by rw[HYJ.o];exact HM8.o,HG8.o,HJ8.o,HN8.o,P68.o,P78.o,rfl⟩
  have hd2:∀p:Prop,[Decidable p]->decide (hi<0/\p)=false:=fun p _=>by simp[hc2]
  rw[hd2]at HYJ;clear hd2;simp only[iff,qT,jt]at HYJ;have PAa:=PA7.o.box.c0;have PAb:=PA7.o.box.c1;have PAl:=PA7.o.box.lt;have hn6:w7.cell? ⟨w.heap.size,6,none⟩=some (.int .i64 lo):=HN7.o.c 6 (show 6<8 by decide);have hn7:w7.cell? ⟨w.heap.size,7,none⟩=some (.int .i64 hi):=HN7.o.c 7 (show 7<8 by decide);have qcA:=HN7.o.lt;go_wp2
  go_roundg (t-(j+1))
  case measure=>omega
  case rel=>
   exact⟨j+1,S7,by go_num,by rw[HYJ.o],by omega,by rw[HYJ.o];exact HM7.o,HG7.o,HJ7.o,HN7.o,P67.o,P77.o,rfl⟩
 have hje:j=t:=by omega
 subst hje;have P6a:=P61.o.box.c0;have P6b:=P61.o.box.c1;have P6l:=P61.o.box.lt;have P6f:=P61.o.box.free 0;have P6g:=P61.o.box.free 1;have P7a:=P71.o.box.c0;have P7b:=P71.o.box.c1;have P7l:=P71.o.box.lt;have HST:=qa (P61.o.box.set np mp);clear r1 r2 r3 r4 hro;go_wp2;refine cI rfl rfl rfl HST.o.1.load ?_;exact⟨rfl,Sr,HM1.o.keep HST.o.2 P61.o.no (by omega),HG1.o.new HST.o.2 (by omega)⟩):P:=h
theorem ZmG1{P:Prop}(h:P:=by
 go_wp2_with(refine bK rfl 98 _ _ rfl 0 98 p5 8 8 rfl (ndV x) rfl (by kernel_rfl) _ O5.o (qb 8) (wR x) ?_;intro wF hF hgF;have HF:=qa hF;have HGF:=qa hgF;clear hF hgF)
 have CF:Hid (Below wr.heap.size wr wF):=qa (CZ.o.grown HGF.o CZ.o.size (fun j hj=>by cases hj;omega));refine⟨aJ CF.o,?_⟩;have O6F:=qa (O6.o.keep HGF.o (.inr (fun e=>h56 (qr e).symm)));have OPF:=qa (OP.o.keepP HGF.o (fun z hz e=>hk5 z hz (qr e).symm) (fun e=>qdB (qr e).symm));obtain⟨ou,cu,gu,hu,-⟩:=OPF.o.own.cases;obtain⟨lu,hlu⟩:∃lu,lu=vs.length:=⟨_,rfl⟩;rw[<-hlu]at hu;subst hu;have HST:=qa (O6F.o.store 0 (.slice ou lu cu));have h6c:wF.cell? ⟨p6,0,none⟩=some (.slice none 0 0):=O6F.o.cell (by simp);have h6f:=O6F.o.free 0;have h6l:=O6F.o.blk.2;clear hlu;unfold aF
 (unfold aZ;simp only[pk])
 refine⟨?_,by unfold aZ;trivial⟩;unfold aF;go_wp2;have CG:Hid (Below wr.heap.size wr (wF.setCell ⟨p6,0,none⟩ (.slice ou lu cu))):=qa (CF.o.grown HST.o.2 CF.o.size (fun j hj=>by cases hj;omega));refine⟨aJ CG.o,?_⟩;unfold aF;unfold aZ;intro hz9 hz8;clear hz8 hz9;go_wp2
 go_meet
 case rel=>exact⟨p5,p6,.slice ou lu cu,vs,rfl,rfl,by omega,by omega,by have:=HF.o;exact this.keep HST.o.2 (.inr (fun e=>h56 (qr e))),HST.o.1,(OPF.o.keepP HST.o.2 (fun z hz e=>hk6 z hz (qr e).symm) (fun e=>by have:=qr e;omega)).monoP (by omega),CG.o⟩):P:=h
theorem ZmG2{P:Prop}(h:P:=by
 simp only[cnt]at hj;simp only[bO,qA,qj]at hrl;simp only[usz]at hel qdU htl;have hjl:j<kl:=by have:=HKC.o;omega
 have qdX:=fun W=>hix W j hjl;simp only[qD,qI]at qdX;obtain⟨u0,hu0⟩:∃u0,u0=vs.getD j undef:=⟨_,rfl⟩;have hoc:wr.cell? ⟨bo,j,none⟩=some u0:=by rw[hu0];have:=HK1.o.out.c j (by simp;rw[<-HKL.o];exact hjl);rw[this];simp[List.getD,qS]
 have hrj:eY wr b u0 (y::bO ky):=by
  rw[hu0];have:=HK1.o.rows j (by rw[dB];omega);rwa [<-HDN.o,<-hdl,show(dn++cQ (.cons y ky r')).getD dn.length []=y::bO ky by simp[List.getD,cQ],hdl]at this
 obtain⟨Y,hY⟩:∃Y,Y=eD y (fun s=>gP ky s) sj:=⟨_,rfl⟩;have hnk:=oX y (fun s=>gP ky s) (usz ky) (cnt ky) har.1 hwr.1 (nC ky hwr.2.1 har.2.1) sj;rw[<-hY]at hnk;have k1:=hnk.len;have k2:=hnk.rlen;have k4:=hnk.tot;simp only at k1 k2 k4;obtain⟨qf,hqf⟩:∃qf,qf=Y.1.f:=⟨_,rfl⟩;obtain⟨ql,hql⟩:∃ql,ql=Y.1.l:=⟨_,rfl⟩;have HTR:=qa (HIH.o wr Sr g q sj F u0 b y ky (by omega) hrj HK1.o.nb (by omega) hwr.1 hwr.2.1 har.1 har.2.1 HM1.o (by omega) (by omega) (by omega) qf ql (by rw[<-hY];exact hqf) (by rw[<-hY];exact hql));rw[<-hY]at HTR;have HPC:Hid (Y.1=⟨qf,ql⟩):=qa (by rw[hqf,hql]);have qha:Hid (gP k s=((ps++[Y.1])++(gP r' Y.2).1,(gP r' Y.2).2)):=qa (by rw[qfK.o,hY];simp[gP]);have HWR:=qa hwr.2.2;have HAR:=qa har.2.2;have HEL:Hid (Y.2.e.length+usz r'=s.e.length+usz k/\Y.2.r.length+usz r'=s.r.length+usz k/\tot Y.2.e+2*usz r'<=tot s.e+2*usz k):=qa ⟨by omega,by omega,by omega⟩;have qjQ:ps.length<=400:=by omega
 clear hix hu0 hrj hnk k1 k2 k4 hqf hql hwr har hY hel qdU htl
 go_wp2_with(first|((with_reducible go_at_call 25);refine HTR.o.mono ?_;rintro en w3 ⟨rfl,S3,hm3,hg3⟩;have HM3:=qa hm3;have HD3:=qa hg3;(have HG3:=qa (HG1.o.trans hg3));(have HK3:=qa (KJ.gw Sr wr S3 w3 (by rw[dB];omega) HK1.o hg3));(have P43:=qa (P41.o.gw hg3));(have HX3:=qa (HX1.o.gw hg3));(have HO3:=qa (eL.gw hg3 HO1.o HNO.o));(have qfV:=hg3.size);clear hm3 hg3)|(at_builtin;go_loud (refine eP 2 rfl (.tmp 73) (.tmp 77) 119 rfl wc.heap.size 80 (.agg #[.int .i64 0,.int .i64 0]) 16 underlying119 (by kernel_rfl) rfl (by decide) (by decide) u8 (ps.map pcC) rfl (HO3.o.up (aD w3 (.cells #[.int .i64 qf,.int .i64 ql] 80))) (.slice (some ⟨w3.heap.size,0,none⟩) 1 1) ([⟨qf,ql⟩].map pcC) rfl (by have:=tD 2 w3 #[.int .i64 qf,.int .i64 ql] 80 ([⟨qf,ql⟩].map pcC) (by simp[pcC]) (R6 _) (by simp);simpa using this) (R6 _) (by intro z hz;simp[pcC]at hz;rcases hz with rfl|rfl<;>rfl) (by simp only[qB,qE];omega) (qc qeR (qc qfV (aD _ _).size)) ?_;intro v' w5 hown1 hg5 hk5;have HO5:=qa hown1;have HG5:=qa hg5;have HK5:=qa hk5;clear hown1 hg5 hk5)))
 have hB3:=aD w3 (.cells #[.int .i64 qf,.int .i64 ql] 80);have hzb:∀z,u8.ownBlock=some z->wc.heap.size<=z/\z<wr.heap.size:=HO1.o.lt;have hzn:∀z,u8.ownBlock=some z->¬S3 z:=fun z hz=>HD3.o.out (hzb z hz).2 (HNO.o z hz);have hzq:∀z,u8.ownBlock=some z->z≠q:=fun z hz e=>by have:=(hzb z hz).1;have:=hgq.1;omega
 go_roundg (cnt k-(j+1))
 case measure=>omega
 case rel=>
  obtain⟨e1,e2,e3⟩:=HEL.o;have hw3:w.heap.size+2<=wc.heap.size:=by omega
  have qkA:=HK3.o.out.lt;refine⟨j+1,r',Y.2,ps++[Y.1],dn++[y::bO ky],S3,by go_num,by omega,HWR.o,HAR.o,by omega,by rw[<-HDN.o];simp[cQ],by simp[hdl],by simp[hpl],qha.o,e1,e2,e3,?_,?_,?_,?_,?_,?_,?_,?_,rfl⟩
  ·exact(HM3.o.up hB3).keepO HG5.o (fun z hz=>⟨hzn z hz,hzq z hz⟩)
  ·exact(HG3.o.up hB3).newO HG5.o (fun z hz=>by have:=(hzb z hz).1;omega)
  ·exact(KJ.up S3 w3 _ HK3.o hB3).keepO HG5.o (fun z hz=>by have:=(hzb z hz).1;refine⟨by omega,by omega,by omega,by omega⟩)
  ·exact(P43.o.up hB3).keepO HG5.o (fun z hz=>by have:=(hzb z hz).1;omega)
  ·exact(HX3.o.up hB3).keepO HG5.o (fun z hz=>by have:=(hzb z hz).1;omega)
  ·rw[qH,HPC.o];exact HO5.o
  ·intro z hz
   rcases HK5.o z hz with h|h
   ·exact hzn z h
   intro e;have h1:=HM3.o.lt e;have h2:=hB3.size;omega
  have:=hB3.size;have:=HG5.o.size;omega):P:=h
theorem ZmG3{P:Prop}(h:P:=by
 go_wp2_with((with_reducible go_at_call 58);refine HLO.o.mono ?_;rintro en w2 ⟨rfl,S2,hm2,hg2⟩;have HM2:=qa hm2;have HD2:=qa (HD1.o.trans hg2);clear hm2 hg2)
 refine⟨uH HD2.o.fx,?_⟩;have P41:=qa (P40.o.gw HD2.o);have HG1:=qa (HG0.o.trans HD2.o);have P4a:=P41.o.box.c0;have P4b:=P41.o.box.c1;have P4l:=P41.o.box.lt;have P4f:=P41.o.box.free 0;have P4g:=P41.o.box.free 1;have HST:=qa (P41.o.box.set n m);unfold aF;unfold aF;go_wp2;refine⟨trivial,?_⟩;unfold aF;go_wp2;refine cI rfl rfl rfl HST.o.1.load ?_;exact⟨rfl,S2,(by rw[HEZ.o];exact HM2.o:MkT w2 S2 g q Z.2 F).keep HST.o.2 P41.o.no (by omega),HG1.o.new HST.o.2 (by omega)⟩):P:=h
theorem ZmG4{P:Prop}(h:P:=by
 have HC7:Hid (∀c,c<2->w3.cell? ⟨p7,0+c,none⟩=some ((#[.int .i64 n,.int .i64 m]:Array Value).getD c undef)):=qa (fun c hcl=>by
  rw[qI];rcases(show c=0\/c=1 by omega)with rfl|rfl
  ·exact P73.o.box.c0
  exact P73.o.box.c1)
 have P4a:=P43.o.box.c0;have P4b:=P43.o.box.c1;have P4l:=P43.o.box.lt;have P4f:=P43.o.box.free 0;have P4g:=P43.o.box.free 1;have HST:=qa (P43.o.box.set n m)
 go_wp2_with(refine aH rfl 80 _ rfl p7 0 2 rfl _ _ HC7.o rfl underlying80 rfl (by kernel_rfl) ?_)
 refine cI rfl rfl rfl HST.o.1.load ?_;exact⟨rfl,_,HM3.o.keep HST.o.2 P43.o.no (by omega),HG3.o.new HST.o.2 (by omega)⟩):P:=h
theorem ZmG5{P:Prop}(h:P:=by
 go_wp2_with(refine aH rfl 114 _ rfl bi (fi+j*6) 6 rfl _ _ HCD.o rfl underlying114 rfl (by kernel_rfl) ?_)
 go_roundg (ln-(j+1))
 case measure=>omega
 case rel=>
  refine⟨j+1,by go_num,by omega,fun q hq=>?_,HB8.o,rfl⟩;by_cases hqj:q=j
  ·rw[hqj,<-HED.o];exact HOK.o
  exact HAJ.o q (by omega)):P:=h
theorem ZmG6{P:Prop}(h:P:=by
 have HV:=qa (HFE.o (by unfold q0U;simp;omega))
 clear c1
 go_upto_region 12 with(refine aH rfl 114 _ rfl bi (fi+j*6) 6 rfl _ _ HCD.o rfl underlying114 rfl (by kernel_rfl) ?_)
 go_upto_region 13 with fail
 go_wp2;go_ret;exact⟨by rw[HV.o];rfl,aJ HB7.o⟩):P:=h
theorem ZmG7{P:Prop}(h:P:=by exact⟨0,k,s,[],[],S,rfl,by omega,hwk,hak,qb _,rfl,rfl,rfl,by simp,rfl,rfl,qb _,HM0.o,HG0.o,HKJ.o,P40.o,HX0.o,eL.nil _ _ _ _,(fun z hz=>by cases hz),qb _,rfl⟩):P:=h
theorem ZmG8{P:Prop}(h:P:=by refine⟨0,Sx,rfl,?_,qd _,HMX.o.up (aE _ _),HGX.o.up (aE _ _),hJb _ _ _ HJX.o (aE _ _),HNX.o.up (aE _ _),P6X.o.up (aE _ _),P7X.o.up (aE _ _),rfl⟩;rw[qfr]):P:=h
theorem ZmG9{P:Prop}(h:P:=by
 have HV:=qa (HFI.o (by
  cases hq:r9 m ri row with
  |false=>rfl
  |true=>have:=(HRW.o.1 hq).1;omega))
 go_wp2;go_ret;exact⟨by rw[HV.o];rfl,aJ HWW.o⟩):P:=h
structure A4(w:World)(S:Nat->Prop)(p:Nat)(C:Array Value):Prop where
 c:∀i,i<C.size->w.cell? ⟨p,i,none⟩=some (C.getD i undef)
 lt:p<w.heap.size
 no:¬S p
theorem A4.gw{S S1:Nat->Prop}{w w':World}{p:Nat}{C:Array Value}(h:A4 w S p C)(hg:Gw S w S1 w'):A4 w' S1 p C:=⟨fun i hi=>(hg.cell h.lt h.no).trans (h.c i hi),qe h.lt hg.size,hg.out h.lt h.no⟩
theorem A4.up{S:Nat->Prop}{w w':World}{p:Nat}{C:Array Value}(h:A4 w S p C)(hb:Below w.heap.size w w'):A4 w' S p C:=h.gw (d7 S hb)
theorem R7(w:World)(S:Nat->Prop)(C:Array Value)(E:TypeId)(hn:¬S w.heap.size):A4 (w.alloc (.cells C E)) S w.heap.size C:=⟨fun i hi=>by rw[World.cell?_alloc_new];simp[qS,hi],by simp,hn⟩
theorem wQ{w:World}{S:Nat->Prop}{p:Nat}{C:Array Value}(h:A4 w S p C)(n:Nat)(hn:C.size=n):∀c,c<n->w.cell? ⟨p,0+c,none⟩=some (C.getD c undef):=fun c hc=>by rw[qI];exact h.c c (by omega)
abbrev ndV(x:Nd):Array Value:=#[.int .i64 x.kd,.int .i64 x.n,.int .u64 x.a,.int .u64 x.b,.int .u64 x.c,.int .u64 x.d,.int .i64 x.lo,.int .i64 x.hi]
theorem q75{w:World}{S:Nat->Prop}{g q:Nat}{s:St}{F:Int}(J:(Nat->Prop)->World->Prop)(hJg:∀S w S' w',J S w->Gw S w S' w'->J S' w')(hJb:∀S w w',J S w->Below w.heap.size w w'->J S w')
  (k n a b c d lo hi:Int) (pa pb:Nat) (part:St->Pc×St) (u t:Nat) (htt:fA ⟨k,n,a,b,c,d,lo,hi⟩=t) (qeP:t<=30) (_hlo:0<=lo) (_hlo2:lo<=30) (_hhi: -1<=hi) (hp:∀s,Y2 s ([(part s).1],(part s).2) u 1)
  (qcW:∀(w1:World) (S1:Nat->Prop) (s1:St),MkT w1 S1 g q s1 F->J S1 w1->s1.e.length+u<=4000->s1.r.length+u<=4000->tot s1.e+2*u<=90000->∀n m:Nat,n=(part s1).1.f->m=(part s1).1.l->Calls prog 57 #[.pointer (some ⟨pa,0,none⟩),.pointer (some ⟨pb,0,none⟩)] w1 fun e w2=>e=.returned (.agg #[.int .i64 n,.int .i64 m])/\∃S2,MkT w2 S2 g q (part s1).2 F/\Gw S1 w1 S2 w2)
  (h:MkT w S g q s F) (hj0:J S w) (hl:s.e.length+2+t*u<=4000) (hr:s.r.length+2+t*u<=4000) (qdT:tot s.e+1+t*(2*u)<=90000) (np mp:Nat) (hl0:lo=0) (hnp:np=s.e.length) (hmp:mp=s.e.length+1):
  Calls prog 56 #[.pointer (some ⟨g,0,none⟩),.agg #[.int .i64 k,.int .i64 n,.int .u64 a,.int .u64 b,.int .u64 c,.int .u64 d,.int .i64 lo,.int .i64 hi],.func (.func 57) #[] #[.pointer (some ⟨pa,0,none⟩),.pointer (some ⟨pb,0,none⟩)]] w fun e w'=>e=.returned (.agg #[.int .i64 np,.int .i64 mp])/\∃S',MkT w' S' g q (dS ⟨k,n,a,b,c,d,lo,hi⟩ t (aN s) part (iff (decide (lo=0)) (bM (aN s).f (aN s).l) (two s)) t).2 F/\Gw S w S' w':=by
 have hgq:=h.gq;have hno:=h.no (qb _);have qdV:=h.no (jd _);have hAP:aN s=⟨np,mp⟩:=by rw[hnp,hmp];rfl
 have HRO:=qa (q1Q ⟨k,n,a,b,c,d,lo,hi⟩ t part u hp s);rw[hAP]at HRO⊢;have HPL:=qa hp;have HPT:=qa qcW;have HTM:Hid (∀w,Calls prog 82 #[.agg #[.int .i64 k,.int .i64 n,.int .u64 a,.int .u64 b,.int .u64 c,.int .u64 d,.int .i64 lo,.int .i64 hi]] w fun e w'=>e=.returned (.int .i64 (t:Nat))/\∃x,w'=ext w x):=qa (fun w=>by rw[<-htt];exact q4d k n a b c d lo hi);obtain⟨Y,hY⟩:∃Y:Nat->Nat×St,Y=dS ⟨k,n,a,b,c,d,lo,hi⟩ t ⟨np,mp⟩ part (iff (decide (lo=0)) (bM np mp) (two s)):=⟨_,rfl⟩;change Hid (∀i,q8V s u i (dS ⟨k,n,a,b,c,d,lo,hi⟩ t ⟨np,mp⟩ part (iff (decide (lo=0)) (bM np mp) (two s)) i))at HRO;change Calls _ _ _ _ fun e w'=>_/\∃S',MkT w' S' g q (dS ⟨k,n,a,b,c,d,lo,hi⟩ t ⟨np,mp⟩ part (iff (decide (lo=0)) (bM np mp) (two s)) t).2 F/\Gw S w S' w';rw[<-hY]at HRO⊢;have HY0:Hid (Y 0=(np,iff (decide (lo=0)) (bM np mp) (two s))):=qa (by rw[hY];rfl);have HYS:Hid (∀i,Y (i+1)=((part (Y i).2).1.l,iff (decide (hi<0/\i+1=t)) (bM (part (Y i).2).1.l (part (Y i).2).1.f) (iff (decide (lo<=i+1)) (bM (part (Y i).2).1.l mp) (bM (Y i).1 (part (Y i).2).1.f (part (Y i).2).2)))):=qa (fun i=>by rw[hY];rfl);have hA:Below w.heap.size w ((w.alloc (.cells #[.int .i64 k,.int .i64 n,.int .u64 a,.int .u64 b,.int .u64 c,.int .u64 d,.int .i64 lo,.int .i64 hi] 98)).alloc (.cells #[.int .i64 0,.int .i64 0] 80)):=(aD w _).trans ((aD _ _).mono (by simp));have HMA:=qa (h.up hA);have HGA:Hid (Gw S w S ((w.alloc (.cells #[.int .i64 k,.int .i64 n,.int .u64 a,.int .u64 b,.int .u64 c,.int .u64 d,.int .i64 lo,.int .i64 hi] 98)).alloc (.cells #[.int .i64 0,.int .i64 0] 80))):=qa (d7 S hA);have HJA:=qa (hJb _ _ _ hj0 hA);have HNA:Hid (A4 ((w.alloc (.cells #[.int .i64 k,.int .i64 n,.int .u64 a,.int .u64 b,.int .u64 c,.int .u64 d,.int .i64 lo,.int .i64 hi] 98)).alloc (.cells #[.int .i64 0,.int .i64 0] 80)) S w.heap.size #[.int .i64 k,.int .i64 n,.int .u64 a,.int .u64 b,.int .u64 c,.int .u64 d,.int .i64 lo,.int .i64 hi]):=qa ((R7 w S _ 98 hno).up (aD _ _))
 have HPA:Hid (LB ((w.alloc (.cells #[.int .i64 k,.int .i64 n,.int .u64 a,.int .u64 b,.int .u64 c,.int .u64 d,.int .i64 lo,.int .i64 hi] 98)).alloc (.cells #[.int .i64 0,.int .i64 0] 80)) S (w.heap.size+1) 0 0):=qa ⟨by
  have h:=fO (w.alloc (.cells #[.int .i64 k,.int .i64 n,.int .u64 a,.int .u64 b,.int .u64 c,.int .u64 d,.int .i64 lo,.int .i64 hi] 98)) 0 0;simpa using h,qdV⟩
 have HAR:=qa (wP HMA.o (by omega) (by omega) np mp hnp hmp);have HBD:Hid (s.e.length=np/\tot s.e+1+t*(2*u)<=90000/\s.e.length+2+t*u<=4000/\s.r.length+2+t*u<=4000):=qa ⟨hnp.symm,qdT,hl,hr⟩;have T2:=r5 s;have L2:=m5 s;obtain⟨s0,hs0⟩:∃s0,s0=two s:=⟨_,rfl⟩;rw[<-hs0]at T2 L2 HAR HY0;have qjJ:s0.e.length<=4000:=by omega
 have qhP:np<s0.e.length:=by omega
 have qjI:tot s0.e<=90000:=by omega
 have qcH:w.heap.size+2<=((w.alloc (.cells #[.int .i64 k,.int .i64 n,.int .u64 a,.int .u64 b,.int .u64 c,.int .u64 d,.int .i64 lo,.int .i64 hi] 98)).alloc (.cells #[.int .i64 0,.int .i64 0] 80)).heap.size:=by simp
 clear h hp qcW htt hY hAP hA hj0 hl hr qdT hnp hmp hs0 T2 L2;have hld:decide (lo=0)=true:=by simpa using hl0
 rw[hld]at HY0;simp only[iff,jJ]at HY0;have hlb:(lo==0)=true:=by simpa using hl0
 clear hl0 hld;go_enter func56,ntmps56
 go_wp2_with((with_reducible go_at_call 55);refine HAR.o.mono ?_;rintro en w1 ⟨rfl,S1,hm1,hg1⟩;have HM1:=qa hm1;have HG1:=qa (HGA.o.trans hg1);have HJ1:=qa (hJg _ _ _ _ HJA.o hg1);have HN1:=qa (HNA.o.gw hg1);have P61:=qa (HPA.o.gw hg1);(have qd9:=qc qcH hg1.size);clear hm1 hg1;(have hn6:w1.cell? ⟨w.heap.size,6,none⟩=some (.int .i64 lo):=HN1.o.c 6 (show 6<8 by decide));have qcA:=HN1.o.lt)
 have HM2:=qa (HM1.o.up (aD w1 (.cells #[.int .i64 np,.int .i64 mp] 80)));have HJ2:=qa (hJb _ _ _ HJ1.o (aD w1 (.cells #[.int .i64 np,.int .i64 mp] 80)));have HN2:=qa (HN1.o.up (aD w1 (.cells #[.int .i64 np,.int .i64 mp] 80)));have P62:=qa (P61.o.up (aD w1 (.cells #[.int .i64 np,.int .i64 mp] 80)));have P72:Hid (LB (w1.alloc (.cells #[.int .i64 np,.int .i64 mp] 80)) S1 w1.heap.size np mp):=qa ⟨fO w1 np mp,HM1.o.no (qb _)⟩;have HG2:=qa (HG1.o.up (aD w1 (.cells #[.int .i64 np,.int .i64 mp] 80)));clear HM1 HG1 HJ1 HN1 P61 hn6 qcA HMA HGA HJA HNA HPA HAR;generalize w1.heap.size=p7 at*;generalize w1.alloc (.cells #[.int .i64 np,.int .i64 mp] 80)=w2 at*;have hc4:=HM2.o.f4;have hgl:=HM2.o.glt;have P7a:=P72.o.box.c0;have P7b:=P72.o.box.c1;have P7l:=P72.o.box.lt;have hn6:w2.cell? ⟨w.heap.size,6,none⟩=some (.int .i64 lo):=HN2.o.c 6 (show 6<8 by decide);have hn7:w2.cell? ⟨w.heap.size,7,none⟩=some (.int .i64 hi):=HN2.o.c 7 (show 7<8 by decide);have qcA:=HN2.o.lt
 try go_wp2
 refine aR [0,1,2,3,4,5,6] [] [7] (by kernel_rfl) (by kernel_rfl) ?_;simp only[pk]
 repeat(go_big_quiet_step (fail))
 refine wpQuiet_nil ?_;unfold aF;unfold aF
 go_wp2_with((with_reducible go_at_call 53);refine(pV (HM2.o.up (aP _)) np mp qhP (by omega) (by omega)).mono ?_;rintro en w3 ⟨rfl,S3,hm,hg⟩;have HM3:=qa hm;have HG3:=qa ((HG2.o.up (aP _)).trans hg);have P73:=qa ((P72.o.up (aP _)).gw hg);have HN3:=qa ((HN2.o.up (aP _)).gw hg);have P63:=qa ((P62.o.up (aP _)).gw hg);have HJ3:=qa (hJg _ _ _ _ (hJb _ _ _ HJ2.o (aP _)) hg);clear hm hg)
 refine⟨trivial,?_⟩;unfold aF;clear hc4 hgl hn6 hn7 qcA P7a P7b P7l HM2 HG2 HJ2 P72 HN2 P62;have HMY:Hid (MkT w3 S3 g q (Y 0).2 F):=qa (by rw[HY0.o];exact HM3.o);generalize w3=wx at*;generalize S3=Sx at*;have HMX:=HMY;have HGX:=HG3;have HJX:=HJ3;have HNX:=HN3;have P6X:=P63;have P7X:=P73;clear HMY HG3 HJ3 HN3 P63 P73 HM3;have qfr:((Y 0).1:Int)=np:=by rw[HY0.o]
 clear hlb;have qeQ:=HGX.o.size;have P7a:=P7X.o.box.c0;have P7b:=P7X.o.box.c1;have P7l:=P7X.o.box.lt;have hn6:wx.cell? ⟨w.heap.size,6,none⟩=some (.int .i64 lo):=HNX.o.c 6 (show 6<8 by decide);have qcA:=HNX.o.lt
 go_wp2_with(first|(refine aH rfl 98 _ rfl w.heap.size 0 8 rfl _ _ (wQ HNX.o 8 rfl) rfl underlying98 rfl (by kernel_rfl) ?_)|((with_reducible go_at_call 82);refine(HTM.o _).mono ?_;rintro en' w' ⟨rfl,x5,rfl⟩))
 go_loopg [8,28] t (fun gk av iv wr=>∃(j:Nat) (Sr:Nat->Prop),iv=.int .i64 j/\av=.int .i64 ((Y j).1:Nat)/\j<=t/\MkT wr Sr g q (Y j).2 F/\Gw S w Sr wr/\J Sr wr/\A4 wr Sr w.heap.size #[.int .i64 k,.int .i64 n,.int .u64 a,.int .u64 b,.int .u64 c,.int .u64 d,.int .i64 lo,.int .i64 hi]/\LB wr Sr (w.heap.size+1) 0 0/\LB wr Sr p7 np mp/\gk=t-j)
 case atStart=>
  exact ZmG8
 case round=>
  exact ZmG0
theorem q76{w:World}{S:Nat->Prop}{g q:Nat}{s:St}{F:Int}(J:(Nat->Prop)->World->Prop)(hJg:∀S w S' w',J S w->Gw S w S' w'->J S' w')(hJb:∀S w w',J S w->Below w.heap.size w w'->J S w')
  (k n a b c d lo hi:Int) (pa pb:Nat) (part:St->Pc×St) (u t:Nat) (htt:fA ⟨k,n,a,b,c,d,lo,hi⟩=t) (qeP:t<=30) (_hlo:0<=lo) (_hlo2:lo<=30) (_hhi: -1<=hi) (hp:∀s,Y2 s ([(part s).1],(part s).2) u 1)
  (qcW:∀(w1:World) (S1:Nat->Prop) (s1:St),MkT w1 S1 g q s1 F->J S1 w1->s1.e.length+u<=4000->s1.r.length+u<=4000->tot s1.e+2*u<=90000->∀n m:Nat,n=(part s1).1.f->m=(part s1).1.l->Calls prog 57 #[.pointer (some ⟨pa,0,none⟩),.pointer (some ⟨pb,0,none⟩)] w1 fun e w2=>e=.returned (.agg #[.int .i64 n,.int .i64 m])/\∃S2,MkT w2 S2 g q (part s1).2 F/\Gw S1 w1 S2 w2)
  (h:MkT w S g q s F) (hj0:J S w) (hl:s.e.length+2+t*u<=4000) (hr:s.r.length+2+t*u<=4000) (qdT:tot s.e+1+t*(2*u)<=90000) (np mp:Nat) (hl0:lo≠0) (hnp:np=s.e.length) (hmp:mp=s.e.length+1):
  Calls prog 56 #[.pointer (some ⟨g,0,none⟩),.agg #[.int .i64 k,.int .i64 n,.int .u64 a,.int .u64 b,.int .u64 c,.int .u64 d,.int .i64 lo,.int .i64 hi],.func (.func 57) #[] #[.pointer (some ⟨pa,0,none⟩),.pointer (some ⟨pb,0,none⟩)]] w fun e w'=>e=.returned (.agg #[.int .i64 np,.int .i64 mp])/\∃S',MkT w' S' g q (dS ⟨k,n,a,b,c,d,lo,hi⟩ t (aN s) part (iff (decide (lo=0)) (bM (aN s).f (aN s).l) (two s)) t).2 F/\Gw S w S' w':=by
 have hgq:=h.gq;have hno:=h.no (qb _);have qdV:=h.no (jd _);have hAP:aN s=⟨np,mp⟩:=by rw[hnp,hmp];rfl
 have HRO:=qa (q1Q ⟨k,n,a,b,c,d,lo,hi⟩ t part u hp s);rw[hAP]at HRO⊢;have HPL:=qa hp;have HPT:=qa qcW;have HTM:Hid (∀w,Calls prog 82 #[.agg #[.int .i64 k,.int .i64 n,.int .u64 a,.int .u64 b,.int .u64 c,.int .u64 d,.int .i64 lo,.int .i64 hi]] w fun e w'=>e=.returned (.int .i64 (t:Nat))/\∃x,w'=ext w x):=qa (fun w=>by rw[<-htt];exact q4d k n a b c d lo hi);obtain⟨Y,hY⟩:∃Y:Nat->Nat×St,Y=dS ⟨k,n,a,b,c,d,lo,hi⟩ t ⟨np,mp⟩ part (iff (decide (lo=0)) (bM np mp) (two s)):=⟨_,rfl⟩;change Hid (∀i,q8V s u i (dS ⟨k,n,a,b,c,d,lo,hi⟩ t ⟨np,mp⟩ part (iff (decide (lo=0)) (bM np mp) (two s)) i))at HRO;change Calls _ _ _ _ fun e w'=>_/\∃S',MkT w' S' g q (dS ⟨k,n,a,b,c,d,lo,hi⟩ t ⟨np,mp⟩ part (iff (decide (lo=0)) (bM np mp) (two s)) t).2 F/\Gw S w S' w';rw[<-hY]at HRO⊢;have HY0:Hid (Y 0=(np,iff (decide (lo=0)) (bM np mp) (two s))):=qa (by rw[hY];rfl);have HYS:Hid (∀i,Y (i+1)=((part (Y i).2).1.l,iff (decide (hi<0/\i+1=t)) (bM (part (Y i).2).1.l (part (Y i).2).1.f) (iff (decide (lo<=i+1)) (bM (part (Y i).2).1.l mp) (bM (Y i).1 (part (Y i).2).1.f (part (Y i).2).2)))):=qa (fun i=>by rw[hY];rfl);have hA:Below w.heap.size w ((w.alloc (.cells #[.int .i64 k,.int .i64 n,.int .u64 a,.int .u64 b,.int .u64 c,.int .u64 d,.int .i64 lo,.int .i64 hi] 98)).alloc (.cells #[.int .i64 0,.int .i64 0] 80)):=(aD w _).trans ((aD _ _).mono (by simp));have HMA:=qa (h.up hA);have HGA:Hid (Gw S w S ((w.alloc (.cells #[.int .i64 k,.int .i64 n,.int .u64 a,.int .u64 b,.int .u64 c,.int .u64 d,.int .i64 lo,.int .i64 hi] 98)).alloc (.cells #[.int .i64 0,.int .i64 0] 80))):=qa (d7 S hA);have HJA:=qa (hJb _ _ _ hj0 hA);have HNA:Hid (A4 ((w.alloc (.cells #[.int .i64 k,.int .i64 n,.int .u64 a,.int .u64 b,.int .u64 c,.int .u64 d,.int .i64 lo,.int .i64 hi] 98)).alloc (.cells #[.int .i64 0,.int .i64 0] 80)) S w.heap.size #[.int .i64 k,.int .i64 n,.int .u64 a,.int .u64 b,.int .u64 c,.int .u64 d,.int .i64 lo,.int .i64 hi]):=qa ((R7 w S _ 98 hno).up (aD _ _))
 have HPA:Hid (LB ((w.alloc (.cells #[.int .i64 k,.int .i64 n,.int .u64 a,.int .u64 b,.int .u64 c,.int .u64 d,.int .i64 lo,.int .i64 hi] 98)).alloc (.cells #[.int .i64 0,.int .i64 0] 80)) S (w.heap.size+1) 0 0):=qa ⟨by
  have h:=fO (w.alloc (.cells #[.int .i64 k,.int .i64 n,.int .u64 a,.int .u64 b,.int .u64 c,.int .u64 d,.int .i64 lo,.int .i64 hi] 98)) 0 0;simpa using h,qdV⟩
 have HAR:=qa (wP HMA.o (by omega) (by omega) np mp hnp hmp);have HBD:Hid (s.e.length=np/\tot s.e+1+t*(2*u)<=90000/\s.e.length+2+t*u<=4000/\s.r.length+2+t*u<=4000):=qa ⟨hnp.symm,qdT,hl,hr⟩;have T2:=r5 s;have L2:=m5 s;obtain⟨s0,hs0⟩:∃s0,s0=two s:=⟨_,rfl⟩;rw[<-hs0]at T2 L2 HAR HY0;have qjJ:s0.e.length<=4000:=by omega
 have qhP:np<s0.e.length:=by omega
 have qjI:tot s0.e<=90000:=by omega
 have qcH:w.heap.size+2<=((w.alloc (.cells #[.int .i64 k,.int .i64 n,.int .u64 a,.int .u64 b,.int .u64 c,.int .u64 d,.int .i64 lo,.int .i64 hi] 98)).alloc (.cells #[.int .i64 0,.int .i64 0] 80)).heap.size:=by simp
 clear h hp qcW htt hY hAP hA hj0 hl hr qdT hnp hmp hs0 T2 L2;have hld:decide (lo=0)=false:=by simpa using hl0
 rw[hld]at HY0;simp only[iff,qT,jt]at HY0;have hlb:(lo==0)=false:=by simpa using hl0
 clear hl0 hld;go_enter func56,ntmps56
 go_upto_region 5 with((with_reducible go_at_call 55);refine HAR.o.mono ?_;rintro en w1 ⟨rfl,S1,hm1,hg1⟩;have HM1:=qa hm1;have HG1:=qa (HGA.o.trans hg1);have HJ1:=qa (hJg _ _ _ _ HJA.o hg1);have HN1:=qa (HNA.o.gw hg1);have P61:=qa (HPA.o.gw hg1);(have qd9:=qc qcH hg1.size);clear hm1 hg1;(have hn6:w1.cell? ⟨w.heap.size,6,none⟩=some (.int .i64 lo):=HN1.o.c 6 (show 6<8 by decide));have qcA:=HN1.o.lt)
 have HM2:=qa (HM1.o.up (aD w1 (.cells #[.int .i64 np,.int .i64 mp] 80)));have HJ2:=qa (hJb _ _ _ HJ1.o (aD w1 (.cells #[.int .i64 np,.int .i64 mp] 80)));have HN2:=qa (HN1.o.up (aD w1 (.cells #[.int .i64 np,.int .i64 mp] 80)));have P62:=qa (P61.o.up (aD w1 (.cells #[.int .i64 np,.int .i64 mp] 80)));have P72:Hid (LB (w1.alloc (.cells #[.int .i64 np,.int .i64 mp] 80)) S1 w1.heap.size np mp):=qa ⟨fO w1 np mp,HM1.o.no (qb _)⟩;have HG2:=qa (HG1.o.up (aD w1 (.cells #[.int .i64 np,.int .i64 mp] 80)));clear HM1 HG1 HJ1 HN1 P61 hn6 qcA HMA HGA HJA HNA HPA HAR;generalize w1.heap.size=p7 at*;generalize w1.alloc (.cells #[.int .i64 np,.int .i64 mp] 80)=w2 at*;have HMY:Hid (MkT w2 S1 g q (Y 0).2 F):=qa (by rw[HY0.o];exact HM2.o);generalize w2=wx at*;generalize S1=Sx at*;have HMX:=HMY;have HGX:=HG2;have HJX:=HJ2;have HNX:=HN2;have P6X:=P62;have P7X:=P72;clear HMY HG2 HJ2 HN2 P62 P72 HM2;have qfr:((Y 0).1:Int)=np:=by rw[HY0.o]
 clear hlb;have qeQ:=HGX.o.size;have P7a:=P7X.o.box.c0;have P7b:=P7X.o.box.c1;have P7l:=P7X.o.box.lt;have hn6:wx.cell? ⟨w.heap.size,6,none⟩=some (.int .i64 lo):=HNX.o.c 6 (show 6<8 by decide);have qcA:=HNX.o.lt
 go_wp2_with(first|(refine aH rfl 98 _ rfl w.heap.size 0 8 rfl _ _ (wQ HNX.o 8 rfl) rfl underlying98 rfl (by kernel_rfl) ?_)|((with_reducible go_at_call 82);refine(HTM.o _).mono ?_;rintro en' w' ⟨rfl,x5,rfl⟩))
 go_loopg [8,28] t (fun gk av iv wr=>∃(j:Nat) (Sr:Nat->Prop),iv=.int .i64 j/\av=.int .i64 ((Y j).1:Nat)/\j<=t/\MkT wr Sr g q (Y j).2 F/\Gw S w Sr wr/\J Sr wr/\A4 wr Sr w.heap.size #[.int .i64 k,.int .i64 n,.int .u64 a,.int .u64 b,.int .u64 c,.int .u64 d,.int .i64 lo,.int .i64 hi]/\LB wr Sr (w.heap.size+1) 0 0/\LB wr Sr p7 np mp/\gk=t-j)
 case atStart=>
  exact ZmG8
 case round=>
  exact ZmG0
theorem yI.upP{w w':World}{B b:Nat}{u:Value}{vs:List Value}{tl:List (List Nd)}(h:yI w B b u vs tl)(hb:Below w.heap.size w w'):yI w' B b u vs tl:=⟨h.own.up hb,h.len,fun i hi=>(h.rows i hi).up hb⟩
theorem yI.keepP{w w':World}{B b:Nat}{u:Value}{vs:List Value}{tl:List (List Nd)}{row:Option Nat}(h:yI w B b u vs tl)(hg:w.grownBy w' row)(hu:∀z,u.ownBlock=some z->row≠some z)(hb:row≠some b):yI w' B b u vs tl:=
 ⟨h.own.keep hg (bN hu),h.len,fun i hi=>(h.rows i hi).gw (S:=fun k=>some k=row) (S1:=fun k=>some k=row) ⟨⟨hg.os,hg.tape,hg.output,hg.size,fun k hk hn=>hg.block k hk hn⟩,fun _ h=>.inl h⟩ (fun e=>hb e.symm)⟩
theorem yI.monoP{w:World}{B B' b:Nat}{u:Value}{vs:List Value}{tl:List (List Nd)}(h:yI w B b u vs tl)(hB:B'<=B):yI w B' b u vs tl:=⟨h.own.mono hB,h.len,h.rows⟩
theorem wR(x:Nd):∀u∈(ndV x).toList,u.oneCell'=true:=by
 intro u hu;simp at hu;rcases hu with rfl|rfl|rfl|rfl|rfl|rfl|rfl|rfl<;>rfl
noncomputable def wrt(S:Nat->Prop)(w x:World):World:=@ite _ (xS S w x) (Classical.propDecidable _) x w
theorem qae(S:Nat->Prop)(w x:World):xS S w (wrt S w x):=by
 unfold wrt;split
 ·assumption
 exact xS.refl _ _
theorem uH{S:Nat->Prop}{w x:World}(h:xS S w x):∃y,x=wrt S w y:=⟨x,by unfold wrt;rw[qw h]⟩
@[go_sem] theorem cell?_wrt(S:Nat->Prop)(w x:World)(b o:Nat)(h:b<w.heap.size)(hn:¬S b):(wrt S w x).cell? ⟨b,o,none⟩=w.cell? ⟨b,o,none⟩:=World.cell?_of_block (w:=w) ((qae S w x).block b h hn)
theorem A4.keepO{S:Nat->Prop}{w w':World}{p:Nat}{C:Array Value}(h:A4 w S p C){row:Option Nat}(hg:w.grownBy w' row)(hr:∀z,row=some z->z≠p):A4 w' S p C:=
 ⟨fun i hi=>(World.cell?_of_block (w:=w) (hg.block p h.lt (fun e=>hr p e.symm rfl))).trans (h.c i hi),qe h.lt hg.size,h.no⟩
theorem LB.keepO{S:Nat->Prop}{w w':World}{p:Nat}{f l:Int}(h:LB w S p f l){row:Option Nat}(hg:w.grownBy w' row)(hr:∀z,row=some z->z≠p):LB w' S p f l:=⟨h.box.keep hg (fun e=>hr p e rfl),h.no⟩
theorem eY.keepO{w w':World}{b:Nat}{v:Value}{l:List Nd}(h:eY w b v l){row:Option Nat}(hg:w.grownBy w' row)(hr:∀z,row=some z->z≠b):eY w' b v l:=
 h.gw (S:=fun k=>row=some k) (S1:=fun k=>row=some k) ⟨⟨hg.os,hg.tape,hg.output,hg.size,fun k hk hn=>hg.block k hk (fun e=>hn e.symm)⟩,fun _ h=>.inl h⟩ (fun e=>hr b e rfl)
theorem MkW.keepO{w w':World}{S:Nat->Prop}{g q:Nat}{ll:List (List Ed)}{rl:List Int}{F:Int}(h:MkW w S g q ll rl F){row:Option Nat}(hg:w.grownBy w' row)(hr:∀z,row=some z->¬S z/\z≠q):MkW w' S g q ll rl F:=by
 cases row with
 |none=>
  obtain⟨ve,vs,vr,h1,rfl⟩:=h;exact⟨ve,vs,vr,h1.keep hg (fun _ _ _ e=>by cases e),rfl⟩
 |some p=>exact h.keep hg (hr p rfl).1 (hr p rfl).2
theorem Gw.newO{S S1:Nat->Prop}{w w1 w2:World}(h:Gw S w S1 w1){row:Option Nat}(hg:w1.grownBy w2 row)(hr:∀z,row=some z->w.heap.size<=z):Gw S w S1 w2:=by
 cases row with
 |none=>exact h.trans (dQ hg (fun k e=>by cases e) (fun k h=>.inl h))
 |some p=>exact h.new hg (hr p rfl)
theorem eL.gw{S S1:Nat->Prop}{k:Nat}{w w1:World}(h:Gw S w S1 w1){B E:Nat}{v:Value}{l:List (List Value)}(ho:eL k w B E v l)(hv:∀z,v.ownBlock=some z->¬S z):eL k w1 B E v l:=by
 refine⟨⟨ho.1.1,ho.1.2.imp id ?_⟩,ho.2⟩;rintro⟨g,cap,cur,rfl,h2,h3,h4⟩;exact⟨g,cap,cur,rfl,h2,by rw[h.fx.block g (Array.getElem?_eq_some_iff.1 h3).1 (hv g rfl)];exact h3,h4⟩
theorem q94(x:Nd)(K:St->List Pc×St)(s:St)(h:x.kd=8):eD x K s=rY x (fun s=>eC (K s)) s:=by unfold eD;rw[qv (by omega),qw h]
theorem wS(x:Nd)(K:St->List Pc×St)(s:St)(h:x.kd=5\/x.kd=6\/x.kd=7):eD x K s=(aN (K s).2,m4 (decide (x.kd≠6)) (decide (x.kd≠7)) (eC (K s)).1 (K s).2):=by unfold eD;rw[qv (by omega),qv (by omega),qw h]
theorem q4n(x:Nd)(K:St->List Pc×St)(s:St)(h:x.kd=3):eD x K s=(sV (K s).1,fB (K s).1 (K s).1.length (K s).2):=by unfold eD;rw[qv (by omega),qv (by omega),qv (by omega),qw h]
theorem q4o(x:Nd)(K:St->List Pc×St)(s:St)(h:x.kd=4):eD x K s=(aN (K s).2,cS (aN (K s).2) (K s).1 (K s).1.length (two (K s).2)):=by unfold eD;rw[qv (by omega),qv (by omega),qv (by omega),qv (by omega)]
theorem q77(x:Nd)(u:Nat)(h:x.kd=8):d5 x u=2+(fA x).toNat*u:=by unfold d5;rw[qv (by omega),qv (by omega),qw h]
theorem yW(x:Nd)(u:Nat)(h:x.kd=4\/x.kd=5\/x.kd=6\/x.kd=7):d5 x u=u+2:=by unfold d5;rw[qv (by omega),qw h]
theorem q78(x:Nd)(u:Nat)(h:x.kd=3):d5 x u=u:=by unfold d5;rw[qv (by omega),qv (by omega),qv (by omega)]
structure KJ(g a p6 bo b:Nat)(u:Value)(vs:List Value)(tl:List (List Nd))(S:Nat->Prop)(w:World):Prop where
 va:A4 w S a #[.pointer (some ⟨g,0,none⟩)]
 vb:A4 w S p6 #[u]
 out:A4 w S bo vs.toArray
 nb:¬S b
 rows:∀i,i<tl.length->eY w b (vs.getD i undef) (tl.getD i [])
theorem KJ.gw{g a p6 bo b:Nat}{u:Value}{vs:List Value}{tl:List (List Nd)}(S:Nat->Prop)(w:World)(S':Nat->Prop)(w':World)(hp:0<tl.length)(h:KJ g a p6 bo b u vs tl S w)(hg:Gw S w S' w'):KJ g a p6 bo b u vs tl S' w':=
 ⟨h.va.gw hg,h.vb.gw hg,h.out.gw hg,hg.out (h.rows 0 hp).lt h.nb,fun i hi=>(h.rows i hi).gw hg h.nb⟩
theorem KJ.up{g a p6 bo b:Nat}{u:Value}{vs:List Value}{tl:List (List Nd)}(S:Nat->Prop)(w w':World)(h:KJ g a p6 bo b u vs tl S w)(hb:Below w.heap.size w w'):KJ g a p6 bo b u vs tl S w':=
 ⟨h.va.up hb,h.vb.up hb,h.out.up hb,h.nb,fun i hi=>(h.rows i hi).up hb⟩
theorem KJ.keepO{g a p6 bo b:Nat}{u:Value}{vs:List Value}{tl:List (List Nd)}{S:Nat->Prop}{w w':World}(h:KJ g a p6 bo b u vs tl S w){row:Option Nat}(hg:w.grownBy w' row)(h1:∀z,row=some z->z≠a/\z≠p6/\z≠bo/\z≠b):KJ g a p6 bo b u vs tl S w':=
 ⟨h.va.keepO hg (fun z hz=>(h1 z hz).1),h.vb.keepO hg (fun z hz=>(h1 z hz).2.1),h.out.keepO hg (fun z hz=>(h1 z hz).2.2.1),h.nb,fun i hi=>(h.rows i hi).keepO hg (fun z hz=>(h1 z hz).2.2.2)⟩
theorem qaf{g q a p6 bo b cu:Nat}{u0:Value}{vs:List Value}{y:Nd}{ky:Fo}{F:Int}
  (hT:∀(w:World) (S:Nat->Prop) (s:St),eY w b u0 (y::bO ky)->¬S b->MkT w S g q s F->s.e.length+d5 y (usz ky)<=4000->s.r.length+d5 y (usz ky)<=4000->tot s.e+2*d5 y (usz ky)<=90000->
   ∀n m:Nat,n=(eD y (fun s=>gP ky s) s).1.f->m=(eD y (fun s=>gP ky s) s).1.l->Calls prog 25 #[.pointer (some ⟨g,0,none⟩),u0] w fun e w'=>e=.returned (.agg #[.int .i64 n,.int .i64 m])/\∃S',MkT w' S' g q (eD y (fun s=>gP ky s) s).2 F/\Gw S w S' w')
  {w:World} {S:Nat->Prop} {s:St} (hj:KJ g a p6 bo b (.slice (some ⟨bo,0,none⟩) 1 cu) vs [y::bO ky] S w) (hvs:vs=[u0]) (hcu:1<=cu) (qde:cu<=maxLen) (h:MkT w S g q s F) (hl:s.e.length+d5 y (usz ky)<=4000) (hr:s.r.length+d5 y (usz ky)<=4000) (ht:tot s.e+2*d5 y (usz ky)<=90000)
  (n m:Nat) (hn:n=(eD y (fun s=>gP ky s) s).1.f) (hm:m=(eD y (fun s=>gP ky s) s).1.l):
  Calls prog 57 #[.pointer (some ⟨a,0,none⟩),.pointer (some ⟨p6,0,none⟩)] w fun e w'=>e=.returned (.agg #[.int .i64 n,.int .i64 m])/\∃S',MkT w' S' g q (eD y (fun s=>gP ky s) s).2 F/\Gw S w S' w':=by
 subst hvs;have hno:=h.no (qb _);have hgq:=h.gq;have hac:w.cell? ⟨a,0,none⟩=some (.pointer (some ⟨g,0,none⟩)):=hj.va.c 0 (show 0<1 by decide);have hal:=hj.va.lt;have h6c:w.cell? ⟨p6,0,none⟩=some (.slice (some ⟨bo,0,none⟩) 1 cu):=hj.vb.c 0 (show 0<1 by decide);have h6l:=hj.vb.lt;have hoc:w.cell? ⟨bo,0,none⟩=some u0:=hj.out.c 0 (show 0<1 by decide);have hol:=hj.out.lt;have hdo:Hd w (some ⟨bo,0,none⟩) 1 cu bo 0:=⟨fun _=>rfl,hcu,qde,by decide,fun _=>hol⟩
 have hix:∀W:World,(Instr.indexAt 22 (.slice (some ⟨bo,0,none⟩) 1 cu) (.int .i64 0)).run prog W=.ok (.pointer (some ⟨bo,0,none⟩)) W:=fun W=>by
  have:=fY hdo W .i64 0 (by omega) (by omega);simpa using this
 have hr0:eY w b u0 (y::bO ky):=hj.rows 0 (by simp);have hlW:Below w.heap.size w (w.alloc (.cells #[.int .i64 0,.int .i64 0] 80)).drew:=gQ (aD w _);have HCL:=qa (hT _ S s (hr0.up hlW) hj.nb (h.up hlW) hl hr ht n m hn hm);have HGW:=qa (d7 S hlW);have HPB:=qa ((LB.mk (fO w 0 0) hno:LB _ S w.heap.size 0 0).up (aP _));clear hT hj h hl hr ht hn hm hdo hr0 hlW;go_enter func57,ntmps57;go_wp2;refine aR [0,1,2,3] [] [4,5] (by kernel_rfl) (by kernel_rfl) ?_;simp only[pk]
 repeat(go_big_quiet_step (fail))
 refine wpQuiet_nil ?_;unfold aF;unfold aF
 go_wp2_with((with_reducible go_at_call 25);refine HCL.o.mono ?_;rintro en w1 ⟨rfl,S1,hm1,hg1⟩;have HM1:=qa hm1;have HG1:=qa (HGW.o.trans hg1);have HP1:=qa (HPB.o.gw hg1);clear hm1 hg1)
 refine⟨trivial,?_⟩;have P4a:=HP1.o.box.c0;have P4b:=HP1.o.box.c1;have P4l:=HP1.o.box.lt;have P4f:=HP1.o.box.free 0;have P4g:=HP1.o.box.free 1;have HST:=qa (HP1.o.box.set n m);unfold aF;go_wp2;refine⟨trivial,?_⟩;unfold aF;go_wp2;refine cI rfl rfl rfl HST.o.1.load ?_;exact⟨rfl,S1,HM1.o.keep HST.o.2 HP1.o.no (by omega),HG1.o.new HST.o.2 (qb _)⟩
theorem qbf(N:Nat):∀(w:World) (S:Nat->Prop) (g q:Nat) (s:St) (F:Int) (v:Value) (b:Nat) (x:Nd) (k:Fo),(bO k).length<N->eY w b v (x::bO k)->¬S b->(bO k).length<400->x.n=cnt k->wf k->okN x->mM okN k->MkT w S g q s F->s.e.length+d5 x (usz k)<=4000->s.r.length+d5 x (usz k)<=4000->tot s.e+2*d5 x (usz k)<=90000->
  ∀n m:Nat,n=(eD x (fun s=>gP k s) s).1.f->m=(eD x (fun s=>gP k s) s).1.l->Calls prog 25 #[.pointer (some ⟨g,0,none⟩),v] w fun e w'=>e=.returned (.agg #[.int .i64 n,.int .i64 m])/\∃S',MkT w' S' g q (eD x (fun s=>gP k s) s).2 F/\Gw S w S' w':=by
 induction N with
 |zero=>intro w S g q s F v b x k h;omega
 |succ N ih=>
 intro w S g q s F v b x k hN hnb hbS qdM hxn hwk hox hak h hl hr qdT n m hn hm;have HIH:=qa ih;have hno:=h.no (qb _);have qdV:=h.no (jd _);have hgq:=h.gq;have hA:Below w.heap.size w ((w.alloc (.cells #[.pointer (some ⟨g,0,none⟩)] 73)).alloc (.cells #[.int .i64 0,.int .i64 0] 80)):=(aD w _).trans ((aD _ _).mono (by simp));have HMA:=qa (h.up hA);have HGA:=qa (d7 S hA);have HNA:=qa (hnb.up hA);have HFA:=qa ((R7 w S #[.pointer (some ⟨g,0,none⟩)] 73 hno).up (aD _ (.cells #[.int .i64 0,.int .i64 0] 80)))
 have HPA:Hid (LB ((w.alloc (.cells #[.pointer (some ⟨g,0,none⟩)] 73)).alloc (.cells #[.int .i64 0,.int .i64 0] 80)) S (w.heap.size+1) 0 0):=qa ⟨by
  have h:=fO (w.alloc (.cells #[.pointer (some ⟨g,0,none⟩)] 73)) 0 0;simpa using h,qdV⟩
 have qjG:((w.alloc (.cells #[.pointer (some ⟨g,0,none⟩)] 73)).alloc (.cells #[.int .i64 0,.int .i64 0] 80)).heap.size=w.heap.size+2:=by simp
 have qkB:=hnb.lt;have HLY:=qa (nC k hwk hak);have HXN:=qa hxn;have HWK:=qa hwk;have HOX:=qa hox;have HAK:=qa hak;have HKD:=qa (q4c hox);have HN:=qa hn;have HMM:=qa hm;have HB:=qa (And.intro hl (And.intro hr qdT));obtain⟨Z,hZ⟩:∃Z,Z=(eD x (fun s=>gP k s) s):=⟨_,rfl⟩;have HZ:=qa hZ;rw[<-hZ]at HN HMM⊢;clear ih h hnb hxn hwk hox hak hn hm hl hr qdT hA hZ;go_enter func25,ntmps25
 go_upto_region 1 with fail
 generalize ((w.alloc (.cells #[.pointer (some ⟨g,0,none⟩)] 73)).alloc (.cells #[.int .i64 0,.int .i64 0] 80))=wr at*
 go_cut [5,6] (fun s5 s6 wx=>∃(p5 p6:Nat) (u:Value) (vs:List Value),s5=.pointer (some ⟨p5,0,none⟩)/\s6=.pointer (some ⟨p6,0,none⟩)/\wr.heap.size<=p5/\wr.heap.size<=p6/\Own wx 0 98 (.slice (some ⟨p5,0,none⟩) 8 8) (ndC x)/\Own wx 0 22 (.slice (some ⟨p6,0,none⟩) 1 1) [u]/\yI wx wr.heap.size b u vs (cQ k)/\Below wr.heap.size wr wx)
 case first=>
  obtain⟨oa,cap,b',off,rfl,hd,hc⟩:=HNA.o.at_.open
  have qew:∀W:World,(Instr.indexAt 42 (.slice oa (x::bO k).length cap) (.int .i64 0)).run prog W=.ok (.pointer (some ⟨b',off,none⟩)) W:=fun(W:World)=>by
   have:=fG hd W .i64 0 (by omega) (by simp);simpa using this
  have hbl:=hd.hblk (by simp)
  have HCQ:Hid (∀w',(∃y,w'=ext wr y)->∀c,c<8->w'.cell? ⟨b',off+c,none⟩=some ((ndV x).getD c undef)):=qa (by
   rintro w' ⟨y,rfl⟩ c hcl;rw[cell?_ext _ _ _ _ hbl];have:=hc 0 (by simp) c hcl;rw[Nat.zero_mul,jF,wN]at this;exact this)
  have hxl:(x::bO k).length<=400:=by simp;omega
  clear hd hc;generalize (x::bO k).length=ln at*;have C0:Hid (Below wr.heap.size wr wr.drew):=qa (aX wr 1);have hbr:b<wr.heap.size:=by omega
  clear qjG;refine hU (C:=fun w'=>∃x,w'=ext wr x) (.q 0 (.q 1 (.q 2 (.q 3 (.br 4 (.br 5 (.br 6 (.br 7 (.br 8 .done .no) .no) .no) (.br 6 (.br 5 (.br 7 (.br 8 .done .no) .no) .no) .no)) (.br 5 (.br 4 (.br 6 (.br 7 (.br 8 .done .no) .no) .no) (.br 6 (.br 4 (.br 7 (.br 8 .done .no) .no) .no) .no)) (.br 6 (.br 4 (.br 5 (.br 7 (.br 8 .done .no) .no) .no) (.br 5 (.br 4 (.br 7 (.br 8 .done .no) .no) .no) .no)) .no))))))) (by kernel_rfl) (by kernel_rfl) (aJ C0.o) ?_
  (unfold aZ;simp only[oA,qJ,ju,ja])
  repeat(go_big_quiet_step (fail))
  refine wpQuiet_nil ?_
  (unfold aZ;simp only[pk])
  repeat(go_big_quiet_step (fail))
  refine wpQuiet_nil ?_
  (unfold aZ;simp only[pk])
  repeat(first|(go_big_quiet_want;refine cB 98 8 _ rfl b' off rfl (ndV x) rfl HCQ.o _ underlying98 rfl (by kernel_rfl) ?_;go_simp;go_big_quiet_on)|go_big_quiet_step (fail))
  refine wpQuiet_nil ?_
  (unfold aZ;simp only[pk])
  repeat(go_big_quiet_step (fail))
  refine wpQuiet_nil ?_
  (unfold aZ;simp only[pk])
  refine⟨?_,?_⟩
  ·unfold aF
   go_wp2_with((with_reducible go_at_call 54);refine(q4l (HNA.o.up C0.o) qdM HXN.o HWK.o).mono ?_;rintro en w4 ⟨u,vs,rfl,hP,hbK⟩;have HPK:=qa hP;have B4:=qa hbK;have C4:=qa (fD C0.o hbK);have Z4:=qa hbK.size;clear hP hbK)
   refine⟨aJ C4.o,?_⟩;unfold aF
   (unfold aZ;simp only[pk])
   refine⟨?_,?_⟩
   ·unfold aF
    go_wp2;have F5:=qa ((by simpa using cN w4 0 #[.int .i64 0,.int .i64 0,.int .u64 0,.int .u64 0,.int .u64 0,.int .u64 0,.int .i64 0,.int .i64 0] 98 (by simp) (qd _):Own (w4.alloc (.cells #[.int .i64 0,.int .i64 0,.int .u64 0,.int .u64 0,.int .u64 0,.int .u64 0,.int .i64 0,.int .i64 0] 98)) 0 98 (.slice (some ⟨w4.heap.size,0,none⟩) 8 8) [.int .i64 0,.int .i64 0,.int .u64 0,.int .u64 0,.int .u64 0,.int .u64 0,.int .i64 0,.int .i64 0]));have B5:=qa (aD w4 (.cells #[.int .i64 0,.int .i64 0,.int .u64 0,.int .u64 0,.int .u64 0,.int .u64 0,.int .i64 0,.int .i64 0] 98));have C5:=qa (fD C4.o B5.o);refine⟨aJ C5.o,?_⟩;have Z5:Hid ((w4.alloc (.cells #[.int .i64 0,.int .i64 0,.int .u64 0,.int .u64 0,.int .u64 0,.int .u64 0,.int .i64 0,.int .i64 0] 98)).heap.size=(w4).heap.size+1):=qa (by simp);obtain⟨p5,hp5⟩:∃p5,p5=w4.heap.size:=⟨_,rfl⟩;have HP5:=qa hp5;rw[<-hp5]at⊢;rw[show w4.heap.size=p5 from hp5.symm]at F5;clear hp5;generalize w4.alloc (.cells #[.int .i64 0,.int .i64 0,.int .u64 0,.int .u64 0,.int .u64 0,.int .u64 0,.int .i64 0,.int .i64 0] 98)=w5 at*;unfold aF
    (unfold aZ;simp only[pk])
    refine⟨?_,?_⟩
    ·unfold aF
     go_wp2;have F6:=qa ((by simpa using cN w5 0 #[.slice none 0 0] 22 (by simp) (qd _):Own (w5.alloc (.cells #[.slice none 0 0] 22)) 0 22 (.slice (some ⟨w5.heap.size,0,none⟩) 1 1) [.slice none 0 0]));have B6:=qa (aD w5 (.cells #[.slice none 0 0] 22));have C6:=qa (fD C5.o B6.o);refine⟨aJ C6.o,?_⟩;have Z6:Hid ((w5.alloc (.cells #[.slice none 0 0] 22)).heap.size=(w5).heap.size+1):=qa (by simp);obtain⟨p6,hp6⟩:∃p6,p6=w5.heap.size:=⟨_,rfl⟩;have HP6:=qa hp6;rw[<-hp6]at⊢;rw[show w5.heap.size=p6 from hp6.symm]at F6;clear hp6;generalize w5.alloc (.cells #[.slice none 0 0] 22)=w6 at*;unfold aF
     (unfold aZ;simp only[pk])
     refine⟨?_,by unfold aZ;trivial⟩;unfold aF;have hkk:=HPK.o.own.lt;have q4:=Z4.o;have q5:=Z5.o;have q6:=Z6.o;have q7:=HP5.o;have q8:=HP6.o;have q9:wr.drew.heap.size=wr.heap.size:=rfl;have h5r:wr.heap.size<=p5:=by omega
     have h6r:wr.heap.size<=p6:=by omega
     have O5:=qa (F5.o.up B6.o);have O6:=qa F6.o;have OP:=qa (((HPK.o).upP B5.o).upP B6.o);have h56:p5≠p6:=by omega
     have hk5:∀z,u.ownBlock=some z->z≠p5:=fun z hz=>by have:=hkk z hz;omega
     have hk6:∀z,u.ownBlock=some z->z≠p6:=fun z hz=>by have:=hkk z hz;omega
     have hBk:wr.heap.size<=wr.drew.heap.size:=by omega
     have qdB:b≠p5:=by omega
     have qfn:b≠p6:=by omega
     clear q4 q5 q6 q7 q8 q9 hkk Z4 Z5 Z6 HP5 HP6;generalize w6=wz at*;have CZ:=C6
     exact ZmG1
    unfold aZ
    trivial
   (unfold aZ;simp only[pk])
   refine⟨?_,?_⟩
   ·unfold aF
    go_wp2;have F6:=qa ((by simpa using cN w4 0 #[.slice none 0 0] 22 (by simp) (qd _):Own (w4.alloc (.cells #[.slice none 0 0] 22)) 0 22 (.slice (some ⟨w4.heap.size,0,none⟩) 1 1) [.slice none 0 0]));have B6:=qa (aD w4 (.cells #[.slice none 0 0] 22));have C6:=qa (fD C4.o B6.o);refine⟨aJ C6.o,?_⟩;have Z6:Hid ((w4.alloc (.cells #[.slice none 0 0] 22)).heap.size=(w4).heap.size+1):=qa (by simp);obtain⟨p6,hp6⟩:∃p6,p6=w4.heap.size:=⟨_,rfl⟩;have HP6:=qa hp6;rw[<-hp6]at⊢;rw[show w4.heap.size=p6 from hp6.symm]at F6;clear hp6;generalize w4.alloc (.cells #[.slice none 0 0] 22)=w6 at*;unfold aF
    (unfold aZ;simp only[pk])
    refine⟨?_,?_⟩
    ·unfold aF
     go_wp2;have F5:=qa ((by simpa using cN w6 0 #[.int .i64 0,.int .i64 0,.int .u64 0,.int .u64 0,.int .u64 0,.int .u64 0,.int .i64 0,.int .i64 0] 98 (by simp) (qd _):Own (w6.alloc (.cells #[.int .i64 0,.int .i64 0,.int .u64 0,.int .u64 0,.int .u64 0,.int .u64 0,.int .i64 0,.int .i64 0] 98)) 0 98 (.slice (some ⟨w6.heap.size,0,none⟩) 8 8) [.int .i64 0,.int .i64 0,.int .u64 0,.int .u64 0,.int .u64 0,.int .u64 0,.int .i64 0,.int .i64 0]));have B5:=qa (aD w6 (.cells #[.int .i64 0,.int .i64 0,.int .u64 0,.int .u64 0,.int .u64 0,.int .u64 0,.int .i64 0,.int .i64 0] 98));have C5:=qa (fD C6.o B5.o);refine⟨aJ C5.o,?_⟩;have Z5:Hid ((w6.alloc (.cells #[.int .i64 0,.int .i64 0,.int .u64 0,.int .u64 0,.int .u64 0,.int .u64 0,.int .i64 0,.int .i64 0] 98)).heap.size=(w6).heap.size+1):=qa (by simp);obtain⟨p5,hp5⟩:∃p5,p5=w6.heap.size:=⟨_,rfl⟩;have HP5:=qa hp5;rw[<-hp5]at⊢;rw[show w6.heap.size=p5 from hp5.symm]at F5;clear hp5;generalize w6.alloc (.cells #[.int .i64 0,.int .i64 0,.int .u64 0,.int .u64 0,.int .u64 0,.int .u64 0,.int .i64 0,.int .i64 0] 98)=w5 at*;unfold aF
     (unfold aZ;simp only[pk])
     refine⟨?_,by unfold aZ;trivial⟩;unfold aF;have hkk:=HPK.o.own.lt;have q4:=Z4.o;have q5:=Z5.o;have q6:=Z6.o;have q7:=HP5.o;have q8:=HP6.o;have q9:wr.drew.heap.size=wr.heap.size:=rfl;have h5r:wr.heap.size<=p5:=by omega
     have h6r:wr.heap.size<=p6:=by omega
     have O5:=qa F5.o;have O6:=qa (F6.o.up B5.o);have OP:=qa (((HPK.o).upP B6.o).upP B5.o);have h56:p5≠p6:=by omega
     have hk5:∀z,u.ownBlock=some z->z≠p5:=fun z hz=>by have:=hkk z hz;omega
     have hk6:∀z,u.ownBlock=some z->z≠p6:=fun z hz=>by have:=hkk z hz;omega
     have hBk:wr.heap.size<=wr.drew.heap.size:=by omega
     have qdB:b≠p5:=by omega
     have qfn:b≠p6:=by omega
     clear q4 q5 q6 q7 q8 q9 hkk Z4 Z5 Z6 HP5 HP6;generalize w5=wz at*;have CZ:=C5
     exact ZmG1
    unfold aZ
    trivial
   unfold aZ
   trivial
  (unfold aZ;simp only[pk])
  refine⟨?_,?_⟩
  ·unfold aF
   go_wp2;have F5:=qa ((by simpa using cN wr 0 #[.int .i64 0,.int .i64 0,.int .u64 0,.int .u64 0,.int .u64 0,.int .u64 0,.int .i64 0,.int .i64 0] 98 (by simp) (qd _):Own (wr.alloc (.cells #[.int .i64 0,.int .i64 0,.int .u64 0,.int .u64 0,.int .u64 0,.int .u64 0,.int .i64 0,.int .i64 0] 98)) 0 98 (.slice (some ⟨wr.heap.size,0,none⟩) 8 8) [.int .i64 0,.int .i64 0,.int .u64 0,.int .u64 0,.int .u64 0,.int .u64 0,.int .i64 0,.int .i64 0]).up (aP _));have C5:Hid (Below wr.heap.size wr ((wr.alloc (.cells #[.int .i64 0,.int .i64 0,.int .u64 0,.int .u64 0,.int .u64 0,.int .u64 0,.int .i64 0,.int .i64 0] 98)).drew)):=qa (gQ (aD wr _));refine⟨aJ C5.o,?_⟩;have Z5:Hid (((wr.alloc (.cells #[.int .i64 0,.int .i64 0,.int .u64 0,.int .u64 0,.int .u64 0,.int .u64 0,.int .i64 0,.int .i64 0] 98)).drew).heap.size=(wr.drew).heap.size+1):=qa (by simp);obtain⟨p5,hp5⟩:∃p5,p5=wr.heap.size:=⟨_,rfl⟩;have HP5:=qa hp5;rw[<-hp5]at⊢;rw[show wr.heap.size=p5 from hp5.symm]at F5;clear hp5;generalize (wr.alloc (.cells #[.int .i64 0,.int .i64 0,.int .u64 0,.int .u64 0,.int .u64 0,.int .u64 0,.int .i64 0,.int .i64 0] 98)).drew=w5 at*;unfold aF
   (unfold aZ;simp only[pk])
   refine⟨?_,?_⟩
   ·unfold aF
    go_wp2_with((with_reducible go_at_call 54);refine(q4l (HNA.o.up C5.o) qdM HXN.o HWK.o).mono ?_;rintro en w4 ⟨u,vs,rfl,hP,hbK⟩;have HPK:=qa hP;have B4:=qa hbK;have C4:=qa (fD C5.o hbK);have Z4:=qa hbK.size;clear hP hbK)
    refine⟨aJ C4.o,?_⟩;unfold aF
    (unfold aZ;simp only[pk])
    refine⟨?_,?_⟩
    ·unfold aF
     go_wp2;have F6:=qa ((by simpa using cN w4 0 #[.slice none 0 0] 22 (by simp) (qd _):Own (w4.alloc (.cells #[.slice none 0 0] 22)) 0 22 (.slice (some ⟨w4.heap.size,0,none⟩) 1 1) [.slice none 0 0]));have B6:=qa (aD w4 (.cells #[.slice none 0 0] 22));have C6:=qa (fD C4.o B6.o);refine⟨aJ C6.o,?_⟩;have Z6:Hid ((w4.alloc (.cells #[.slice none 0 0] 22)).heap.size=(w4).heap.size+1):=qa (by simp);obtain⟨p6,hp6⟩:∃p6,p6=w4.heap.size:=⟨_,rfl⟩;have HP6:=qa hp6;rw[<-hp6]at⊢;rw[show w4.heap.size=p6 from hp6.symm]at F6;clear hp6;generalize w4.alloc (.cells #[.slice none 0 0] 22)=w6 at*;unfold aF
     (unfold aZ;simp only[pk])
     refine⟨?_,by unfold aZ;trivial⟩;unfold aF;have hkk:=HPK.o.own.lt;have q4:=Z4.o;have q5:=Z5.o;have q6:=Z6.o;have q7:=HP5.o;have q8:=HP6.o;have q9:wr.drew.heap.size=wr.heap.size:=rfl;have h5r:wr.heap.size<=p5:=by omega
     have h6r:wr.heap.size<=p6:=by omega
     have O5:=qa ((F5.o.up B4.o).up B6.o);have O6:=qa F6.o;have OP:=qa ((HPK.o).upP B6.o);have h56:p5≠p6:=by omega
     have hk5:∀z,u.ownBlock=some z->z≠p5:=fun z hz=>by have:=hkk z hz;omega
     have hk6:∀z,u.ownBlock=some z->z≠p6:=fun z hz=>by have:=hkk z hz;omega
     have hBk:wr.heap.size<=w5.heap.size:=by omega
     have qdB:b≠p5:=by omega
     have qfn:b≠p6:=by omega
     clear q4 q5 q6 q7 q8 q9 hkk Z4 Z5 Z6 HP5 HP6;generalize w6=wz at*;have CZ:=C6
     exact ZmG1
    unfold aZ
    trivial
   (unfold aZ;simp only[pk])
   refine⟨?_,?_⟩
   ·unfold aF
    go_wp2;have F6:=qa ((by simpa using cN w5 0 #[.slice none 0 0] 22 (by simp) (qd _):Own (w5.alloc (.cells #[.slice none 0 0] 22)) 0 22 (.slice (some ⟨w5.heap.size,0,none⟩) 1 1) [.slice none 0 0]));have B6:=qa (aD w5 (.cells #[.slice none 0 0] 22));have C6:=qa (fD C5.o B6.o);refine⟨aJ C6.o,?_⟩;have Z6:Hid ((w5.alloc (.cells #[.slice none 0 0] 22)).heap.size=(w5).heap.size+1):=qa (by simp);obtain⟨p6,hp6⟩:∃p6,p6=w5.heap.size:=⟨_,rfl⟩;have HP6:=qa hp6;rw[<-hp6]at⊢;rw[show w5.heap.size=p6 from hp6.symm]at F6;clear hp6;generalize w5.alloc (.cells #[.slice none 0 0] 22)=w6 at*;unfold aF
    (unfold aZ;simp only[pk])
    refine⟨?_,?_⟩
    ·unfold aF
     go_wp2_with((with_reducible go_at_call 54);refine(q4l (HNA.o.up C6.o) qdM HXN.o HWK.o).mono ?_;rintro en w4 ⟨u,vs,rfl,hP,hbK⟩;have HPK:=qa hP;have B4:=qa hbK;have C4:=qa (fD C6.o hbK);have Z4:=qa hbK.size;clear hP hbK)
     refine⟨aJ C4.o,?_⟩;unfold aF
     (unfold aZ;simp only[pk])
     refine⟨?_,by unfold aZ;trivial⟩;unfold aF;have hkk:=HPK.o.own.lt;have q4:=Z4.o;have q5:=Z5.o;have q6:=Z6.o;have q7:=HP5.o;have q8:=HP6.o;have q9:wr.drew.heap.size=wr.heap.size:=rfl;have h5r:wr.heap.size<=p5:=by omega
     have h6r:wr.heap.size<=p6:=by omega
     have O5:=qa ((F5.o.up B6.o).up B4.o);have O6:=qa (F6.o.up B4.o);have OP:=qa (HPK.o);have h56:p5≠p6:=by omega
     have hk5:∀z,u.ownBlock=some z->z≠p5:=fun z hz=>by have:=hkk z hz;omega
     have hk6:∀z,u.ownBlock=some z->z≠p6:=fun z hz=>by have:=hkk z hz;omega
     have hBk:wr.heap.size<=w6.heap.size:=by omega
     have qdB:b≠p5:=by omega
     have qfn:b≠p6:=by omega
     clear q4 q5 q6 q7 q8 q9 hkk Z4 Z5 Z6 HP5 HP6;generalize w4=wz at*;have CZ:=C4
     exact ZmG1
    unfold aZ
    trivial
   unfold aZ
   trivial
  (unfold aZ;simp only[pk])
  refine⟨?_,?_⟩
  ·unfold aF
   go_wp2;have F6:=qa ((by simpa using cN wr 0 #[.slice none 0 0] 22 (by simp) (qd _):Own (wr.alloc (.cells #[.slice none 0 0] 22)) 0 22 (.slice (some ⟨wr.heap.size,0,none⟩) 1 1) [.slice none 0 0]).up (aP _));have C6:Hid (Below wr.heap.size wr ((wr.alloc (.cells #[.slice none 0 0] 22)).drew)):=qa (gQ (aD wr _));refine⟨aJ C6.o,?_⟩;have Z6:Hid (((wr.alloc (.cells #[.slice none 0 0] 22)).drew).heap.size=(wr.drew).heap.size+1):=qa (by simp);obtain⟨p6,hp6⟩:∃p6,p6=wr.heap.size:=⟨_,rfl⟩;have HP6:=qa hp6;rw[<-hp6]at⊢;rw[show wr.heap.size=p6 from hp6.symm]at F6;clear hp6;generalize (wr.alloc (.cells #[.slice none 0 0] 22)).drew=w6 at*;unfold aF
   (unfold aZ;simp only[pk])
   refine⟨?_,?_⟩
   ·unfold aF
    go_wp2_with((with_reducible go_at_call 54);refine(q4l (HNA.o.up C6.o) qdM HXN.o HWK.o).mono ?_;rintro en w4 ⟨u,vs,rfl,hP,hbK⟩;have HPK:=qa hP;have B4:=qa hbK;have C4:=qa (fD C6.o hbK);have Z4:=qa hbK.size;clear hP hbK)
    refine⟨aJ C4.o,?_⟩;unfold aF
    (unfold aZ;simp only[pk])
    refine⟨?_,?_⟩
    ·unfold aF
     go_wp2;have F5:=qa ((by simpa using cN w4 0 #[.int .i64 0,.int .i64 0,.int .u64 0,.int .u64 0,.int .u64 0,.int .u64 0,.int .i64 0,.int .i64 0] 98 (by simp) (qd _):Own (w4.alloc (.cells #[.int .i64 0,.int .i64 0,.int .u64 0,.int .u64 0,.int .u64 0,.int .u64 0,.int .i64 0,.int .i64 0] 98)) 0 98 (.slice (some ⟨w4.heap.size,0,none⟩) 8 8) [.int .i64 0,.int .i64 0,.int .u64 0,.int .u64 0,.int .u64 0,.int .u64 0,.int .i64 0,.int .i64 0]));have B5:=qa (aD w4 (.cells #[.int .i64 0,.int .i64 0,.int .u64 0,.int .u64 0,.int .u64 0,.int .u64 0,.int .i64 0,.int .i64 0] 98));have C5:=qa (fD C4.o B5.o);refine⟨aJ C5.o,?_⟩;have Z5:Hid ((w4.alloc (.cells #[.int .i64 0,.int .i64 0,.int .u64 0,.int .u64 0,.int .u64 0,.int .u64 0,.int .i64 0,.int .i64 0] 98)).heap.size=(w4).heap.size+1):=qa (by simp);obtain⟨p5,hp5⟩:∃p5,p5=w4.heap.size:=⟨_,rfl⟩;have HP5:=qa hp5;rw[<-hp5]at⊢;rw[show w4.heap.size=p5 from hp5.symm]at F5;clear hp5;generalize w4.alloc (.cells #[.int .i64 0,.int .i64 0,.int .u64 0,.int .u64 0,.int .u64 0,.int .u64 0,.int .i64 0,.int .i64 0] 98)=w5 at*;unfold aF
     (unfold aZ;simp only[pk])
     refine⟨?_,by unfold aZ;trivial⟩;unfold aF;have hkk:=HPK.o.own.lt;have q4:=Z4.o;have q5:=Z5.o;have q6:=Z6.o;have q7:=HP5.o;have q8:=HP6.o;have q9:wr.drew.heap.size=wr.heap.size:=rfl;have h5r:wr.heap.size<=p5:=by omega
     have h6r:wr.heap.size<=p6:=by omega
     have O5:=qa F5.o;have O6:=qa ((F6.o.up B4.o).up B5.o);have OP:=qa ((HPK.o).upP B5.o);have h56:p5≠p6:=by omega
     have hk5:∀z,u.ownBlock=some z->z≠p5:=fun z hz=>by have:=hkk z hz;omega
     have hk6:∀z,u.ownBlock=some z->z≠p6:=fun z hz=>by have:=hkk z hz;omega
     have hBk:wr.heap.size<=w6.heap.size:=by omega
     have qdB:b≠p5:=by omega
     have qfn:b≠p6:=by omega
     clear q4 q5 q6 q7 q8 q9 hkk Z4 Z5 Z6 HP5 HP6;generalize w5=wz at*;have CZ:=C5
     exact ZmG1
    unfold aZ
    trivial
   (unfold aZ;simp only[pk])
   refine⟨?_,?_⟩
   ·unfold aF
    go_wp2;have F5:=qa ((by simpa using cN w6 0 #[.int .i64 0,.int .i64 0,.int .u64 0,.int .u64 0,.int .u64 0,.int .u64 0,.int .i64 0,.int .i64 0] 98 (by simp) (qd _):Own (w6.alloc (.cells #[.int .i64 0,.int .i64 0,.int .u64 0,.int .u64 0,.int .u64 0,.int .u64 0,.int .i64 0,.int .i64 0] 98)) 0 98 (.slice (some ⟨w6.heap.size,0,none⟩) 8 8) [.int .i64 0,.int .i64 0,.int .u64 0,.int .u64 0,.int .u64 0,.int .u64 0,.int .i64 0,.int .i64 0]));have B5:=qa (aD w6 (.cells #[.int .i64 0,.int .i64 0,.int .u64 0,.int .u64 0,.int .u64 0,.int .u64 0,.int .i64 0,.int .i64 0] 98));have C5:=qa (fD C6.o B5.o);refine⟨aJ C5.o,?_⟩;have Z5:Hid ((w6.alloc (.cells #[.int .i64 0,.int .i64 0,.int .u64 0,.int .u64 0,.int .u64 0,.int .u64 0,.int .i64 0,.int .i64 0] 98)).heap.size=(w6).heap.size+1):=qa (by simp);obtain⟨p5,hp5⟩:∃p5,p5=w6.heap.size:=⟨_,rfl⟩;have HP5:=qa hp5;rw[<-hp5]at⊢;rw[show w6.heap.size=p5 from hp5.symm]at F5;clear hp5;generalize w6.alloc (.cells #[.int .i64 0,.int .i64 0,.int .u64 0,.int .u64 0,.int .u64 0,.int .u64 0,.int .i64 0,.int .i64 0] 98)=w5 at*;unfold aF
    (unfold aZ;simp only[pk])
    refine⟨?_,?_⟩
    ·unfold aF
     go_wp2_with((with_reducible go_at_call 54);refine(q4l (HNA.o.up C5.o) qdM HXN.o HWK.o).mono ?_;rintro en w4 ⟨u,vs,rfl,hP,hbK⟩;have HPK:=qa hP;have B4:=qa hbK;have C4:=qa (fD C5.o hbK);have Z4:=qa hbK.size;clear hP hbK)
     refine⟨aJ C4.o,?_⟩;unfold aF
     (unfold aZ;simp only[pk])
     refine⟨?_,by unfold aZ;trivial⟩;unfold aF;have hkk:=HPK.o.own.lt;have q4:=Z4.o;have q5:=Z5.o;have q6:=Z6.o;have q7:=HP5.o;have q8:=HP6.o;have q9:wr.drew.heap.size=wr.heap.size:=rfl;have h5r:wr.heap.size<=p5:=by omega
     have h6r:wr.heap.size<=p6:=by omega
     have O5:=qa (F5.o.up B4.o);have O6:=qa ((F6.o.up B5.o).up B4.o);have OP:=qa (HPK.o);have h56:p5≠p6:=by omega
     have hk5:∀z,u.ownBlock=some z->z≠p5:=fun z hz=>by have:=hkk z hz;omega
     have hk6:∀z,u.ownBlock=some z->z≠p6:=fun z hz=>by have:=hkk z hz;omega
     have hBk:wr.heap.size<=w5.heap.size:=by omega
     have qdB:b≠p5:=by omega
     have qfn:b≠p6:=by omega
     clear q4 q5 q6 q7 q8 q9 hkk Z4 Z5 Z6 HP5 HP6;generalize w4=wz at*;have CZ:=C4
     exact ZmG1
    unfold aZ
    trivial
   unfold aZ
   trivial
  unfold aZ
  trivial
 case rest=>
  obtain⟨p5,p6,u,vs,rfl,rfl,h5r,h6r,hn5,hn6,hpt,qcw⟩:=hcut;have HM0:=qa (HMA.o.up qcw);have HG0:=qa (HGA.o.up qcw);have HF0:=qa (HFA.o.up qcw);have P40:=qa (HPA.o.up qcw);have qi5:=HMA.o.no h5r;have qi4:=HMA.o.no h6r;have HX0:Hid (A4 wc S p5 (ndV x)):=qa ⟨fun i hi=>by rw[hn5.cell (by simpa[ndC]using hi),wN];rfl,hn5.blk.2,qi5⟩
  have H60:Hid (A4 wc S p6 #[u]):=qa ⟨fun i hi=>by
   obtain rfl:i=0:=by simpa using hi
   exact hn6.cell (by simp),hn6.blk.2,qi4⟩
  have HPT:=qa hpt;have HBE:=qa qcw;have HMR:=HMA;have qlF:=qcw.size;have qgo:w.heap.size+2<=wr.heap.size:=by omega
  clear HMA HGA HNA HFA HPA hn5 hn6 hpt qcw qi5 qi4;obtain⟨xk,xn,xa,xb,xc,xd,xl,xh⟩:=x;have hkd:=HKD.o
  try simp only at hkd
  rcases hkd with h|h|h|h|h|h|h|h
  all_goals subst h
  case inl=>
   have HZ2:Hid (Z=(aN s,oW ⟨1,xn,xa,xb,xc,xd,xl,xh⟩ s)):=qa (by rw[HZ.o];simp[eD]);have hn2:n=s.e.length:=by rw[HN.o,HZ2.o];rfl
   have hm2:m=s.e.length+1:=by rw[HMM.o,HZ2.o];rfl
   obtain⟨hb1,hb2,hb3⟩:=HB.o;simp only[d5]at hb1 hb2;have HAR:=qa (wP HM0.o (by omega) (by omega) n m hn2 hm2);have HN2:=qa hn2;have qh9:=qa hm2;have hnb:n<=4000:=by omega
   have hmb:m<=4001:=by omega
   clear hn2 hm2;have hkc:wc.cell? ⟨p5,0,none⟩=some (.int .i64 1):=HX0.o.c 0 (show 0<8 by decide);have hkl:=HX0.o.lt;have hac:wc.cell? ⟨w.heap.size,0,none⟩=some (.pointer (some ⟨g,0,none⟩)):=HF0.o.c 0 (show 0<1 by decide);have hal:=HF0.o.lt
   go_wp2_with((with_reducible go_at_call 55);refine HAR.o.mono ?_;rintro en w1 ⟨rfl,S1,hm1,hg1⟩;have HM1:=qa hm1;have HG1:=qa (HG0.o.trans hg1);have HF1:=qa (HF0.o.gw hg1);have HX1:=qa (HX0.o.gw hg1);have P41:=qa (P40.o.gw hg1);(have qd9:=hg1.size);clear hm1 hg1)
   have HM2:=qa (HM1.o.up (aD w1 (.cells #[.int .i64 n,.int .i64 m] 80)));have HG2:=qa (HG1.o.up (aD w1 (.cells #[.int .i64 n,.int .i64 m] 80)));have HF2:=qa (HF1.o.up (aD w1 (.cells #[.int .i64 n,.int .i64 m] 80)));have HX2:=qa (HX1.o.up (aD w1 (.cells #[.int .i64 n,.int .i64 m] 80)));have P42:=qa (P41.o.up (aD w1 (.cells #[.int .i64 n,.int .i64 m] 80)));have P72:Hid (LB (w1.alloc (.cells #[.int .i64 n,.int .i64 m] 80)) S1 w1.heap.size n m):=qa ⟨fO w1 n m,HM1.o.no (qb _)⟩;clear HM1 HG1 HF1 HX1 P41 HM0 HG0 HF0 HX0 P40 hkc hkl hac hal HAR;generalize w1.heap.size=p7 at*;generalize w1.alloc (.cells #[.int .i64 n,.int .i64 m] 80)=w2 at*;obtain⟨ve,vz,vr,hmk,hS1⟩:=HM2.o;have hvl:=hmk.len;have htl:=m5 s;rw[htl]at hvl;have hn2:=HN2.o;obtain⟨oa,cap,ge,rfl,hdo,-,hco,hfo,-⟩:=hmk.outer.cases;have hoa:=hdo.hat (by omega);subst hoa;have hix:=fun(W:World)=>aT (P:=prog) 33 112 underlying33 (by kernel_rfl) hdo W .i64 n (by omega) (by omega);simp only[qD,qI]at hix;have hcr:=hco n (by omega);have hfr:=hfo n (by omega);have qex:=hdo.hblk (by omega);have hc0:=hmk.c0;have hg2:=hmk.lt;have hac:w2.cell? ⟨w.heap.size,0,none⟩=some (.pointer (some ⟨g,0,none⟩)):=HF2.o.c 0 (show 0<1 by decide);have hal:=HF2.o.lt;have hk0:w2.cell? ⟨p5,0,none⟩=some (.int .i64 1):=HX2.o.c 0 (show 0<8 by decide);have hkl:=HX2.o.lt;have P7a:=P72.o.box.c0;have P7b:=P72.o.box.c1;have P7l:=P72.o.box.lt
   have HSC:Hid (∀w',(∃y,w'=ext w2 y)->∀c,c<4->w'.cell? ⟨p5,2+c,none⟩=some ((#[.int .u64 xa,.int .u64 xb,.int .u64 xc,.int .u64 xd]:Array Value).getD c undef)):=qa (by
    rintro w' ⟨y,rfl⟩ c hcl;rw[cell?_ext _ _ _ _ hkl];have:=HX2.o.c (2+c) (show 2+c<8 by omega);rw[this];rcases(show c=0\/c=1\/c=2\/c=3 by omega)with rfl|rfl|rfl|rfl<;>rfl)
   have HMK:=qa hmk;have hvz:vz.length<=10000:=by omega
   have HVN:Hid (n<(two s).e.length):=qa (by omega);have hlW:Below w2.heap.size w2 (w2.alloc (.cells #[.int .i64 m,.bool false,.int .u64 xa,.int .u64 xb,.int .u64 xc,.int .u64 xd] 114)).drew:=aO;have HX:=qa ((oU 6 w2 0 #[.int .i64 m,.bool false,.int .u64 xa,.int .u64 xb,.int .u64 xc,.int .u64 xd] 114 ([⟨m,false,xa,xb,xc,xd⟩].map edC) (by simp[edC]) (Q4 _) (by simp) (qd _)).up (aP _));have HLW:=qa hlW;have hlz:vz.length=n+2:=by omega
   rw[hlz]at hix HMK hvz hc0 hS1;clear hmk hdo hco hfo hvl htl hlW hn2 hlz;go_wp2;refine aR [0,1,2,3,4,5,6,7,8,9,10,11,12,13,14] [15,16] [17] (by kernel_rfl) (by kernel_rfl) ?_;simp only[pk]
   repeat(first|(go_big_quiet_want;refine cB 53 4 _ rfl p5 2 rfl #[.int .u64 xa,.int .u64 xb,.int .u64 xc,.int .u64 xd] rfl HSC.o _ underlying53 rfl (by kernel_rfl) ?_;go_simp;go_big_quiet_on)|go_big_quiet_step (fail))
   refine wpQuiet_nil ?_
   (unfold aF;go_wp2;refine⟨(aJ aO),?_⟩)
   (unfold aF;go_wp2;refine⟨(aJ aO),?_⟩)
   have HPU:=qa (HMK.o.setRow (r:=.slice (some ⟨w2.heap.size,0,none⟩) 1 1) (xs:=[⟨m,false,xa,xb,xc,xd⟩]) HVN.o HX.o (aK HLW.o _) (fun k hk=>.inr (Nat.le_of_eq (qr (show some w2.heap.size=some k from hk)))));have HGX:Hid (Gw S1 w2 (MkS g (.slice (some ⟨ge,0,none⟩) (n+2) cap) vr (vz.set n (.slice (some ⟨w2.heap.size,0,none⟩) 1 1))) ((w2.alloc (.cells #[.int .i64 m,.bool false,.int .u64 xa,.int .u64 xb,.int .u64 xc,.int .u64 xd] 114)).drew.setCell ⟨ge,n,none⟩ (.slice (some ⟨w2.heap.size,0,none⟩) 1 1))):=qa (by rw[hS1];exact HPU.o.2);have hZ3:Z.2=⟨(two s).e.set n [⟨m,false,xa,xb,xc,xd⟩],(two s).r⟩:=by rw[HZ2.o];simp[oW,dM,HN2.o,qh9.o]
   have HZ3:=qa hZ3;clear hZ3;unfold aF;unfold aF;go_wp2;refine⟨trivial,?_⟩;unfold aF;have HM3:Hid (MkT ((w2.alloc (.cells #[.int .i64 m,.bool false,.int .u64 xa,.int .u64 xb,.int .u64 xc,.int .u64 xd] 114)).drew.setCell ⟨ge,n,none⟩ (.slice (some ⟨w2.heap.size,0,none⟩) 1 1)) (MkS g (.slice (some ⟨ge,0,none⟩) (n+2) cap) vr (vz.set n (.slice (some ⟨w2.heap.size,0,none⟩) 1 1))) g q Z.2 F):=qa ⟨_,_,_,by rw[HZ3.o];exact HPU.o.1,rfl⟩;have HG3:=qa (HG2.o.trans HGX.o);have P43:=qa (P42.o.gw HGX.o);have P73:=qa (P72.o.gw HGX.o);have qeM:(w2.alloc (.cells #[.int .i64 m,.bool false,.int .u64 xa,.int .u64 xb,.int .u64 xc,.int .u64 xd] 114)).drew.setCell ⟨ge,n,none⟩ (.slice (some ⟨w2.heap.size,0,none⟩) 1 1)=((w2.setCell ⟨ge,n,none⟩ (.slice (some ⟨w2.heap.size,0,none⟩) 1 1)).alloc (.cells #[.int .i64 m,.bool false,.int .u64 xa,.int .u64 xb,.int .u64 xc,.int .u64 xd] 114)).drew:=by rw[World.setCell_drew,World.setCell_alloc_past _ _ _ _ qex]
   rw[qeM]at HM3 HG3 P43 P73;clear qeM;clear HMK HPU HGX HM2 HG2 HX HLW HF2 HX2 P42 P72 HSC hix hcr hfr qex hc0 hg2 hac hal hk0 hkl P7a P7b P7l hS1;generalize ((w2.setCell ⟨ge,n,none⟩ (.slice (some ⟨w2.heap.size,0,none⟩) 1 1)).alloc (.cells #[.int .i64 m,.bool false,.int .u64 xa,.int .u64 xb,.int .u64 xc,.int .u64 xd] 114)).drew=w3 at*
   exact ZmG4
  case inr.inl=>
   have HZ2:Hid (Z=(aN s,oW ⟨2,xn,xa,xb,xc,xd,xl,xh⟩ s)):=qa (by rw[HZ.o];simp[eD]);have hn2:n=s.e.length:=by rw[HN.o,HZ2.o];rfl
   have hm2:m=s.e.length+1:=by rw[HMM.o,HZ2.o];rfl
   obtain⟨hb1,hb2,hb3⟩:=HB.o;simp only[d5]at hb1 hb2;have HAR:=qa (wP HM0.o (by omega) (by omega) n m hn2 hm2);have HN2:=qa hn2;have qh9:=qa hm2;have hnb:n<=4000:=by omega
   have hmb:m<=4001:=by omega
   clear hn2 hm2;have hkc:wc.cell? ⟨p5,0,none⟩=some (.int .i64 2):=HX0.o.c 0 (show 0<8 by decide);have hkl:=HX0.o.lt;have hac:wc.cell? ⟨w.heap.size,0,none⟩=some (.pointer (some ⟨g,0,none⟩)):=HF0.o.c 0 (show 0<1 by decide);have hal:=HF0.o.lt
   go_wp2_with((with_reducible go_at_call 55);refine HAR.o.mono ?_;rintro en w1 ⟨rfl,S1,hm1,hg1⟩;have HM1:=qa hm1;have HG1:=qa (HG0.o.trans hg1);have HF1:=qa (HF0.o.gw hg1);have HX1:=qa (HX0.o.gw hg1);have P41:=qa (P40.o.gw hg1);(have qd9:=hg1.size);clear hm1 hg1)
   have HM2:=qa (HM1.o.up (aD w1 (.cells #[.int .i64 n,.int .i64 m] 80)));have HG2:=qa (HG1.o.up (aD w1 (.cells #[.int .i64 n,.int .i64 m] 80)));have HF2:=qa (HF1.o.up (aD w1 (.cells #[.int .i64 n,.int .i64 m] 80)));have HX2:=qa (HX1.o.up (aD w1 (.cells #[.int .i64 n,.int .i64 m] 80)));have P42:=qa (P41.o.up (aD w1 (.cells #[.int .i64 n,.int .i64 m] 80)));have P72:Hid (LB (w1.alloc (.cells #[.int .i64 n,.int .i64 m] 80)) S1 w1.heap.size n m):=qa ⟨fO w1 n m,HM1.o.no (qb _)⟩;clear HM1 HG1 HF1 HX1 P41 HM0 HG0 HF0 HX0 P40 hkc hkl hac hal HAR;generalize w1.heap.size=p7 at*;generalize w1.alloc (.cells #[.int .i64 n,.int .i64 m] 80)=w2 at*;obtain⟨ve,vz,vr,hmk,hS1⟩:=HM2.o;have hvl:=hmk.len;have htl:=m5 s;rw[htl]at hvl;have hn2:=HN2.o;obtain⟨oa,cap,ge,rfl,hdo,-,hco,hfo,-⟩:=hmk.outer.cases;have hoa:=hdo.hat (by omega);subst hoa;have hix:=fun(W:World)=>aT (P:=prog) 33 112 underlying33 (by kernel_rfl) hdo W .i64 n (by omega) (by omega);simp only[qD,qI]at hix;have hcr:=hco n (by omega);have hfr:=hfo n (by omega);have qex:=hdo.hblk (by omega);have hc0:=hmk.c0;have hg2:=hmk.lt;have hac:w2.cell? ⟨w.heap.size,0,none⟩=some (.pointer (some ⟨g,0,none⟩)):=HF2.o.c 0 (show 0<1 by decide);have hal:=HF2.o.lt;have hk0:w2.cell? ⟨p5,0,none⟩=some (.int .i64 2):=HX2.o.c 0 (show 0<8 by decide);have hkl:=HX2.o.lt;have P7a:=P72.o.box.c0;have P7b:=P72.o.box.c1;have P7l:=P72.o.box.lt
   have HSC:Hid (∀w',(∃y,w'=ext w2 y)->∀c,c<4->w'.cell? ⟨p5,2+c,none⟩=some ((#[.int .u64 xa,.int .u64 xb,.int .u64 xc,.int .u64 xd]:Array Value).getD c undef)):=qa (by
    rintro w' ⟨y,rfl⟩ c hcl;rw[cell?_ext _ _ _ _ hkl];have:=HX2.o.c (2+c) (show 2+c<8 by omega);rw[this];rcases(show c=0\/c=1\/c=2\/c=3 by omega)with rfl|rfl|rfl|rfl<;>rfl)
   have HMK:=qa hmk;have hvz:vz.length<=10000:=by omega
   have HVN:Hid (n<(two s).e.length):=qa (by omega);have hlW:Below w2.heap.size w2 (w2.alloc (.cells #[.int .i64 m,.bool true,.int .u64 xa,.int .u64 xb,.int .u64 xc,.int .u64 xd] 114)).drew:=aO;have HX:=qa ((oU 6 w2 0 #[.int .i64 m,.bool true,.int .u64 xa,.int .u64 xb,.int .u64 xc,.int .u64 xd] 114 ([⟨m,true,xa,xb,xc,xd⟩].map edC) (by simp[edC]) (Q4 _) (by simp) (qd _)).up (aP _));have HLW:=qa hlW;have hlz:vz.length=n+2:=by omega
   rw[hlz]at hix HMK hvz hc0 hS1;clear hmk hdo hco hfo hvl htl hlW hn2 hlz;go_wp2;refine aR [0,1,2,3,4,5,6,7,8,9,10,11,12,13,14] [15,16] [17] (by kernel_rfl) (by kernel_rfl) ?_;simp only[pk]
   repeat(first|(go_big_quiet_want;refine cB 53 4 _ rfl p5 2 rfl #[.int .u64 xa,.int .u64 xb,.int .u64 xc,.int .u64 xd] rfl HSC.o _ underlying53 rfl (by kernel_rfl) ?_;go_simp;go_big_quiet_on)|go_big_quiet_step (fail))
   refine wpQuiet_nil ?_
   (unfold aF;go_wp2;refine⟨(aJ aO),?_⟩)
   (unfold aF;go_wp2;refine⟨(aJ aO),?_⟩)
   have HPU:=qa (HMK.o.setRow (r:=.slice (some ⟨w2.heap.size,0,none⟩) 1 1) (xs:=[⟨m,true,xa,xb,xc,xd⟩]) HVN.o HX.o (aK HLW.o _) (fun k hk=>.inr (Nat.le_of_eq (qr (show some w2.heap.size=some k from hk)))));have HGX:Hid (Gw S1 w2 (MkS g (.slice (some ⟨ge,0,none⟩) (n+2) cap) vr (vz.set n (.slice (some ⟨w2.heap.size,0,none⟩) 1 1))) ((w2.alloc (.cells #[.int .i64 m,.bool true,.int .u64 xa,.int .u64 xb,.int .u64 xc,.int .u64 xd] 114)).drew.setCell ⟨ge,n,none⟩ (.slice (some ⟨w2.heap.size,0,none⟩) 1 1))):=qa (by rw[hS1];exact HPU.o.2);have hZ3:Z.2=⟨(two s).e.set n [⟨m,true,xa,xb,xc,xd⟩],(two s).r⟩:=by rw[HZ2.o];simp[oW,dM,HN2.o,qh9.o]
   have HZ3:=qa hZ3;clear hZ3;unfold aF;unfold aF;go_wp2;refine⟨trivial,?_⟩;unfold aF;have HM3:Hid (MkT ((w2.alloc (.cells #[.int .i64 m,.bool true,.int .u64 xa,.int .u64 xb,.int .u64 xc,.int .u64 xd] 114)).drew.setCell ⟨ge,n,none⟩ (.slice (some ⟨w2.heap.size,0,none⟩) 1 1)) (MkS g (.slice (some ⟨ge,0,none⟩) (n+2) cap) vr (vz.set n (.slice (some ⟨w2.heap.size,0,none⟩) 1 1))) g q Z.2 F):=qa ⟨_,_,_,by rw[HZ3.o];exact HPU.o.1,rfl⟩;have HG3:=qa (HG2.o.trans HGX.o);have P43:=qa (P42.o.gw HGX.o);have P73:=qa (P72.o.gw HGX.o);have qeM:(w2.alloc (.cells #[.int .i64 m,.bool true,.int .u64 xa,.int .u64 xb,.int .u64 xc,.int .u64 xd] 114)).drew.setCell ⟨ge,n,none⟩ (.slice (some ⟨w2.heap.size,0,none⟩) 1 1)=((w2.setCell ⟨ge,n,none⟩ (.slice (some ⟨w2.heap.size,0,none⟩) 1 1)).alloc (.cells #[.int .i64 m,.bool true,.int .u64 xa,.int .u64 xb,.int .u64 xc,.int .u64 xd] 114)).drew:=by rw[World.setCell_drew,World.setCell_alloc_past _ _ _ _ qex]
   rw[qeM]at HM3 HG3 P43 P73;clear qeM;clear HMK HPU HGX HM2 HG2 HX HLW HF2 HX2 P42 P72 HSC hix hcr hfr qex hc0 hg2 hac hal hk0 hkl P7a P7b P7l hS1;generalize ((w2.setCell ⟨ge,n,none⟩ (.slice (some ⟨w2.heap.size,0,none⟩) 1 1)).alloc (.cells #[.int .i64 m,.bool true,.int .u64 xa,.int .u64 xb,.int .u64 xc,.int .u64 xd] 114)).drew=w3 at*
   exact ZmG4
  case inr.inr.inl=>
   have hvl:=HPT.o.len;rw[dB]at hvl;have hcp:0<vs.length:=by have h1:=HXN.o;have h2:=HOX.o;unfold okN at h2;simp only at h1 h2;omega
   obtain⟨ou,cu,bo,hu,hdo,hgo,hco,-,-⟩:=HPT.o.own.cases;have hou:=hdo.hat hcp;subst hou;obtain⟨qdx,qd0⟩:=hgo hcp;have hcu:=hdo.hcap;have qde:=hdo.hmax;have qd2:=hdo.hblk hcp;have qdo:=HMR.o.no qd0
   have KJ0:KJ g w.heap.size p6 bo b u vs (cQ k) S wc:=⟨HF0.o,H60.o,⟨fun i hi=>by
    have hi':i<vs.length:=by simpa using hi
    rw[hco i hi'];simp[List.getD,qS,hi'],qd2,qdo⟩,hbS,HPT.o.rows⟩
   have HKJ:=qa KJ0;clear KJ0;have hwk:=HWK.o;have hak:=HAK.o;obtain⟨hb1,hb2,hb3⟩:=HB.o;rw[q78 _ _ rfl]at hb1 hb2 hb3;have hix:=fun(W:World) (i:Nat) (hi:i<vs.length)=>fY hdo W .i64 i (by omega) (by omega);have h6c:wc.cell? ⟨p6,0,none⟩=some (.slice (some ⟨bo,0,none⟩) vs.length cu):=by rw[<-hu];exact H60.o.c 0 (show 0<1 by decide)
   have h6l:=H60.o.lt;have hkc:wc.cell? ⟨p5,0,none⟩=some (.int .i64 3):=HX0.o.c 0 (show 0<8 by decide);have qdH:=HX0.o.lt;have qkz:=qd2;have h6w:=h6l;have h5w:=qdH;have qgL:b<wc.heap.size:=by omega
   have HVL:=qa hvl;have hvB:vs.length<=400:=by have:=r0 k;omega
   have HLO:=qa (nC k hwk hak s);have HCS:=qa HZ.o;obtain⟨kl,hkl⟩:∃kl,kl=vs.length:=⟨_,rfl⟩;have HKL:=qa hkl;rw[<-hkl]at hix h6c hvB;clear hvl hcp hdo hgo hco qdx qd0 hcu qde hkl;go_wp2
   go_loopg [8,69] (cnt k) (fun gk ov iv wr=>∃(j:Nat) (r:Fo) (sj:St) (ps:List Pc) (dn:List (List Nd)) (Sr:Nat->Prop),iv=.int .i64 j/\j+cnt r=cnt k/\wf r/\mM okN r/\(bO r).length<=(bO k).length/\dn++cQ r=cQ k/\dn.length=j/\ps.length=j/\gP k s=(ps++(gP r sj).1,(gP r sj).2)/\sj.e.length+usz r=s.e.length+usz k/\sj.r.length+usz r=s.r.length+usz k/\tot sj.e+2*usz r<=tot s.e+2*usz k/\
     MkT wr Sr g q sj F/\Gw S w Sr wr/\KJ g w.heap.size p6 bo b u vs (cQ k) Sr wr/\LB wr Sr (w.heap.size+1) 0 0/\A4 wr Sr p5 (ndV ⟨3,xn,xa,xb,xc,xd,xl,xh⟩)/\eL 2 wr wc.heap.size 80 ov (ps.map pcC)/\(∀z,ov.ownBlock=some z->¬Sr z)/\wc.heap.size<=wr.heap.size/\gk=cnt k-j)
   case atStart=>
    exact ZmG7
   case round=>
    obtain⟨j,r,sj,ps,dn,Sr,rfl,hj,hwr,har,hrl,hdn,hdl,hpl,qdj,hel,qdU,htl,hm1,hg1,hkj,hp4,hx5,hov,qf5,qeR,rfl⟩:=hrel;have HM1:=qa hm1;have HG1:=qa hg1;have HK1:=qa hkj;have P41:=qa hp4;have HX1:=qa hx5;have HO1:=qa hov;have HNO:=qa qf5;have qfK:=qa qdj;have HDN:=qa hdn;have qd2:=HK1.o.out.lt;have qit:=HK1.o.va.lt;have qiC:wr.cell? ⟨p6,0,none⟩=some (.slice (some ⟨bo,0,none⟩) kl cu):=by rw[HKL.o,<-hu];exact HK1.o.vb.c 0 (show 0<1 by decide)
    have qiB:=HK1.o.vb.lt;have qis:wr.cell? ⟨w.heap.size,0,none⟩=some (.pointer (some ⟨g,0,none⟩)):=HK1.o.va.c 0 (show 0<1 by decide);have qfc:kl=cnt k:=by rw[HKL.o,HVL.o]
    have HKC:=qa qfc;clear qfc;clear hm1 hg1 hkj hp4 hx5 hov qf5 qdj hdn HM0 HG0 HF0 P40 HX0 H60 HKJ h6c h6l hkc qdH;cases r with
    |cons y ky r'=>
     exact ZmG2
    |nil=>
     have hje:j=cnt k:=by simpa[cnt]using hj
     have qdj:gP k s=(ps,sj):=by rw[qfK.o];simp[gP]
     have h2:2<=cnt k:=by have h1:=HXN.o;have h2:=HOX.o;unfold okN at h2;simp only at h1 h2;omega
     have qcL:0<ps.length:=by omega
     obtain⟨b8,off8,cap8,hps,hob⟩:=q1Z HO1.o qcL;have qf8:=HNO.o b8 hob;have hlo:=HLO.o;rw[qdj]at hlo;have hrg:∀i,i<ps.length->(ps.getD i zP).f<sj.e.length/\(ps.getD i zP).l<sj.e.length:=fun i hi=>hlo.rng i (by omega);simp only[usz,jF]at hel qdU htl;have qhU:ps.length<=400:=by have:=r0 k;omega
     have qhJ:wr.cell? ⟨p5,0,none⟩=some (.int .i64 3):=HX1.o.c 0 (show 0<8 by decide);have qhI:=HX1.o.lt;have hZe:Z=(sV ps,fB ps ps.length sj):=by rw[HZ.o,q4n _ _ _ rfl,qdj]
     have HCH:=qa (qad HM1.o (by omega) (by omega) hps qf8 hrg n m (by rw[HN.o,hZe]) (by rw[HMM.o,hZe]));have HEZ:Hid (Z.2=fB ps ps.length sj):=qa (by rw[hZe]);have qgB:=HKC.o;have hjk:((j:Int))=(kl:Int):=by omega
     clear qdj hlo hrg hZe hps hpl hdl hix hje qgB
     go_wp2_with((with_reducible go_at_call 59);refine HCH.o.mono ?_;rintro en w3 ⟨rfl,S3,hm3,hg3⟩;have HM3:=qa hm3;(have HG3:=qa (HG1.o.trans hg3));(have P43:=qa (P41.o.gw hg3));(have P4a:=P43.o.box.c0);(have P4b:=P43.o.box.c1);(have P4l:=P43.o.box.lt);(have P4f:=P43.o.box.free 0);(have P4g:=P43.o.box.free 1);clear hm3 hg3)
     have HST:=qa (P43.o.box.set n m);refine cI rfl rfl rfl HST.o.1.load ?_;exact⟨rfl,S3,(by rw[HEZ.o];exact HM3.o:MkT w3 S3 g q Z.2 F).keep HST.o.2 P43.o.no (by omega),HG3.o.new HST.o.2 (by omega)⟩
  case inr.inr.inr.inl=>
   have hvl:=HPT.o.len;rw[dB]at hvl;have hcp:0<vs.length:=by have h1:=HXN.o;have h2:=HOX.o;unfold okN at h2;simp only at h1 h2;omega
   obtain⟨ou,cu,bo,hu,hdo,hgo,hco,-,-⟩:=HPT.o.own.cases;have hou:=hdo.hat hcp;subst hou;obtain⟨qdx,qd0⟩:=hgo hcp;have hcu:=hdo.hcap;have qde:=hdo.hmax;have qd2:=hdo.hblk hcp;have qdo:=HMR.o.no qd0
   have KJ0:KJ g w.heap.size p6 bo b u vs (cQ k) S wc:=⟨HF0.o,H60.o,⟨fun i hi=>by
    have hi':i<vs.length:=by simpa using hi
    rw[hco i hi'];simp[List.getD,qS,hi'],qd2,qdo⟩,hbS,HPT.o.rows⟩
   have HKJ:=qa KJ0;clear KJ0;have hwk:=HWK.o;have hak:=HAK.o;obtain⟨hb1,hb2,hb3⟩:=HB.o;rw[yW _ _ (.inl rfl)]at hb1 hb2 hb3;have hix:=fun(W:World) (i:Nat) (hi:i<vs.length)=>fY hdo W .i64 i (by omega) (by omega);have h6c:wc.cell? ⟨p6,0,none⟩=some (.slice (some ⟨bo,0,none⟩) vs.length cu):=by rw[<-hu];exact H60.o.c 0 (show 0<1 by decide)
   have h6l:=H60.o.lt;have hkc:wc.cell? ⟨p5,0,none⟩=some (.int .i64 4):=HX0.o.c 0 (show 0<8 by decide);have qdH:=HX0.o.lt;have qkz:=qd2;have h6w:=h6l;have h5w:=qdH;have qgL:b<wc.heap.size:=by omega
   have HVL:=qa hvl;have hvB:vs.length<=400:=by have:=r0 k;omega
   have HLO:=qa (nC k hwk hak s);have HCS:=qa HZ.o;obtain⟨kl,hkl⟩:∃kl,kl=vs.length:=⟨_,rfl⟩;have HKL:=qa hkl;rw[<-hkl]at hix h6c hvB;clear hvl hcp hdo hgo hco qdx qd0 hcu qde hkl;go_wp2
   go_loopg [8,69] (cnt k) (fun gk ov iv wr=>∃(j:Nat) (r:Fo) (sj:St) (ps:List Pc) (dn:List (List Nd)) (Sr:Nat->Prop),iv=.int .i64 j/\j+cnt r=cnt k/\wf r/\mM okN r/\(bO r).length<=(bO k).length/\dn++cQ r=cQ k/\dn.length=j/\ps.length=j/\gP k s=(ps++(gP r sj).1,(gP r sj).2)/\sj.e.length+usz r=s.e.length+usz k/\sj.r.length+usz r=s.r.length+usz k/\tot sj.e+2*usz r<=tot s.e+2*usz k/\
     MkT wr Sr g q sj F/\Gw S w Sr wr/\KJ g w.heap.size p6 bo b u vs (cQ k) Sr wr/\LB wr Sr (w.heap.size+1) 0 0/\A4 wr Sr p5 (ndV ⟨4,xn,xa,xb,xc,xd,xl,xh⟩)/\eL 2 wr wc.heap.size 80 ov (ps.map pcC)/\(∀z,ov.ownBlock=some z->¬Sr z)/\wc.heap.size<=wr.heap.size/\gk=cnt k-j)
   case atStart=>
    exact ZmG7
   case round=>
    obtain⟨j,r,sj,ps,dn,Sr,rfl,hj,hwr,har,hrl,hdn,hdl,hpl,qdj,hel,qdU,htl,hm1,hg1,hkj,hp4,hx5,hov,qf5,qeR,rfl⟩:=hrel;have HM1:=qa hm1;have HG1:=qa hg1;have HK1:=qa hkj;have P41:=qa hp4;have HX1:=qa hx5;have HO1:=qa hov;have HNO:=qa qf5;have qfK:=qa qdj;have HDN:=qa hdn;have qd2:=HK1.o.out.lt;have qit:=HK1.o.va.lt;have qiC:wr.cell? ⟨p6,0,none⟩=some (.slice (some ⟨bo,0,none⟩) kl cu):=by rw[HKL.o,<-hu];exact HK1.o.vb.c 0 (show 0<1 by decide)
    have qiB:=HK1.o.vb.lt;have qis:wr.cell? ⟨w.heap.size,0,none⟩=some (.pointer (some ⟨g,0,none⟩)):=HK1.o.va.c 0 (show 0<1 by decide);have qfc:kl=cnt k:=by rw[HKL.o,HVL.o]
    have HKC:=qa qfc;clear qfc;clear hm1 hg1 hkj hp4 hx5 hov qf5 qdj hdn HM0 HG0 HF0 P40 HX0 H60 HKJ h6c h6l hkc qdH;cases r with
    |cons y ky r'=>
     exact ZmG2
    |nil=>
     have hje:j=cnt k:=by simpa[cnt]using hj
     have qdj:gP k s=(ps,sj):=by rw[qfK.o];simp[gP]
     have h2:2<=cnt k:=by have h1:=HXN.o;have h2:=HOX.o;unfold okN at h2;simp only at h1 h2;omega
     have qcL:0<ps.length:=by omega
     obtain⟨b8,off8,cap8,hps,hob⟩:=q1Z HO1.o qcL;have qf8:=HNO.o b8 hob;have hlo:=HLO.o;rw[qdj]at hlo;have hrg:∀i,i<ps.length->(ps.getD i zP).f<sj.e.length/\(ps.getD i zP).l<sj.e.length:=fun i hi=>hlo.rng i (by omega);simp only[usz,jF]at hel qdU htl;have qhU:ps.length<=400:=by have:=r0 k;omega
     have qhJ:wr.cell? ⟨p5,0,none⟩=some (.int .i64 4):=HX1.o.c 0 (show 0<8 by decide);have qhI:=HX1.o.lt;have hZe:Z=(aN sj,cS (aN sj) ps ps.length (two sj)):=by rw[HZ.o,q4o _ _ _ rfl,qdj]
     have hn2:n=sj.e.length:=by rw[HN.o,hZe];rfl
     have hm2:m=sj.e.length+1:=by rw[HMM.o,hZe];rfl
     have HAR:=qa (wP HM1.o (by omega) (by omega) n m hn2 hm2);have HEZ:Hid (Z.2=cS ⟨n,m⟩ ps ps.length (two sj)):=qa (by rw[hZe,hn2,hm2];rfl);have HRG:Hid (∀i,i<ps.length->(ps.getD i zP).f<(two sj).e.length/\(ps.getD i zP).l<(two sj).e.length):=qa (fun i hi=>by have:=hrg i hi;rw[m5];omega);have HBD:Hid (n<(two sj).e.length/\(two sj).e.length<=9000/\tot (two sj).e<=90000):=qa (by rw[m5,r5];omega);have HAL:=qa (iX ⟨n,m⟩ ps (two sj));have HAT:=qa (q14 ⟨n,m⟩ ps (two sj));have qgB:=HKC.o;have hjk:((j:Int))=(kl:Int):=by omega
     have qg8:=qa hps;have qk8:=A3 hps;have hv8:=hps.v;subst hv8;have qm4:=hgq.1;clear qdj hlo hrg hZe hps hpl hdl hix hje qgB hn2 hm2 hel qdU htl;generalize hln:ps.length=ln at*
     go_wp2_with((with_reducible go_at_call 55);refine HAR.o.mono ?_;rintro en w3 ⟨rfl,S3,hm3,hg3⟩;have HM3:=qa hm3;(have HG3:=qa (HG1.o.trans hg3));(have P43:=qa (P41.o.gw hg3));(have HA3:=qa (HK1.o.va.gw hg3));(have PS3:=qa (qg8.o.gw hg3 qf8));(have NB3:=qa (hg3.out (qg8.o.hd.hblk qg8.o.pos) qf8));(have qfV:=hg3.size);clear hm3 hg3)
     have HM4:=qa (HM3.o.up (aD w3 (.cells #[.int .i64 n,.int .i64 m] 80)));have HG4:=qa (HG3.o.up (aD w3 (.cells #[.int .i64 n,.int .i64 m] 80)));have PD4:=qa (P43.o.up (aD w3 (.cells #[.int .i64 n,.int .i64 m] 80)));have HA4:=qa (HA3.o.up (aD w3 (.cells #[.int .i64 n,.int .i64 m] 80)));have PS4:=qa (PS3.o.up (aD w3 (.cells #[.int .i64 n,.int .i64 m] 80)));have PB4:Hid (LB (w3.alloc (.cells #[.int .i64 n,.int .i64 m] 80)) S3 w3.heap.size n m):=qa ⟨fO w3 n m,HM3.o.no (qb _)⟩;clear HM1 HG1 HK1 P41 HX1 HO1 HNO HM3 HG3 P43 HA3 PS3 HAR qg8 qhJ qhI qiC qiB qis qit qd2 qf8 hob;generalize w3.heap.size=p11 at*;generalize w3.alloc (.cells #[.int .i64 n,.int .i64 m] 80)=w4 at*
     go_loopg [90] ln (fun gk iv wr=>∃(j:Nat) (Sr:Nat->Prop),iv=.int .i64 j/\j<=ln/\MkT wr Sr g q (cS ⟨n,m⟩ ps j (two sj)) F/\Gw S w Sr wr/\q4m wr (.slice (some ⟨b8,off8,none⟩) ln cap8) b8 off8 cap8 ps/\¬Sr b8/\LB wr Sr (w.heap.size+1) 0 0/\LB wr Sr p11 n m/\A4 wr Sr w.heap.size #[.pointer (some ⟨g,0,none⟩)]/\gk=ln-j)
     case atStart=>exact⟨0,S3,rfl,qd _,HM4.o,HG4.o,PS4.o,NB3.o,PD4.o,PB4.o,HA4.o,rfl⟩
     case round=>
      obtain⟨i,Sr,rfl,hi,hm,hgw,qf0,hnb,hlb,qi9,hfa,rfl⟩:=hrel;have HM1:=qa hm;have HG1:=qa hgw;have PS1:=qa qf0;have PD1:=qa hlb;have PB1:=qa qi9;have HA1:=qa hfa;have NB1:=qa hnb;clear hm hgw qf0 hlb qi9 hnb hfa HM4 HG4 PD4 HA4 PS4 PB4 NB3;obtain⟨b1,b2,b3⟩:=HBD.o;have hal:=HAL.o i;have hat:=HAT.o i;by_cases hlt:i<ln
      ·have qcB:=fun W=>qk8 W i hlt
       obtain⟨pj,hpj⟩:∃p,p=ps.getD i zP:=⟨_,rfl⟩;have hrg:=HRG.o i hlt;rw[<-hpj]at hrg
       have HCE:Hid (∀c',c'<2->wr.cell? ⟨b8,off8+i*2+c',none⟩=some ((#[.int .i64 (pj.f:Nat),.int .i64 (pj.l:Nat)]:Array Value).getD c' undef)):=qa (fun c' h=>by
        rw[hpj];rcases(show c'=0\/c'=1 by omega)with rfl|rfl
        ·exact PS1.o.c0 i (by omega)
        exact PS1.o.c1 i (by omega))
       have HCS:Hid (cS ⟨n,m⟩ ps (i+1) (two sj)=bM pj.l m (bM n pj.f (cS ⟨n,m⟩ ps i (two sj)))):=qa (by rw[hpj];rfl);obtain⟨si,hsi⟩:∃si,si=cS ⟨n,m⟩ ps i (two sj):=⟨_,rfl⟩;rw[<-hsi]at hal hat HM1 HCS;have t1:=eE n pj.f si;have l1:=eQ n pj.f si;have qlU:ln<=400:=qhU;clear hpj hsi
       go_wp2_with(refine aH rfl 80 _ rfl b8 (off8+i*2) 2 rfl _ _ HCE.o rfl underlying80 rfl (by kernel_rfl) ?_)
       have HM2:=qa (HM1.o.up (aD wr (.cells #[.int .i64 (pj.f:Nat),.int .i64 (pj.l:Nat)] 80)));have HG2:=qa (HG1.o.up (aD wr (.cells #[.int .i64 (pj.f:Nat),.int .i64 (pj.l:Nat)] 80)));have PD2:=qa (PD1.o.up (aD wr (.cells #[.int .i64 (pj.f:Nat),.int .i64 (pj.l:Nat)] 80)));have PB2:=qa (PB1.o.up (aD wr (.cells #[.int .i64 (pj.f:Nat),.int .i64 (pj.l:Nat)] 80)));have HA2:=qa (HA1.o.up (aD wr (.cells #[.int .i64 (pj.f:Nat),.int .i64 (pj.l:Nat)] 80)));have PS2:=qa (PS1.o.up (aD wr (.cells #[.int .i64 (pj.f:Nat),.int .i64 (pj.l:Nat)] 80)));have PC2:Hid (LB (wr.alloc (.cells #[.int .i64 (pj.f:Nat),.int .i64 (pj.l:Nat)] 80)) Sr wr.heap.size pj.f pj.l):=qa ⟨fO wr _ _,HM1.o.no (qb _)⟩;have NB2:=NB1;clear HM1 HG1 PD1 PB1 HA1 PS1 NB1 HCE;generalize wr.heap.size=p13 at*;generalize wr.alloc (.cells #[.int .i64 (pj.f:Nat),.int .i64 (pj.l:Nat)] 80)=w2 at*;have hc4:=HM2.o.f4;have hgl:=HM2.o.glt;have qkH:w2.cell? ⟨w.heap.size,0,none⟩=some (.pointer (some ⟨g,0,none⟩)):=HA2.o.c 0 (show 0<1 by decide);have qkE:=HA2.o.lt;have PBa:=PB2.o.box.c0;have PBb:=PB2.o.box.c1;have PBl:=PB2.o.box.lt;have PCa:=PC2.o.box.c0;have PCb:=PC2.o.box.c1;have PCl:=PC2.o.box.lt
       try go_wp2
       refine aR [0,1,2,3,4,5,6,7] [] [8] (by kernel_rfl) (by kernel_rfl) ?_;simp only[pk]
       repeat(go_big_quiet_step (fail))
       refine wpQuiet_nil ?_;unfold aF;unfold aF
       go_wp2_with((with_reducible go_at_call 53);refine(pV (HM2.o.up (aP _)) n pj.f (by omega) (by omega) (by omega)).mono ?_;rintro en w3 ⟨rfl,S3,hm,hg⟩;have HM3:=qa hm;have HG3:=qa ((HG2.o.up (aP _)).trans hg);have HA3:=qa ((HA2.o.up (aP _)).gw hg);have PD3:=qa ((PD2.o.up (aP _)).gw hg);have PB3:=qa ((PB2.o.up (aP _)).gw hg);have PC3:=qa ((PC2.o.up (aP _)).gw hg);have PS3:=qa ((PS2.o.up (aP _)).gw hg NB2.o);have NB3:=qa (hg.out (qe (PS2.o.hd.hblk PS2.o.pos) (aP _).size) NB2.o);clear hm hg)
       refine⟨trivial,?_⟩;unfold aF;clear hc4 hgl qkH qkE PBa PBb PBl PCa PCb PCl HM2 HG2 HA2 PD2 PB2 PC2 PS2 NB2;have t2:=eE pj.l m (bM n pj.f si);have l2:=eQ pj.l m (bM n pj.f si);have hc4:=HM3.o.f4;have hgl:=HM3.o.glt;have qkG:w3.cell? ⟨w.heap.size,0,none⟩=some (.pointer (some ⟨g,0,none⟩)):=HA3.o.c 0 (show 0<1 by decide);have qkD:=HA3.o.lt;have PBa:=PB3.o.box.c0;have PBb:=PB3.o.box.c1;have PBl:=PB3.o.box.lt;have PCa:=PC3.o.box.c0;have PCb:=PC3.o.box.c1;have PCl:=PC3.o.box.lt
       try go_wp2
       refine aR [0,1,2,3,4,5,6,7] [] [8] (by kernel_rfl) (by kernel_rfl) ?_;simp only[pk]
       repeat(go_big_quiet_step (fail))
       refine wpQuiet_nil ?_;unfold aF;unfold aF
       go_wp2_with((with_reducible go_at_call 53);refine(pV (HM3.o.up (aP _)) pj.l m (by omega) (by omega) (by omega)).mono ?_;rintro en w4 ⟨rfl,S4,hm,hg⟩;have HM4:=qa hm;have HG4:=qa ((HG3.o.up (aP _)).trans hg);have HA4:=qa ((HA3.o.up (aP _)).gw hg);have PD4:=qa ((PD3.o.up (aP _)).gw hg);have PB4:=qa ((PB3.o.up (aP _)).gw hg);have PC4:=qa ((PC3.o.up (aP _)).gw hg);have PS4:=qa ((PS3.o.up (aP _)).gw hg NB3.o);have NB4:=qa (hg.out (qe (PS3.o.hd.hblk PS3.o.pos) (aP _).size) NB3.o);clear hm hg)
       refine⟨trivial,?_⟩;unfold aF;clear hc4 hgl qkG qkD PBa PBb PBl PCa PCb PCl HM3 HG3 HA3 PD3 PB3 PC3 PS3 NB3;go_wp2
       go_roundg (ln-(i+1))
       case measure=>omega
       case rel=>
        exact⟨i+1,S4,by go_num,by omega,by rw[HCS.o];exact HM4.o,HG4.o,PS4.o,NB4.o,PD4.o,PB4.o,HA4.o,rfl⟩
      have hie:i=ln:=by omega
      subst hie;have P73:=PB1;have P43:=PD1;have HM3:Hid (MkT wr Sr g q Z.2 F):=qa (by rw[HEZ.o];exact HM1.o);have HG3:=HG1;clear HM1 HG1 PB1 PD1 HA1 PS1 hal hat;generalize wr=w3 at*
      have HC7:Hid (∀c,c<2->w3.cell? ⟨p11,0+c,none⟩=some ((#[.int .i64 n,.int .i64 m]:Array Value).getD c undef)):=qa (fun c hcl=>by
       rw[qI];rcases(show c=0\/c=1 by omega)with rfl|rfl
       ·exact P73.o.box.c0
       exact P73.o.box.c1)
      have P4a:=P43.o.box.c0;have P4b:=P43.o.box.c1;have P4l:=P43.o.box.lt;have P4f:=P43.o.box.free 0;have P4g:=P43.o.box.free 1;have HST:=qa (P43.o.box.set n m)
      go_wp2_with(refine aH rfl 80 _ rfl p11 0 2 rfl _ _ HC7.o rfl underlying80 rfl (by kernel_rfl) ?_)
      refine cI rfl rfl rfl HST.o.1.load ?_;exact⟨rfl,_,HM3.o.keep HST.o.2 P43.o.no (by omega),HG3.o.new HST.o.2 (by omega)⟩
  case inr.inr.inr.inr.inl=>
   have hxn:=HXN.o;have hc1:cnt k=1:=by have h2:=HOX.o;unfold okN at h2;simp only at hxn h2;omega
   cases k with
   |nil=>simp[cnt]at hc1
   |cons y ky r=>
    have hr0:=mE r (by simpa[cnt]using hc1);subst hr0;have hvl:=HPT.o.len;rw[dB]at hvl;have hcp:0<vs.length:=by rw[hvl];simp[cnt]
    obtain⟨ou,cu,bo,hu,hdo,hgo,hco,-,-⟩:=HPT.o.own.cases;have hou:=hdo.hat hcp;subst hou;obtain⟨qdx,qd0⟩:=hgo hcp;have hcu:=hdo.hcap;have qde:=hdo.hmax;have qd2:=hdo.hblk hcp;have qdo:=HMR.o.no qd0
    have KJ0:KJ g w.heap.size p6 bo b u vs (cQ (.cons y ky .nil)) S wc:=⟨HF0.o,H60.o,⟨fun i hi=>by
     have hi':i<vs.length:=by simpa using hi
     rw[hco i hi'];simp[List.getD,qS,hi'],qd2,qdo⟩,hbS,HPT.o.rows⟩
    have HKJ:=qa KJ0;clear KJ0;have hwk:=HWK.o;have hak:=HAK.o;obtain⟨Y,hY⟩:∃Y,Y=eD y (fun s=>gP ky s) s:=⟨_,rfl⟩;have hnk:=oX y (fun s=>gP ky s) (usz ky) (cnt ky) hak.1 hwk.1 (nC ky hwk.2.1 hak.2.1) s;rw[<-hY]at hnk;have k1:=hnk.len;have k2:=hnk.rlen;have k3:=hnk.rng 0 (by omega);have k4:=hnk.tot;simp only[ja]at k1 k2 k3 k4
    have hZe:Z=(aN Y.2,m4 true true Y.1 Y.2):=by
     rw[HZ.o,wS _ _ _ (by simp)];rw[hY];simp[gP,eC]
    have HZ2:=qa hZe;have hn2:n=Y.2.e.length:=by rw[HN.o,hZe];rfl
    have hm2:m=Y.2.e.length+1:=by rw[HMM.o,hZe];rfl
    obtain⟨hb1,hb2,hb3⟩:=HB.o
    have hun:d5 ⟨5,xn,xa,xb,xc,xd,xl,xh⟩ (usz (.cons y ky .nil))=d5 y (usz ky)+2:=by
     rw[yW _ _ (by simp)];simp[usz]
    rw[hun]at hb1 hb2 hb3;have hkl:(bO ky).length<N:=by simp only[bO,qA,qj,qO]at hN;omega
    have hk4:(bO ky).length<400:=by simp only[bO,qA,qj,qO]at qdM;omega
    obtain⟨u0,hu0⟩:∃u0,u0=vs.getD 0 undef:=⟨_,rfl⟩;obtain⟨qf,hqf⟩:∃qf,qf=Y.1.f:=⟨_,rfl⟩;obtain⟨ql,hql⟩:∃ql,ql=Y.1.l:=⟨_,rfl⟩;have hr0:eY wc b u0 (y::bO ky):=by rw[hu0];exact HKJ.o.rows 0 (by simp[cQ])
    have HTR:=qa (HIH.o wc.drew S g q s F u0 b y ky hkl (hr0.up (aP _)) hbS hk4 hwk.1 hwk.2.1 hak.1 hak.2.1 (HM0.o.up (aP _)) (by omega) (by omega) (by omega) qf ql (by rw[<-hY];exact hqf) (by rw[<-hY];exact hql));rw[<-hY]at HTR;have hoc:wc.cell? ⟨bo,0,none⟩=some u0:=by rw[hco 0 hcp,hu0]
    have hix:∀W:World,(Instr.indexAt 22 (.slice (some ⟨bo,0,none⟩) vs.length cu) (.int .i64 0)).run prog W=.ok (.pointer (some ⟨bo,0,none⟩)) W:=fun W=>by
     have:=fY hdo W .i64 0 (by omega) (by omega);simpa using this
    have h6c:wc.cell? ⟨p6,0,none⟩=some (.slice (some ⟨bo,0,none⟩) vs.length cu):=by rw[<-hu];exact H60.o.c 0 (show 0<1 by decide)
    have h6l:=H60.o.lt;have h6n:=H60.o.no;have hkc:wc.cell? ⟨p5,0,none⟩=some (.int .i64 5):=HX0.o.c 0 (show 0<8 by decide);have qdH:=HX0.o.lt;have qhH:=HX0.o.no;have hac:wc.cell? ⟨w.heap.size,0,none⟩=some (.pointer (some ⟨g,0,none⟩)):=HF0.o.c 0 (show 0<1 by decide);have hal:=HF0.o.lt;have qir:=HF0.o.no;have HQ:=qa (And.intro hqf hql);have HBY:Hid (Y.2.e.length<=4000/\Y.2.r.length<=4000/\tot Y.2.e<=90000/\qf<Y.2.e.length/\ql<Y.2.e.length):=qa ⟨by omega,by omega,by omega,by omega,by omega⟩;have HE2:=qa (And.intro hn2 hm2);have HEZ:Hid (Z.2=m4 true true ⟨qf,ql⟩ Y.2):=qa (by rw[hZe,hqf,hql]);have qdS:vs.length=1:=by rw[hvl,hc1]
    rw[qdS]at hix h6c;clear hxn hc1 hvl hcp hdo hgo hco qdx qd0 hcu qde hwk hak hY hnk k1 k2 k3 k4 hZe hn2 hm2 hb1 hb2 hb3 hun hkl hk4 hu0 hqf hql hr0 hu qdS;go_wp2;refine cL (fun w'=>∃x,w'=wrt S wc x) [0,1,2,3,4,5,6,7,8,9,10] [11,12] [13] (by kernel_rfl) (by kernel_rfl) (uH (d7 S (aP wc)).fx) ?_;simp only[pk]
    repeat(go_big_quiet_step (fail))
    refine wpQuiet_nil ?_;unfold aF
    go_wp2_with((with_reducible go_at_call 25);refine HTR.o.mono ?_;rintro en w1 ⟨rfl,S1,hm1,hg1⟩;have HM1:=qa hm1;have HD1:=qa ((d7 S (aP wc)).trans hg1);clear hm1 hg1)
    refine⟨uH HD1.o.fx,?_⟩;obtain⟨y1,y2,y3,y4,y5⟩:=HBY.o;have HLO:=qa (q93 HM1.o (by omega) (by omega) (by omega) true true qf ql y4 y5 n m HE2.o.1 HE2.o.2);clear y1 y2 y3 y4 y5;unfold aF
    exact ZmG3
  case inr.inr.inr.inr.inr.inl=>
   have hxn:=HXN.o;have hc1:cnt k=1:=by have h2:=HOX.o;unfold okN at h2;simp only at hxn h2;omega
   cases k with
   |nil=>simp[cnt]at hc1
   |cons y ky r=>
    have hr0:=mE r (by simpa[cnt]using hc1);subst hr0;have hvl:=HPT.o.len;rw[dB]at hvl;have hcp:0<vs.length:=by rw[hvl];simp[cnt]
    obtain⟨ou,cu,bo,hu,hdo,hgo,hco,-,-⟩:=HPT.o.own.cases;have hou:=hdo.hat hcp;subst hou;obtain⟨qdx,qd0⟩:=hgo hcp;have hcu:=hdo.hcap;have qde:=hdo.hmax;have qd2:=hdo.hblk hcp;have qdo:=HMR.o.no qd0
    have KJ0:KJ g w.heap.size p6 bo b u vs (cQ (.cons y ky .nil)) S wc:=⟨HF0.o,H60.o,⟨fun i hi=>by
     have hi':i<vs.length:=by simpa using hi
     rw[hco i hi'];simp[List.getD,qS,hi'],qd2,qdo⟩,hbS,HPT.o.rows⟩
    have HKJ:=qa KJ0;clear KJ0;have hwk:=HWK.o;have hak:=HAK.o;obtain⟨Y,hY⟩:∃Y,Y=eD y (fun s=>gP ky s) s:=⟨_,rfl⟩;have hnk:=oX y (fun s=>gP ky s) (usz ky) (cnt ky) hak.1 hwk.1 (nC ky hwk.2.1 hak.2.1) s;rw[<-hY]at hnk;have k1:=hnk.len;have k2:=hnk.rlen;have k3:=hnk.rng 0 (by omega);have k4:=hnk.tot;simp only[ja]at k1 k2 k3 k4
    have hZe:Z=(aN Y.2,m4 false true Y.1 Y.2):=by
     rw[HZ.o,wS _ _ _ (by simp)];rw[hY];simp[gP,eC]
    have HZ2:=qa hZe;have hn2:n=Y.2.e.length:=by rw[HN.o,hZe];rfl
    have hm2:m=Y.2.e.length+1:=by rw[HMM.o,hZe];rfl
    obtain⟨hb1,hb2,hb3⟩:=HB.o
    have hun:d5 ⟨6,xn,xa,xb,xc,xd,xl,xh⟩ (usz (.cons y ky .nil))=d5 y (usz ky)+2:=by
     rw[yW _ _ (by simp)];simp[usz]
    rw[hun]at hb1 hb2 hb3;have hkl:(bO ky).length<N:=by simp only[bO,qA,qj,qO]at hN;omega
    have hk4:(bO ky).length<400:=by simp only[bO,qA,qj,qO]at qdM;omega
    obtain⟨u0,hu0⟩:∃u0,u0=vs.getD 0 undef:=⟨_,rfl⟩;obtain⟨qf,hqf⟩:∃qf,qf=Y.1.f:=⟨_,rfl⟩;obtain⟨ql,hql⟩:∃ql,ql=Y.1.l:=⟨_,rfl⟩;have hr0:eY wc b u0 (y::bO ky):=by rw[hu0];exact HKJ.o.rows 0 (by simp[cQ])
    have HTR:=qa (HIH.o wc.drew S g q s F u0 b y ky hkl (hr0.up (aP _)) hbS hk4 hwk.1 hwk.2.1 hak.1 hak.2.1 (HM0.o.up (aP _)) (by omega) (by omega) (by omega) qf ql (by rw[<-hY];exact hqf) (by rw[<-hY];exact hql));rw[<-hY]at HTR;have hoc:wc.cell? ⟨bo,0,none⟩=some u0:=by rw[hco 0 hcp,hu0]
    have hix:∀W:World,(Instr.indexAt 22 (.slice (some ⟨bo,0,none⟩) vs.length cu) (.int .i64 0)).run prog W=.ok (.pointer (some ⟨bo,0,none⟩)) W:=fun W=>by
     have:=fY hdo W .i64 0 (by omega) (by omega);simpa using this
    have h6c:wc.cell? ⟨p6,0,none⟩=some (.slice (some ⟨bo,0,none⟩) vs.length cu):=by rw[<-hu];exact H60.o.c 0 (show 0<1 by decide)
    have h6l:=H60.o.lt;have h6n:=H60.o.no;have hkc:wc.cell? ⟨p5,0,none⟩=some (.int .i64 6):=HX0.o.c 0 (show 0<8 by decide);have qdH:=HX0.o.lt;have qhH:=HX0.o.no;have hac:wc.cell? ⟨w.heap.size,0,none⟩=some (.pointer (some ⟨g,0,none⟩)):=HF0.o.c 0 (show 0<1 by decide);have hal:=HF0.o.lt;have qir:=HF0.o.no;have HQ:=qa (And.intro hqf hql);have HBY:Hid (Y.2.e.length<=4000/\Y.2.r.length<=4000/\tot Y.2.e<=90000/\qf<Y.2.e.length/\ql<Y.2.e.length):=qa ⟨by omega,by omega,by omega,by omega,by omega⟩;have HE2:=qa (And.intro hn2 hm2);have HEZ:Hid (Z.2=m4 false true ⟨qf,ql⟩ Y.2):=qa (by rw[hZe,hqf,hql]);have qdS:vs.length=1:=by rw[hvl,hc1]
    rw[qdS]at hix h6c;clear hxn hc1 hvl hcp hdo hgo hco qdx qd0 hcu qde hwk hak hY hnk k1 k2 k3 k4 hZe hn2 hm2 hb1 hb2 hb3 hun hkl hk4 hu0 hqf hql hr0 hu qdS;go_wp2;refine cL (fun w'=>∃x,w'=wrt S wc x) [0,1,2,3,4,5,6,7,8,9,10] [11,12] [13] (by kernel_rfl) (by kernel_rfl) (uH (d7 S (aP wc)).fx) ?_;simp only[pk]
    repeat(go_big_quiet_step (fail))
    refine wpQuiet_nil ?_;unfold aF
    go_wp2_with((with_reducible go_at_call 25);refine HTR.o.mono ?_;rintro en w1 ⟨rfl,S1,hm1,hg1⟩;have HM1:=qa hm1;have HD1:=qa ((d7 S (aP wc)).trans hg1);clear hm1 hg1)
    refine⟨uH HD1.o.fx,?_⟩;obtain⟨y1,y2,y3,y4,y5⟩:=HBY.o;have HLO:=qa (q93 HM1.o (by omega) (by omega) (by omega) false true qf ql y4 y5 n m HE2.o.1 HE2.o.2);clear y1 y2 y3 y4 y5;unfold aF
    exact ZmG3
  case inr.inr.inr.inr.inr.inr.inl=>
   have hxn:=HXN.o;have hc1:cnt k=1:=by have h2:=HOX.o;unfold okN at h2;simp only at hxn h2;omega
   cases k with
   |nil=>simp[cnt]at hc1
   |cons y ky r=>
    have hr0:=mE r (by simpa[cnt]using hc1);subst hr0;have hvl:=HPT.o.len;rw[dB]at hvl;have hcp:0<vs.length:=by rw[hvl];simp[cnt]
    obtain⟨ou,cu,bo,hu,hdo,hgo,hco,-,-⟩:=HPT.o.own.cases;have hou:=hdo.hat hcp;subst hou;obtain⟨qdx,qd0⟩:=hgo hcp;have hcu:=hdo.hcap;have qde:=hdo.hmax;have qd2:=hdo.hblk hcp;have qdo:=HMR.o.no qd0
    have KJ0:KJ g w.heap.size p6 bo b u vs (cQ (.cons y ky .nil)) S wc:=⟨HF0.o,H60.o,⟨fun i hi=>by
     have hi':i<vs.length:=by simpa using hi
     rw[hco i hi'];simp[List.getD,qS,hi'],qd2,qdo⟩,hbS,HPT.o.rows⟩
    have HKJ:=qa KJ0;clear KJ0;have hwk:=HWK.o;have hak:=HAK.o;obtain⟨Y,hY⟩:∃Y,Y=eD y (fun s=>gP ky s) s:=⟨_,rfl⟩;have hnk:=oX y (fun s=>gP ky s) (usz ky) (cnt ky) hak.1 hwk.1 (nC ky hwk.2.1 hak.2.1) s;rw[<-hY]at hnk;have k1:=hnk.len;have k2:=hnk.rlen;have k3:=hnk.rng 0 (by omega);have k4:=hnk.tot;simp only[ja]at k1 k2 k3 k4
    have hZe:Z=(aN Y.2,m4 true false Y.1 Y.2):=by
     rw[HZ.o,wS _ _ _ (by simp)];rw[hY];simp[gP,eC]
    have HZ2:=qa hZe;have hn2:n=Y.2.e.length:=by rw[HN.o,hZe];rfl
    have hm2:m=Y.2.e.length+1:=by rw[HMM.o,hZe];rfl
    obtain⟨hb1,hb2,hb3⟩:=HB.o
    have hun:d5 ⟨7,xn,xa,xb,xc,xd,xl,xh⟩ (usz (.cons y ky .nil))=d5 y (usz ky)+2:=by
     rw[yW _ _ (by simp)];simp[usz]
    rw[hun]at hb1 hb2 hb3;have hkl:(bO ky).length<N:=by simp only[bO,qA,qj,qO]at hN;omega
    have hk4:(bO ky).length<400:=by simp only[bO,qA,qj,qO]at qdM;omega
    obtain⟨u0,hu0⟩:∃u0,u0=vs.getD 0 undef:=⟨_,rfl⟩;obtain⟨qf,hqf⟩:∃qf,qf=Y.1.f:=⟨_,rfl⟩;obtain⟨ql,hql⟩:∃ql,ql=Y.1.l:=⟨_,rfl⟩;have hr0:eY wc b u0 (y::bO ky):=by rw[hu0];exact HKJ.o.rows 0 (by simp[cQ])
    have HTR:=qa (HIH.o wc.drew S g q s F u0 b y ky hkl (hr0.up (aP _)) hbS hk4 hwk.1 hwk.2.1 hak.1 hak.2.1 (HM0.o.up (aP _)) (by omega) (by omega) (by omega) qf ql (by rw[<-hY];exact hqf) (by rw[<-hY];exact hql));rw[<-hY]at HTR;have hoc:wc.cell? ⟨bo,0,none⟩=some u0:=by rw[hco 0 hcp,hu0]
    have hix:∀W:World,(Instr.indexAt 22 (.slice (some ⟨bo,0,none⟩) vs.length cu) (.int .i64 0)).run prog W=.ok (.pointer (some ⟨bo,0,none⟩)) W:=fun W=>by
     have:=fY hdo W .i64 0 (by omega) (by omega);simpa using this
    have h6c:wc.cell? ⟨p6,0,none⟩=some (.slice (some ⟨bo,0,none⟩) vs.length cu):=by rw[<-hu];exact H60.o.c 0 (show 0<1 by decide)
    have h6l:=H60.o.lt;have h6n:=H60.o.no;have hkc:wc.cell? ⟨p5,0,none⟩=some (.int .i64 7):=HX0.o.c 0 (show 0<8 by decide);have qdH:=HX0.o.lt;have qhH:=HX0.o.no;have hac:wc.cell? ⟨w.heap.size,0,none⟩=some (.pointer (some ⟨g,0,none⟩)):=HF0.o.c 0 (show 0<1 by decide);have hal:=HF0.o.lt;have qir:=HF0.o.no;have HQ:=qa (And.intro hqf hql);have HBY:Hid (Y.2.e.length<=4000/\Y.2.r.length<=4000/\tot Y.2.e<=90000/\qf<Y.2.e.length/\ql<Y.2.e.length):=qa ⟨by omega,by omega,by omega,by omega,by omega⟩;have HE2:=qa (And.intro hn2 hm2);have HEZ:Hid (Z.2=m4 true false ⟨qf,ql⟩ Y.2):=qa (by rw[hZe,hqf,hql]);have qdS:vs.length=1:=by rw[hvl,hc1]
    rw[qdS]at hix h6c;clear hxn hc1 hvl hcp hdo hgo hco qdx qd0 hcu qde hwk hak hY hnk k1 k2 k3 k4 hZe hn2 hm2 hb1 hb2 hb3 hun hkl hk4 hu0 hqf hql hr0 hu qdS;go_wp2;refine cL (fun w'=>∃x,w'=wrt S wc x) [0,1,2,3,4,5,6,7,8,9,10] [11,12] [13] (by kernel_rfl) (by kernel_rfl) (uH (d7 S (aP wc)).fx) ?_;simp only[pk]
    repeat(go_big_quiet_step (fail))
    refine wpQuiet_nil ?_;unfold aF
    go_wp2_with((with_reducible go_at_call 25);refine HTR.o.mono ?_;rintro en w1 ⟨rfl,S1,hm1,hg1⟩;have HM1:=qa hm1;have HD1:=qa ((d7 S (aP wc)).trans hg1);clear hm1 hg1)
    refine⟨uH HD1.o.fx,?_⟩;obtain⟨y1,y2,y3,y4,y5⟩:=HBY.o;have HLO:=qa (q93 HM1.o (by omega) (by omega) (by omega) true false qf ql y4 y5 n m HE2.o.1 HE2.o.2);clear y1 y2 y3 y4 y5;unfold aF
    exact ZmG3
  case inr.inr.inr.inr.inr.inr.inr=>
   have hxn:=HXN.o;have hc1:cnt k=1:=by have h2:=HOX.o;unfold okN at h2;simp only at hxn h2;omega
   cases k with
   |nil=>simp[cnt]at hc1
   |cons y ky r=>
    have hr0:=mE r (by simpa[cnt]using hc1);subst hr0;have hvl:=HPT.o.len;rw[dB]at hvl;have hcp:0<vs.length:=by rw[hvl];simp[cnt]
    obtain⟨ou,cu,bo,hu,hdo,hgo,hco,-,-⟩:=HPT.o.own.cases;have hou:=hdo.hat hcp;subst hou;obtain⟨qdx,qd0⟩:=hgo hcp;have hcu:=hdo.hcap;have qde:=hdo.hmax;have qd2:=hdo.hblk hcp;have qdo:=HMR.o.no qd0
    have KJ0:KJ g w.heap.size p6 bo b u vs (cQ (.cons y ky .nil)) S wc:=⟨HF0.o,H60.o,⟨fun i hi=>by
     have hi':i<vs.length:=by simpa using hi
     rw[hco i hi'];simp[List.getD,qS,hi'],qd2,qdo⟩,hbS,HPT.o.rows⟩
    have HKJ:=qa KJ0;clear KJ0;have hok:=HOX.o;have hlo:0<=xl/\xl<=30/\ -1<=xh:=by unfold okN at hok;simp only at hok;omega
    have htl:=uB hok rfl;obtain⟨t,ht⟩:∃t:Nat,fA ⟨8,xn,xa,xb,xc,xd,xl,xh⟩=t:=⟨_,(Int.toNat_of_nonneg htl.1).symm⟩;have qeP:t<=30:=by omega
    have htn:(fA ⟨8,xn,xa,xb,xc,xd,xl,xh⟩).toNat=t:=by rw[ht];rfl
    have hpe:(fun s=>eC (gP (.cons y ky .nil) s))=fun s=>eD y (fun s=>gP ky s) s:=by funext s;simp[gP,eC]
    have hus:usz (.cons y ky .nil)=d5 y (usz ky):=by simp[usz]
    have hZe:Z=(aN s,(dS ⟨8,xn,xa,xb,xc,xd,xl,xh⟩ t (aN s) (fun s=>eD y (fun s=>gP ky s) s) (iff (decide (xl=0)) (bM (aN s).f (aN s).l) (two s)) t).2):=by
     rw[HZ.o,q94 _ _ _ rfl];unfold rY;rw[hpe,htn]
    have HZ2:=qa hZe;have hn2:n=s.e.length:=by rw[HN.o,hZe];rfl
    have hm2:m=s.e.length+1:=by rw[HMM.o,hZe];rfl
    obtain⟨hb1,hb2,hb3⟩:=HB.o
    have hun:d5 ⟨8,xn,xa,xb,xc,xd,xl,xh⟩ (usz (.cons y ky .nil))=2+t*d5 y (usz ky):=by
     rw[q77 _ _ rfl,htn,hus]
    rw[hun]at hb1 hb2 hb3;have hwk:=HWK.o;have hak:=HAK.o;have hkl:(bO ky).length<N:=by simp only[bO,qA,qj,qO]at hN;omega
    have hk4:(bO ky).length<400:=by simp only[bO,qA,qj,qO]at qdM;omega
    have hv1:vs=[vs.getD 0 undef]:=by
     have h1:vs.length=1:=by rw[hvl,hc1]
     match vs,h1 with
     |[z],_=>rfl
    obtain⟨u0,hu0⟩:∃u0,u0=vs.getD 0 undef:=⟨_,rfl⟩;rw[<-hu0]at hv1;have hKP:=nC (.cons y ky .nil) hwk hak;have hp:∀s,Y2 s ([(eD y (fun s=>gP ky s) s).1],(eD y (fun s=>gP ky s) s).2) (d5 y (usz ky)) 1:=fun s=>oX y (fun s=>gP ky s) (usz ky) (cnt ky) hak.1 hwk.1 (nC ky hwk.2.1 hak.2.1) s
    have hT:∀(w:World) (S:Nat->Prop) (s:St),eY w b u0 (y::bO ky)->¬S b->MkT w S g q s F->s.e.length+d5 y (usz ky)<=4000->s.r.length+d5 y (usz ky)<=4000->tot s.e+2*d5 y (usz ky)<=90000->
      ∀n m:Nat,n=(eD y (fun s=>gP ky s) s).1.f->m=(eD y (fun s=>gP ky s) s).1.l->Calls prog 25 #[.pointer (some ⟨g,0,none⟩),u0] w fun e w'=>e=.returned (.agg #[.int .i64 n,.int .i64 m])/\∃S',MkT w' S' g q (eD y (fun s=>gP ky s) s).2 F/\Gw S w S' w':=
     fun w S s hnb hb hm b1 b2 b3 n m hn hm2=>HIH.o w S g q s F u0 b y ky hkl hnb hb hk4 hwk.1 hwk.2.1 hak.1 hak.2.1 hm b1 b2 b3 n m hn hm2
    have qcW:∀(w1:World) (S1:Nat->Prop) (s1:St),MkT w1 S1 g q s1 F->KJ g w.heap.size p6 bo b u vs (cQ (.cons y ky .nil)) S1 w1->s1.e.length+d5 y (usz ky)<=4000->s1.r.length+d5 y (usz ky)<=4000->tot s1.e+2*d5 y (usz ky)<=90000->∀n m:Nat,n=(eD y (fun s=>gP ky s) s1).1.f->m=(eD y (fun s=>gP ky s) s1).1.l->Calls prog 57 #[.pointer (some ⟨w.heap.size,0,none⟩),.pointer (some ⟨p6,0,none⟩)] w1 fun e w2=>e=.returned (.agg #[.int .i64 n,.int .i64 m])/\∃S2,MkT w2 S2 g q (eD y (fun s=>gP ky s) s1).2 F/\Gw S1 w1 S2 w2:=
     fun w1 S1 s1 hm1 hj1 b1 b2 b3 n m hn hm2=>by
      have hv2:vs.length=1:=by rw[hvl,hc1]
      rw[hu,hv2]at hj1;exact qaf hT hj1 hv1 (by omega) qde hm1 b1 b2 b3 n m hn hm2
    have HRE:Hid (Calls prog 56 #[.pointer (some ⟨g,0,none⟩),.agg #[.int .i64 8,.int .i64 xn,.int .u64 xa,.int .u64 xb,.int .u64 xc,.int .u64 xd,.int .i64 xl,.int .i64 xh],.func (.func 57) #[] #[.pointer (some ⟨w.heap.size,0,none⟩),.pointer (some ⟨p6,0,none⟩)]] wc fun e w'=>e=.returned (.agg #[.int .i64 n,.int .i64 m])/\∃S',MkT w' S' g q Z.2 F/\Gw S wc S' w'):=qa (by
     rw[hZe];have e1:t*(2*d5 y (usz ky))=2*(t*d5 y (usz ky)):=by rw[Nat.mul_left_comm]
     rcases Classical.em (xl=0)with hz|hz
     ·exact q75 (fun S w'=>KJ g w.heap.size p6 bo b u vs (cQ (.cons y ky .nil)) S w') (fun S w1 S' w2 h1 h2=>KJ.gw S w1 S' w2 (by simp[cQ]) h1 h2) (fun S w1 w2 h1 h2=>KJ.up S w1 w2 h1 h2) 8 xn xa xb xc xd xl xh w.heap.size p6 (fun s=>eD y (fun s=>gP ky s) s) (d5 y (usz ky)) t ht qeP hlo.1 hlo.2.1 hlo.2.2 hp qcW HM0.o HKJ.o (by omega) (by omega) (by omega) n m hz hn2 hm2
     exact q76 (fun S w'=>KJ g w.heap.size p6 bo b u vs (cQ (.cons y ky .nil)) S w') (fun S w1 S' w2 h1 h2=>KJ.gw S w1 S' w2 (by simp[cQ]) h1 h2) (fun S w1 w2 h1 h2=>KJ.up S w1 w2 h1 h2) 8 xn xa xb xc xd xl xh w.heap.size p6 (fun s=>eD y (fun s=>gP ky s) s) (d5 y (usz ky)) t ht qeP hlo.1 hlo.2.1 hlo.2.2 hp qcW HM0.o HKJ.o (by omega) (by omega) (by omega) n m hz hn2 hm2)
    have hkc:wc.cell? ⟨p5,0,none⟩=some (.int .i64 8):=HX0.o.c 0 (show 0<8 by decide);have qdH:=HX0.o.lt;have hac:wc.cell? ⟨w.heap.size,0,none⟩=some (.pointer (some ⟨g,0,none⟩)):=HF0.o.c 0 (show 0<1 by decide);have hal:=HF0.o.lt;clear hxn hc1 hvl hcp hdo hgo hco qdx qd0 hcu qde qd2 qdo hok hlo htl ht qeP htn hpe hus hZe hn2 hm2 hb1 hb2 hb3 hun hwk hak hkl hk4 hv1 hu0 hKP hp hT qcW hu
    go_wp2_with(first|(refine aH rfl 98 _ rfl p5 0 8 rfl _ _ (wQ HX0.o 8 rfl) rfl underlying98 rfl (by kernel_rfl) ?_)|((with_reducible go_at_call 56);refine HRE.o.mono ?_;rintro en w1 ⟨rfl,S1,hm1,hg1⟩;have HM1:=qa hm1;have HG1:=qa (HG0.o.trans hg1);have P41:=qa (P40.o.gw hg1);(have P4a:=P41.o.box.c0);(have P4b:=P41.o.box.c1);(have P4l:=P41.o.box.lt);(have P4f:=P41.o.box.free 0);(have P4g:=P41.o.box.free 1);clear hm1 hg1))
    have HST:=qa (P41.o.box.set n m);refine cI rfl rfl rfl HST.o.1.load ?_;exact⟨rfl,S1,HM1.o.keep HST.o.2 P41.o.no (by omega),HG1.o.new HST.o.2 (by omega)⟩
theorem qag{w:World}:Calls prog 24 #[] w fun e w'=>∃S,e=.returned (.pointer (some ⟨w.heap.size,0,none⟩))/\MkT w' S w.heap.size (w.heap.size+1) ⟨[],[]⟩ 0/\Below w.heap.size w w'/\(∀k,S k->w.heap.size<=k):=by
 go_enter func24,ntmps24;go_wp2;go_ret;have hb1:=aD w (.cells #[.slice none 0 0,.int .i64 0,.slice none 0 0,stV (w.heap.size+1),ffV (w.heap.size+1)] 78);have hb2:=aD (w.alloc (.cells #[.slice none 0 0,.int .i64 0,.slice none 0 0,stV (w.heap.size+1),ffV (w.heap.size+1)] 78)) (.cells #[.pointer (some ⟨w.heap.size,0,none⟩)] 73);refine⟨MkS w.heap.size (.slice none 0 0) (.slice none 0 0) [],rfl,⟨.slice none 0 0,[],.slice none 0 0,⟨?_,?_,?_,Own.nil _ _ _,rfl,fun i hi=>absurd hi (qC i),Own.nil _ _ _,?_⟩,rfl⟩,hb1.trans (hb2.mono (by simp)),?_⟩
 ·have h:=cN w 0 #[.slice none 0 0,.int .i64 0,.slice none 0 0,stV (w.heap.size+1),ffV (w.heap.size+1)] 78 (by simp) (qd _)
  have h2:=h.up hb2;simpa[stV,ffV]using h2
 ·have h:(w.alloc (.cells #[.slice none 0 0,.int .i64 0,.slice none 0 0,stV (w.heap.size+1),ffV (w.heap.size+1)] 78)).heap.size=w.heap.size+1:=by simp
  have h2:=World.cell?_alloc_new (w.alloc (.cells #[.slice none 0 0,.int .i64 0,.slice none 0 0,stV (w.heap.size+1),ffV (w.heap.size+1)] 78)) #[.pointer (some ⟨w.heap.size,0,none⟩)] 73 0;rw[h]at h2;exact h2
 ·simp
 ·intro i j k hi hj
  have key:∀i:Nat,(mkL (w.heap.size+1) w.heap.size (.slice none 0 0) (.slice none 0 0) [])[i]? =some (some k)->(i=0/\k=w.heap.size+1)\/(i=1/\k=w.heap.size):=fun i h=>by
   rcases i with _|_|_|_|i
   ·simp[mkL]at h;exact .inl ⟨rfl,h.symm⟩
   ·simp[mkL]at h;exact .inr ⟨rfl,h.symm⟩
   ·simp[mkL,Value.ownBlock]at h
   ·simp[mkL,Value.ownBlock]at h
   simp[mkL]at h
  rcases key i hi with⟨h1,h2⟩|⟨h1,h2⟩<;>rcases key j hj with⟨h3,h4⟩|⟨h3,h4⟩<;>omega
 rintro k (rfl|h|h|⟨i,hi,-⟩)
 ·exact qb _
 ·cases h
 ·cases h
 exact absurd hi (qC i)
def wT(w:World)(v:Value)(ll:List (List Ed)):Prop:=∃vs,Sl w v vs/\vs.length=ll.length/\∀i,i<ll.length->SlK 6 w (vs.getD i undef) ((ll.getD i []).map edC)
theorem wT.up{w w':World}{v:Value}{ll:List (List Ed)}(h:wT w v ll)(hb:Below w.heap.size w w'):wT w' v ll:=by
 obtain⟨vs,h1,h2,h3⟩:=h;exact⟨vs,h1.up hb,h2,fun i hi=>(h3 i hi).up hb⟩
def X4(w:World)(A:Array Value)(e:List (List Ed))(F:Int)(r:List Int):Prop:=∃ve vr,A=#[ve,.int .i64 F,vr]/\wT w ve e/\eB w vr r
theorem X4.up{w w':World}{A:Array Value}{e:List (List Ed)}{F:Int}{r:List Int}(h:X4 w A e F r)(hb:Below w.heap.size w w'):X4 w' A e F r:=by
 obtain⟨ve,vr,h1,h2,h3⟩:=h;exact⟨ve,vr,h1,h2.up hb,h3.up hb⟩
theorem Mk.nfa{w:World}{g q:Nat}{ve:Value}{vs:List Value}{vr:Value}{ll:List (List Ed)}{rl:List Int}{F:Int}(h:Mk w g q ve vs vr ll rl F):X4 w #[ve,.int .i64 F,vr] ll F rl:=
 ⟨ve,vr,rfl,⟨vs,h.outer.sl,h.len,fun i hi=>(h.rows i hi).sl⟩,h.rules.sl⟩
theorem q4p{w:World}{v:Value}{l:List Nd}(h:bE w v l)(hp:0<l.length):∃b,eY w b v l:=by
 have h0:=h;obtain⟨oa,cap,b,off,hv,hd,hc⟩:=h.open;obtain rfl:=hd.hat hp;exact⟨b,h0,by rw[hv];rfl,hp,by rw[hv];rfl⟩
theorem q4q(ve vr:Value)(F:Int)(h1:ve.oneCell'=true)(h2:vr.oneCell'=true):∀u∈(#[ve,.int .i64 F,vr]:Array Value).toList,u.oneCell'=true:=by
 intro u hu;simp at hu;rcases hu with rfl|rfl|rfl
 ·exact h1
 ·rfl
 exact h2
theorem MkW.f1{w:World}{S:Nat->Prop}{g q:Nat}{ll:List (List Ed)}{rl:List Int}{F:Int}(h:MkW w S g q ll rl F):w.cell? ⟨g,1,none⟩=some (.int .i64 F):=by
 obtain⟨ve,vs,vr,h1,rfl⟩:=h;exact h1.c1
theorem lC{w:World}{B E:Nat}{v:Value}{xs:List Value}(h:Own w B E v xs):v.oneCell'=true:=by
 rcases h.1.2 with⟨rfl,_⟩|⟨g,cap,cur,rfl,_⟩<;>rfl
theorem q21{w:World}{p:Nat}{C:Array Value}{xs:List Value}(h:Own w 0 35 (.slice (some ⟨p,0,none⟩) 3 3) (C.toList++xs.drop C.size))(hs:C.size=3:=by rfl):(loadVar 35 ⟨p,0,none⟩).run prog w=.ok (.agg C) w:=
 hJ w p 0 3 35 C _ (fun c hc=>by
  rw[qI,h.cell (by simp;omega),qu,qW (by simp;omega)];simp[qS]) hs underlying35 rfl (by kernel_rfl)
theorem Mk.nfaKeep{w w':World}{g q:Nat}{ve:Value}{vs:List Value}{vr:Value}{ll:List (List Ed)}{rl:List Int}{F:Int}(h:Mk w g q ve vs vr ll rl F){p:Nat}(hg:w.grownBy w' (some p))(hp:∀k,MkS g ve vr vs k->p<k)(hq:p<q):X4 w' #[ve,.int .i64 F,vr] ll F rl:=
 (h.keep hg (fun j k hj e=>by
  have e2:=qr e;rcases jG j with h0|h0
  ·subst h0
   have:q=k:=qr (qr hj);omega
  have hk:MkS g ve vr vs k:=by
   rcases j with _|_|_|_|j
   ·omega
   ·exact .inl (qr (qr hj)).symm
   ·exact .inr (.inl (by simpa[mkL]using hj))
   ·exact .inr (.inr (.inl (by simpa[mkL]using hj)))
   by_cases hjl:j<vs.length
   ·rw[pZ _ _ _ _ _ j hjl]at hj
    exact .inr (.inr (.inr ⟨j,hjl,qr hj⟩))
   simp[mkL,qQ (show vs.length<=j by omega)]at hj
  have:=hp k hk;omega)).nfa
theorem q22{w:World}{v:Value}{ll:List (List Nd)}(h:gC w v ll):
  Calls prog 7 #[v] w fun e w'=>∃A,e=.returned (.tuple #[.agg A,.int .i64 (uC ll)])/\(uC ll=0->X4 w' A (mkS ll ll.length).e 0 (mkS ll ll.length).r)/\(uC ll≠0->A=#[.slice none 0 0,.int .i64 0,.slice none 0 0])/\Below w.heap.size w w':=by
 have hA:=aD w (.cells #[.slice none 0 0,.int .i64 0,.slice none 0 0] 35);have HMY:=qa (qc3 (h.up hA));have HBX:=qa (by simpa using cN w 0 #[.slice none 0 0,.int .i64 0,.slice none 0 0] 35 (by simp) (qd _):Own (w.alloc (.cells #[.slice none 0 0,.int .i64 0,.slice none 0 0] 35)) 0 35 (.slice (some ⟨w.heap.size,0,none⟩) 3 3) [.slice none 0 0,.int .i64 0,.slice none 0 0]);have HTR:=qa h;obtain⟨oa,cap,b,off,rfl,hd,hc⟩:=h.open;have hix:=fY hd;have hm:=hd.len;have HB:=qa hd.hblk;have HC:=qa hc;obtain⟨R,hR⟩:∃R,R=uC ll:=⟨_,rfl⟩;rw[<-hR]at HMY⊢;have HR:=qa hR;clear h hd hc hR;have hSZ:(w.alloc (.cells #[.slice none 0 0,.int .i64 0,.slice none 0 0] 35)).heap.size=w.heap.size+1:=by simp
 by_cases h0:R=0
 ·have hbe:(R==0)=true:=by simpa using h0
  have HR0:=qa h0
  have HCK:Hid ((∀l∈ll,Chk l)/\1+(ll.map kK).sum<=3000/\ll.length<=32):=qa (by
   have h1:=HR.o;rw[h0]at h1;unfold uC at h1;by_cases c1:ll.length=0
   ·rw[qw c1]at h1;cases h1
   rw[qv c1]at h1;by_cases c2:32<ll.length
   ·rw[qw c2]at h1;cases h1
   rw[qv c2]at h1;by_cases c3:∀l∈ll,Chk l
   ·rw[qv (fun h=>h c3)]at h1
    by_cases c4:3000<1+(ll.map kK).sum
    ·rw[qw c4]at h1;cases h1
    exact⟨c3,by omega,by omega⟩
   rw[qw c3]at h1;cases h1)
  have HMO:=qa (fun i hi=>q8Y ll HCK.o.1 HCK.o.2.1 i hi);clear h0;go_enter func7,ntmps7
  go_upto_region 4 with((with_reducible go_at_call 23);refine HMY.o.mono ?_;rintro en w1 ⟨rfl,x1,rfl⟩)
  have HW1:=qa (gK hA x1);have qdn:=qa (HBX.o.up (aE _ x1));have qd9:=iP (w.alloc (.cells #[.slice none 0 0,.int .i64 0,.slice none 0 0] 35)) x1;rw[hSZ]at qd9;clear HMY HBX hA hSZ;generalize ext (w.alloc (.cells #[.slice none 0 0,.int .i64 0,.slice none 0 0] 35)) x1=w1 at*;have HST:=qa (qag (w:=w1));generalize hg:w1.heap.size=g at HST;have HGE:=qa hg;have hgw:w.heap.size+1<=g:=by omega
  clear hg qd9
  go_upto_region 6 with(first|((with_reducible go_at_call 24);refine HST.o.mono ?_;rintro en w2 ⟨S2,rfl,hm2,hb2,hS2⟩;have HM2:=qa hm2;have HB2:=qa hb2;have HS2:=qa hS2;(have hc3:=hm2.f3);(have hgl:=hm2.glt);clear hm2 hb2 hS2)|((with_reducible go_at_call 52);refine(q4k HM2.o (by simp) (by simp)).mono ?_;rintro en w3 ⟨rfl,S3,hm3,hg3⟩;obtain⟨ve,vz,vr,hmk,hS3⟩:=hm3;have HMK:=qa hmk;have HG3:=qa hg3;(have hc1:=hmk.c1);(have hf1:=hmk.f 1);(have qka:=hmk.lt);clear hmk hg3))
  have hSF:=HMK.o.setF 0;rw[<-hS3]at hSF
  have HW4:Hid (Below w.heap.size w (w3.setCell ⟨g,1,none⟩ (.int .i64 0))):=qa (by
   have e1:Below w.heap.size w w2:=HW1.o.trans (HB2.o.mono (by have:=HGE.o;omega));have e2:=(HG3.o.trans hSF.2).below (n:=w.heap.size) e1.size (fun k hk=>by have:=HS2.o k hk;omega);exact e1.trans e2)
  have HM4:Hid (MkT (w3.setCell ⟨g,1,none⟩ (.int .i64 0)) S3 g (g+1) (mkS ll 0) 0):=qa ⟨ve,vz,vr,hSF.1,hS3⟩
  have HS3:Hid (∀k,S3 k->w.heap.size+1<=k):=qa (fun k hk=>by
   rcases HG3.o.sub k hk with h|h
   ·have:=HS2.o k h;omega
   have:=HB2.o.size;have:=HGE.o;omega)
  have qeG:Hid (Own (w3.setCell ⟨g,1,none⟩ (.int .i64 0)) 0 35 (.slice (some ⟨w.heap.size,0,none⟩) 3 3) [.slice none 0 0,.int .i64 0,.slice none 0 0]):=qa (by
   refine(HG3.o.trans hSF.2).own (qdn.o.up (HB2.o.mono (by have:=HGE.o;omega))) (fun k hk e=>?_);have:=HS2.o k e;have:w.heap.size=k:=qr hk;omega)
  clear HM2 HB2 HS2 hc3 hgl HMK HG3 hc1 hf1 qka hSF hS3 HW1 qdn HST HGE;generalize w3.setCell ⟨g,1,none⟩ (.int .i64 0)=w4 at*;go_wp2
  go_loopg [27] (ll.length) (fun gk iv wr=>∃(i:Nat) (Sr:Nat->Prop),iv=.int .i64 i/\i<=ll.length/\MkT wr Sr g (g+1) (mkS ll i) 0/\Below w.heap.size w wr/\(∀k,Sr k->w.heap.size+1<=k)/\Own wr 0 35 (.slice (some ⟨w.heap.size,0,none⟩) 3 3) [.slice none 0 0,.int .i64 0,.slice none 0 0]/\gk=ll.length-i)
  case atStart=>exact⟨0,S3,rfl,qd _,HM4.o,HW4.o,HS3.o,qeG.o,rfl⟩
  case round=>
   obtain⟨i,Sr,rfl,hi,hm1,hw,hS,hbx,rfl⟩:=hrel;have HM1:=qa hm1;have HW:=qa hw;have HS1:=qa hS;have qdn:=qa hbx;clear hm1 hw hS hbx HM4 HW4 HS3 qeG;by_cases hlt:i<ll.length
   ·obtain⟨u,hcu,hnu⟩:=HC.o i hlt
    have hb:=HB.o (by omega);have hcw:=(HW.o.cell (p:=⟨b,off+i,none⟩) hb).trans hcu;have hbw:b<wr.heap.size:=by have:=HW.o.size;omega
    have hck:=HCK.o.1 (ll.getD i []) (by simp[List.getD,hlt]);obtain⟨x,k,h1,h2,h3,h4,h5,h6,h7,h8⟩:=r6 hck;rw[j7]at h1;rw[h1]at hnu;obtain⟨b1,hnb⟩:=q4p hnu (by simp);have hbl:=hnb.lt;have hmo:=HMO.o i hi;have qjX:=HMO.o (i+1) hlt;have q1:=hmo.len;have q2:=hmo.rlen;have q3:=hmo.tot;have hsl:=(R1 ll (i+1) hlt).2;have hs0:=(R1 ll i hi).1;have hss:=zX ll i hlt;rw[h8]at hss;have hz:=lP h4 (lL k h5).1;have qko:=HCK.o.2
    have hu:sR x (iF k)=d5 x (usz k):=by
     have:=q8j (f:=.cons x k .nil) ⟨h4,h5,trivial⟩ (by simp only[iF];omega);simpa[iF,usz]using this
    have hok:=oX x (fun s=>gP k s) (usz k) (cnt k) h4 h2 (nC k h3 h5) (mkS ll i)
    have hms:mkS ll (i+1)=R0 (.cons x k .nil) i (mkS ll i):=by
     show R0 _ _ _=_;rw[pA ll i hlt,h1,fN x k h2 h3]
     rfl
    have k1:=hok.len;have k2:=hok.rlen;have k3:=hok.rng 0 (by omega);have k4:=hok.tot;simp only[ja]at k1 k2 k3 k4;obtain⟨Y,hY⟩:∃Y,Y=eD x (fun s=>gP k s) (mkS ll i):=⟨_,rfl⟩;obtain⟨pf,hpf⟩:∃pf,pf=Y.1.f:=⟨_,rfl⟩;obtain⟨pl,hpl⟩:∃pl,pl=Y.1.l:=⟨_,rfl⟩;have qgU:=qa (qbf 400 wr Sr g (g+1) (mkS ll i) 0 u b1 x k h7 (hnb.up HW.o) (fun e=>by have:=HS1.o _ e;omega) h7 h2 h3 h4 h5 HM1.o (by omega) (by omega) (by omega) pf pl (by rw[<-hY];exact hpf) (by rw[<-hY];exact hpl));rw[<-hY]at qgU k1 k2 k3 k4;rw[<-hpf,<-hpl]at k3;have HMS:Hid (mkS ll (i+1)=⟨(bM 0 pf Y.2).e,(bM 0 pf Y.2).r.set pl (i:Int)⟩):=qa (by rw[hms];simp only[R0,zY];rw[<-hY,hpf,hpl]);have HRB:Hid (Y.2.r.length<=5000):=qa (by omega);have HKK:Hid (0<Y.2.e.length/\pl<Y.2.r.length/\Y.2.e.length<=5000/\tot Y.2.e<=20000):=qa ⟨by omega,by omega,by omega,by omega⟩;have qm2:i<=32:=by omega
    clear hcu hck h1 h2 h3 h4 h5 h6 h7 h8 hnu hnb hbl hmo qjX q1 q2 q3 hsl hs0 hss hz qko hu hok hms k1 k2 k3 k4 hY hpf hpl
    go_wp2_with((with_reducible go_at_call 25);refine qgU.o.mono ?_;rintro en w5 ⟨rfl,S5,hm5,hg5⟩;have HM5:=qa hm5;have HG5:=qa hg5;clear hm5 hg5)
    have HM6:=qa (HM5.o.up (aD w5 (.cells #[.int .i64 (pf:Nat),.int .i64 (pl:Nat)] 80)));have HG6:=qa (HG5.o.up (aD w5 (.cells #[.int .i64 (pf:Nat),.int .i64 (pl:Nat)] 80)));have P86:Hid (LB (w5.alloc (.cells #[.int .i64 (pf:Nat),.int .i64 (pl:Nat)] 80)) S5 w5.heap.size pf pl):=qa ⟨fO w5 _ _,HM5.o.no (qb _)⟩;clear HM5 HG5 qgU;generalize w5.heap.size=p8 at*;generalize w5.alloc (.cells #[.int .i64 (pf:Nat),.int .i64 (pl:Nat)] 80)=w6 at*;have hc4:=HM6.o.f4;have hgl:=HM6.o.glt;have hc1:=HM6.o.f1;have P8a:=P86.o.box.c0;have P8l:=P86.o.box.lt;have HFR:=qa (pV (HM6.o.up (aP _)) 0 pf HKK.o.1 (by have:=HKK.o;omega) (by have:=HKK.o;omega));rw[show((0:Nat):Int)=0 from rfl]at HFR;go_wp2;refine aR [0,1,2,3,4,5,6,7,8,9,10] [] [11] (by kernel_rfl) (by kernel_rfl) ?_;simp only[pk]
    repeat(go_big_quiet_step (fail))
    refine wpQuiet_nil ?_;unfold aF;unfold aF
    go_wp2_with((with_reducible go_at_call 53);refine HFR.o.mono ?_;rintro en w7 ⟨rfl,S7,hm,hg⟩;have HM7:=qa hm;have HG7:=qa ((HG6.o.up (aP _)).trans hg);have P87:=qa ((P86.o.up (aP _)).gw hg);clear hm hg)
    refine⟨trivial,?_⟩;unfold aF;clear HM6 HG6 P86 hc4 hgl hc1 P8a P8l HFR;obtain⟨ve,vz,vr,hmk,hS7⟩:=HM7.o;have hpl:=HKK.o.2.1;have hrl:(ints (bM 0 pf Y.2).r).length=Y.2.r.length:=by simp
    obtain⟨orr,cr,gr,hvr,hdr,-,hcr,hfr,-⟩:=hmk.rules.cases;rw[hrl]at hvr hdr hcr hfr;have hor:=hdr.hat (by omega);subst hor;subst hvr;have qdW:=fun(W:World)=>aT (P:=prog) 27 3 underlying27 (by kernel_rfl) hdr W .i64 pl (by omega) (by omega);simp only[qD,qI]at qdW;have qmk:=hcr pl hpl;have qm7:=hfr pl hpl;have qm3:=hdr.hblk (by omega);have hc2:=hmk.c2;have hgl:=hmk.lt;have P8a:=P87.o.box.c1;have P8l:=P87.o.box.lt;have HSR:=qa (hmk.setRule pl (i:Int));have hrb:Y.2.r.length<=100000:=by have:=hdr.hsml;have:=HRB.o;omega
    clear hmk hdr hcr hfr hrl hpl;go_wp2;refine aR [0,1,2,3,4,5,6,7,8] [] [9] (by kernel_rfl) (by kernel_rfl) ?_;simp only[pk]
    repeat(go_big_quiet_step (fail))
    refine wpQuiet_nil ?_;unfold aF;unfold aF;go_wp2;refine⟨trivial,?_⟩;unfold aF;go_wp2
    go_roundg (ll.length-(i+1))
    case measure=>omega
    case rel=>
     have hgz:Gw Sr wr S7 (w7.setCell ⟨gr,pl,none⟩ (.int .i64 (i:Int))).drew:=(HG7.o.trans (by rw[hS7];exact HSR.o.2)).up (aP _);have hbz:=hgz.below (n:=w.heap.size) HW.o.size (fun k hk=>by have:=HS1.o k hk;omega);refine⟨i+1,S7,by go_num,by omega,?_,HW.o.trans hbz,fun k hk=>?_,?_,rfl⟩
     ·rw[HMS.o]
      exact MkW.up ⟨_,_,_,HSR.o.1,hS7⟩ (aP _)
     ·rcases hgz.sub k hk with h|h
      ·exact HS1.o k h
      have:=qdn.o.blk.2;omega
     exact hgz.own qdn.o (fun k hk e=>by have:=HS1.o k e;have:w.heap.size=k:=qr hk;omega)
   have hie:i=ll.length:=by omega
   subst hie;obtain⟨ve,vz,vr,hmk,hS7⟩:=HM1.o;have HMK:=qa hmk
   have HCL:Hid (∀c,c<3->wr.cell? ⟨g,0+c,none⟩=some ((#[ve,.int .i64 0,vr]:Array Value).getD c undef)):=qa (fun c hcl=>by
    rw[qI];rcases(show c=0\/c=1\/c=2 by omega)with rfl|rfl|rfl
    ·exact hmk.c0
    ·exact hmk.c1
    exact hmk.c2)
   have HON:=qa (q4q ve vr 0 (lC hmk.outer) (lC hmk.rules));have hgl:=hmk.lt;clear hmk
   go_wp2_with(first|(refine aH rfl 35 _ rfl g 0 3 rfl _ _ HCL.o rfl underlying35 rfl (by kernel_rfl) ?_)|(refine bK rfl 35 _ _ rfl 0 35 w.heap.size 3 3 rfl #[ve,.int .i64 0,vr] rfl (by kernel_rfl) _ qdn.o (qb 3) HON.o ?_;intro wF hF hgF;have HF:=qa hF;have HGF:=qa hgF;clear hF hgF))
   refine bS rfl rfl rfl rfl (q21 HF.o) ?_;refine⟨#[ve,.int .i64 0,vr],by rw[HR0.o];rfl,fun _=>?_,fun h=>absurd HR0.o h,HW.o.grown HGF.o HW.o.size (fun j hj=>by cases hj;exact qb _)⟩;exact HMK.o.nfaKeep HGF.o (fun k hk=>by rw[<-hS7]at hk;have:=HS1.o k hk;omega) (by omega)
 have hbe:(R==0)=false:=by simpa using h0
 have HR0:=qa h0;clear h0;go_enter func7,ntmps7
 go_upto_region 3 with((with_reducible go_at_call 23);refine HMY.o.mono ?_;rintro en w1 ⟨rfl,x1,rfl⟩)
 have qdn:=qa (HBX.o.up (aE _ x1));have HW1:=qa (gK hA x1);generalize ext (w.alloc (.cells #[.slice none 0 0,.int .i64 0,.slice none 0 0] 35)) x1=w1 at*
 go_wp2_with(refine bK rfl 35 _ _ rfl 0 35 w.heap.size 3 3 rfl #[.slice none 0 0,.int .i64 0,.slice none 0 0] rfl (by kernel_rfl) _ qdn.o (qb 3) (q4q _ _ _ rfl rfl) ?_;intro wF hF hgF;have HF:=qa hF;have HGF:=qa hgF;clear hF hgF)
 refine bS rfl rfl rfl rfl (q21 HF.o) ?_;exact⟨_,rfl,fun h=>absurd h HR0.o,fun _=>rfl,HW1.o.grown HGF.o HW1.o.size (fun j hj=>by cases hj;exact qb _)⟩
def mk1(m:List Int)(s:Int):List Int:=if 0<=s/\s<m.length then m.set s.toNat 1 else m
theorem q3c(m:List Int)(s:Int):(mk1 m s).length=m.length:=by unfold mk1;split<;>simp
def uI(n:Nat)(st:List Int):List Int:=st.foldl mk1 (List.replicate n 0)
def mQ(m:List Int):List Nat:=(List.range m.length).filter fun i=>decide (0<m.getD i 0)
theorem q3e{α β:Type}(f:β->α->β)(b:β)(l:List α)(d:α)(j:Nat)(h:j<l.length):(l.take (j+1)).foldl f b=f ((l.take j).foldl f b) (l.getD j d):=by
 rw[qM h,qZ];simp[List.getD,h]
theorem yJ(l:List Int):∀m:List Int,(l.foldl mk1 m).length=m.length:=by
 induction l with
 |nil=>intro m;rfl
 |cons a l ih=>intro m;simp only[qL];rw[ih,q3c]
theorem wU(p:Nat->Bool)(j:Nat):(List.range (j+1)).filter p=(List.range j).filter p++(if p j then [j]else []):=by
 rw[jz,List.filter_append];by_cases h:p j<;>simp[h]
theorem q3f(p:Nat->Bool)(j:Nat):((List.range j).filter p).length<=j:=qc (a6 _ _) (by simp)
theorem q1b{w:World}{v:Value}{m:List Int}(h:eB w v m)(hm:m.length<=100000):
  Calls prog 83 #[v] w fun e w'=>∃u,e=.returned u/\Own w' w.heap.size 3 u (ints (nz (mQ m)))/\Below w.heap.size w w':=by
 obtain⟨oa,cap,b,off,rfl,hd,hc⟩:=h.open;have hix:=fun(W:World) (i:Nat) (hi:i<m.length)=>aT (P:=prog) 27 3 underlying27 (by kernel_rfl) hd W .i64 i (by omega) (by omega);simp only[qD]at hix;have HB:=qa hd.hblk;have HC:=qa hc;obtain⟨n,hn⟩:∃n,n=m.length:=⟨_,rfl⟩;have HMN:Hid (mQ m=(List.range n).filter fun i=>decide (0<m.getD i 0)):=qa (by rw[hn];rfl);rw[<-hn]at hix HB HC hm⊢;clear h hd hc hn;go_enter func83,ntmps83;go_wp2
 go_loopg [3,8] n (fun gk ov iv wr=>∃i:Nat,iv=.int .i64 i/\i<=n/\Own wr w.heap.size 3 ov (ints (nz ((List.range i).filter fun i=>decide (0<m.getD i 0))))/\Below w.heap.size w wr/\gk=n-i)
 case atStart=>exact⟨0,rfl,qd _,Own.nil _ _ _,qn _ _,rfl⟩
 case round=>
  obtain⟨i,rfl,hi,hown,qcw,rfl⟩:=hrel;have HO:=qa hown;have HW:=qa qcw;clear hown qcw;by_cases hlt:i<n
  ·have hcell:=(HW.o.cell (p:=⟨b,off+i,none⟩) (HB.o (by omega))).trans (HC.o i hlt)
   have hbw:b<wr.heap.size:=by have:=HW.o.size;have:=HB.o (by omega);omega
   have qcB:=fun W=>hix W i hlt;have HRS:=qa (wU (fun i=>decide (0<m.getD i 0)) i);have hfl:=q3f (fun i=>decide (0<m.getD i 0)) i;have hsz:=HW.o.size;obtain⟨x,hx⟩:∃x,x=m.getD i 0:=⟨_,rfl⟩;rw[<-hx]at hcell;have HX:=qa hx;clear hx;by_cases hp:0<x
   ·have HRT:Hid ((List.range (i+1)).filter (fun i=>decide (0<m.getD i 0))=(List.range i).filter (fun i=>decide (0<m.getD i 0))++[i]):=qa (by
     have hf:decide (0<m.getD i 0)=true:=by rw[<-HX.o];exact qz hp
     rw[HRS.o];simp only[hf,jJ])
    generalize (List.range i).filter (fun i=>decide (0<m.getD i 0))=fl at*;have hlW:=aD wr (.cells #[.int .i64 (i:Int)] 3);have HLW:=qa hlW;clear hlW
    go_wp2_with(at_builtin;refine bF rfl (.tmp 15) (.tmp 17) 27 rfl w.heap.size 3 (.int .i64 0) 8 underlying27 (by kernel_rfl) rfl (by decide) u3 (ints (nz fl)) rfl (HO.o.up HLW.o) (.slice (some ⟨wr.heap.size,0,none⟩) 1 1) (ints (nz [i])) rfl (by simpa[ints,nz]using eK wr #[.int .i64 (i:Int)] 3 (by simp)) (zW _) (by simp[nz];omega) (qc hsz HLW.o.size) ?_;intro v' w5 hown1 hg1 hk1;have HO1:=qa hown1;have HG1:=qa hg1;clear hown1 hg1 hk1)
    go_roundg (n-(i+1))
    case measure=>omega
    case rel=>
     refine⟨i+1,by go_num,by omega,?_,eO (HW.o.trans (HLW.o.mono hsz)) (qc hsz HLW.o.size) (HO.o.up HLW.o) HG1.o,rfl⟩;rw[HRT.o,zV,rZ];exact HO1.o
   have HRT:Hid ((List.range (i+1)).filter (fun i=>decide (0<m.getD i 0))=(List.range i).filter (fun i=>decide (0<m.getD i 0))):=qa (by
    have hf:decide (0<m.getD i 0)=false:=by rw[<-HX.o];exact qx hp
    rw[HRS.o];simp only[hf,qT,jt,j7])
   go_wp2
   go_roundg (n-(i+1))
   case measure=>omega
   case rel=>exact⟨i+1,by go_num,by omega,by rw[HRT.o];exact HO.o,HW.o,rfl⟩
  have hie:i=n:=by omega
  subst hie;go_wp2;go_ret;exact⟨u3,rfl,by rw[HMN.o];exact HO.o,HW.o⟩
def cY:Ed:=⟨0,false,0,0,0,0⟩
def q0U(n:Nat)(x:Ed):Bool:=decide (0<=x.tgt/\x.tgt<n)&&(!x.free||decide (x.a=0/\x.b=0/\x.c=0/\x.d=0))
def r9(n:Nat)(r:Int)(row:List Ed):Bool:=decide (-1<=r/\r<32)&&row.all (q0U n)
def Y6(e:List (List Ed))(F:Int)(r:List Int):Bool:=decide (1<=e.length/\e.length<=3000/\r.length=e.length/\0<=F/\F<e.length)
def dK(e:List (List Ed))(F:Int)(r:List Int):Bool:=Y6 e F r&&(List.range e.length).all fun i=>r9 e.length (r.getD i 0) (e.getD i [])
theorem lD{e:List (List Ed)}{F:Int}{r:List Int}:dK e F r=true↔Y6 e F r=true/\∀i,i<e.length->r9 e.length (r.getD i 0) (e.getD i [])=true:=by
 unfold dK;rw[qK,List.all_eq_true];simp only[a9]
theorem A5{n:Nat}{r:Int}{row:List Ed}:r9 n r row=true↔(-1<=r/\r<32)/\∀j,j<row.length->q0U n (row.getD j cY)=true:=by
 unfold r9;rw[qK,List.all_eq_true,jX];refine and_congr_right fun _=>⟨fun h j hj=>h _ (by simp[List.getD,hj]),fun h x hx=>?_⟩;obtain⟨j,hj,rfl⟩:=jj hx;have:=h j hj;simpa[List.getD,hj]using this
theorem wT.open{w:World}{v:Value}{ll:List (List Ed)}(h:wT w v ll):
  ∃oa cap b off,v=.slice oa ll.length cap/\Hd w oa ll.length cap b off/\∀i,i<ll.length->
   ∃oi ci bi fi,w.cell? ⟨b,off+i,none⟩=some (.slice oi (ll.getD i []).length ci)/\Hd w oi (ll.getD i []).length ci bi fi/\∀j,j<(ll.getD i []).length->∀c,c<6->w.cell? ⟨bi,fi+j*6+c,none⟩=some ((edC ((ll.getD i []).getD j cY)).getD c undef):=by
 obtain⟨vs,⟨oa,cap,b,off,rfl,hd,hc⟩,h2,h3⟩:=h;rw[h2]at hd hc⊢;refine⟨oa,cap,b,off,rfl,hd,fun i hi=>?_⟩;obtain⟨oi,ci,bi,fi,he,hdi,hci⟩:=h3 i hi;rw[qB]at he hdi hci;refine⟨oi,ci,bi,fi,by rw[hc i hi,he],hdi,fun j hj c hcl=>?_⟩;rw[hci j hj c hcl]
 have e1:((ll.getD i []).map edC).getD j []=edC ((ll.getD i []).getD j cY):=by
  generalize ll.getD i []=row at*;simp[List.getD,hj]
 rw[e1]
def edA(x:Ed):Array Value:=#[.int .i64 x.tgt,.bool x.free,.int .u64 x.a,.int .u64 x.b,.int .u64 x.c,.int .u64 x.d]
theorem R8(x:Ed)(c:Nat):(edC x).getD c undef=(edA x).getD c undef:=by unfold edC edA;simp[List.getD,qS]
theorem s9{w:World}{oa:Option Addr}{b off len cap:Nat}(h:Hd w oa len cap b off):
  ∀(W:World) (i:Nat),i<len->(Instr.indexAt 112 (.slice oa len cap) (.int .i64 i)).run prog W=.ok (.pointer (some ⟨b,off+i*6,none⟩)) W:=fun W i hi=>by
 have:=mJ (P:=prog) 6 112 114 underlying112 (by kernel_rfl) h W .i64 i (by omega) (by omega);simpa using this
theorem uJ{w:World}{oa:Option Addr}{b off len cap:Nat}(h:Hd w oa len cap b off):
  ∀(W:World) (i:Nat),i<len->(Instr.indexAt 33 (.slice oa len cap) (.int .i64 i)).run prog W=.ok (.pointer (some ⟨b,off+i,none⟩)) W:=fun W i hi=>by
 have:=aT (P:=prog) 33 112 underlying33 (by kernel_rfl) h W .i64 i (by omega) (by omega);simpa using this
theorem A6{w:World}{oa:Option Addr}{b off len cap:Nat}(h:Hd w oa len cap b off):
  ∀(W:World) (i:Nat),i<len->(Instr.indexAt 27 (.slice oa len cap) (.int .i64 i)).run prog W=.ok (.pointer (some ⟨b,off+i,none⟩)) W:=fun W i hi=>by
 have:=aT (P:=prog) 27 3 underlying27 (by kernel_rfl) h W .i64 i (by omega) (by omega);simpa using this
theorem q4r{w:World}{A:Array Value}{e:List (List Ed)}{F:Int}{r:List Int}(h:X4 w A e F r):
  Calls prog 60 #[.agg A] w fun en w'=>en=.returned (.bool (dK e F r))/\∃x,w'=ext w x:=by
 obtain⟨ve,vr,rfl,he,hr⟩:=h;obtain⟨oe,ce,be,fe,rfl,hde,hce⟩:=he.open;obtain⟨orr,cr,br,fr,rfl,hdr,hcr⟩:=hr.open;have qdw:=uJ hde;have qdW:=A6 hdr;have hme:=hde.len;have hmr:=hdr.len;have hbe:=hde.hblk;have hbr:=hdr.hblk;have HCE:=qa hce;have HCR:=qa hcr;have HIF:=qa (lD (e:=e) (F:=F) (r:=r));obtain⟨R,hR⟩:∃R,R=dK e F r:=⟨_,rfl⟩;have HR:=qa hR;have HF0:Hid (Y6 e F r=false->R=false):=qa (fun h=>by rw[hR];unfold dK;rw[h];rfl);have HHD:Hid (Y6 e F r=decide (1<=e.length/\e.length<=3000/\r.length=e.length/\0<=F/\F<e.length)):=qa rfl;have c1:=q1S;have g1:=mN;rw[<-hR];obtain⟨n,hn⟩:∃n,n=e.length:=⟨_,rfl⟩;obtain⟨m,hm⟩:∃m,m=r.length:=⟨_,rfl⟩;have HN:=qa hn;have HM:=qa hm;rw[<-hn]at qdw hme hbe HCE⊢;rw[<-hm]at qdW hmr hbr HCR⊢;have hHD:=HHD.o;rw[<-hn,<-hm]at hHD;clear he hr hde hdr hce hcr hR hn hm HHD;by_cases hok:1<=n/\n<=3000/\m=n/\0<=F/\F<n
 ·obtain⟨k1,k2,k3,k4,k5⟩:=hok
  have HH:Hid (Y6 e F r=true):=qa (by rw[hHD];simp;omega);subst k3
  have HFB:Hid (∀i,i<m->r9 m (r.getD i 0) (e.getD i [])=false->R=false):=qa (fun i hi hf=>by
   rw[HR.o];cases hq:dK e F r with
   |false=>rfl
   |true=>have:=(HIF.o.1 hq).2 i (by rw[<-HN.o];exact hi);rw[<-HN.o,hf]at this;cases this)
  have HTB:Hid ((∀i,i<m->r9 m (r.getD i 0) (e.getD i [])=true)->R=true):=qa (fun h=>by
   rw[HR.o];exact HIF.o.2 ⟨HH.o,fun i hi=>by rw[<-HN.o]at hi⊢;exact h i hi⟩)
  have d1:decide ((m:Int)<1)=false:=by simp;omega
  have d2:decide ((3000:Int)<m)=false:=by simp;omega
  have d3:decide (F<0)=false:=by simp;omega
  have d4:decide ((m:Int)<=F)=false:=by simp;omega
  have qfp:=hbe (by omega);have qkw:=hbr (by omega);have HA:=qa (aD w (.cells #[.slice oe m ce,.int .i64 F,.slice orr m cr] 35));have hsz:(w.alloc (.cells #[.slice oe m ce,.int .i64 F,.slice orr m cr] 35)).heap.size=w.heap.size+1:=by simp
  have HB0:Hid ((w.alloc (.cells #[.slice oe m ce,.int .i64 F,.slice orr m cr] 35)).cell? ⟨w.heap.size,0,none⟩=some (.slice oe m ce)):=qa (by rw[World.cell?_alloc_new];rfl);have HB2:Hid ((w.alloc (.cells #[.slice oe m ce,.int .i64 F,.slice orr m cr] 35)).cell? ⟨w.heap.size,2,none⟩=some (.slice orr m cr)):=qa (by rw[World.cell?_alloc_new];rfl);clear hHD HF0 hbe hbr;go_enter func60,ntmps60;go_wp2;generalize w.alloc (.cells #[.slice oe m ce,.int .i64 F,.slice orr m cr] 35)=w1 at*;have qe5:w.heap.size<w1.heap.size:=by omega
  clear hsz
  go_loopg [38] m (fun gk iv wr=>∃i:Nat,iv=.int .i64 i/\i<=m/\(∀q,q<i->r9 m (r.getD q 0) (e.getD q [])=true)/\Below w1.heap.size w1 wr/\gk=m-i)
  case atStart=>exact⟨0,rfl,qd _,fun q hq=>absurd hq (qC q),qn _ _,rfl⟩
  case round=>
   obtain⟨i,rfl,hi,hall,qcw,rfl⟩:=hrel;have qdG:=qa hall;have HW:=qa qcw;have HWW:=qa (HA.o.trans (qcw.mono HA.o.size));clear hall qcw;have b0:=(HW.o.cell (p:=⟨w.heap.size,0,none⟩) qe5).trans HB0.o;have b2:=(HW.o.cell (p:=⟨w.heap.size,2,none⟩) qe5).trans HB2.o;have bl:w.heap.size<wr.heap.size:=by have:=HW.o.size;omega
   by_cases hlt:i<m
   ·obtain⟨oi,ci,bi,fi,hrow,hdi,hcell⟩:=HCE.o i hlt
    have hrow2:=(HWW.o.cell (p:=⟨be,fe+i,none⟩) qfp).trans hrow;have hri:=(HWW.o.cell (p:=⟨br,fr+i,none⟩) qkw).trans (HCR.o i hlt);have qdL:be<wr.heap.size:=by omega
    have qkv:br<wr.heap.size:=by omega
    have qe9:=fun W=>qdw W i hlt;have qk3:=fun W=>qdW W i hlt;have qcB:=s9 hdi;have hbi:=hdi.hblk;have hmi:=hdi.len;have HCI:=qa hcell;have HRW:=qa (A5 (n:=m) (r:=r.getD i 0) (row:=e.getD i []));have HFI:=qa (HFB.o i hlt);obtain⟨row,hrw⟩:∃row,row=e.getD i []:=⟨_,rfl⟩;have HRO:=qa hrw;obtain⟨ri,hrr⟩:∃ri,ri=r.getD i 0:=⟨_,rfl⟩;have HRR:=qa hrr;rw[<-hrw]at hrow2 qcB hbi hmi HCI HRW HFI;rw[<-hrr]at hri HRW HFI;obtain⟨ln,hln⟩:∃ln,ln=row.length:=⟨_,rfl⟩;rw[<-hln]at hrow2 qcB hbi hmi HCI HRW;clear hrow hdi hcell hrw hrr hln;by_cases hr1:ri< -1
    ·exact ZmG9
    by_cases hr2:32<=ri
    ·exact ZmG9
    have f1:decide (ri< -1)=false:=by simp;omega
    have f2:decide ((32:Int)<=ri)=false:=by simp;omega
    have f3:decide ((31:Int)<ri)=false:=by simp;omega
    go_wp2;generalize wr=wo at*
    go_loopg [59] ln (fun gk jv wr=>∃j:Nat,jv=.int .i64 j/\j<=ln/\(∀q,q<j->q0U m (row.getD q cY)=true)/\Below w1.heap.size w1 wr/\gk=ln-j)
    case atStart=>exact⟨0,rfl,qd _,fun q hq=>absurd hq (qC q),HW.o,rfl⟩
    case round=>
     obtain⟨j,rfl,hj,qd3,qcw,rfl⟩:=hrel;have HAJ:=qa qd3;have HWQ:=qa qcw;have HWZ:=qa (HA.o.trans (qcw.mono HA.o.size));have z0:=(HWQ.o.cell (p:=⟨w.heap.size,0,none⟩) qe5).trans HB0.o;have z2:=(HWQ.o.cell (p:=⟨w.heap.size,2,none⟩) qe5).trans HB2.o;have zl:w.heap.size<wr.heap.size:=by have:=HWQ.o.size;omega
     obtain⟨oi2,ci2,bi2,fi2,hrow,-,-⟩:=HCE.o i hlt;have zrow:=(HWZ.o.cell (p:=⟨be,fe+i,none⟩) qfp).trans ((HWW.o.cell (p:=⟨be,fe+i,none⟩) qfp).symm.trans hrow2);have zber:be<wr.heap.size:=by omega
     clear qd3 qcw hrow b0 b2 bl hrow2 hri qdL qkv HW;by_cases qcC:j<ln
     ·obtain⟨ed,hed⟩:∃ed,ed=row.getD j cY:=⟨_,rfl⟩
      have HED:=qa hed;have qdK:=hbi (by omega)
      have HCD:Hid (∀c,c<6->wr.cell? ⟨bi,fi+j*6+c,none⟩=some ((edA ed).getD c undef)):=qa (fun c hcl=>by
       rw[HWZ.o.cell (p:=⟨bi,fi+j*6+c,none⟩) qdK,HCI.o j qcC c hcl,R8,hed])
      obtain⟨tq,fr',a,b,c,d⟩:=ed;unfold edA at HCD;simp only at HCD;have qdX:=fun W=>qcB W j qcC
      have HFE:Hid (q0U m ⟨tq,fr',a,b,c,d⟩=false->R=false):=qa (fun hf=>HFI.o (by
       cases hq:r9 m ri row with
       |false=>rfl
       |true=>have:=(HRW.o.1 hq).2 j qcC;rw[<-HED.o,hf]at this;cases this))
      have HB6:=aD wr (.cells #[.int .i64 tq,.bool fr',.int .u64 a,.int .u64 b,.int .u64 c,.int .u64 d] 114);have HB7:=qa (HWZ.o.trans (HB6.mono HWZ.o.size));have HB8:=qa (HWQ.o.trans (HB6.mono HWQ.o.size));clear hed HB6;by_cases e1:tq<0
      ·exact ZmG6
      by_cases e2:(m:Int)<=tq
      ·exact ZmG6
      cases fr' with
      |false=>
       have HOK:Hid (q0U m ⟨tq,false,a,b,c,d⟩=true):=qa (by unfold q0U;simp;omega)
       exact ZmG5
      |true=>
       by_cases e3:a=0/\b=0/\c=0/\d=0
       ·obtain⟨rfl,rfl,rfl,rfl⟩:=e3
        have HOK:Hid (q0U m ⟨tq,true,0,0,0,0⟩=true):=qa (by unfold q0U;simp;omega)
        exact ZmG5
       have HV:=qa (HFE.o (by unfold q0U;simp;omega));have e4:(!decide (a=0/\b=0/\c=0/\d=0))=true:=by rw[qx e3];rfl
       have c2:∀W,(binOp .neq 53 (.agg #[.int .u64 a,.int .u64 b,.int .u64 c,.int .u64 d]) (.agg #[.int .u64 0,.int .u64 0,.int .u64 0,.int .u64 0])).run prog W=.ok (.bool true) W:=fun W=>by rw[q1S W a b c d 0 0 0 0,e4]
       clear e3 e4 c1
       go_wp2_with(refine aH rfl 114 _ rfl bi (fi+j*6) 6 rfl _ _ HCD.o rfl underlying114 rfl (by kernel_rfl) ?_)
       all_goals(go_ret;exact⟨by rw[HV.o];rfl,aJ HB7.o⟩)
     have HRT:Hid (r9 m ri row=true):=qa (HRW.o.2 ⟨⟨by omega,by omega⟩,fun q hq=>HAJ.o q (by omega)⟩);go_wp2
     go_roundg (m-(i+1))
     case measure=>omega
     case rel=>
      refine⟨i+1,by go_num,by omega,fun q hq=>?_,HWQ.o,rfl⟩;by_cases hqi:q=i
      ·rw[hqi,<-HRO.o,<-HRR.o];exact HRT.o
      exact qdG.o q (by omega)
   have HV:=qa (HTB.o (fun q hq=>qdG.o q (by omega)));go_wp2;go_ret;exact⟨by rw[HV.o];rfl,aJ HWW.o⟩
 have HV:=qa (HF0.o (by rw[hHD];simp;omega));clear hHD;have HA:=qa (aD w (.cells #[.slice oe n ce,.int .i64 F,.slice orr m cr] 35));go_enter func60,ntmps60
 go_upto_region 4 with fail
 all_goals first
  |(go_ret;exact⟨by rw[HV.o];rfl,aJ HA.o⟩)
  |(exfalso;omega)
  |(exfalso;simp_all;omega)
structure q0X(w:World)(p:Nat)(s:ByteArray)(at_:Nat):Prop where
 own:Own w p 102 (.slice (some ⟨p,0,none⟩) 4 4) [.string s,.int .i64 at_,.int .i64 0,.int .i64 0]
section
variable {w w' : World} {p : Nat} {s : ByteArray} {at_ : Nat}
theorem q0X.c0(h:q0X w p s at_):w.cell? ⟨p,0,none⟩=some (.string s):=h.own.cell (by simp)
theorem q0X.c1(h:q0X w p s at_):w.cell? ⟨p,1,none⟩=some (.int .i64 at_):=h.own.cell (by simp)
theorem q0X.c2(h:q0X w p s at_):w.cell? ⟨p,2,none⟩=some (.int .i64 0):=h.own.cell (by simp)
theorem q0X.free(h:q0X w p s at_)(c:Nat):w.frozen? ⟨p,c,none⟩=false:=h.own.free c
theorem q0X.lt(h:q0X w p s at_):p<w.heap.size:=h.own.blk.2
theorem q0X.up(h:q0X w p s at_)(hb:Below w.heap.size w w'):q0X w' p s at_:=⟨h.own.up hb⟩
theorem q0X.set(h:q0X w p s at_)(k:Nat):q0X (w.setCell ⟨p,1,none⟩ (.int .i64 k)) p s k/\w.grownBy (w.setCell ⟨p,1,none⟩ (.int .i64 k)) (some p):=⟨⟨(h.own.store 1 _).1⟩,(h.own.store 1 _).2⟩
end
def dO(w:World)(B:Nat)(u:Value)(l:List Nd):Prop:=eL 8 w B 98 u (l.map ndC)
theorem dO.at{w:World}{B:Nat}{u:Value}{l:List Nd}(h:dO w B u l):bE w u l:=eL.sl h
theorem dO.up{w w':World}{B:Nat}{u:Value}{l:List Nd}(h:dO w B u l)(hb:Below w.heap.size w w'):dO w' B u l:=eL.up h hb
theorem dO.mono{w:World}{B B':Nat}{u:Value}{l:List Nd}(h:dO w B u l)(hb:B'<=B):dO w B' u l:=eL.mono h hb
theorem dO.keep{w w':World}{B p:Nat}{u:Value}{l:List Nd}(h:dO w B u l)(hg:w.grownBy w' (some p))(hp:p<B):dO w' B u l:=
 eL.keep h hg (by
  cases hq:u.ownBlock with
  |none=>exact .inl rfl
  |some b=>
   have:=(eL.lt h b hq).1;refine .inr (fun e=>?_);have:=qr e;omega)
theorem q1h(x:Nd):∀u∈ndC x,u.oneCell'=true:=by
 intro u hu;simp[ndC]at hu;rcases hu with rfl|rfl|rfl|rfl|rfl|rfl|rfl|rfl<;>rfl
theorem q7l(l:List Nd):∀x∈l.map ndC,x.length=8:=by
 intro x hx;obtain⟨y,-,rfl⟩:=List.mem_map.1 hx
 rfl
theorem q7m(l:List Nd):∀u∈(l.map ndC).flatten,u.oneCell'=true:=by
 intro u hu;obtain⟨z,hz,hu⟩:=List.mem_flatten.1 hu;obtain⟨y,-,rfl⟩:=List.mem_map.1 hz;exact q1h y u hu
theorem bE.form{w:World}{v:Value}{l:List Nd}(h:bE w v l):∃oa cap,v=.slice oa l.length cap:=by
 obtain⟨oa,cap,b,off,hv,-,-⟩:=h.open;exact⟨oa,cap,hv⟩
theorem dO.form{w:World}{B:Nat}{v:Value}{l:List Nd}(h:dO w B v l):∃oa cap,v=.slice oa l.length cap:=h.at.form
theorem q4Q{w x y:World}{p q:Nat}(h:w.grownBy x (some p))(k:x.grownBy y (some q))(hq:w.heap.size<=q):w.grownBy y (some p):=
 ⟨k.os.trans h.os,k.tape.trans h.tape,k.output.trans h.output,qc h.size k.size,fun z hz hne=>by
  rw[k.block z (qe hz h.size) (by intro e;have:=qr e;omega),h.block z hz hne]⟩
theorem dO.lt{w:World}{B:Nat}{u:Value}{l:List Nd}(h:dO w B u l):∀b,u.ownBlock=some b->B<=b/\b<w.heap.size:=eL.lt h
end Go.Cm
