/- Walks of functions and plain facts, joined and squeezed by a program. Conditions: as each says. -/
import Derived.Deep.CutRange
import Derived.Test.YtdffpnabpoogbaaGreatDoorCTXF
set_option maxHeartbeats 8000000
set_option maxRecDepth 100000
set_option linter.unusedSimpArgs false
open Go.Proofs.Tryz
namespace Go.Cm
open Go.RowKit Go.Proofs
theorem ZmI0{P:Prop}(h:P:=by
 obtain⟨j,Sr,rfl,rfl,hj,hm,hgw,hjj,hnn,hp6,hp7,rfl⟩:=hrel;have HM1:=qa hm;have HG1:=qa hgw;have HJ1:=qa hjj;have HN1:=qa hnn;have P61:=qa hp6;have P71:=qa hp7;clear hm hgw hjj hnn hp6 hp7 HMX HGX HJX HNX P6X P7X P7a P7b P7l hn6 qbg;have hro:=HRO.o j;have r1:=hro.len;have r2:=hro.rlen;have r3:=hro.at_;have r4:=hro.tot;obtain⟨b1,b2,b3,b4⟩:=HBD.o;by_cases hlt:j<t
 ·have e1:(j+1)*u<=t*u:=Nat.mul_le_mul_right u hlt
  have e2:(j+1)*(2*u)<=t*(2*u):=Nat.mul_le_mul_right (2*u) hlt;rw[jK,Nat.one_mul]at e1 e2;have hys:=HYS.o j;have hlp:=HPL.o (Y j).2;have q1:=hlp.len;have q3:=hlp.rng 0 (by omega);have q4:=hlp.tot;simp only[j7]at q1 q3 q4;have HCL:=qa (HPT.o wr Sr (Y j).2 HM1.o HJ1.o (by omega) (by omega) (by omega) (part (Y j).2).1.f (part (Y j).2).1.l rfl rfl);obtain⟨at_,hat⟩:∃at_,at_=(Y j).1:=⟨_,rfl⟩;obtain⟨sj,hsj⟩:∃sj,sj=(part (Y j).2).2:=⟨_,rfl⟩;obtain⟨qf,hqf⟩:∃qf,qf=(part (Y j).2).1.f:=⟨_,rfl⟩;obtain⟨ql,hql⟩:∃ql,ql=(part (Y j).2).1.l:=⟨_,rfl⟩;rw[<-hqf,<-hql]at HCL;rw[<-hat,<-hsj,<-hqf,<-hql]at hys;rw[<-hsj]at HCL q1 q3 q4;rw[<-hqf,<-hql]at q3;rw[<-hat]at r3⊢;have k1:at_<sj.e.length:=by omega
  have k2:sj.e.length<=4000:=by omega
  have k3:tot sj.e<=95000:=by omega
  have k4:np<sj.e.length:=by omega
  obtain⟨k5,k6⟩:=q3;have HYJ:=qa hys;have qdE:=HG1.o.size;clear hys hlp q1 q4 e1 e2 hat hsj hqf hql r1 r2 r3 r4 hro qfc qe9
  go_wp2_with((with_reducible go_at_call 174);refine HCL.o.mono ?_;rintro en' w5 ⟨rfl,S5,hm,hg⟩;have HM5:=qa hm;have HG5:=qa (HG1.o.trans hg);have HJ5:=qa (hJg _ _ _ _ HJ1.o hg);have HN5:=qa (HN1.o.gw hg);have P65:=qa (P61.o.gw hg);have P75:=qa (P71.o.gw hg);clear hm hg)
  have HM6:=qa (HM5.o.up (aA w5 (.cells #[.int .i64 qf,.int .i64 ql] 221)));have HJ6:=qa (hJb _ _ _ HJ5.o (aA w5 (.cells #[.int .i64 qf,.int .i64 ql] 221)));have HN6:=qa (HN5.o.up (aA w5 (.cells #[.int .i64 qf,.int .i64 ql] 221)));have P66:=qa (P65.o.up (aA w5 (.cells #[.int .i64 qf,.int .i64 ql] 221)));have P76:=qa (P75.o.up (aA w5 (.cells #[.int .i64 qf,.int .i64 ql] 221)));have PA6:Hid (LB (w5.alloc (.cells #[.int .i64 qf,.int .i64 ql] 221)) S5 w5.heap.size qf ql):=qa ⟨fE w5 qf ql,HM5.o.no (qb _)⟩;have HG6:=qa (HG5.o.up (aA w5 (.cells #[.int .i64 qf,.int .i64 ql] 221)));clear HM1 HG1 HJ1 HN1 P61 P71 HM5 HG5 HJ5 HN5 P65 P75 HCL;generalize w5.heap.size=p10 at*;generalize w5.alloc (.cells #[.int .i64 qf,.int .i64 ql] 221)=w6 at*;have hc4:=HM6.o.f4;have hgl:=HM6.o.glt;have PAa:=PA6.o.box.c0;have PAb:=PA6.o.box.c1;have PAl:=PA6.o.box.lt;have hn6:w6.cell? ⟨w.heap.size,6,none⟩=some (.int .i64 lo):=HN6.o.c 6 (show 6<8 by decide);have hn7:w6.cell? ⟨w.heap.size,7,none⟩=some (.int .i64 hi):=HN6.o.c 7 (show 7<8 by decide);have qbg:=HN6.o.lt
  try go_wp2
  refine aT [0,1,2,3,4,5,6] [] [7] (by kernel_rfl) (by kernel_rfl) ?_;simp only[pk]
  repeat(go_big_quiet_step (fail))
  refine wpQuiet_nil ?_;unfold aG;unfold aG
  go_wp2_with((with_reducible go_at_call 170);refine(nN (HM6.o.up (aR _)) at_ qf k1 (by omega) (by omega)).mono ?_;rintro en w7 ⟨rfl,S7,hm,hg⟩;have HM7:=qa hm;have HG7:=qa ((HG6.o.up (aR _)).trans hg);have PA7:=qa ((PA6.o.up (aR _)).gw hg);have HN7:=qa ((HN6.o.up (aR _)).gw hg);have P67:=qa ((P66.o.up (aR _)).gw hg);have P77:=qa ((P76.o.up (aR _)).gw hg);have HJ7:=qa (hJg _ _ _ _ (hJb _ _ _ HJ6.o (aR _)) hg);clear hm hg)
  refine⟨trivial,?_⟩;unfold aG;clear hc4 hgl hn6 hn7 qbg PAa PAb PAl HM6 HG6 HJ6 PA6 HN6 P66 P76;have t7:=e9 at_ qf sj;have l7:=eT at_ qf sj;obtain⟨s7,hs7⟩:∃s7,s7=d6 at_ qf sj:=⟨_,rfl⟩;rw[<-hs7]at t7 l7 HM7 HYJ;clear hs7;by_cases hc1:lo<=(j:Int)+1
  ·have hd1:decide (lo<=(j:Int)+1)=true:=by simpa using hc1
   rw[hd1]at HYJ;clear hd1;have hc4:=HM7.o.f4;have hgl:=HM7.o.glt;have PAa:=PA7.o.box.c0;have PAb:=PA7.o.box.c1;have PAl:=PA7.o.box.lt;have P7a:=P77.o.box.c0;have P7b:=P77.o.box.c1;have P7l:=P77.o.box.lt;have hn6:w7.cell? ⟨w.heap.size,6,none⟩=some (.int .i64 lo):=HN7.o.c 6 (show 6<8 by decide);have hn7:w7.cell? ⟨w.heap.size,7,none⟩=some (.int .i64 hi):=HN7.o.c 7 (show 7<8 by decide);have qbg:=HN7.o.lt
   try go_wp2
   refine aT [0,1,2,3,4,5,6] [] [7] (by kernel_rfl) (by kernel_rfl) ?_;simp only[pk]
   repeat(go_big_quiet_step (fail))
   refine wpQuiet_nil ?_;unfold aG;unfold aG
   go_wp2_with((with_reducible go_at_call 170);refine(nN (HM7.o.up (aR _)) ql mp (by omega) (by omega) (by omega)).mono ?_;rintro en w8 ⟨rfl,S8,hm,hg⟩;have HM8:=qa hm;have HG8:=qa ((HG7.o.up (aR _)).trans hg);have PA8:=qa ((PA7.o.up (aR _)).gw hg);have P78:=qa ((P77.o.up (aR _)).gw hg);have HN8:=qa ((HN7.o.up (aR _)).gw hg);have P68:=qa ((P67.o.up (aR _)).gw hg);have HJ8:=qa (hJg _ _ _ _ (hJb _ _ _ HJ7.o (aR _)) hg);clear hm hg)
   refine⟨trivial,?_⟩;unfold aG;clear hc4 hgl hn6 hn7 qbg PAa PAb PAl P7a P7b P7l HM7 HG7 HJ7 PA7 P77 HN7 P67;simp only[show∀f s,iff true f s=f s from fun f s=>rfl]at HYJ;have t8:=e9 ql mp s7;have l8:=eT ql mp s7;obtain⟨s8,hs8⟩:∃s8,s8=d6 ql mp s7:=⟨_,rfl⟩;rw[<-hs8]at t8 l8 HM8 HYJ;clear hs8;by_cases hc2:hi<0
   ·have hd2:∀p:Prop,[Decidable p]->decide (hi<0/\p)=decide p:=fun p _=>by simp[hc2]
    rw[hd2]at HYJ;clear hd2;by_cases hce:j+1=t
    ·have hcb:(((j:Int)+1)==(t:Int))=true:=by simpa using(by omega:(j:Int)+1=t)
     have hdc:decide (j+1=t)=true:=by simpa using hce
     rw[hdc]at HYJ;simp only[show∀f s,iff true f s=f s from fun f s=>rfl]at HYJ;clear hce hdc;have PAa:=PA8.o.box.c0;have PAb:=PA8.o.box.c1;have PAl:=PA8.o.box.lt;have hn6:w8.cell? ⟨w.heap.size,6,none⟩=some (.int .i64 lo):=HN8.o.c 6 (show 6<8 by decide);have hn7:w8.cell? ⟨w.heap.size,7,none⟩=some (.int .i64 hi):=HN8.o.c 7 (show 7<8 by decide);have qbg:=HN8.o.lt;have hn0:w8.cell? ⟨w.heap.size,0,none⟩=some (.int .i64 k):=HN8.o.c 0 (show 0<8 by decide);have hn1:w8.cell? ⟨w.heap.size,1,none⟩=some (.int .i64 n):=HN8.o.c 1 (show 1<8 by decide);have hn2:w8.cell? ⟨w.heap.size,2,none⟩=some (.int .u64 a):=HN8.o.c 2 (show 2<8 by decide);have hn3:w8.cell? ⟨w.heap.size,3,none⟩=some (.int .u64 b):=HN8.o.c 3 (show 3<8 by decide);have hn4:w8.cell? ⟨w.heap.size,4,none⟩=some (.int .u64 c):=HN8.o.c 4 (show 4<8 by decide);have hn5:w8.cell? ⟨w.heap.size,5,none⟩=some (.int .u64 d):=HN8.o.c 5 (show 5<8 by decide)
     go_wp2_with((with_reducible go_at_call 178);refine(HTM.o _).mono ?_;rintro en' w' ⟨rfl,x9,rfl⟩;(have HM9:=qa (HM8.o.up (aD w8 x9)));(have HG9:=qa (HG8.o.up (aD w8 x9)));(have HN9:=qa (HN8.o.up (aD w8 x9)));(have P69:=qa (P68.o.up (aD w8 x9)));(have P79:=qa (P78.o.up (aD w8 x9)));(have PA9:=qa (PA8.o.up (aD w8 x9)));(have HJ9:=qa (hJb _ _ _ HJ8.o (aD w8 x9))))
     clear PAa PAb PAl hn0 hn1 hn2 hn3 hn4 hn5 hn6 hn7 qbg;generalize ext w8 x9=w9 at*;have hc4:=HM9.o.f4;have hgl:=HM9.o.glt;have PAa:=PA9.o.box.c0;have PAb:=PA9.o.box.c1;have PAl:=PA9.o.box.lt;have hn6:w9.cell? ⟨w.heap.size,6,none⟩=some (.int .i64 lo):=HN9.o.c 6 (show 6<8 by decide);have hn7:w9.cell? ⟨w.heap.size,7,none⟩=some (.int .i64 hi):=HN9.o.c 7 (show 7<8 by decide);have qbg:=HN9.o.lt
     try go_wp2
     refine aT [0,1,2,3,4,5,6] [] [7] (by kernel_rfl) (by kernel_rfl) ?_;simp only[pk]
     repeat(go_big_quiet_step (fail))
     refine wpQuiet_nil ?_;unfold aG;unfold aG
     go_wp2_with((with_reducible go_at_call 170);refine(nN (HM9.o.up (aR _)) ql qf (by omega) (by omega) (by omega)).mono ?_;rintro en w10 ⟨rfl,S10,hm,hg⟩;have qg4:=qa hm;have qcD:=qa ((HG9.o.up (aR _)).trans hg);have PA10:=qa ((PA9.o.up (aR _)).gw hg);have qcB:=qa ((HN9.o.up (aR _)).gw hg);have P610:=qa ((P69.o.up (aR _)).gw hg);have P710:=qa ((P79.o.up (aR _)).gw hg);have qga:=qa (hJg _ _ _ _ (hJb _ _ _ HJ9.o (aR _)) hg);clear hm hg)
     refine⟨trivial,?_⟩;unfold aG;clear hc4 hgl hn6 hn7 qbg PAa PAb PAl HM9 HG9 HJ9 PA9 HN9 P69 P79;go_wp2
     go_roundg (t-(j+1))
     case measure=>omega
     case rel=>
      exact⟨j+1,S10,by go_num,by rw[HYJ.o],by omega,by rw[HYJ.o];exact qg4.o,qcD.o,qga.o,qcB.o,P610.o,P710.o,rfl⟩
    have hcb:(((j:Int)+1)==(t:Int))=false:=by simpa using(by omega:¬(j:Int)+1=t)
    have hdc:decide (j+1=t)=false:=by simpa using hce
    rw[hdc]at HYJ;simp only[show∀f s,iff false f s=s from fun f s=>rfl]at HYJ;clear hce hdc;have PAa:=PA8.o.box.c0;have PAb:=PA8.o.box.c1;have PAl:=PA8.o.box.lt;have hn6:w8.cell? ⟨w.heap.size,6,none⟩=some (.int .i64 lo):=HN8.o.c 6 (show 6<8 by decide);have hn7:w8.cell? ⟨w.heap.size,7,none⟩=some (.int .i64 hi):=HN8.o.c 7 (show 7<8 by decide);have qbg:=HN8.o.lt;have hn0:w8.cell? ⟨w.heap.size,0,none⟩=some (.int .i64 k):=HN8.o.c 0 (show 0<8 by decide);have hn1:w8.cell? ⟨w.heap.size,1,none⟩=some (.int .i64 n):=HN8.o.c 1 (show 1<8 by decide);have hn2:w8.cell? ⟨w.heap.size,2,none⟩=some (.int .u64 a):=HN8.o.c 2 (show 2<8 by decide);have hn3:w8.cell? ⟨w.heap.size,3,none⟩=some (.int .u64 b):=HN8.o.c 3 (show 3<8 by decide);have hn4:w8.cell? ⟨w.heap.size,4,none⟩=some (.int .u64 c):=HN8.o.c 4 (show 4<8 by decide);have hn5:w8.cell? ⟨w.heap.size,5,none⟩=some (.int .u64 d):=HN8.o.c 5 (show 5<8 by decide)
    go_wp2_with((with_reducible go_at_call 178);refine(HTM.o _).mono ?_;rintro en' w' ⟨rfl,x9,rfl⟩;(have HM9:=qa (HM8.o.up (aD w8 x9)));(have HG9:=qa (HG8.o.up (aD w8 x9)));(have HN9:=qa (HN8.o.up (aD w8 x9)));(have P69:=qa (P68.o.up (aD w8 x9)));(have P79:=qa (P78.o.up (aD w8 x9)));(have PA9:=qa (PA8.o.up (aD w8 x9)));(have HJ9:=qa (hJb _ _ _ HJ8.o (aD w8 x9))))
    clear PAa PAb PAl hn0 hn1 hn2 hn3 hn4 hn5 hn6 hn7 qbg;generalize ext w8 x9=w9 at*
    go_roundg (t-(j+1))
    case measure=>omega
    case rel=>
     exact⟨j+1,S8,by go_num,by rw[HYJ.o],by omega,by rw[HYJ.o];exact HM9.o,HG9.o,HJ9.o,HN9.o,P69.o,P79.o,rfl⟩
   have hd2:∀p:Prop,[Decidable p]->decide (hi<0/\p)=false:=fun p _=>by simp[hc2]
   rw[hd2]at HYJ;clear hd2;simp only[iff,qP,jp]at HYJ;have PAa:=PA8.o.box.c0;have PAb:=PA8.o.box.c1;have PAl:=PA8.o.box.lt;have hn6:w8.cell? ⟨w.heap.size,6,none⟩=some (.int .i64 lo):=HN8.o.c 6 (show 6<8 by decide);have hn7:w8.cell? ⟨w.heap.size,7,none⟩=some (.int .i64 hi):=HN8.o.c 7 (show 7<8 by decide);have qbg:=HN8.o.lt;go_wp2
   go_roundg (t-(j+1))
   case measure=>omega
   case rel=>
    exact⟨j+1,S8,by go_num,by rw[HYJ.o],by omega,by rw[HYJ.o];exact HM8.o,HG8.o,HJ8.o,HN8.o,P68.o,P78.o,rfl⟩
  have hd1:decide (lo<=(j:Int)+1)=false:=by simpa using hc1
  rw[hd1]at HYJ;clear hd1;simp only[show∀f s,iff false f s=s from fun f s=>rfl]at HYJ;by_cases hc2:hi<0
  ·have hd2:∀p:Prop,[Decidable p]->decide (hi<0/\p)=decide p:=fun p _=>by simp[hc2]
   rw[hd2]at HYJ;clear hd2;by_cases hce:j+1=t
   ·have hcb:(((j:Int)+1)==(t:Int))=true:=by simpa using(by omega:(j:Int)+1=t)
    have hdc:decide (j+1=t)=true:=by simpa using hce
    rw[hdc]at HYJ;simp only[show∀f s,iff true f s=f s from fun f s=>rfl]at HYJ;clear hce hdc;have PAa:=PA7.o.box.c0;have PAb:=PA7.o.box.c1;have PAl:=PA7.o.box.lt;have hn6:w7.cell? ⟨w.heap.size,6,none⟩=some (.int .i64 lo):=HN7.o.c 6 (show 6<8 by decide);have hn7:w7.cell? ⟨w.heap.size,7,none⟩=some (.int .i64 hi):=HN7.o.c 7 (show 7<8 by decide);have qbg:=HN7.o.lt;have hn0:w7.cell? ⟨w.heap.size,0,none⟩=some (.int .i64 k):=HN7.o.c 0 (show 0<8 by decide);have hn1:w7.cell? ⟨w.heap.size,1,none⟩=some (.int .i64 n):=HN7.o.c 1 (show 1<8 by decide);have hn2:w7.cell? ⟨w.heap.size,2,none⟩=some (.int .u64 a):=HN7.o.c 2 (show 2<8 by decide);have hn3:w7.cell? ⟨w.heap.size,3,none⟩=some (.int .u64 b):=HN7.o.c 3 (show 3<8 by decide);have hn4:w7.cell? ⟨w.heap.size,4,none⟩=some (.int .u64 c):=HN7.o.c 4 (show 4<8 by decide);have hn5:w7.cell? ⟨w.heap.size,5,none⟩=some (.int .u64 d):=HN7.o.c 5 (show 5<8 by decide)
    go_wp2_with((with_reducible go_at_call 178);refine(HTM.o _).mono ?_;rintro en' w' ⟨rfl,x9,rfl⟩;(have HM8:=qa (HM7.o.up (aD w7 x9)));(have HG8:=qa (HG7.o.up (aD w7 x9)));(have HN8:=qa (HN7.o.up (aD w7 x9)));(have P68:=qa (P67.o.up (aD w7 x9)));(have P78:=qa (P77.o.up (aD w7 x9)));(have PA8:=qa (PA7.o.up (aD w7 x9)));(have HJ8:=qa (hJb _ _ _ HJ7.o (aD w7 x9))))
    clear PAa PAb PAl hn0 hn1 hn2 hn3 hn4 hn5 hn6 hn7 qbg;generalize ext w7 x9=w8 at*;have hc4:=HM8.o.f4;have hgl:=HM8.o.glt;have PAa:=PA8.o.box.c0;have PAb:=PA8.o.box.c1;have PAl:=PA8.o.box.lt;have hn6:w8.cell? ⟨w.heap.size,6,none⟩=some (.int .i64 lo):=HN8.o.c 6 (show 6<8 by decide);have hn7:w8.cell? ⟨w.heap.size,7,none⟩=some (.int .i64 hi):=HN8.o.c 7 (show 7<8 by decide);have qbg:=HN8.o.lt
    try go_wp2
    refine aT [0,1,2,3,4,5,6] [] [7] (by kernel_rfl) (by kernel_rfl) ?_;simp only[pk]
    repeat(go_big_quiet_step (fail))
    refine wpQuiet_nil ?_;unfold aG;unfold aG
    go_wp2_with((with_reducible go_at_call 170);refine(nN (HM8.o.up (aR _)) ql qf (by omega) (by omega) (by omega)).mono ?_;rintro en w9 ⟨rfl,S9,hm,hg⟩;have HM9:=qa hm;have HG9:=qa ((HG8.o.up (aR _)).trans hg);have PA9:=qa ((PA8.o.up (aR _)).gw hg);have HN9:=qa ((HN8.o.up (aR _)).gw hg);have P69:=qa ((P68.o.up (aR _)).gw hg);have P79:=qa ((P78.o.up (aR _)).gw hg);have HJ9:=qa (hJg _ _ _ _ (hJb _ _ _ HJ8.o (aR _)) hg);clear hm hg)
    refine⟨trivial,?_⟩;unfold aG;clear hc4 hgl hn6 hn7 qbg PAa PAb PAl HM8 HG8 HJ8 PA8 HN8 P68 P78;go_wp2
    go_roundg (t-(j+1))
    case measure=>omega
    case rel=>
     exact⟨j+1,S9,by go_num,by rw[HYJ.o],by omega,by rw[HYJ.o];exact HM9.o,HG9.o,HJ9.o,HN9.o,P69.o,P79.o,rfl⟩
   have hcb:(((j:Int)+1)==(t:Int))=false:=by simpa using(by omega:¬(j:Int)+1=t)
   have hdc:decide (j+1=t)=false:=by simpa using hce
   rw[hdc]at HYJ;simp only[show∀f s,iff false f s=s from fun f s=>rfl]at HYJ;clear hce hdc;have PAa:=PA7.o.box.c0;have PAb:=PA7.o.box.c1;have PAl:=PA7.o.box.lt;have hn6:w7.cell? ⟨w.heap.size,6,none⟩=some (.int .i64 lo):=HN7.o.c 6 (show 6<8 by decide);have hn7:w7.cell? ⟨w.heap.size,7,none⟩=some (.int .i64 hi):=HN7.o.c 7 (show 7<8 by decide);have qbg:=HN7.o.lt;have hn0:w7.cell? ⟨w.heap.size,0,none⟩=some (.int .i64 k):=HN7.o.c 0 (show 0<8 by decide);have hn1:w7.cell? ⟨w.heap.size,1,none⟩=some (.int .i64 n):=HN7.o.c 1 (show 1<8 by decide);have hn2:w7.cell? ⟨w.heap.size,2,none⟩=some (.int .u64 a):=HN7.o.c 2 (show 2<8 by decide);have hn3:w7.cell? ⟨w.heap.size,3,none⟩=some (.int .u64 b):=HN7.o.c 3 (show 3<8 by decide);have hn4:w7.cell? ⟨w.heap.size,4,none⟩=some (.int .u64 c):=HN7.o.c 4 (show 4<8 by decide);have hn5:w7.cell? ⟨w.heap.size,5,none⟩=some (.int .u64 d):=HN7.o.c 5 (show 5<8 by decide)
   go_wp2_with((with_reducible go_at_call 178);refine(HTM.o _).mono ?_;rintro en' w' ⟨rfl,x9,rfl⟩;(have HM8:=qa (HM7.o.up (aD w7 x9)));(have HG8:=qa (HG7.o.up (aD w7 x9)));(have HN8:=qa (HN7.o.up (aD w7 x9)));(have P68:=qa (P67.o.up (aD w7 x9)));(have P78:=qa (P77.o.up (aD w7 x9)));(have PA8:=qa (PA7.o.up (aD w7 x9)));(have HJ8:=qa (hJb _ _ _ HJ7.o (aD w7 x9))))
   clear PAa PAb PAl hn0 hn1 hn2 hn3 hn4 hn5 hn6 hn7 qbg;generalize ext w7 x9=w8 at*
   go_roundg (t-(j+1))
   case measure=>omega
   case rel=>
    exact⟨j+1,S7,by go_num,by rw[HYJ.o],by omega,by rw[HYJ.o];exact HM8.o,HG8.o,HJ8.o,HN8.o,P68.o,P78.o,rfl⟩
  have hd2:∀p:Prop,[Decidable p]->decide (hi<0/\p)=false:=fun p _=>by simp[hc2]
  rw[hd2]at HYJ;clear hd2;simp only[iff,qP,jp]at HYJ;have PAa:=PA7.o.box.c0;have PAb:=PA7.o.box.c1;have PAl:=PA7.o.box.lt;have hn6:w7.cell? ⟨w.heap.size,6,none⟩=some (.int .i64 lo):=HN7.o.c 6 (show 6<8 by decide);have hn7:w7.cell? ⟨w.heap.size,7,none⟩=some (.int .i64 hi):=HN7.o.c 7 (show 7<8 by decide);have qbg:=HN7.o.lt;go_wp2
  go_roundg (t-(j+1))
  case measure=>omega
  case rel=>
   exact⟨j+1,S7,by go_num,by rw[HYJ.o],by omega,by rw[HYJ.o];exact HM7.o,HG7.o,HJ7.o,HN7.o,P67.o,P77.o,rfl⟩
 have hje:j=t:=by omega
 subst hje;have P6a:=P61.o.box.c0;have P6b:=P61.o.box.c1;have P6l:=P61.o.box.lt;have P6f:=P61.o.box.free 0;have P6g:=P61.o.box.free 1;have P7a:=P71.o.box.c0;have P7b:=P71.o.box.c1;have P7l:=P71.o.box.lt;have HST:=qa (P61.o.box.set np mp);clear r1 r2 r3 r4 hro;go_wp2;refine cE rfl rfl rfl HST.o.1.load ?_;exact⟨rfl,Sr,HM1.o.keep HST.o.2 P61.o.no (by omega),HG1.o.new HST.o.2 (by omega)⟩):P:=h
theorem ZmI1{P:Prop}(h:P:=by
 go_wp2_with(refine bD rfl 65 _ _ rfl 0 65 p5 8 8 rfl (ndV x) rfl (by kernel_rfl) _ O5.o (qb 8) (uA x) ?_;intro wF hF hgF;have HF:=qa hF;have HGF:=qa hgF;clear hF hgF)
 have CF:Hid (Below wr.heap.size wr wF):=qa (CZ.o.grown HGF.o CZ.o.size (fun j hj=>by cases hj;omega));refine⟨aI CF.o,?_⟩;have O6F:=qa (O6.o.keep HGF.o (.inr (fun e=>h56 (qo e).symm)));have OPF:=qa (OP.o.keepP HGF.o (fun z hz e=>hk5 z hz (qo e).symm) (fun e=>qcd (qo e).symm));obtain⟨ou,cu,gu,hu,-⟩:=OPF.o.own.cases;obtain⟨lu,hlu⟩:∃lu,lu=vs.length:=⟨_,rfl⟩;rw[<-hlu]at hu;subst hu;have HST:=qa (O6F.o.store 0 (.slice ou lu cu));have h6c:wF.cell? ⟨p6,0,none⟩=some (.slice none 0 0):=O6F.o.cell (by simp);have h6f:=O6F.o.free 0;have h6l:=O6F.o.blk.2;clear hlu;unfold aG
 (unfold bF;simp only[pk])
 refine⟨?_,by unfold bF;trivial⟩;unfold aG;go_wp2;have CG:Hid (Below wr.heap.size wr (wF.setCell ⟨p6,0,none⟩ (.slice ou lu cu))):=qa (CF.o.grown HST.o.2 CF.o.size (fun j hj=>by cases hj;omega));refine⟨aI CG.o,?_⟩;unfold aG;unfold bF;intro hz9 hz8;clear hz8 hz9;go_wp2
 go_meet
 case rel=>exact⟨p5,p6,.slice ou lu cu,vs,rfl,rfl,by omega,by omega,by have:=HF.o;exact this.keep HST.o.2 (.inr (fun e=>h56 (qo e))),HST.o.1,(OPF.o.keepP HST.o.2 (fun z hz e=>hk6 z hz (qo e).symm) (fun e=>by have:=qo e;omega)).monoP (by omega),CG.o⟩):P:=h
theorem ZmI2{P:Prop}(h:P:=by
 simp only[cnt]at hj;simp only[cO,qx,qi]at hrl;simp only[usz]at hel qcI htl;have hjl:j<kl:=by have:=HKC.o;omega
 have qcq:=fun W=>hix W j hjl;simp only[qA,qE]at qcq;obtain⟨u0,hu0⟩:∃u0,u0=vs.getD j undef:=⟨_,rfl⟩;have hoc:wr.cell? ⟨bo,j,none⟩=some u0:=by rw[hu0];have:=HK1.o.out.c j (by simp;rw[<-HKL.o];exact hjl);rw[this];simp[List.getD,qO]
 have hrj:eO wr b u0 (y::cO ky):=by
  rw[hu0];have:=HK1.o.rows j (by rw[d9];omega);rwa [<-HDN.o,<-hdl,show(dn++cM (.cons y ky r')).getD dn.length []=y::cO ky by simp[List.getD,cM],hdl]at this
 obtain⟨Y,hY⟩:∃Y,Y=eF y (fun s=>g8 ky s) sj:=⟨_,rfl⟩;have hnk:=mU y (fun s=>g8 ky s) (usz ky) (cnt ky) har.1 hwr.1 (lR ky hwr.2.1 har.2.1) sj;rw[<-hY]at hnk;have k1:=hnk.len;have k2:=hnk.rlen;have k4:=hnk.tot;simp only at k1 k2 k4;obtain⟨qf,hqf⟩:∃qf,qf=Y.1.f:=⟨_,rfl⟩;obtain⟨ql,hql⟩:∃ql,ql=Y.1.l:=⟨_,rfl⟩;have HTR:=qa (HIH.o wr Sr g q sj F u0 b y ky (by omega) hrj HK1.o.nb (by omega) hwr.1 hwr.2.1 har.1 har.2.1 HM1.o (by omega) (by omega) (by omega) qf ql (by rw[<-hY];exact hqf) (by rw[<-hY];exact hql));rw[<-hY]at HTR;have HPC:Hid (Y.1=⟨qf,ql⟩):=qa (by rw[hqf,hql]);have qg6:Hid (g8 k s=((ps++[Y.1])++(g8 r' Y.2).1,(g8 r' Y.2).2)):=qa (by rw[qeq.o,hY];simp[g8]);have HWR:=qa hwr.2.2;have HAR:=qa har.2.2;have HEL:Hid (Y.2.e.length+usz r'=s.e.length+usz k/\Y.2.r.length+usz r'=s.r.length+usz k/\tot Y.2.e+2*usz r'<=tot s.e+2*usz k):=qa ⟨by omega,by omega,by omega⟩;have qiB:ps.length<=400:=by omega
 clear hix hu0 hrj hnk k1 k2 k4 hqf hql hwr har hY hel qcI htl
 go_wp2_with(first|((with_reducible go_at_call 167);refine HTR.o.mono ?_;rintro en w3 ⟨rfl,S3,hm3,hg3⟩;have HM3:=qa hm3;have HD3:=qa hg3;(have HG3:=qa (HG1.o.trans hg3));(have HK3:=qa (KJ.gw Sr wr S3 w3 (by rw[d9];omega) HK1.o hg3));(have P43:=qa (P41.o.gw hg3));(have HX3:=qa (HX1.o.gw hg3));(have HO3:=qa (cA.gw hg3 HO1.o HNO.o));(have qeD:=hg3.size);clear hm3 hg3)|(at_builtin;go_loud (refine gV 2 rfl (.tmp 73) (.tmp 77) 231 rfl wc.heap.size 221 (.agg #[.int .i64 0,.int .i64 0]) 16 underlying231 (by kernel_rfl) rfl (by decide) (by decide) u8 (ps.map pcC) rfl (HO3.o.up (aA w3 (.cells #[.int .i64 qf,.int .i64 ql] 221))) (.slice (some ⟨w3.heap.size,0,none⟩) 1 1) ([⟨qf,ql⟩].map pcC) rfl (by have:=xA 2 w3 #[.int .i64 qf,.int .i64 ql] 221 ([⟨qf,ql⟩].map pcC) (by simp[pcC]) (G0 _) (by simp);simpa using this) (G0 _) (by intro z hz;simp[pcC]at hz;rcases hz with rfl|rfl<;>rfl) (by simp only[qy,qB];omega) (qc qdE (qc qeD (aA _ _).size)) ?_;intro v' w5 hown1 hg5 hk5;have HO5:=qa hown1;have HG5:=qa hg5;have HK5:=qa hk5;clear hown1 hg5 hk5)))
 have hB3:=aA w3 (.cells #[.int .i64 qf,.int .i64 ql] 221);have hzb:∀z,u8.ownBlock=some z->wc.heap.size<=z/\z<wr.heap.size:=HO1.o.lt;have hzn:∀z,u8.ownBlock=some z->¬S3 z:=fun z hz=>HD3.o.out (hzb z hz).2 (HNO.o z hz);have hzq:∀z,u8.ownBlock=some z->z≠q:=fun z hz e=>by have:=(hzb z hz).1;have:=hgq.1;omega
 go_roundg (cnt k-(j+1))
 case measure=>omega
 case rel=>
  obtain⟨e1,e2,e3⟩:=HEL.o;have hw3:w.heap.size+2<=wc.heap.size:=by omega
  have qjj:=HK3.o.out.lt;refine⟨j+1,r',Y.2,ps++[Y.1],dn++[y::cO ky],S3,by go_num,by omega,HWR.o,HAR.o,by omega,by rw[<-HDN.o];simp[cM],by simp[hdl],by simp[hpl],qg6.o,e1,e2,e3,?_,?_,?_,?_,?_,?_,?_,?_,rfl⟩
  ·exact(HM3.o.up hB3).keepO HG5.o (fun z hz=>⟨hzn z hz,hzq z hz⟩)
  ·exact(HG3.o.up hB3).newO HG5.o (fun z hz=>by have:=(hzb z hz).1;omega)
  ·exact(KJ.up S3 w3 _ HK3.o hB3).keepO HG5.o (fun z hz=>by have:=(hzb z hz).1;refine⟨by omega,by omega,by omega,by omega⟩)
  ·exact(P43.o.up hB3).keepO HG5.o (fun z hz=>by have:=(hzb z hz).1;omega)
  ·exact(HX3.o.up hB3).keepO HG5.o (fun z hz=>by have:=(hzb z hz).1;omega)
  ·rw[qD,HPC.o];exact HO5.o
  ·intro z hz
   rcases HK5.o z hz with h|h
   ·exact hzn z h
   intro e;have h1:=HM3.o.lt e;have h2:=hB3.size;omega
  have:=hB3.size;have:=HG5.o.size;omega):P:=h
theorem ZmI3{P:Prop}(h:P:=by
 go_wp2_with((with_reducible go_at_call 175);refine HLO.o.mono ?_;rintro en w2 ⟨rfl,S2,hm2,hg2⟩;have HM2:=qa hm2;have HD2:=qa (HD1.o.trans hg2);clear hm2 hg2)
 refine⟨sI HD2.o.fx,?_⟩;have P41:=qa (P40.o.gw HD2.o);have HG1:=qa (HG0.o.trans HD2.o);have P4a:=P41.o.box.c0;have P4b:=P41.o.box.c1;have P4l:=P41.o.box.lt;have P4f:=P41.o.box.free 0;have P4g:=P41.o.box.free 1;have HST:=qa (P41.o.box.set n m);unfold aG;unfold aG;go_wp2;refine⟨trivial,?_⟩;unfold aG;go_wp2;refine cE rfl rfl rfl HST.o.1.load ?_;exact⟨rfl,S2,(by rw[HEZ.o];exact HM2.o:MkT w2 S2 g q Z.2 F).keep HST.o.2 P41.o.no (by omega),HG1.o.new HST.o.2 (by omega)⟩):P:=h
theorem ZmI4{P:Prop}(h:P:=by
 have HC7:Hid (∀c,c<2->w3.cell? ⟨p7,0+c,none⟩=some ((#[.int .i64 n,.int .i64 m]:Array Value).getD c undef)):=qa (fun c hcl=>by
  rw[qE];rcases(show c=0\/c=1 by omega)with rfl|rfl
  ·exact P73.o.box.c0
  exact P73.o.box.c1)
 have P4a:=P43.o.box.c0;have P4b:=P43.o.box.c1;have P4l:=P43.o.box.lt;have P4f:=P43.o.box.free 0;have P4g:=P43.o.box.free 1;have HST:=qa (P43.o.box.set n m)
 go_wp2_with(refine aH rfl 221 _ rfl p7 0 2 rfl _ _ HC7.o rfl underlying221 rfl (by kernel_rfl) ?_)
 refine cE rfl rfl rfl HST.o.1.load ?_;exact⟨rfl,_,HM3.o.keep HST.o.2 P43.o.no (by omega),HG3.o.new HST.o.2 (by omega)⟩):P:=h
theorem ZmI5{P:Prop}(h:P:=by exact⟨0,k,s,[],[],S,rfl,by omega,hwk,hak,qb _,rfl,rfl,rfl,by simp,rfl,rfl,qb _,HM0.o,HG0.o,HKJ.o,P40.o,HX0.o,cA.nil _ _ _ _,(fun z hz=>by cases hz),qb _,rfl⟩):P:=h
theorem ZmI6{P:Prop}(h:P:=by refine⟨0,Sx,rfl,?_,qd _,HMX.o.up (aD _ _),HGX.o.up (aD _ _),hJb _ _ _ HJX.o (aD _ _),HNX.o.up (aD _ _),P6X.o.up (aD _ _),P7X.o.up (aD _ _),rfl⟩;rw[qe9]):P:=h
structure xN(w:World)(S:Nat->Prop)(p:Nat)(C:Array Value):Prop where
 c:∀i,i<C.size->w.cell? ⟨p,i,none⟩=some (C.getD i undef)
 lt:p<w.heap.size
 no:¬S p
theorem xN.gw{S S1:Nat->Prop}{w w':World}{p:Nat}{C:Array Value}(h:xN w S p C)(hg:Gw S w S1 w'):xN w' S1 p C:=⟨fun i hi=>(hg.cell h.lt h.no).trans (h.c i hi),qe h.lt hg.size,hg.out h.lt h.no⟩
theorem xN.up{S:Nat->Prop}{w w':World}{p:Nat}{C:Array Value}(h:xN w S p C)(hb:Below w.heap.size w w'):xN w' S p C:=h.gw (dD S hb)
theorem G1(w:World)(S:Nat->Prop)(C:Array Value)(E:TypeId)(hn:¬S w.heap.size):xN (w.alloc (.cells C E)) S w.heap.size C:=⟨fun i hi=>by rw[World.cell?_alloc_new];simp[qO,hi],by simp,hn⟩
theorem tZ{w:World}{S:Nat->Prop}{p:Nat}{C:Array Value}(h:xN w S p C)(n:Nat)(hn:C.size=n):∀c,c<n->w.cell? ⟨p,0+c,none⟩=some (C.getD c undef):=fun c hc=>by rw[qE];exact h.c c (by omega)
abbrev ndV(x:Nd):Array Value:=#[.int .i64 x.kd,.int .i64 x.n,.int .u64 x.a,.int .u64 x.b,.int .u64 x.c,.int .u64 x.d,.int .i64 x.lo,.int .i64 x.hi]
theorem q4P{w:World}{S:Nat->Prop}{g q:Nat}{s:St}{F:Int}(J:(Nat->Prop)->World->Prop)(hJg:∀S w S' w',J S w->Gw S w S' w'->J S' w')(hJb:∀S w w',J S w->Below w.heap.size w w'->J S w')
  (k n a b c d lo hi:Int) (pa pb:Nat) (part:St->Pc×St) (u t:Nat) (htt:eY ⟨k,n,a,b,c,d,lo,hi⟩=t) (qdD:t<=30) (_hlo:0<=lo) (_hlo2:lo<=30) (_hhi: -1<=hi) (hp:∀s,N3 s ([(part s).1],(part s).2) u 1)
  (qbz:∀(w1:World) (S1:Nat->Prop) (s1:St),MkT w1 S1 g q s1 F->J S1 w1->s1.e.length+u<=4000->s1.r.length+u<=4000->tot s1.e+2*u<=90000->∀n m:Nat,n=(part s1).1.f->m=(part s1).1.l->Calls prog 174 #[.pointer (some ⟨pa,0,none⟩),.pointer (some ⟨pb,0,none⟩)] w1 fun e w2=>e=.returned (.agg #[.int .i64 n,.int .i64 m])/\∃S2,MkT w2 S2 g q (part s1).2 F/\Gw S1 w1 S2 w2)
  (h:MkT w S g q s F) (hj0:J S w) (hl:s.e.length+2+t*u<=4000) (hr:s.r.length+2+t*u<=4000) (qcH:tot s.e+1+t*(2*u)<=90000) (np mp:Nat) (hl0:lo=0) (hnp:np=s.e.length) (hmp:mp=s.e.length+1):
  Calls prog 173 #[.pointer (some ⟨g,0,none⟩),.agg #[.int .i64 k,.int .i64 n,.int .u64 a,.int .u64 b,.int .u64 c,.int .u64 d,.int .i64 lo,.int .i64 hi],.func (.func 174) #[] #[.pointer (some ⟨pa,0,none⟩),.pointer (some ⟨pb,0,none⟩)]] w fun e w'=>e=.returned (.agg #[.int .i64 np,.int .i64 mp])/\∃S',MkT w' S' g q (eB ⟨k,n,a,b,c,d,lo,hi⟩ t (bJ s) part (iff (decide (lo=0)) (d6 (bJ s).f (bJ s).l) (two s)) t).2 F/\Gw S w S' w':=by
 have hgq:=h.gq;have hno:=h.no (qb _);have qcJ:=h.no (ja _);have hAP:bJ s=⟨np,mp⟩:=by rw[hnp,hmp];rfl
 have HRO:=qa (q02 ⟨k,n,a,b,c,d,lo,hi⟩ t part u hp s);rw[hAP]at HRO⊢;have HPL:=qa hp;have HPT:=qa qbz;have HTM:Hid (∀w,Calls prog 178 #[.agg #[.int .i64 k,.int .i64 n,.int .u64 a,.int .u64 b,.int .u64 c,.int .u64 d,.int .i64 lo,.int .i64 hi]] w fun e w'=>e=.returned (.int .i64 (t:Nat))/\∃x,w'=ext w x):=qa (fun w=>by rw[<-htt];exact q2t k n a b c d lo hi);obtain⟨Y,hY⟩:∃Y:Nat->Nat×St,Y=eB ⟨k,n,a,b,c,d,lo,hi⟩ t ⟨np,mp⟩ part (iff (decide (lo=0)) (d6 np mp) (two s)):=⟨_,rfl⟩;change Hid (∀i,q6G s u i (eB ⟨k,n,a,b,c,d,lo,hi⟩ t ⟨np,mp⟩ part (iff (decide (lo=0)) (d6 np mp) (two s)) i))at HRO;change Calls _ _ _ _ fun e w'=>_/\∃S',MkT w' S' g q (eB ⟨k,n,a,b,c,d,lo,hi⟩ t ⟨np,mp⟩ part (iff (decide (lo=0)) (d6 np mp) (two s)) t).2 F/\Gw S w S' w';rw[<-hY]at HRO⊢;have HY0:Hid (Y 0=(np,iff (decide (lo=0)) (d6 np mp) (two s))):=qa (by rw[hY];rfl);have HYS:Hid (∀i,Y (i+1)=((part (Y i).2).1.l,iff (decide (hi<0/\i+1=t)) (d6 (part (Y i).2).1.l (part (Y i).2).1.f) (iff (decide (lo<=i+1)) (d6 (part (Y i).2).1.l mp) (d6 (Y i).1 (part (Y i).2).1.f (part (Y i).2).2)))):=qa (fun i=>by rw[hY];rfl);have hA:Below w.heap.size w ((w.alloc (.cells #[.int .i64 k,.int .i64 n,.int .u64 a,.int .u64 b,.int .u64 c,.int .u64 d,.int .i64 lo,.int .i64 hi] 65)).alloc (.cells #[.int .i64 0,.int .i64 0] 221)):=(aA w _).trans ((aA _ _).mono (by simp));have HMA:=qa (h.up hA);have HGA:Hid (Gw S w S ((w.alloc (.cells #[.int .i64 k,.int .i64 n,.int .u64 a,.int .u64 b,.int .u64 c,.int .u64 d,.int .i64 lo,.int .i64 hi] 65)).alloc (.cells #[.int .i64 0,.int .i64 0] 221))):=qa (dD S hA);have HJA:=qa (hJb _ _ _ hj0 hA);have HNA:Hid (xN ((w.alloc (.cells #[.int .i64 k,.int .i64 n,.int .u64 a,.int .u64 b,.int .u64 c,.int .u64 d,.int .i64 lo,.int .i64 hi] 65)).alloc (.cells #[.int .i64 0,.int .i64 0] 221)) S w.heap.size #[.int .i64 k,.int .i64 n,.int .u64 a,.int .u64 b,.int .u64 c,.int .u64 d,.int .i64 lo,.int .i64 hi]):=qa ((G1 w S _ 65 hno).up (aA _ _))
 have HPA:Hid (LB ((w.alloc (.cells #[.int .i64 k,.int .i64 n,.int .u64 a,.int .u64 b,.int .u64 c,.int .u64 d,.int .i64 lo,.int .i64 hi] 65)).alloc (.cells #[.int .i64 0,.int .i64 0] 221)) S (w.heap.size+1) 0 0):=qa ⟨by
  have h:=fE (w.alloc (.cells #[.int .i64 k,.int .i64 n,.int .u64 a,.int .u64 b,.int .u64 c,.int .u64 d,.int .i64 lo,.int .i64 hi] 65)) 0 0;simpa using h,qcJ⟩
 have HAR:=qa (tY HMA.o (by omega) (by omega) np mp hnp hmp);have HBD:Hid (s.e.length=np/\tot s.e+1+t*(2*u)<=90000/\s.e.length+2+t*u<=4000/\s.r.length+2+t*u<=4000):=qa ⟨hnp.symm,qcH,hl,hr⟩;have T2:=nZ s;have L2:=lW s;obtain⟨s0,hs0⟩:∃s0,s0=two s:=⟨_,rfl⟩;rw[<-hs0]at T2 L2 HAR HY0;have qiv:s0.e.length<=4000:=by omega
 have qgD:np<s0.e.length:=by omega
 have qiu:tot s0.e<=90000:=by omega
 have qbw:w.heap.size+2<=((w.alloc (.cells #[.int .i64 k,.int .i64 n,.int .u64 a,.int .u64 b,.int .u64 c,.int .u64 d,.int .i64 lo,.int .i64 hi] 65)).alloc (.cells #[.int .i64 0,.int .i64 0] 221)).heap.size:=by simp
 clear h hp qbz htt hY hAP hA hj0 hl hr qcH hnp hmp hs0 T2 L2;have hld:decide (lo=0)=true:=by simpa using hl0
 rw[hld]at HY0;simp only[iff,jG]at HY0;have hlb:(lo==0)=true:=by simpa using hl0
 clear hl0 hld;go_enter func173,ntmps173
 go_wp2_with((with_reducible go_at_call 172);refine HAR.o.mono ?_;rintro en w1 ⟨rfl,S1,hm1,hg1⟩;have HM1:=qa hm1;have HG1:=qa (HGA.o.trans hg1);have HJ1:=qa (hJg _ _ _ _ HJA.o hg1);have HN1:=qa (HNA.o.gw hg1);have P61:=qa (HPA.o.gw hg1);(have qc3:=qc qbw hg1.size);clear hm1 hg1;(have hn6:w1.cell? ⟨w.heap.size,6,none⟩=some (.int .i64 lo):=HN1.o.c 6 (show 6<8 by decide));have qbg:=HN1.o.lt)
 have HM2:=qa (HM1.o.up (aA w1 (.cells #[.int .i64 np,.int .i64 mp] 221)));have HJ2:=qa (hJb _ _ _ HJ1.o (aA w1 (.cells #[.int .i64 np,.int .i64 mp] 221)));have HN2:=qa (HN1.o.up (aA w1 (.cells #[.int .i64 np,.int .i64 mp] 221)));have P62:=qa (P61.o.up (aA w1 (.cells #[.int .i64 np,.int .i64 mp] 221)));have P72:Hid (LB (w1.alloc (.cells #[.int .i64 np,.int .i64 mp] 221)) S1 w1.heap.size np mp):=qa ⟨fE w1 np mp,HM1.o.no (qb _)⟩;have HG2:=qa (HG1.o.up (aA w1 (.cells #[.int .i64 np,.int .i64 mp] 221)));clear HM1 HG1 HJ1 HN1 P61 hn6 qbg HMA HGA HJA HNA HPA HAR;generalize w1.heap.size=p7 at*;generalize w1.alloc (.cells #[.int .i64 np,.int .i64 mp] 221)=w2 at*;have hc4:=HM2.o.f4;have hgl:=HM2.o.glt;have P7a:=P72.o.box.c0;have P7b:=P72.o.box.c1;have P7l:=P72.o.box.lt;have hn6:w2.cell? ⟨w.heap.size,6,none⟩=some (.int .i64 lo):=HN2.o.c 6 (show 6<8 by decide);have hn7:w2.cell? ⟨w.heap.size,7,none⟩=some (.int .i64 hi):=HN2.o.c 7 (show 7<8 by decide);have qbg:=HN2.o.lt
 try go_wp2
 refine aT [0,1,2,3,4,5,6] [] [7] (by kernel_rfl) (by kernel_rfl) ?_;simp only[pk]
 repeat(go_big_quiet_step (fail))
 refine wpQuiet_nil ?_;unfold aG;unfold aG
 go_wp2_with((with_reducible go_at_call 170);refine(nN (HM2.o.up (aR _)) np mp qgD (by omega) (by omega)).mono ?_;rintro en w3 ⟨rfl,S3,hm,hg⟩;have HM3:=qa hm;have HG3:=qa ((HG2.o.up (aR _)).trans hg);have P73:=qa ((P72.o.up (aR _)).gw hg);have HN3:=qa ((HN2.o.up (aR _)).gw hg);have P63:=qa ((P62.o.up (aR _)).gw hg);have HJ3:=qa (hJg _ _ _ _ (hJb _ _ _ HJ2.o (aR _)) hg);clear hm hg)
 refine⟨trivial,?_⟩;unfold aG;clear hc4 hgl hn6 hn7 qbg P7a P7b P7l HM2 HG2 HJ2 P72 HN2 P62;have HMY:Hid (MkT w3 S3 g q (Y 0).2 F):=qa (by rw[HY0.o];exact HM3.o);generalize w3=wx at*;generalize S3=Sx at*;have HMX:=HMY;have HGX:=HG3;have HJX:=HJ3;have HNX:=HN3;have P6X:=P63;have P7X:=P73;clear HMY HG3 HJ3 HN3 P63 P73 HM3;have qe9:((Y 0).1:Int)=np:=by rw[HY0.o]
 clear hlb;have qfc:=HGX.o.size;have P7a:=P7X.o.box.c0;have P7b:=P7X.o.box.c1;have P7l:=P7X.o.box.lt;have hn6:wx.cell? ⟨w.heap.size,6,none⟩=some (.int .i64 lo):=HNX.o.c 6 (show 6<8 by decide);have qbg:=HNX.o.lt
 go_wp2_with(first|(refine aH rfl 65 _ rfl w.heap.size 0 8 rfl _ _ (tZ HNX.o 8 rfl) rfl underlying65 rfl (by kernel_rfl) ?_)|((with_reducible go_at_call 178);refine(HTM.o _).mono ?_;rintro en' w' ⟨rfl,x5,rfl⟩))
 go_loopg [8,28] t (fun gk av iv wr=>∃(j:Nat) (Sr:Nat->Prop),iv=.int .i64 j/\av=.int .i64 ((Y j).1:Nat)/\j<=t/\MkT wr Sr g q (Y j).2 F/\Gw S w Sr wr/\J Sr wr/\xN wr Sr w.heap.size #[.int .i64 k,.int .i64 n,.int .u64 a,.int .u64 b,.int .u64 c,.int .u64 d,.int .i64 lo,.int .i64 hi]/\LB wr Sr (w.heap.size+1) 0 0/\LB wr Sr p7 np mp/\gk=t-j)
 case atStart=>
  exact ZmI6
 case round=>
  exact ZmI0
theorem q4Q{w:World}{S:Nat->Prop}{g q:Nat}{s:St}{F:Int}(J:(Nat->Prop)->World->Prop)(hJg:∀S w S' w',J S w->Gw S w S' w'->J S' w')(hJb:∀S w w',J S w->Below w.heap.size w w'->J S w')
  (k n a b c d lo hi:Int) (pa pb:Nat) (part:St->Pc×St) (u t:Nat) (htt:eY ⟨k,n,a,b,c,d,lo,hi⟩=t) (qdD:t<=30) (_hlo:0<=lo) (_hlo2:lo<=30) (_hhi: -1<=hi) (hp:∀s,N3 s ([(part s).1],(part s).2) u 1)
  (qbz:∀(w1:World) (S1:Nat->Prop) (s1:St),MkT w1 S1 g q s1 F->J S1 w1->s1.e.length+u<=4000->s1.r.length+u<=4000->tot s1.e+2*u<=90000->∀n m:Nat,n=(part s1).1.f->m=(part s1).1.l->Calls prog 174 #[.pointer (some ⟨pa,0,none⟩),.pointer (some ⟨pb,0,none⟩)] w1 fun e w2=>e=.returned (.agg #[.int .i64 n,.int .i64 m])/\∃S2,MkT w2 S2 g q (part s1).2 F/\Gw S1 w1 S2 w2)
  (h:MkT w S g q s F) (hj0:J S w) (hl:s.e.length+2+t*u<=4000) (hr:s.r.length+2+t*u<=4000) (qcH:tot s.e+1+t*(2*u)<=90000) (np mp:Nat) (hl0:lo≠0) (hnp:np=s.e.length) (hmp:mp=s.e.length+1):
  Calls prog 173 #[.pointer (some ⟨g,0,none⟩),.agg #[.int .i64 k,.int .i64 n,.int .u64 a,.int .u64 b,.int .u64 c,.int .u64 d,.int .i64 lo,.int .i64 hi],.func (.func 174) #[] #[.pointer (some ⟨pa,0,none⟩),.pointer (some ⟨pb,0,none⟩)]] w fun e w'=>e=.returned (.agg #[.int .i64 np,.int .i64 mp])/\∃S',MkT w' S' g q (eB ⟨k,n,a,b,c,d,lo,hi⟩ t (bJ s) part (iff (decide (lo=0)) (d6 (bJ s).f (bJ s).l) (two s)) t).2 F/\Gw S w S' w':=by
 have hgq:=h.gq;have hno:=h.no (qb _);have qcJ:=h.no (ja _);have hAP:bJ s=⟨np,mp⟩:=by rw[hnp,hmp];rfl
 have HRO:=qa (q02 ⟨k,n,a,b,c,d,lo,hi⟩ t part u hp s);rw[hAP]at HRO⊢;have HPL:=qa hp;have HPT:=qa qbz;have HTM:Hid (∀w,Calls prog 178 #[.agg #[.int .i64 k,.int .i64 n,.int .u64 a,.int .u64 b,.int .u64 c,.int .u64 d,.int .i64 lo,.int .i64 hi]] w fun e w'=>e=.returned (.int .i64 (t:Nat))/\∃x,w'=ext w x):=qa (fun w=>by rw[<-htt];exact q2t k n a b c d lo hi);obtain⟨Y,hY⟩:∃Y:Nat->Nat×St,Y=eB ⟨k,n,a,b,c,d,lo,hi⟩ t ⟨np,mp⟩ part (iff (decide (lo=0)) (d6 np mp) (two s)):=⟨_,rfl⟩;change Hid (∀i,q6G s u i (eB ⟨k,n,a,b,c,d,lo,hi⟩ t ⟨np,mp⟩ part (iff (decide (lo=0)) (d6 np mp) (two s)) i))at HRO;change Calls _ _ _ _ fun e w'=>_/\∃S',MkT w' S' g q (eB ⟨k,n,a,b,c,d,lo,hi⟩ t ⟨np,mp⟩ part (iff (decide (lo=0)) (d6 np mp) (two s)) t).2 F/\Gw S w S' w';rw[<-hY]at HRO⊢;have HY0:Hid (Y 0=(np,iff (decide (lo=0)) (d6 np mp) (two s))):=qa (by rw[hY];rfl);have HYS:Hid (∀i,Y (i+1)=((part (Y i).2).1.l,iff (decide (hi<0/\i+1=t)) (d6 (part (Y i).2).1.l (part (Y i).2).1.f) (iff (decide (lo<=i+1)) (d6 (part (Y i).2).1.l mp) (d6 (Y i).1 (part (Y i).2).1.f (part (Y i).2).2)))):=qa (fun i=>by rw[hY];rfl);have hA:Below w.heap.size w ((w.alloc (.cells #[.int .i64 k,.int .i64 n,.int .u64 a,.int .u64 b,.int .u64 c,.int .u64 d,.int .i64 lo,.int .i64 hi] 65)).alloc (.cells #[.int .i64 0,.int .i64 0] 221)):=(aA w _).trans ((aA _ _).mono (by simp));have HMA:=qa (h.up hA);have HGA:Hid (Gw S w S ((w.alloc (.cells #[.int .i64 k,.int .i64 n,.int .u64 a,.int .u64 b,.int .u64 c,.int .u64 d,.int .i64 lo,.int .i64 hi] 65)).alloc (.cells #[.int .i64 0,.int .i64 0] 221))):=qa (dD S hA);have HJA:=qa (hJb _ _ _ hj0 hA);have HNA:Hid (xN ((w.alloc (.cells #[.int .i64 k,.int .i64 n,.int .u64 a,.int .u64 b,.int .u64 c,.int .u64 d,.int .i64 lo,.int .i64 hi] 65)).alloc (.cells #[.int .i64 0,.int .i64 0] 221)) S w.heap.size #[.int .i64 k,.int .i64 n,.int .u64 a,.int .u64 b,.int .u64 c,.int .u64 d,.int .i64 lo,.int .i64 hi]):=qa ((G1 w S _ 65 hno).up (aA _ _))
 have HPA:Hid (LB ((w.alloc (.cells #[.int .i64 k,.int .i64 n,.int .u64 a,.int .u64 b,.int .u64 c,.int .u64 d,.int .i64 lo,.int .i64 hi] 65)).alloc (.cells #[.int .i64 0,.int .i64 0] 221)) S (w.heap.size+1) 0 0):=qa ⟨by
  have h:=fE (w.alloc (.cells #[.int .i64 k,.int .i64 n,.int .u64 a,.int .u64 b,.int .u64 c,.int .u64 d,.int .i64 lo,.int .i64 hi] 65)) 0 0;simpa using h,qcJ⟩
 have HAR:=qa (tY HMA.o (by omega) (by omega) np mp hnp hmp);have HBD:Hid (s.e.length=np/\tot s.e+1+t*(2*u)<=90000/\s.e.length+2+t*u<=4000/\s.r.length+2+t*u<=4000):=qa ⟨hnp.symm,qcH,hl,hr⟩;have T2:=nZ s;have L2:=lW s;obtain⟨s0,hs0⟩:∃s0,s0=two s:=⟨_,rfl⟩;rw[<-hs0]at T2 L2 HAR HY0;have qiv:s0.e.length<=4000:=by omega
 have qgD:np<s0.e.length:=by omega
 have qiu:tot s0.e<=90000:=by omega
 have qbw:w.heap.size+2<=((w.alloc (.cells #[.int .i64 k,.int .i64 n,.int .u64 a,.int .u64 b,.int .u64 c,.int .u64 d,.int .i64 lo,.int .i64 hi] 65)).alloc (.cells #[.int .i64 0,.int .i64 0] 221)).heap.size:=by simp
 clear h hp qbz htt hY hAP hA hj0 hl hr qcH hnp hmp hs0 T2 L2;have hld:decide (lo=0)=false:=by simpa using hl0
 rw[hld]at HY0;simp only[iff,qP,jp]at HY0;have hlb:(lo==0)=false:=by simpa using hl0
 clear hl0 hld;go_enter func173,ntmps173
 go_upto_region 5 with((with_reducible go_at_call 172);refine HAR.o.mono ?_;rintro en w1 ⟨rfl,S1,hm1,hg1⟩;have HM1:=qa hm1;have HG1:=qa (HGA.o.trans hg1);have HJ1:=qa (hJg _ _ _ _ HJA.o hg1);have HN1:=qa (HNA.o.gw hg1);have P61:=qa (HPA.o.gw hg1);(have qc3:=qc qbw hg1.size);clear hm1 hg1;(have hn6:w1.cell? ⟨w.heap.size,6,none⟩=some (.int .i64 lo):=HN1.o.c 6 (show 6<8 by decide));have qbg:=HN1.o.lt)
 have HM2:=qa (HM1.o.up (aA w1 (.cells #[.int .i64 np,.int .i64 mp] 221)));have HJ2:=qa (hJb _ _ _ HJ1.o (aA w1 (.cells #[.int .i64 np,.int .i64 mp] 221)));have HN2:=qa (HN1.o.up (aA w1 (.cells #[.int .i64 np,.int .i64 mp] 221)));have P62:=qa (P61.o.up (aA w1 (.cells #[.int .i64 np,.int .i64 mp] 221)));have P72:Hid (LB (w1.alloc (.cells #[.int .i64 np,.int .i64 mp] 221)) S1 w1.heap.size np mp):=qa ⟨fE w1 np mp,HM1.o.no (qb _)⟩;have HG2:=qa (HG1.o.up (aA w1 (.cells #[.int .i64 np,.int .i64 mp] 221)));clear HM1 HG1 HJ1 HN1 P61 hn6 qbg HMA HGA HJA HNA HPA HAR;generalize w1.heap.size=p7 at*;generalize w1.alloc (.cells #[.int .i64 np,.int .i64 mp] 221)=w2 at*;have HMY:Hid (MkT w2 S1 g q (Y 0).2 F):=qa (by rw[HY0.o];exact HM2.o);generalize w2=wx at*;generalize S1=Sx at*;have HMX:=HMY;have HGX:=HG2;have HJX:=HJ2;have HNX:=HN2;have P6X:=P62;have P7X:=P72;clear HMY HG2 HJ2 HN2 P62 P72 HM2;have qe9:((Y 0).1:Int)=np:=by rw[HY0.o]
 clear hlb;have qfc:=HGX.o.size;have P7a:=P7X.o.box.c0;have P7b:=P7X.o.box.c1;have P7l:=P7X.o.box.lt;have hn6:wx.cell? ⟨w.heap.size,6,none⟩=some (.int .i64 lo):=HNX.o.c 6 (show 6<8 by decide);have qbg:=HNX.o.lt
 go_wp2_with(first|(refine aH rfl 65 _ rfl w.heap.size 0 8 rfl _ _ (tZ HNX.o 8 rfl) rfl underlying65 rfl (by kernel_rfl) ?_)|((with_reducible go_at_call 178);refine(HTM.o _).mono ?_;rintro en' w' ⟨rfl,x5,rfl⟩))
 go_loopg [8,28] t (fun gk av iv wr=>∃(j:Nat) (Sr:Nat->Prop),iv=.int .i64 j/\av=.int .i64 ((Y j).1:Nat)/\j<=t/\MkT wr Sr g q (Y j).2 F/\Gw S w Sr wr/\J Sr wr/\xN wr Sr w.heap.size #[.int .i64 k,.int .i64 n,.int .u64 a,.int .u64 b,.int .u64 c,.int .u64 d,.int .i64 lo,.int .i64 hi]/\LB wr Sr (w.heap.size+1) 0 0/\LB wr Sr p7 np mp/\gk=t-j)
 case atStart=>
  exact ZmI6
 case round=>
  exact ZmI0
theorem vP.upP{w w':World}{B b:Nat}{u:Value}{vs:List Value}{tl:List (List Nd)}(h:vP w B b u vs tl)(hb:Below w.heap.size w w'):vP w' B b u vs tl:=⟨h.own.up hb,h.len,fun i hi=>(h.rows i hi).up hb⟩
theorem vP.keepP{w w':World}{B b:Nat}{u:Value}{vs:List Value}{tl:List (List Nd)}{row:Option Nat}(h:vP w B b u vs tl)(hg:w.grownBy w' row)(hu:∀z,u.ownBlock=some z->row≠some z)(hb:row≠some b):vP w' B b u vs tl:=
 ⟨h.own.keep hg (bR hu),h.len,fun i hi=>(h.rows i hi).gw (S:=fun k=>some k=row) (S1:=fun k=>some k=row) ⟨⟨hg.os,hg.tape,hg.output,hg.size,fun k hk hn=>hg.block k hk hn⟩,fun _ h=>.inl h⟩ (fun e=>hb e.symm)⟩
theorem vP.monoP{w:World}{B B' b:Nat}{u:Value}{vs:List Value}{tl:List (List Nd)}(h:vP w B b u vs tl)(hB:B'<=B):vP w B' b u vs tl:=⟨h.own.mono hB,h.len,h.rows⟩
theorem uA(x:Nd):∀u∈(ndV x).toList,u.oneCell'=true:=by
 intro u hu;simp at hu;rcases hu with rfl|rfl|rfl|rfl|rfl|rfl|rfl|rfl<;>rfl
noncomputable def wrt(S:Nat->Prop)(w x:World):World:=@ite _ (vC S w x) (Classical.propDecidable _) x w
theorem q8q(S:Nat->Prop)(w x:World):vC S w (wrt S w x):=by
 unfold wrt;split
 ·assumption
 exact vC.refl _ _
theorem sI{S:Nat->Prop}{w x:World}(h:vC S w x):∃y,x=wrt S w y:=⟨x,by unfold wrt;rw[qt h]⟩
@[go_sem] theorem cell?_wrt(S:Nat->Prop)(w x:World)(b o:Nat)(h:b<w.heap.size)(hn:¬S b):(wrt S w x).cell? ⟨b,o,none⟩=w.cell? ⟨b,o,none⟩:=World.cell?_of_block (w:=w) ((q8q S w x).block b h hn)
theorem xN.keepO{S:Nat->Prop}{w w':World}{p:Nat}{C:Array Value}(h:xN w S p C){row:Option Nat}(hg:w.grownBy w' row)(hr:∀z,row=some z->z≠p):xN w' S p C:=
 ⟨fun i hi=>(World.cell?_of_block (w:=w) (hg.block p h.lt (fun e=>hr p e.symm rfl))).trans (h.c i hi),qe h.lt hg.size,h.no⟩
theorem LB.keepO{S:Nat->Prop}{w w':World}{p:Nat}{f l:Int}(h:LB w S p f l){row:Option Nat}(hg:w.grownBy w' row)(hr:∀z,row=some z->z≠p):LB w' S p f l:=⟨h.box.keep hg (fun e=>hr p e rfl),h.no⟩
theorem eO.keepO{w w':World}{b:Nat}{v:Value}{l:List Nd}(h:eO w b v l){row:Option Nat}(hg:w.grownBy w' row)(hr:∀z,row=some z->z≠b):eO w' b v l:=
 h.gw (S:=fun k=>row=some k) (S1:=fun k=>row=some k) ⟨⟨hg.os,hg.tape,hg.output,hg.size,fun k hk hn=>hg.block k hk (fun e=>hn e.symm)⟩,fun _ h=>.inl h⟩ (fun e=>hr b e rfl)
theorem MkW.keepO{w w':World}{S:Nat->Prop}{g q:Nat}{ll:List (List Ed)}{rl:List Int}{F:Int}(h:MkW w S g q ll rl F){row:Option Nat}(hg:w.grownBy w' row)(hr:∀z,row=some z->¬S z/\z≠q):MkW w' S g q ll rl F:=by
 cases row with
 |none=>
  obtain⟨ve,vs,vr,h1,rfl⟩:=h;exact⟨ve,vs,vr,h1.keep hg (fun _ _ _ e=>by cases e),rfl⟩
 |some p=>exact h.keep hg (hr p rfl).1 (hr p rfl).2
theorem Gw.newO{S S1:Nat->Prop}{w w1 w2:World}(h:Gw S w S1 w1){row:Option Nat}(hg:w1.grownBy w2 row)(hr:∀z,row=some z->w.heap.size<=z):Gw S w S1 w2:=by
 cases row with
 |none=>exact h.trans (eM hg (fun k e=>by cases e) (fun k h=>.inl h))
 |some p=>exact h.new hg (hr p rfl)
theorem cA.gw{S S1:Nat->Prop}{k:Nat}{w w1:World}(h:Gw S w S1 w1){B E:Nat}{v:Value}{l:List (List Value)}(ho:cA k w B E v l)(hv:∀z,v.ownBlock=some z->¬S z):cA k w1 B E v l:=by
 refine⟨⟨ho.1.1,ho.1.2.imp id ?_⟩,ho.2⟩;rintro⟨g,cap,cur,rfl,h2,h3,h4⟩;exact⟨g,cap,cur,rfl,h2,by rw[h.fx.block g (Array.getElem?_eq_some_iff.1 h3).1 (hv g rfl)];exact h3,h4⟩
theorem q6N(x:Nd)(K:St->List Pc×St)(s:St)(h:x.kd=8):eF x K s=wC x (fun s=>eN (K s)) s:=by unfold eF;rw[qr (by omega),qt h]
theorem uB(x:Nd)(K:St->List Pc×St)(s:St)(h:x.kd=5\/x.kd=6\/x.kd=7):eF x K s=(bJ (K s).2,nY (decide (x.kd≠6)) (decide (x.kd≠7)) (eN (K s)).1 (K s).2):=by unfold eF;rw[qr (by omega),qr (by omega),qt h]
theorem q2A(x:Nd)(K:St->List Pc×St)(s:St)(h:x.kd=3):eF x K s=(xC (K s).1,iB (K s).1 (K s).1.length (K s).2):=by unfold eF;rw[qr (by omega),qr (by omega),qr (by omega),qt h]
theorem q2B(x:Nd)(K:St->List Pc×St)(s:St)(h:x.kd=4):eF x K s=(bJ (K s).2,eH (bJ (K s).2) (K s).1 (K s).1.length (two (K s).2)):=by unfold eF;rw[qr (by omega),qr (by omega),qr (by omega),qr (by omega)]
theorem q4R(x:Nd)(u:Nat)(h:x.kd=8):cZ x u=2+(eY x).toNat*u:=by unfold cZ;rw[qr (by omega),qr (by omega),qt h]
theorem wG(x:Nd)(u:Nat)(h:x.kd=4\/x.kd=5\/x.kd=6\/x.kd=7):cZ x u=u+2:=by unfold cZ;rw[qr (by omega),qt h]
theorem q4S(x:Nd)(u:Nat)(h:x.kd=3):cZ x u=u:=by unfold cZ;rw[qr (by omega),qr (by omega),qr (by omega)]
structure KJ(g a p6 bo b:Nat)(u:Value)(vs:List Value)(tl:List (List Nd))(S:Nat->Prop)(w:World):Prop where
 va:xN w S a #[.pointer (some ⟨g,0,none⟩)]
 vb:xN w S p6 #[u]
 out:xN w S bo vs.toArray
 nb:¬S b
 rows:∀i,i<tl.length->eO w b (vs.getD i undef) (tl.getD i [])
theorem KJ.gw{g a p6 bo b:Nat}{u:Value}{vs:List Value}{tl:List (List Nd)}(S:Nat->Prop)(w:World)(S':Nat->Prop)(w':World)(hp:0<tl.length)(h:KJ g a p6 bo b u vs tl S w)(hg:Gw S w S' w'):KJ g a p6 bo b u vs tl S' w':=
 ⟨h.va.gw hg,h.vb.gw hg,h.out.gw hg,hg.out (h.rows 0 hp).lt h.nb,fun i hi=>(h.rows i hi).gw hg h.nb⟩
theorem KJ.up{g a p6 bo b:Nat}{u:Value}{vs:List Value}{tl:List (List Nd)}(S:Nat->Prop)(w w':World)(h:KJ g a p6 bo b u vs tl S w)(hb:Below w.heap.size w w'):KJ g a p6 bo b u vs tl S w':=
 ⟨h.va.up hb,h.vb.up hb,h.out.up hb,h.nb,fun i hi=>(h.rows i hi).up hb⟩
theorem KJ.keepO{g a p6 bo b:Nat}{u:Value}{vs:List Value}{tl:List (List Nd)}{S:Nat->Prop}{w w':World}(h:KJ g a p6 bo b u vs tl S w){row:Option Nat}(hg:w.grownBy w' row)(h1:∀z,row=some z->z≠a/\z≠p6/\z≠bo/\z≠b):KJ g a p6 bo b u vs tl S w':=
 ⟨h.va.keepO hg (fun z hz=>(h1 z hz).1),h.vb.keepO hg (fun z hz=>(h1 z hz).2.1),h.out.keepO hg (fun z hz=>(h1 z hz).2.2.1),h.nb,fun i hi=>(h.rows i hi).keepO hg (fun z hz=>(h1 z hz).2.2.2)⟩
theorem q8r{g q a p6 bo b cu:Nat}{u0:Value}{vs:List Value}{y:Nd}{ky:Fo}{F:Int}
  (hT:∀(w:World) (S:Nat->Prop) (s:St),eO w b u0 (y::cO ky)->¬S b->MkT w S g q s F->s.e.length+cZ y (usz ky)<=4000->s.r.length+cZ y (usz ky)<=4000->tot s.e+2*cZ y (usz ky)<=90000->
   ∀n m:Nat,n=(eF y (fun s=>g8 ky s) s).1.f->m=(eF y (fun s=>g8 ky s) s).1.l->Calls prog 167 #[.pointer (some ⟨g,0,none⟩),u0] w fun e w'=>e=.returned (.agg #[.int .i64 n,.int .i64 m])/\∃S',MkT w' S' g q (eF y (fun s=>g8 ky s) s).2 F/\Gw S w S' w')
  {w:World} {S:Nat->Prop} {s:St} (hj:KJ g a p6 bo b (.slice (some ⟨bo,0,none⟩) 1 cu) vs [y::cO ky] S w) (hvs:vs=[u0]) (hcu:1<=cu) (qbS:cu<=maxLen) (h:MkT w S g q s F) (hl:s.e.length+cZ y (usz ky)<=4000) (hr:s.r.length+cZ y (usz ky)<=4000) (ht:tot s.e+2*cZ y (usz ky)<=90000)
  (n m:Nat) (hn:n=(eF y (fun s=>g8 ky s) s).1.f) (hm:m=(eF y (fun s=>g8 ky s) s).1.l):
  Calls prog 174 #[.pointer (some ⟨a,0,none⟩),.pointer (some ⟨p6,0,none⟩)] w fun e w'=>e=.returned (.agg #[.int .i64 n,.int .i64 m])/\∃S',MkT w' S' g q (eF y (fun s=>g8 ky s) s).2 F/\Gw S w S' w':=by
 subst hvs;have hno:=h.no (qb _);have hgq:=h.gq;have hac:w.cell? ⟨a,0,none⟩=some (.pointer (some ⟨g,0,none⟩)):=hj.va.c 0 (show 0<1 by decide);have hal:=hj.va.lt;have h6c:w.cell? ⟨p6,0,none⟩=some (.slice (some ⟨bo,0,none⟩) 1 cu):=hj.vb.c 0 (show 0<1 by decide);have h6l:=hj.vb.lt;have hoc:w.cell? ⟨bo,0,none⟩=some u0:=hj.out.c 0 (show 0<1 by decide);have hol:=hj.out.lt;have hdo:Hd w (some ⟨bo,0,none⟩) 1 cu bo 0:=⟨fun _=>rfl,hcu,qbS,by decide,fun _=>hol⟩
 have hix:∀W:World,(Instr.indexAt 26 (.slice (some ⟨bo,0,none⟩) 1 cu) (.int .i64 0)).run prog W=.ok (.pointer (some ⟨bo,0,none⟩)) W:=fun W=>by
  have:=fN hdo W .i64 0 (by omega) (by omega);simpa using this
 have hr0:eO w b u0 (y::cO ky):=hj.rows 0 (by simp);have hlW:Below w.heap.size w (w.alloc (.cells #[.int .i64 0,.int .i64 0] 221)).drew:=gH (aA w _);have HCL:=qa (hT _ S s (hr0.up hlW) hj.nb (h.up hlW) hl hr ht n m hn hm);have HGW:=qa (dD S hlW);have HPB:=qa ((LB.mk (fE w 0 0) hno:LB _ S w.heap.size 0 0).up (aR _));clear hT hj h hl hr ht hn hm hdo hr0 hlW;go_enter func174,ntmps174;go_wp2;refine aT [0,1,2,3] [] [4,5] (by kernel_rfl) (by kernel_rfl) ?_;simp only[pk]
 repeat(go_big_quiet_step (fail))
 refine wpQuiet_nil ?_;unfold aG;unfold aG
 go_wp2_with((with_reducible go_at_call 167);refine HCL.o.mono ?_;rintro en w1 ⟨rfl,S1,hm1,hg1⟩;have HM1:=qa hm1;have HG1:=qa (HGW.o.trans hg1);have HP1:=qa (HPB.o.gw hg1);clear hm1 hg1)
 refine⟨trivial,?_⟩;have P4a:=HP1.o.box.c0;have P4b:=HP1.o.box.c1;have P4l:=HP1.o.box.lt;have P4f:=HP1.o.box.free 0;have P4g:=HP1.o.box.free 1;have HST:=qa (HP1.o.box.set n m);unfold aG;go_wp2;refine⟨trivial,?_⟩;unfold aG;go_wp2;refine cE rfl rfl rfl HST.o.1.load ?_;exact⟨rfl,S1,HM1.o.keep HST.o.2 HP1.o.no (by omega),HG1.o.new HST.o.2 (qb _)⟩
theorem q9U(N:Nat):∀(w:World) (S:Nat->Prop) (g q:Nat) (s:St) (F:Int) (v:Value) (b:Nat) (x:Nd) (k:Fo),(cO k).length<N->eO w b v (x::cO k)->¬S b->(cO k).length<400->x.n=cnt k->wf k->okN x->T9 okN k->MkT w S g q s F->s.e.length+cZ x (usz k)<=4000->s.r.length+cZ x (usz k)<=4000->tot s.e+2*cZ x (usz k)<=90000->
  ∀n m:Nat,n=(eF x (fun s=>g8 k s) s).1.f->m=(eF x (fun s=>g8 k s) s).1.l->Calls prog 167 #[.pointer (some ⟨g,0,none⟩),v] w fun e w'=>e=.returned (.agg #[.int .i64 n,.int .i64 m])/\∃S',MkT w' S' g q (eF x (fun s=>g8 k s) s).2 F/\Gw S w S' w':=by
 induction N with
 |zero=>intro w S g q s F v b x k h;omega
 |succ N ih=>
 intro w S g q s F v b x k hN hnb hbS qcx hxn hwk hox hak h hl hr qcH n m hn hm;have HIH:=qa ih;have hno:=h.no (qb _);have qcJ:=h.no (ja _);have hgq:=h.gq;have hA:Below w.heap.size w ((w.alloc (.cells #[.pointer (some ⟨g,0,none⟩)] 215)).alloc (.cells #[.int .i64 0,.int .i64 0] 221)):=(aA w _).trans ((aA _ _).mono (by simp));have HMA:=qa (h.up hA);have HGA:=qa (dD S hA);have HNA:=qa (hnb.up hA);have HFA:=qa ((G1 w S #[.pointer (some ⟨g,0,none⟩)] 215 hno).up (aA _ (.cells #[.int .i64 0,.int .i64 0] 221)))
 have HPA:Hid (LB ((w.alloc (.cells #[.pointer (some ⟨g,0,none⟩)] 215)).alloc (.cells #[.int .i64 0,.int .i64 0] 221)) S (w.heap.size+1) 0 0):=qa ⟨by
  have h:=fE (w.alloc (.cells #[.pointer (some ⟨g,0,none⟩)] 215)) 0 0;simpa using h,qcJ⟩
 have qis:((w.alloc (.cells #[.pointer (some ⟨g,0,none⟩)] 215)).alloc (.cells #[.int .i64 0,.int .i64 0] 221)).heap.size=w.heap.size+2:=by simp
 have qjk:=hnb.lt;have HLY:=qa (lR k hwk hak);have HXN:=qa hxn;have HWK:=qa hwk;have HOX:=qa hox;have HAK:=qa hak;have HKD:=qa (q61 hox);have HN:=qa hn;have HMM:=qa hm;have HB:=qa (And.intro hl (And.intro hr qcH));obtain⟨Z,hZ⟩:∃Z,Z=(eF x (fun s=>g8 k s) s):=⟨_,rfl⟩;have HZ:=qa hZ;rw[<-hZ]at HN HMM⊢;clear ih h hnb hxn hwk hox hak hn hm hl hr qcH hA hZ;go_enter func167,ntmps167
 go_upto_region 1 with fail
 generalize ((w.alloc (.cells #[.pointer (some ⟨g,0,none⟩)] 215)).alloc (.cells #[.int .i64 0,.int .i64 0] 221))=wr at*
 go_cut [5,6] (fun s5 s6 wx=>∃(p5 p6:Nat) (u:Value) (vs:List Value),s5=.pointer (some ⟨p5,0,none⟩)/\s6=.pointer (some ⟨p6,0,none⟩)/\wr.heap.size<=p5/\wr.heap.size<=p6/\Own wx 0 65 (.slice (some ⟨p5,0,none⟩) 8 8) (ndC x)/\Own wx 0 26 (.slice (some ⟨p6,0,none⟩) 1 1) [u]/\vP wx wr.heap.size b u vs (cM k)/\Below wr.heap.size wr wx)
 case first=>
  obtain⟨oa,cap,b',off,rfl,hd,hc⟩:=HNA.o.at_.open
  have qeI:∀W:World,(Instr.indexAt 31 (.slice oa (x::cO k).length cap) (.int .i64 0)).run prog W=.ok (.pointer (some ⟨b',off,none⟩)) W:=fun(W:World)=>by
   have:=gA hd W .i64 0 (by omega) (by simp);simpa using this
  have hbl:=hd.hblk (by simp)
  have HCQ:Hid (∀w',(∃y,w'=ext wr y)->∀c,c<8->w'.cell? ⟨b',off+c,none⟩=some ((ndV x).getD c undef)):=qa (by
   rintro w' ⟨y,rfl⟩ c hcl;rw[cell?_ext _ _ _ _ hbl];have:=hc 0 (by simp) c hcl;rw[Nat.zero_mul,jC,F2]at this;exact this)
  have hxl:(x::cO k).length<=400:=by simp;omega
  clear hd hc;generalize (x::cO k).length=ln at*;have C0:Hid (Below wr.heap.size wr wr.drew):=qa (aN wr 1);have hbr:b<wr.heap.size:=by omega
  clear qis;refine iC (C:=fun w'=>∃x,w'=ext wr x) (.q 0 (.q 1 (.q 2 (.q 3 (.br 4 (.br 5 (.br 6 (.br 7 (.br 8 .done .no) .no) .no) (.br 6 (.br 5 (.br 7 (.br 8 .done .no) .no) .no) .no)) (.br 5 (.br 4 (.br 6 (.br 7 (.br 8 .done .no) .no) .no) (.br 6 (.br 4 (.br 7 (.br 8 .done .no) .no) .no) .no)) (.br 6 (.br 4 (.br 5 (.br 7 (.br 8 .done .no) .no) .no) (.br 5 (.br 4 (.br 7 (.br 8 .done .no) .no) .no) .no)) .no))))))) (by kernel_rfl) (by kernel_rfl) (aI C0.o) ?_
  (unfold bF;simp only[kE,qF,jq,j7])
  repeat(go_big_quiet_step (fail))
  refine wpQuiet_nil ?_
  (unfold bF;simp only[pk])
  repeat(go_big_quiet_step (fail))
  refine wpQuiet_nil ?_
  (unfold bF;simp only[pk])
  repeat(first|(go_big_quiet_want;refine dO 65 8 _ rfl b' off rfl (ndV x) rfl HCQ.o _ underlying65 rfl (by kernel_rfl) ?_;go_simp;go_big_quiet_on)|go_big_quiet_step (fail))
  refine wpQuiet_nil ?_
  (unfold bF;simp only[pk])
  repeat(go_big_quiet_step (fail))
  refine wpQuiet_nil ?_
  (unfold bF;simp only[pk])
  refine⟨?_,?_⟩
  ·unfold aG
   go_wp2_with((with_reducible go_at_call 171);refine(q2y (HNA.o.up C0.o) qcx HXN.o HWK.o).mono ?_;rintro en w4 ⟨u,vs,rfl,hP,hbK⟩;have HPK:=qa hP;have B4:=qa hbK;have C4:=qa (cP C0.o hbK);have Z4:=qa hbK.size;clear hP hbK)
   refine⟨aI C4.o,?_⟩;unfold aG
   (unfold bF;simp only[pk])
   refine⟨?_,?_⟩
   ·unfold aG
    go_wp2;have F5:=qa ((by simpa using bU w4 0 #[.int .i64 0,.int .i64 0,.int .u64 0,.int .u64 0,.int .u64 0,.int .u64 0,.int .i64 0,.int .i64 0] 65 (by simp) (qd _):Own (w4.alloc (.cells #[.int .i64 0,.int .i64 0,.int .u64 0,.int .u64 0,.int .u64 0,.int .u64 0,.int .i64 0,.int .i64 0] 65)) 0 65 (.slice (some ⟨w4.heap.size,0,none⟩) 8 8) [.int .i64 0,.int .i64 0,.int .u64 0,.int .u64 0,.int .u64 0,.int .u64 0,.int .i64 0,.int .i64 0]));have B5:=qa (aA w4 (.cells #[.int .i64 0,.int .i64 0,.int .u64 0,.int .u64 0,.int .u64 0,.int .u64 0,.int .i64 0,.int .i64 0] 65));have C5:=qa (cP C4.o B5.o);refine⟨aI C5.o,?_⟩;have Z5:Hid ((w4.alloc (.cells #[.int .i64 0,.int .i64 0,.int .u64 0,.int .u64 0,.int .u64 0,.int .u64 0,.int .i64 0,.int .i64 0] 65)).heap.size=(w4).heap.size+1):=qa (by simp);obtain⟨p5,hp5⟩:∃p5,p5=w4.heap.size:=⟨_,rfl⟩;have HP5:=qa hp5;rw[<-hp5]at⊢;rw[show w4.heap.size=p5 from hp5.symm]at F5;clear hp5;generalize w4.alloc (.cells #[.int .i64 0,.int .i64 0,.int .u64 0,.int .u64 0,.int .u64 0,.int .u64 0,.int .i64 0,.int .i64 0] 65)=w5 at*;unfold aG
    (unfold bF;simp only[pk])
    refine⟨?_,?_⟩
    ·unfold aG
     go_wp2;have F6:=qa ((by simpa using bU w5 0 #[.slice none 0 0] 26 (by simp) (qd _):Own (w5.alloc (.cells #[.slice none 0 0] 26)) 0 26 (.slice (some ⟨w5.heap.size,0,none⟩) 1 1) [.slice none 0 0]));have B6:=qa (aA w5 (.cells #[.slice none 0 0] 26));have C6:=qa (cP C5.o B6.o);refine⟨aI C6.o,?_⟩;have Z6:Hid ((w5.alloc (.cells #[.slice none 0 0] 26)).heap.size=(w5).heap.size+1):=qa (by simp);obtain⟨p6,hp6⟩:∃p6,p6=w5.heap.size:=⟨_,rfl⟩;have HP6:=qa hp6;rw[<-hp6]at⊢;rw[show w5.heap.size=p6 from hp6.symm]at F6;clear hp6;generalize w5.alloc (.cells #[.slice none 0 0] 26)=w6 at*;unfold aG
     (unfold bF;simp only[pk])
     refine⟨?_,by unfold bF;trivial⟩;unfold aG;have hkk:=HPK.o.own.lt;have q4:=Z4.o;have q5:=Z5.o;have q6:=Z6.o;have q7:=HP5.o;have q8:=HP6.o;have q9:wr.drew.heap.size=wr.heap.size:=rfl;have h5r:wr.heap.size<=p5:=by omega
     have h6r:wr.heap.size<=p6:=by omega
     have O5:=qa (F5.o.up B6.o);have O6:=qa F6.o;have OP:=qa (((HPK.o).upP B5.o).upP B6.o);have h56:p5≠p6:=by omega
     have hk5:∀z,u.ownBlock=some z->z≠p5:=fun z hz=>by have:=hkk z hz;omega
     have hk6:∀z,u.ownBlock=some z->z≠p6:=fun z hz=>by have:=hkk z hz;omega
     have hBk:wr.heap.size<=wr.drew.heap.size:=by omega
     have qcd:b≠p5:=by omega
     have qe3:b≠p6:=by omega
     clear q4 q5 q6 q7 q8 q9 hkk Z4 Z5 Z6 HP5 HP6;generalize w6=wz at*;have CZ:=C6
     exact ZmI1
    unfold bF
    trivial
   (unfold bF;simp only[pk])
   refine⟨?_,?_⟩
   ·unfold aG
    go_wp2;have F6:=qa ((by simpa using bU w4 0 #[.slice none 0 0] 26 (by simp) (qd _):Own (w4.alloc (.cells #[.slice none 0 0] 26)) 0 26 (.slice (some ⟨w4.heap.size,0,none⟩) 1 1) [.slice none 0 0]));have B6:=qa (aA w4 (.cells #[.slice none 0 0] 26));have C6:=qa (cP C4.o B6.o);refine⟨aI C6.o,?_⟩;have Z6:Hid ((w4.alloc (.cells #[.slice none 0 0] 26)).heap.size=(w4).heap.size+1):=qa (by simp);obtain⟨p6,hp6⟩:∃p6,p6=w4.heap.size:=⟨_,rfl⟩;have HP6:=qa hp6;rw[<-hp6]at⊢;rw[show w4.heap.size=p6 from hp6.symm]at F6;clear hp6;generalize w4.alloc (.cells #[.slice none 0 0] 26)=w6 at*;unfold aG
    (unfold bF;simp only[pk])
    refine⟨?_,?_⟩
    ·unfold aG
     go_wp2;have F5:=qa ((by simpa using bU w6 0 #[.int .i64 0,.int .i64 0,.int .u64 0,.int .u64 0,.int .u64 0,.int .u64 0,.int .i64 0,.int .i64 0] 65 (by simp) (qd _):Own (w6.alloc (.cells #[.int .i64 0,.int .i64 0,.int .u64 0,.int .u64 0,.int .u64 0,.int .u64 0,.int .i64 0,.int .i64 0] 65)) 0 65 (.slice (some ⟨w6.heap.size,0,none⟩) 8 8) [.int .i64 0,.int .i64 0,.int .u64 0,.int .u64 0,.int .u64 0,.int .u64 0,.int .i64 0,.int .i64 0]));have B5:=qa (aA w6 (.cells #[.int .i64 0,.int .i64 0,.int .u64 0,.int .u64 0,.int .u64 0,.int .u64 0,.int .i64 0,.int .i64 0] 65));have C5:=qa (cP C6.o B5.o);refine⟨aI C5.o,?_⟩;have Z5:Hid ((w6.alloc (.cells #[.int .i64 0,.int .i64 0,.int .u64 0,.int .u64 0,.int .u64 0,.int .u64 0,.int .i64 0,.int .i64 0] 65)).heap.size=(w6).heap.size+1):=qa (by simp);obtain⟨p5,hp5⟩:∃p5,p5=w6.heap.size:=⟨_,rfl⟩;have HP5:=qa hp5;rw[<-hp5]at⊢;rw[show w6.heap.size=p5 from hp5.symm]at F5;clear hp5;generalize w6.alloc (.cells #[.int .i64 0,.int .i64 0,.int .u64 0,.int .u64 0,.int .u64 0,.int .u64 0,.int .i64 0,.int .i64 0] 65)=w5 at*;unfold aG
     (unfold bF;simp only[pk])
     refine⟨?_,by unfold bF;trivial⟩;unfold aG;have hkk:=HPK.o.own.lt;have q4:=Z4.o;have q5:=Z5.o;have q6:=Z6.o;have q7:=HP5.o;have q8:=HP6.o;have q9:wr.drew.heap.size=wr.heap.size:=rfl;have h5r:wr.heap.size<=p5:=by omega
     have h6r:wr.heap.size<=p6:=by omega
     have O5:=qa F5.o;have O6:=qa (F6.o.up B5.o);have OP:=qa (((HPK.o).upP B6.o).upP B5.o);have h56:p5≠p6:=by omega
     have hk5:∀z,u.ownBlock=some z->z≠p5:=fun z hz=>by have:=hkk z hz;omega
     have hk6:∀z,u.ownBlock=some z->z≠p6:=fun z hz=>by have:=hkk z hz;omega
     have hBk:wr.heap.size<=wr.drew.heap.size:=by omega
     have qcd:b≠p5:=by omega
     have qe3:b≠p6:=by omega
     clear q4 q5 q6 q7 q8 q9 hkk Z4 Z5 Z6 HP5 HP6;generalize w5=wz at*;have CZ:=C5
     exact ZmI1
    unfold bF
    trivial
   unfold bF
   trivial
  (unfold bF;simp only[pk])
  refine⟨?_,?_⟩
  ·unfold aG
   go_wp2;have F5:=qa ((by simpa using bU wr 0 #[.int .i64 0,.int .i64 0,.int .u64 0,.int .u64 0,.int .u64 0,.int .u64 0,.int .i64 0,.int .i64 0] 65 (by simp) (qd _):Own (wr.alloc (.cells #[.int .i64 0,.int .i64 0,.int .u64 0,.int .u64 0,.int .u64 0,.int .u64 0,.int .i64 0,.int .i64 0] 65)) 0 65 (.slice (some ⟨wr.heap.size,0,none⟩) 8 8) [.int .i64 0,.int .i64 0,.int .u64 0,.int .u64 0,.int .u64 0,.int .u64 0,.int .i64 0,.int .i64 0]).up (aR _));have C5:Hid (Below wr.heap.size wr ((wr.alloc (.cells #[.int .i64 0,.int .i64 0,.int .u64 0,.int .u64 0,.int .u64 0,.int .u64 0,.int .i64 0,.int .i64 0] 65)).drew)):=qa (gH (aA wr _));refine⟨aI C5.o,?_⟩;have Z5:Hid (((wr.alloc (.cells #[.int .i64 0,.int .i64 0,.int .u64 0,.int .u64 0,.int .u64 0,.int .u64 0,.int .i64 0,.int .i64 0] 65)).drew).heap.size=(wr.drew).heap.size+1):=qa (by simp);obtain⟨p5,hp5⟩:∃p5,p5=wr.heap.size:=⟨_,rfl⟩;have HP5:=qa hp5;rw[<-hp5]at⊢;rw[show wr.heap.size=p5 from hp5.symm]at F5;clear hp5;generalize (wr.alloc (.cells #[.int .i64 0,.int .i64 0,.int .u64 0,.int .u64 0,.int .u64 0,.int .u64 0,.int .i64 0,.int .i64 0] 65)).drew=w5 at*;unfold aG
   (unfold bF;simp only[pk])
   refine⟨?_,?_⟩
   ·unfold aG
    go_wp2_with((with_reducible go_at_call 171);refine(q2y (HNA.o.up C5.o) qcx HXN.o HWK.o).mono ?_;rintro en w4 ⟨u,vs,rfl,hP,hbK⟩;have HPK:=qa hP;have B4:=qa hbK;have C4:=qa (cP C5.o hbK);have Z4:=qa hbK.size;clear hP hbK)
    refine⟨aI C4.o,?_⟩;unfold aG
    (unfold bF;simp only[pk])
    refine⟨?_,?_⟩
    ·unfold aG
     go_wp2;have F6:=qa ((by simpa using bU w4 0 #[.slice none 0 0] 26 (by simp) (qd _):Own (w4.alloc (.cells #[.slice none 0 0] 26)) 0 26 (.slice (some ⟨w4.heap.size,0,none⟩) 1 1) [.slice none 0 0]));have B6:=qa (aA w4 (.cells #[.slice none 0 0] 26));have C6:=qa (cP C4.o B6.o);refine⟨aI C6.o,?_⟩;have Z6:Hid ((w4.alloc (.cells #[.slice none 0 0] 26)).heap.size=(w4).heap.size+1):=qa (by simp);obtain⟨p6,hp6⟩:∃p6,p6=w4.heap.size:=⟨_,rfl⟩;have HP6:=qa hp6;rw[<-hp6]at⊢;rw[show w4.heap.size=p6 from hp6.symm]at F6;clear hp6;generalize w4.alloc (.cells #[.slice none 0 0] 26)=w6 at*;unfold aG
     (unfold bF;simp only[pk])
     refine⟨?_,by unfold bF;trivial⟩;unfold aG;have hkk:=HPK.o.own.lt;have q4:=Z4.o;have q5:=Z5.o;have q6:=Z6.o;have q7:=HP5.o;have q8:=HP6.o;have q9:wr.drew.heap.size=wr.heap.size:=rfl;have h5r:wr.heap.size<=p5:=by omega
     have h6r:wr.heap.size<=p6:=by omega
     have O5:=qa ((F5.o.up B4.o).up B6.o);have O6:=qa F6.o;have OP:=qa ((HPK.o).upP B6.o);have h56:p5≠p6:=by omega
     have hk5:∀z,u.ownBlock=some z->z≠p5:=fun z hz=>by have:=hkk z hz;omega
     have hk6:∀z,u.ownBlock=some z->z≠p6:=fun z hz=>by have:=hkk z hz;omega
     have hBk:wr.heap.size<=w5.heap.size:=by omega
     have qcd:b≠p5:=by omega
     have qe3:b≠p6:=by omega
     clear q4 q5 q6 q7 q8 q9 hkk Z4 Z5 Z6 HP5 HP6;generalize w6=wz at*;have CZ:=C6
     exact ZmI1
    unfold bF
    trivial
   (unfold bF;simp only[pk])
   refine⟨?_,?_⟩
   ·unfold aG
    go_wp2;have F6:=qa ((by simpa using bU w5 0 #[.slice none 0 0] 26 (by simp) (qd _):Own (w5.alloc (.cells #[.slice none 0 0] 26)) 0 26 (.slice (some ⟨w5.heap.size,0,none⟩) 1 1) [.slice none 0 0]));have B6:=qa (aA w5 (.cells #[.slice none 0 0] 26));have C6:=qa (cP C5.o B6.o);refine⟨aI C6.o,?_⟩;have Z6:Hid ((w5.alloc (.cells #[.slice none 0 0] 26)).heap.size=(w5).heap.size+1):=qa (by simp);obtain⟨p6,hp6⟩:∃p6,p6=w5.heap.size:=⟨_,rfl⟩;have HP6:=qa hp6;rw[<-hp6]at⊢;rw[show w5.heap.size=p6 from hp6.symm]at F6;clear hp6;generalize w5.alloc (.cells #[.slice none 0 0] 26)=w6 at*;unfold aG
    (unfold bF;simp only[pk])
    refine⟨?_,?_⟩
    ·unfold aG
     go_wp2_with((with_reducible go_at_call 171);refine(q2y (HNA.o.up C6.o) qcx HXN.o HWK.o).mono ?_;rintro en w4 ⟨u,vs,rfl,hP,hbK⟩;have HPK:=qa hP;have B4:=qa hbK;have C4:=qa (cP C6.o hbK);have Z4:=qa hbK.size;clear hP hbK)
     refine⟨aI C4.o,?_⟩;unfold aG
     (unfold bF;simp only[pk])
     refine⟨?_,by unfold bF;trivial⟩;unfold aG;have hkk:=HPK.o.own.lt;have q4:=Z4.o;have q5:=Z5.o;have q6:=Z6.o;have q7:=HP5.o;have q8:=HP6.o;have q9:wr.drew.heap.size=wr.heap.size:=rfl;have h5r:wr.heap.size<=p5:=by omega
     have h6r:wr.heap.size<=p6:=by omega
     have O5:=qa ((F5.o.up B6.o).up B4.o);have O6:=qa (F6.o.up B4.o);have OP:=qa (HPK.o);have h56:p5≠p6:=by omega
     have hk5:∀z,u.ownBlock=some z->z≠p5:=fun z hz=>by have:=hkk z hz;omega
     have hk6:∀z,u.ownBlock=some z->z≠p6:=fun z hz=>by have:=hkk z hz;omega
     have hBk:wr.heap.size<=w6.heap.size:=by omega
     have qcd:b≠p5:=by omega
     have qe3:b≠p6:=by omega
     clear q4 q5 q6 q7 q8 q9 hkk Z4 Z5 Z6 HP5 HP6;generalize w4=wz at*;have CZ:=C4
     exact ZmI1
    unfold bF
    trivial
   unfold bF
   trivial
  (unfold bF;simp only[pk])
  refine⟨?_,?_⟩
  ·unfold aG
   go_wp2;have F6:=qa ((by simpa using bU wr 0 #[.slice none 0 0] 26 (by simp) (qd _):Own (wr.alloc (.cells #[.slice none 0 0] 26)) 0 26 (.slice (some ⟨wr.heap.size,0,none⟩) 1 1) [.slice none 0 0]).up (aR _));have C6:Hid (Below wr.heap.size wr ((wr.alloc (.cells #[.slice none 0 0] 26)).drew)):=qa (gH (aA wr _));refine⟨aI C6.o,?_⟩;have Z6:Hid (((wr.alloc (.cells #[.slice none 0 0] 26)).drew).heap.size=(wr.drew).heap.size+1):=qa (by simp);obtain⟨p6,hp6⟩:∃p6,p6=wr.heap.size:=⟨_,rfl⟩;have HP6:=qa hp6;rw[<-hp6]at⊢;rw[show wr.heap.size=p6 from hp6.symm]at F6;clear hp6;generalize (wr.alloc (.cells #[.slice none 0 0] 26)).drew=w6 at*;unfold aG
   (unfold bF;simp only[pk])
   refine⟨?_,?_⟩
   ·unfold aG
    go_wp2_with((with_reducible go_at_call 171);refine(q2y (HNA.o.up C6.o) qcx HXN.o HWK.o).mono ?_;rintro en w4 ⟨u,vs,rfl,hP,hbK⟩;have HPK:=qa hP;have B4:=qa hbK;have C4:=qa (cP C6.o hbK);have Z4:=qa hbK.size;clear hP hbK)
    refine⟨aI C4.o,?_⟩;unfold aG
    (unfold bF;simp only[pk])
    refine⟨?_,?_⟩
    ·unfold aG
     go_wp2;have F5:=qa ((by simpa using bU w4 0 #[.int .i64 0,.int .i64 0,.int .u64 0,.int .u64 0,.int .u64 0,.int .u64 0,.int .i64 0,.int .i64 0] 65 (by simp) (qd _):Own (w4.alloc (.cells #[.int .i64 0,.int .i64 0,.int .u64 0,.int .u64 0,.int .u64 0,.int .u64 0,.int .i64 0,.int .i64 0] 65)) 0 65 (.slice (some ⟨w4.heap.size,0,none⟩) 8 8) [.int .i64 0,.int .i64 0,.int .u64 0,.int .u64 0,.int .u64 0,.int .u64 0,.int .i64 0,.int .i64 0]));have B5:=qa (aA w4 (.cells #[.int .i64 0,.int .i64 0,.int .u64 0,.int .u64 0,.int .u64 0,.int .u64 0,.int .i64 0,.int .i64 0] 65));have C5:=qa (cP C4.o B5.o);refine⟨aI C5.o,?_⟩;have Z5:Hid ((w4.alloc (.cells #[.int .i64 0,.int .i64 0,.int .u64 0,.int .u64 0,.int .u64 0,.int .u64 0,.int .i64 0,.int .i64 0] 65)).heap.size=(w4).heap.size+1):=qa (by simp);obtain⟨p5,hp5⟩:∃p5,p5=w4.heap.size:=⟨_,rfl⟩;have HP5:=qa hp5;rw[<-hp5]at⊢;rw[show w4.heap.size=p5 from hp5.symm]at F5;clear hp5;generalize w4.alloc (.cells #[.int .i64 0,.int .i64 0,.int .u64 0,.int .u64 0,.int .u64 0,.int .u64 0,.int .i64 0,.int .i64 0] 65)=w5 at*;unfold aG
     (unfold bF;simp only[pk])
     refine⟨?_,by unfold bF;trivial⟩;unfold aG;have hkk:=HPK.o.own.lt;have q4:=Z4.o;have q5:=Z5.o;have q6:=Z6.o;have q7:=HP5.o;have q8:=HP6.o;have q9:wr.drew.heap.size=wr.heap.size:=rfl;have h5r:wr.heap.size<=p5:=by omega
     have h6r:wr.heap.size<=p6:=by omega
     have O5:=qa F5.o;have O6:=qa ((F6.o.up B4.o).up B5.o);have OP:=qa ((HPK.o).upP B5.o);have h56:p5≠p6:=by omega
     have hk5:∀z,u.ownBlock=some z->z≠p5:=fun z hz=>by have:=hkk z hz;omega
     have hk6:∀z,u.ownBlock=some z->z≠p6:=fun z hz=>by have:=hkk z hz;omega
     have hBk:wr.heap.size<=w6.heap.size:=by omega
     have qcd:b≠p5:=by omega
     have qe3:b≠p6:=by omega
     clear q4 q5 q6 q7 q8 q9 hkk Z4 Z5 Z6 HP5 HP6;generalize w5=wz at*;have CZ:=C5
     exact ZmI1
    unfold bF
    trivial
   (unfold bF;simp only[pk])
   refine⟨?_,?_⟩
   ·unfold aG
    go_wp2;have F5:=qa ((by simpa using bU w6 0 #[.int .i64 0,.int .i64 0,.int .u64 0,.int .u64 0,.int .u64 0,.int .u64 0,.int .i64 0,.int .i64 0] 65 (by simp) (qd _):Own (w6.alloc (.cells #[.int .i64 0,.int .i64 0,.int .u64 0,.int .u64 0,.int .u64 0,.int .u64 0,.int .i64 0,.int .i64 0] 65)) 0 65 (.slice (some ⟨w6.heap.size,0,none⟩) 8 8) [.int .i64 0,.int .i64 0,.int .u64 0,.int .u64 0,.int .u64 0,.int .u64 0,.int .i64 0,.int .i64 0]));have B5:=qa (aA w6 (.cells #[.int .i64 0,.int .i64 0,.int .u64 0,.int .u64 0,.int .u64 0,.int .u64 0,.int .i64 0,.int .i64 0] 65));have C5:=qa (cP C6.o B5.o);refine⟨aI C5.o,?_⟩;have Z5:Hid ((w6.alloc (.cells #[.int .i64 0,.int .i64 0,.int .u64 0,.int .u64 0,.int .u64 0,.int .u64 0,.int .i64 0,.int .i64 0] 65)).heap.size=(w6).heap.size+1):=qa (by simp);obtain⟨p5,hp5⟩:∃p5,p5=w6.heap.size:=⟨_,rfl⟩;have HP5:=qa hp5;rw[<-hp5]at⊢;rw[show w6.heap.size=p5 from hp5.symm]at F5;clear hp5;generalize w6.alloc (.cells #[.int .i64 0,.int .i64 0,.int .u64 0,.int .u64 0,.int .u64 0,.int .u64 0,.int .i64 0,.int .i64 0] 65)=w5 at*;unfold aG
    (unfold bF;simp only[pk])
    refine⟨?_,?_⟩
    ·unfold aG
     go_wp2_with((with_reducible go_at_call 171);refine(q2y (HNA.o.up C5.o) qcx HXN.o HWK.o).mono ?_;rintro en w4 ⟨u,vs,rfl,hP,hbK⟩;have HPK:=qa hP;have B4:=qa hbK;have C4:=qa (cP C5.o hbK);have Z4:=qa hbK.size;clear hP hbK)
     refine⟨aI C4.o,?_⟩;unfold aG
     (unfold bF;simp only[pk])
     refine⟨?_,by unfold bF;trivial⟩;unfold aG;have hkk:=HPK.o.own.lt;have q4:=Z4.o;have q5:=Z5.o;have q6:=Z6.o;have q7:=HP5.o;have q8:=HP6.o;have q9:wr.drew.heap.size=wr.heap.size:=rfl;have h5r:wr.heap.size<=p5:=by omega
     have h6r:wr.heap.size<=p6:=by omega
     have O5:=qa (F5.o.up B4.o);have O6:=qa ((F6.o.up B5.o).up B4.o);have OP:=qa (HPK.o);have h56:p5≠p6:=by omega
     have hk5:∀z,u.ownBlock=some z->z≠p5:=fun z hz=>by have:=hkk z hz;omega
     have hk6:∀z,u.ownBlock=some z->z≠p6:=fun z hz=>by have:=hkk z hz;omega
     have hBk:wr.heap.size<=w5.heap.size:=by omega
     have qcd:b≠p5:=by omega
     have qe3:b≠p6:=by omega
     clear q4 q5 q6 q7 q8 q9 hkk Z4 Z5 Z6 HP5 HP6;generalize w4=wz at*;have CZ:=C4
     exact ZmI1
    unfold bF
    trivial
   unfold bF
   trivial
  unfold bF
  trivial
 case rest=>
  obtain⟨p5,p6,u,vs,rfl,rfl,h5r,h6r,hn5,hn6,hpt,qbe⟩:=hcut;have HM0:=qa (HMA.o.up qbe);have HG0:=qa (HGA.o.up qbe);have HF0:=qa (HFA.o.up qbe);have P40:=qa (HPA.o.up qbe);have qgR:=HMA.o.no h5r;have qgQ:=HMA.o.no h6r;have HX0:Hid (xN wc S p5 (ndV x)):=qa ⟨fun i hi=>by rw[hn5.cell (by simpa[ndC]using hi),F2];rfl,hn5.blk.2,qgR⟩
  have H60:Hid (xN wc S p6 #[u]):=qa ⟨fun i hi=>by
   obtain rfl:i=0:=by simpa using hi
   exact hn6.cell (by simp),hn6.blk.2,qgQ⟩
  have HPT:=qa hpt;have HBE:=qa qbe;have HMR:=HMA;have qkm:=qbe.size;have qf9:w.heap.size+2<=wr.heap.size:=by omega
  clear HMA HGA HNA HFA HPA hn5 hn6 hpt qbe qgR qgQ;obtain⟨xk,xn,xa,xb,xc,xd,xl,xh⟩:=x;have hkd:=HKD.o
  try simp only at hkd
  rcases hkd with h|h|h|h|h|h|h|h
  all_goals subst h
  case inl=>
   have HZ2:Hid (Z=(bJ s,xB ⟨1,xn,xa,xb,xc,xd,xl,xh⟩ s)):=qa (by rw[HZ.o];simp[eF]);have hn2:n=s.e.length:=by rw[HN.o,HZ2.o];rfl
   have hm2:m=s.e.length+1:=by rw[HMM.o,HZ2.o];rfl
   obtain⟨hb1,hb2,hb3⟩:=HB.o;simp only[cZ]at hb1 hb2;have HAR:=qa (tY HM0.o (by omega) (by omega) n m hn2 hm2);have HN2:=qa hn2;have qg3:=qa hm2;have hnb:n<=4000:=by omega
   have hmb:m<=4001:=by omega
   clear hn2 hm2;have hkc:wc.cell? ⟨p5,0,none⟩=some (.int .i64 1):=HX0.o.c 0 (show 0<8 by decide);have hkl:=HX0.o.lt;have hac:wc.cell? ⟨w.heap.size,0,none⟩=some (.pointer (some ⟨g,0,none⟩)):=HF0.o.c 0 (show 0<1 by decide);have hal:=HF0.o.lt
   go_wp2_with((with_reducible go_at_call 172);refine HAR.o.mono ?_;rintro en w1 ⟨rfl,S1,hm1,hg1⟩;have HM1:=qa hm1;have HG1:=qa (HG0.o.trans hg1);have HF1:=qa (HF0.o.gw hg1);have HX1:=qa (HX0.o.gw hg1);have P41:=qa (P40.o.gw hg1);(have qc3:=hg1.size);clear hm1 hg1)
   have HM2:=qa (HM1.o.up (aA w1 (.cells #[.int .i64 n,.int .i64 m] 221)));have HG2:=qa (HG1.o.up (aA w1 (.cells #[.int .i64 n,.int .i64 m] 221)));have HF2:=qa (HF1.o.up (aA w1 (.cells #[.int .i64 n,.int .i64 m] 221)));have HX2:=qa (HX1.o.up (aA w1 (.cells #[.int .i64 n,.int .i64 m] 221)));have P42:=qa (P41.o.up (aA w1 (.cells #[.int .i64 n,.int .i64 m] 221)));have P72:Hid (LB (w1.alloc (.cells #[.int .i64 n,.int .i64 m] 221)) S1 w1.heap.size n m):=qa ⟨fE w1 n m,HM1.o.no (qb _)⟩;clear HM1 HG1 HF1 HX1 P41 HM0 HG0 HF0 HX0 P40 hkc hkl hac hal HAR;generalize w1.heap.size=p7 at*;generalize w1.alloc (.cells #[.int .i64 n,.int .i64 m] 221)=w2 at*;obtain⟨ve,vz,vr,hmk,hS1⟩:=HM2.o;have hvl:=hmk.len;have htl:=lW s;rw[htl]at hvl;have hn2:=HN2.o;obtain⟨oa,cap,ge,rfl,hdo,-,hco,hfo,-⟩:=hmk.outer.cases;have hoa:=hdo.hat (by omega);subst hoa;have hix:=fun(W:World)=>aU (P:=prog) 207 224 underlying207 (by kernel_rfl) hdo W .i64 n (by omega) (by omega);simp only[qA,qE]at hix;have hcr:=hco n (by omega);have hfr:=hfo n (by omega);have qdl:=hdo.hblk (by omega);have hc0:=hmk.c0;have hg2:=hmk.lt;have hac:w2.cell? ⟨w.heap.size,0,none⟩=some (.pointer (some ⟨g,0,none⟩)):=HF2.o.c 0 (show 0<1 by decide);have hal:=HF2.o.lt;have hk0:w2.cell? ⟨p5,0,none⟩=some (.int .i64 1):=HX2.o.c 0 (show 0<8 by decide);have hkl:=HX2.o.lt;have P7a:=P72.o.box.c0;have P7b:=P72.o.box.c1;have P7l:=P72.o.box.lt
   have HSC:Hid (∀w',(∃y,w'=ext w2 y)->∀c,c<4->w'.cell? ⟨p5,2+c,none⟩=some ((#[.int .u64 xa,.int .u64 xb,.int .u64 xc,.int .u64 xd]:Array Value).getD c undef)):=qa (by
    rintro w' ⟨y,rfl⟩ c hcl;rw[cell?_ext _ _ _ _ hkl];have:=HX2.o.c (2+c) (show 2+c<8 by omega);rw[this];rcases(show c=0\/c=1\/c=2\/c=3 by omega)with rfl|rfl|rfl|rfl<;>rfl)
   have HMK:=qa hmk;have hvz:vz.length<=10000:=by omega
   have HVN:Hid (n<(two s).e.length):=qa (by omega);have hlW:Below w2.heap.size w2 (w2.alloc (.cells #[.int .i64 m,.bool false,.int .u64 xa,.int .u64 xb,.int .u64 xc,.int .u64 xd] 226)).drew:=aJ;have HX:=qa ((oZ 6 w2 0 #[.int .i64 m,.bool false,.int .u64 xa,.int .u64 xb,.int .u64 xc,.int .u64 xd] 226 ([⟨m,false,xa,xb,xc,xd⟩].map edC) (by simp[edC]) (E6 _) (by simp) (qd _)).up (aR _));have HLW:=qa hlW;have hlz:vz.length=n+2:=by omega
   rw[hlz]at hix HMK hvz hc0 hS1;clear hmk hdo hco hfo hvl htl hlW hn2 hlz;go_wp2;refine aT [0,1,2,3,4,5,6,7,8,9,10,11,12,13,14] [15,16] [17] (by kernel_rfl) (by kernel_rfl) ?_;simp only[pk]
   repeat(first|(go_big_quiet_want;refine dO 63 4 _ rfl p5 2 rfl #[.int .u64 xa,.int .u64 xb,.int .u64 xc,.int .u64 xd] rfl HSC.o _ underlying63 rfl (by kernel_rfl) ?_;go_simp;go_big_quiet_on)|go_big_quiet_step (fail))
   refine wpQuiet_nil ?_
   (unfold aG;go_wp2;refine⟨(aI aJ),?_⟩)
   (unfold aG;go_wp2;refine⟨(aI aJ),?_⟩)
   have HPU:=qa (HMK.o.setRow (r:=.slice (some ⟨w2.heap.size,0,none⟩) 1 1) (xs:=[⟨m,false,xa,xb,xc,xd⟩]) HVN.o HX.o (aE HLW.o _) (fun k hk=>.inr (Nat.le_of_eq (qo (show some w2.heap.size=some k from hk)))));have HGX:Hid (Gw S1 w2 (MkS g (.slice (some ⟨ge,0,none⟩) (n+2) cap) vr (vz.set n (.slice (some ⟨w2.heap.size,0,none⟩) 1 1))) ((w2.alloc (.cells #[.int .i64 m,.bool false,.int .u64 xa,.int .u64 xb,.int .u64 xc,.int .u64 xd] 226)).drew.setCell ⟨ge,n,none⟩ (.slice (some ⟨w2.heap.size,0,none⟩) 1 1))):=qa (by rw[hS1];exact HPU.o.2);have hZ3:Z.2=⟨(two s).e.set n [⟨m,false,xa,xb,xc,xd⟩],(two s).r⟩:=by rw[HZ2.o];simp[xB,q2h,HN2.o,qg3.o]
   have HZ3:=qa hZ3;clear hZ3;unfold aG;unfold aG;go_wp2;refine⟨trivial,?_⟩;unfold aG;have HM3:Hid (MkT ((w2.alloc (.cells #[.int .i64 m,.bool false,.int .u64 xa,.int .u64 xb,.int .u64 xc,.int .u64 xd] 226)).drew.setCell ⟨ge,n,none⟩ (.slice (some ⟨w2.heap.size,0,none⟩) 1 1)) (MkS g (.slice (some ⟨ge,0,none⟩) (n+2) cap) vr (vz.set n (.slice (some ⟨w2.heap.size,0,none⟩) 1 1))) g q Z.2 F):=qa ⟨_,_,_,by rw[HZ3.o];exact HPU.o.1,rfl⟩;have HG3:=qa (HG2.o.trans HGX.o);have P43:=qa (P42.o.gw HGX.o);have P73:=qa (P72.o.gw HGX.o);have qdA:(w2.alloc (.cells #[.int .i64 m,.bool false,.int .u64 xa,.int .u64 xb,.int .u64 xc,.int .u64 xd] 226)).drew.setCell ⟨ge,n,none⟩ (.slice (some ⟨w2.heap.size,0,none⟩) 1 1)=((w2.setCell ⟨ge,n,none⟩ (.slice (some ⟨w2.heap.size,0,none⟩) 1 1)).alloc (.cells #[.int .i64 m,.bool false,.int .u64 xa,.int .u64 xb,.int .u64 xc,.int .u64 xd] 226)).drew:=by rw[World.setCell_drew,World.setCell_alloc_past _ _ _ _ qdl]
   rw[qdA]at HM3 HG3 P43 P73;clear qdA;clear HMK HPU HGX HM2 HG2 HX HLW HF2 HX2 P42 P72 HSC hix hcr hfr qdl hc0 hg2 hac hal hk0 hkl P7a P7b P7l hS1;generalize ((w2.setCell ⟨ge,n,none⟩ (.slice (some ⟨w2.heap.size,0,none⟩) 1 1)).alloc (.cells #[.int .i64 m,.bool false,.int .u64 xa,.int .u64 xb,.int .u64 xc,.int .u64 xd] 226)).drew=w3 at*
   exact ZmI4
  case inr.inl=>
   have HZ2:Hid (Z=(bJ s,xB ⟨2,xn,xa,xb,xc,xd,xl,xh⟩ s)):=qa (by rw[HZ.o];simp[eF]);have hn2:n=s.e.length:=by rw[HN.o,HZ2.o];rfl
   have hm2:m=s.e.length+1:=by rw[HMM.o,HZ2.o];rfl
   obtain⟨hb1,hb2,hb3⟩:=HB.o;simp only[cZ]at hb1 hb2;have HAR:=qa (tY HM0.o (by omega) (by omega) n m hn2 hm2);have HN2:=qa hn2;have qg3:=qa hm2;have hnb:n<=4000:=by omega
   have hmb:m<=4001:=by omega
   clear hn2 hm2;have hkc:wc.cell? ⟨p5,0,none⟩=some (.int .i64 2):=HX0.o.c 0 (show 0<8 by decide);have hkl:=HX0.o.lt;have hac:wc.cell? ⟨w.heap.size,0,none⟩=some (.pointer (some ⟨g,0,none⟩)):=HF0.o.c 0 (show 0<1 by decide);have hal:=HF0.o.lt
   go_wp2_with((with_reducible go_at_call 172);refine HAR.o.mono ?_;rintro en w1 ⟨rfl,S1,hm1,hg1⟩;have HM1:=qa hm1;have HG1:=qa (HG0.o.trans hg1);have HF1:=qa (HF0.o.gw hg1);have HX1:=qa (HX0.o.gw hg1);have P41:=qa (P40.o.gw hg1);(have qc3:=hg1.size);clear hm1 hg1)
   have HM2:=qa (HM1.o.up (aA w1 (.cells #[.int .i64 n,.int .i64 m] 221)));have HG2:=qa (HG1.o.up (aA w1 (.cells #[.int .i64 n,.int .i64 m] 221)));have HF2:=qa (HF1.o.up (aA w1 (.cells #[.int .i64 n,.int .i64 m] 221)));have HX2:=qa (HX1.o.up (aA w1 (.cells #[.int .i64 n,.int .i64 m] 221)));have P42:=qa (P41.o.up (aA w1 (.cells #[.int .i64 n,.int .i64 m] 221)));have P72:Hid (LB (w1.alloc (.cells #[.int .i64 n,.int .i64 m] 221)) S1 w1.heap.size n m):=qa ⟨fE w1 n m,HM1.o.no (qb _)⟩;clear HM1 HG1 HF1 HX1 P41 HM0 HG0 HF0 HX0 P40 hkc hkl hac hal HAR;generalize w1.heap.size=p7 at*;generalize w1.alloc (.cells #[.int .i64 n,.int .i64 m] 221)=w2 at*;obtain⟨ve,vz,vr,hmk,hS1⟩:=HM2.o;have hvl:=hmk.len;have htl:=lW s;rw[htl]at hvl;have hn2:=HN2.o;obtain⟨oa,cap,ge,rfl,hdo,-,hco,hfo,-⟩:=hmk.outer.cases;have hoa:=hdo.hat (by omega);subst hoa;have hix:=fun(W:World)=>aU (P:=prog) 207 224 underlying207 (by kernel_rfl) hdo W .i64 n (by omega) (by omega);simp only[qA,qE]at hix;have hcr:=hco n (by omega);have hfr:=hfo n (by omega);have qdl:=hdo.hblk (by omega);have hc0:=hmk.c0;have hg2:=hmk.lt;have hac:w2.cell? ⟨w.heap.size,0,none⟩=some (.pointer (some ⟨g,0,none⟩)):=HF2.o.c 0 (show 0<1 by decide);have hal:=HF2.o.lt;have hk0:w2.cell? ⟨p5,0,none⟩=some (.int .i64 2):=HX2.o.c 0 (show 0<8 by decide);have hkl:=HX2.o.lt;have P7a:=P72.o.box.c0;have P7b:=P72.o.box.c1;have P7l:=P72.o.box.lt
   have HSC:Hid (∀w',(∃y,w'=ext w2 y)->∀c,c<4->w'.cell? ⟨p5,2+c,none⟩=some ((#[.int .u64 xa,.int .u64 xb,.int .u64 xc,.int .u64 xd]:Array Value).getD c undef)):=qa (by
    rintro w' ⟨y,rfl⟩ c hcl;rw[cell?_ext _ _ _ _ hkl];have:=HX2.o.c (2+c) (show 2+c<8 by omega);rw[this];rcases(show c=0\/c=1\/c=2\/c=3 by omega)with rfl|rfl|rfl|rfl<;>rfl)
   have HMK:=qa hmk;have hvz:vz.length<=10000:=by omega
   have HVN:Hid (n<(two s).e.length):=qa (by omega);have hlW:Below w2.heap.size w2 (w2.alloc (.cells #[.int .i64 m,.bool true,.int .u64 xa,.int .u64 xb,.int .u64 xc,.int .u64 xd] 226)).drew:=aJ;have HX:=qa ((oZ 6 w2 0 #[.int .i64 m,.bool true,.int .u64 xa,.int .u64 xb,.int .u64 xc,.int .u64 xd] 226 ([⟨m,true,xa,xb,xc,xd⟩].map edC) (by simp[edC]) (E6 _) (by simp) (qd _)).up (aR _));have HLW:=qa hlW;have hlz:vz.length=n+2:=by omega
   rw[hlz]at hix HMK hvz hc0 hS1;clear hmk hdo hco hfo hvl htl hlW hn2 hlz;go_wp2;refine aT [0,1,2,3,4,5,6,7,8,9,10,11,12,13,14] [15,16] [17] (by kernel_rfl) (by kernel_rfl) ?_;simp only[pk]
   repeat(first|(go_big_quiet_want;refine dO 63 4 _ rfl p5 2 rfl #[.int .u64 xa,.int .u64 xb,.int .u64 xc,.int .u64 xd] rfl HSC.o _ underlying63 rfl (by kernel_rfl) ?_;go_simp;go_big_quiet_on)|go_big_quiet_step (fail))
   refine wpQuiet_nil ?_
   (unfold aG;go_wp2;refine⟨(aI aJ),?_⟩)
   (unfold aG;go_wp2;refine⟨(aI aJ),?_⟩)
   have HPU:=qa (HMK.o.setRow (r:=.slice (some ⟨w2.heap.size,0,none⟩) 1 1) (xs:=[⟨m,true,xa,xb,xc,xd⟩]) HVN.o HX.o (aE HLW.o _) (fun k hk=>.inr (Nat.le_of_eq (qo (show some w2.heap.size=some k from hk)))));have HGX:Hid (Gw S1 w2 (MkS g (.slice (some ⟨ge,0,none⟩) (n+2) cap) vr (vz.set n (.slice (some ⟨w2.heap.size,0,none⟩) 1 1))) ((w2.alloc (.cells #[.int .i64 m,.bool true,.int .u64 xa,.int .u64 xb,.int .u64 xc,.int .u64 xd] 226)).drew.setCell ⟨ge,n,none⟩ (.slice (some ⟨w2.heap.size,0,none⟩) 1 1))):=qa (by rw[hS1];exact HPU.o.2);have hZ3:Z.2=⟨(two s).e.set n [⟨m,true,xa,xb,xc,xd⟩],(two s).r⟩:=by rw[HZ2.o];simp[xB,q2h,HN2.o,qg3.o]
   have HZ3:=qa hZ3;clear hZ3;unfold aG;unfold aG;go_wp2;refine⟨trivial,?_⟩;unfold aG;have HM3:Hid (MkT ((w2.alloc (.cells #[.int .i64 m,.bool true,.int .u64 xa,.int .u64 xb,.int .u64 xc,.int .u64 xd] 226)).drew.setCell ⟨ge,n,none⟩ (.slice (some ⟨w2.heap.size,0,none⟩) 1 1)) (MkS g (.slice (some ⟨ge,0,none⟩) (n+2) cap) vr (vz.set n (.slice (some ⟨w2.heap.size,0,none⟩) 1 1))) g q Z.2 F):=qa ⟨_,_,_,by rw[HZ3.o];exact HPU.o.1,rfl⟩;have HG3:=qa (HG2.o.trans HGX.o);have P43:=qa (P42.o.gw HGX.o);have P73:=qa (P72.o.gw HGX.o);have qdA:(w2.alloc (.cells #[.int .i64 m,.bool true,.int .u64 xa,.int .u64 xb,.int .u64 xc,.int .u64 xd] 226)).drew.setCell ⟨ge,n,none⟩ (.slice (some ⟨w2.heap.size,0,none⟩) 1 1)=((w2.setCell ⟨ge,n,none⟩ (.slice (some ⟨w2.heap.size,0,none⟩) 1 1)).alloc (.cells #[.int .i64 m,.bool true,.int .u64 xa,.int .u64 xb,.int .u64 xc,.int .u64 xd] 226)).drew:=by rw[World.setCell_drew,World.setCell_alloc_past _ _ _ _ qdl]
   rw[qdA]at HM3 HG3 P43 P73;clear qdA;clear HMK HPU HGX HM2 HG2 HX HLW HF2 HX2 P42 P72 HSC hix hcr hfr qdl hc0 hg2 hac hal hk0 hkl P7a P7b P7l hS1;generalize ((w2.setCell ⟨ge,n,none⟩ (.slice (some ⟨w2.heap.size,0,none⟩) 1 1)).alloc (.cells #[.int .i64 m,.bool true,.int .u64 xa,.int .u64 xb,.int .u64 xc,.int .u64 xd] 226)).drew=w3 at*
   exact ZmI4
  case inr.inr.inl=>
   have hvl:=HPT.o.len;rw[d9]at hvl;have hcp:0<vs.length:=by have h1:=HXN.o;have h2:=HOX.o;unfold okN at h2;simp only at h1 h2;omega
   obtain⟨ou,cu,bo,hu,hdo,hgo,hco,-,-⟩:=HPT.o.own.cases;have hou:=hdo.hat hcp;subst hou;obtain⟨qcb,qbC⟩:=hgo hcp;have hcu:=hdo.hcap;have qbS:=hdo.hmax;have qbF:=hdo.hblk hcp;have qc4:=HMR.o.no qbC
   have KJ0:KJ g w.heap.size p6 bo b u vs (cM k) S wc:=⟨HF0.o,H60.o,⟨fun i hi=>by
    have hi':i<vs.length:=by simpa using hi
    rw[hco i hi'];simp[List.getD,qO,hi'],qbF,qc4⟩,hbS,HPT.o.rows⟩
   have HKJ:=qa KJ0;clear KJ0;have hwk:=HWK.o;have hak:=HAK.o;obtain⟨hb1,hb2,hb3⟩:=HB.o;rw[q4S _ _ rfl]at hb1 hb2 hb3;have hix:=fun(W:World) (i:Nat) (hi:i<vs.length)=>fN hdo W .i64 i (by omega) (by omega);have h6c:wc.cell? ⟨p6,0,none⟩=some (.slice (some ⟨bo,0,none⟩) vs.length cu):=by rw[<-hu];exact H60.o.c 0 (show 0<1 by decide)
   have h6l:=H60.o.lt;have hkc:wc.cell? ⟨p5,0,none⟩=some (.int .i64 3):=HX0.o.c 0 (show 0<8 by decide);have qcn:=HX0.o.lt;have qji:=qbF;have h6w:=h6l;have h5w:=qcn;have qfF:b<wc.heap.size:=by omega
   have HVL:=qa hvl;have hvB:vs.length<=400:=by have:=vD k;omega
   have HLO:=qa (lR k hwk hak s);have HCS:=qa HZ.o;obtain⟨kl,hkl⟩:∃kl,kl=vs.length:=⟨_,rfl⟩;have HKL:=qa hkl;rw[<-hkl]at hix h6c hvB;clear hvl hcp hdo hgo hco qcb qbC hcu qbS hkl;go_wp2
   go_loopg [8,69] (cnt k) (fun gk ov iv wr=>∃(j:Nat) (r:Fo) (sj:St) (ps:List Pc) (dn:List (List Nd)) (Sr:Nat->Prop),iv=.int .i64 j/\j+cnt r=cnt k/\wf r/\T9 okN r/\(cO r).length<=(cO k).length/\dn++cM r=cM k/\dn.length=j/\ps.length=j/\g8 k s=(ps++(g8 r sj).1,(g8 r sj).2)/\sj.e.length+usz r=s.e.length+usz k/\sj.r.length+usz r=s.r.length+usz k/\tot sj.e+2*usz r<=tot s.e+2*usz k/\
     MkT wr Sr g q sj F/\Gw S w Sr wr/\KJ g w.heap.size p6 bo b u vs (cM k) Sr wr/\LB wr Sr (w.heap.size+1) 0 0/\xN wr Sr p5 (ndV ⟨3,xn,xa,xb,xc,xd,xl,xh⟩)/\cA 2 wr wc.heap.size 221 ov (ps.map pcC)/\(∀z,ov.ownBlock=some z->¬Sr z)/\wc.heap.size<=wr.heap.size/\gk=cnt k-j)
   case atStart=>
    exact ZmI5
   case round=>
    obtain⟨j,r,sj,ps,dn,Sr,rfl,hj,hwr,har,hrl,hdn,hdl,hpl,qbX,hel,qcI,htl,hm1,hg1,hkj,hp4,hx5,hov,qdM,qdE,rfl⟩:=hrel;have HM1:=qa hm1;have HG1:=qa hg1;have HK1:=qa hkj;have P41:=qa hp4;have HX1:=qa hx5;have HO1:=qa hov;have HNO:=qa qdM;have qeq:=qa qbX;have HDN:=qa hdn;have qbF:=HK1.o.out.lt;have qhh:=HK1.o.va.lt;have qhq:wr.cell? ⟨p6,0,none⟩=some (.slice (some ⟨bo,0,none⟩) kl cu):=by rw[HKL.o,<-hu];exact HK1.o.vb.c 0 (show 0<1 by decide)
    have qhp:=HK1.o.vb.lt;have qhg:wr.cell? ⟨w.heap.size,0,none⟩=some (.pointer (some ⟨g,0,none⟩)):=HK1.o.va.c 0 (show 0<1 by decide);have qdV:kl=cnt k:=by rw[HKL.o,HVL.o]
    have HKC:=qa qdV;clear qdV;clear hm1 hg1 hkj hp4 hx5 hov qdM qbX hdn HM0 HG0 HF0 P40 HX0 H60 HKJ h6c h6l hkc qcn;cases r with
    |cons y ky r'=>
     exact ZmI2
    |nil=>
     have hje:j=cnt k:=by simpa[cnt]using hj
     have qbX:g8 k s=(ps,sj):=by rw[qeq.o];simp[g8]
     have h2:2<=cnt k:=by have h1:=HXN.o;have h2:=HOX.o;unfold okN at h2;simp only at h1 h2;omega
     have qbs:0<ps.length:=by omega
     obtain⟨b8,off8,cap8,hps,hob⟩:=q06 HO1.o qbs;have qdP:=HNO.o b8 hob;have hlo:=HLO.o;rw[qbX]at hlo;have hrg:∀i,i<ps.length->(ps.getD i zP).f<sj.e.length/\(ps.getD i zP).l<sj.e.length:=fun i hi=>hlo.rng i (by omega);simp only[usz,jC]at hel qcI htl;have qgI:ps.length<=400:=by have:=vD k;omega
     have qgx:wr.cell? ⟨p5,0,none⟩=some (.int .i64 3):=HX1.o.c 0 (show 0<8 by decide);have qgw:=HX1.o.lt;have hZe:Z=(xC ps,iB ps ps.length sj):=by rw[HZ.o,q2A _ _ _ rfl,qbX]
     have HCH:=qa (q8p HM1.o (by omega) (by omega) hps qdP hrg n m (by rw[HN.o,hZe]) (by rw[HMM.o,hZe]));have HEZ:Hid (Z.2=iB ps ps.length sj):=qa (by rw[hZe]);have qfp:=HKC.o;have hjk:((j:Int))=(kl:Int):=by omega
     clear qbX hlo hrg hZe hps hpl hdl hix hje qfp
     go_wp2_with((with_reducible go_at_call 176);refine HCH.o.mono ?_;rintro en w3 ⟨rfl,S3,hm3,hg3⟩;have HM3:=qa hm3;(have HG3:=qa (HG1.o.trans hg3));(have P43:=qa (P41.o.gw hg3));(have P4a:=P43.o.box.c0);(have P4b:=P43.o.box.c1);(have P4l:=P43.o.box.lt);(have P4f:=P43.o.box.free 0);(have P4g:=P43.o.box.free 1);clear hm3 hg3)
     have HST:=qa (P43.o.box.set n m);refine cE rfl rfl rfl HST.o.1.load ?_;exact⟨rfl,S3,(by rw[HEZ.o];exact HM3.o:MkT w3 S3 g q Z.2 F).keep HST.o.2 P43.o.no (by omega),HG3.o.new HST.o.2 (by omega)⟩
  case inr.inr.inr.inl=>
   have hvl:=HPT.o.len;rw[d9]at hvl;have hcp:0<vs.length:=by have h1:=HXN.o;have h2:=HOX.o;unfold okN at h2;simp only at h1 h2;omega
   obtain⟨ou,cu,bo,hu,hdo,hgo,hco,-,-⟩:=HPT.o.own.cases;have hou:=hdo.hat hcp;subst hou;obtain⟨qcb,qbC⟩:=hgo hcp;have hcu:=hdo.hcap;have qbS:=hdo.hmax;have qbF:=hdo.hblk hcp;have qc4:=HMR.o.no qbC
   have KJ0:KJ g w.heap.size p6 bo b u vs (cM k) S wc:=⟨HF0.o,H60.o,⟨fun i hi=>by
    have hi':i<vs.length:=by simpa using hi
    rw[hco i hi'];simp[List.getD,qO,hi'],qbF,qc4⟩,hbS,HPT.o.rows⟩
   have HKJ:=qa KJ0;clear KJ0;have hwk:=HWK.o;have hak:=HAK.o;obtain⟨hb1,hb2,hb3⟩:=HB.o;rw[wG _ _ (.inl rfl)]at hb1 hb2 hb3;have hix:=fun(W:World) (i:Nat) (hi:i<vs.length)=>fN hdo W .i64 i (by omega) (by omega);have h6c:wc.cell? ⟨p6,0,none⟩=some (.slice (some ⟨bo,0,none⟩) vs.length cu):=by rw[<-hu];exact H60.o.c 0 (show 0<1 by decide)
   have h6l:=H60.o.lt;have hkc:wc.cell? ⟨p5,0,none⟩=some (.int .i64 4):=HX0.o.c 0 (show 0<8 by decide);have qcn:=HX0.o.lt;have qji:=qbF;have h6w:=h6l;have h5w:=qcn;have qfF:b<wc.heap.size:=by omega
   have HVL:=qa hvl;have hvB:vs.length<=400:=by have:=vD k;omega
   have HLO:=qa (lR k hwk hak s);have HCS:=qa HZ.o;obtain⟨kl,hkl⟩:∃kl,kl=vs.length:=⟨_,rfl⟩;have HKL:=qa hkl;rw[<-hkl]at hix h6c hvB;clear hvl hcp hdo hgo hco qcb qbC hcu qbS hkl;go_wp2
   go_loopg [8,69] (cnt k) (fun gk ov iv wr=>∃(j:Nat) (r:Fo) (sj:St) (ps:List Pc) (dn:List (List Nd)) (Sr:Nat->Prop),iv=.int .i64 j/\j+cnt r=cnt k/\wf r/\T9 okN r/\(cO r).length<=(cO k).length/\dn++cM r=cM k/\dn.length=j/\ps.length=j/\g8 k s=(ps++(g8 r sj).1,(g8 r sj).2)/\sj.e.length+usz r=s.e.length+usz k/\sj.r.length+usz r=s.r.length+usz k/\tot sj.e+2*usz r<=tot s.e+2*usz k/\
     MkT wr Sr g q sj F/\Gw S w Sr wr/\KJ g w.heap.size p6 bo b u vs (cM k) Sr wr/\LB wr Sr (w.heap.size+1) 0 0/\xN wr Sr p5 (ndV ⟨4,xn,xa,xb,xc,xd,xl,xh⟩)/\cA 2 wr wc.heap.size 221 ov (ps.map pcC)/\(∀z,ov.ownBlock=some z->¬Sr z)/\wc.heap.size<=wr.heap.size/\gk=cnt k-j)
   case atStart=>
    exact ZmI5
   case round=>
    obtain⟨j,r,sj,ps,dn,Sr,rfl,hj,hwr,har,hrl,hdn,hdl,hpl,qbX,hel,qcI,htl,hm1,hg1,hkj,hp4,hx5,hov,qdM,qdE,rfl⟩:=hrel;have HM1:=qa hm1;have HG1:=qa hg1;have HK1:=qa hkj;have P41:=qa hp4;have HX1:=qa hx5;have HO1:=qa hov;have HNO:=qa qdM;have qeq:=qa qbX;have HDN:=qa hdn;have qbF:=HK1.o.out.lt;have qhh:=HK1.o.va.lt;have qhq:wr.cell? ⟨p6,0,none⟩=some (.slice (some ⟨bo,0,none⟩) kl cu):=by rw[HKL.o,<-hu];exact HK1.o.vb.c 0 (show 0<1 by decide)
    have qhp:=HK1.o.vb.lt;have qhg:wr.cell? ⟨w.heap.size,0,none⟩=some (.pointer (some ⟨g,0,none⟩)):=HK1.o.va.c 0 (show 0<1 by decide);have qdV:kl=cnt k:=by rw[HKL.o,HVL.o]
    have HKC:=qa qdV;clear qdV;clear hm1 hg1 hkj hp4 hx5 hov qdM qbX hdn HM0 HG0 HF0 P40 HX0 H60 HKJ h6c h6l hkc qcn;cases r with
    |cons y ky r'=>
     exact ZmI2
    |nil=>
     have hje:j=cnt k:=by simpa[cnt]using hj
     have qbX:g8 k s=(ps,sj):=by rw[qeq.o];simp[g8]
     have h2:2<=cnt k:=by have h1:=HXN.o;have h2:=HOX.o;unfold okN at h2;simp only at h1 h2;omega
     have qbs:0<ps.length:=by omega
     obtain⟨b8,off8,cap8,hps,hob⟩:=q06 HO1.o qbs;have qdP:=HNO.o b8 hob;have hlo:=HLO.o;rw[qbX]at hlo;have hrg:∀i,i<ps.length->(ps.getD i zP).f<sj.e.length/\(ps.getD i zP).l<sj.e.length:=fun i hi=>hlo.rng i (by omega);simp only[usz,jC]at hel qcI htl;have qgI:ps.length<=400:=by have:=vD k;omega
     have qgx:wr.cell? ⟨p5,0,none⟩=some (.int .i64 4):=HX1.o.c 0 (show 0<8 by decide);have qgw:=HX1.o.lt;have hZe:Z=(bJ sj,eH (bJ sj) ps ps.length (two sj)):=by rw[HZ.o,q2B _ _ _ rfl,qbX]
     have hn2:n=sj.e.length:=by rw[HN.o,hZe];rfl
     have hm2:m=sj.e.length+1:=by rw[HMM.o,hZe];rfl
     have HAR:=qa (tY HM1.o (by omega) (by omega) n m hn2 hm2);have HEZ:Hid (Z.2=eH ⟨n,m⟩ ps ps.length (two sj)):=qa (by rw[hZe,hn2,hm2];rfl);have HRG:Hid (∀i,i<ps.length->(ps.getD i zP).f<(two sj).e.length/\(ps.getD i zP).l<(two sj).e.length):=qa (fun i hi=>by have:=hrg i hi;rw[lW];omega);have HBD:Hid (n<(two sj).e.length/\(two sj).e.length<=9000/\tot (two sj).e<=90000):=qa (by rw[lW,nZ];omega);have HAL:=qa (lF ⟨n,m⟩ ps (two sj));have HAT:=qa (V5 ⟨n,m⟩ ps (two sj));have qfp:=HKC.o;have hjk:((j:Int))=(kl:Int):=by omega
     have qeU:=qa hps;have qiQ:=xM hps;have hv8:=hps.v;subst hv8;have qkU:=hgq.1;clear qbX hlo hrg hZe hps hpl hdl hix hje qfp hn2 hm2 hel qcI htl;generalize hln:ps.length=ln at*
     go_wp2_with((with_reducible go_at_call 172);refine HAR.o.mono ?_;rintro en w3 ⟨rfl,S3,hm3,hg3⟩;have HM3:=qa hm3;(have HG3:=qa (HG1.o.trans hg3));(have P43:=qa (P41.o.gw hg3));(have HA3:=qa (HK1.o.va.gw hg3));(have PS3:=qa (qeU.o.gw hg3 qdP));(have NB3:=qa (hg3.out (qeU.o.hd.hblk qeU.o.pos) qdP));(have qeD:=hg3.size);clear hm3 hg3)
     have HM4:=qa (HM3.o.up (aA w3 (.cells #[.int .i64 n,.int .i64 m] 221)));have HG4:=qa (HG3.o.up (aA w3 (.cells #[.int .i64 n,.int .i64 m] 221)));have PD4:=qa (P43.o.up (aA w3 (.cells #[.int .i64 n,.int .i64 m] 221)));have HA4:=qa (HA3.o.up (aA w3 (.cells #[.int .i64 n,.int .i64 m] 221)));have PS4:=qa (PS3.o.up (aA w3 (.cells #[.int .i64 n,.int .i64 m] 221)));have PB4:Hid (LB (w3.alloc (.cells #[.int .i64 n,.int .i64 m] 221)) S3 w3.heap.size n m):=qa ⟨fE w3 n m,HM3.o.no (qb _)⟩;clear HM1 HG1 HK1 P41 HX1 HO1 HNO HM3 HG3 P43 HA3 PS3 HAR qeU qgx qgw qhq qhp qhg qhh qbF qdP hob;generalize w3.heap.size=p11 at*;generalize w3.alloc (.cells #[.int .i64 n,.int .i64 m] 221)=w4 at*
     go_loopg [90] ln (fun gk iv wr=>∃(j:Nat) (Sr:Nat->Prop),iv=.int .i64 j/\j<=ln/\MkT wr Sr g q (eH ⟨n,m⟩ ps j (two sj)) F/\Gw S w Sr wr/\q2z wr (.slice (some ⟨b8,off8,none⟩) ln cap8) b8 off8 cap8 ps/\¬Sr b8/\LB wr Sr (w.heap.size+1) 0 0/\LB wr Sr p11 n m/\xN wr Sr w.heap.size #[.pointer (some ⟨g,0,none⟩)]/\gk=ln-j)
     case atStart=>exact⟨0,S3,rfl,qd _,HM4.o,HG4.o,PS4.o,NB3.o,PD4.o,PB4.o,HA4.o,rfl⟩
     case round=>
      obtain⟨i,Sr,rfl,hi,hm,hgw,qdK,hnb,hlb,qgT,hfa,rfl⟩:=hrel;have HM1:=qa hm;have HG1:=qa hgw;have PS1:=qa qdK;have PD1:=qa hlb;have PB1:=qa qgT;have HA1:=qa hfa;have NB1:=qa hnb;clear hm hgw qdK hlb qgT hnb hfa HM4 HG4 PD4 HA4 PS4 PB4 NB3;obtain⟨b1,b2,b3⟩:=HBD.o;have hal:=HAL.o i;have hat:=HAT.o i;by_cases hlt:i<ln
      ·have qbi:=fun W=>qiQ W i hlt
       obtain⟨pj,hpj⟩:∃p,p=ps.getD i zP:=⟨_,rfl⟩;have hrg:=HRG.o i hlt;rw[<-hpj]at hrg
       have HCE:Hid (∀c',c'<2->wr.cell? ⟨b8,off8+i*2+c',none⟩=some ((#[.int .i64 (pj.f:Nat),.int .i64 (pj.l:Nat)]:Array Value).getD c' undef)):=qa (fun c' h=>by
        rw[hpj];rcases(show c'=0\/c'=1 by omega)with rfl|rfl
        ·exact PS1.o.c0 i (by omega)
        exact PS1.o.c1 i (by omega))
       have HCS:Hid (eH ⟨n,m⟩ ps (i+1) (two sj)=d6 pj.l m (d6 n pj.f (eH ⟨n,m⟩ ps i (two sj)))):=qa (by rw[hpj];rfl);obtain⟨si,hsi⟩:∃si,si=eH ⟨n,m⟩ ps i (two sj):=⟨_,rfl⟩;rw[<-hsi]at hal hat HM1 HCS;have t1:=e9 n pj.f si;have l1:=eT n pj.f si;have qkG:ln<=400:=qgI;clear hpj hsi
       go_wp2_with(refine aH rfl 221 _ rfl b8 (off8+i*2) 2 rfl _ _ HCE.o rfl underlying221 rfl (by kernel_rfl) ?_)
       have HM2:=qa (HM1.o.up (aA wr (.cells #[.int .i64 (pj.f:Nat),.int .i64 (pj.l:Nat)] 221)));have HG2:=qa (HG1.o.up (aA wr (.cells #[.int .i64 (pj.f:Nat),.int .i64 (pj.l:Nat)] 221)));have PD2:=qa (PD1.o.up (aA wr (.cells #[.int .i64 (pj.f:Nat),.int .i64 (pj.l:Nat)] 221)));have PB2:=qa (PB1.o.up (aA wr (.cells #[.int .i64 (pj.f:Nat),.int .i64 (pj.l:Nat)] 221)));have HA2:=qa (HA1.o.up (aA wr (.cells #[.int .i64 (pj.f:Nat),.int .i64 (pj.l:Nat)] 221)));have PS2:=qa (PS1.o.up (aA wr (.cells #[.int .i64 (pj.f:Nat),.int .i64 (pj.l:Nat)] 221)));have PC2:Hid (LB (wr.alloc (.cells #[.int .i64 (pj.f:Nat),.int .i64 (pj.l:Nat)] 221)) Sr wr.heap.size pj.f pj.l):=qa ⟨fE wr _ _,HM1.o.no (qb _)⟩;have NB2:=NB1;clear HM1 HG1 PD1 PB1 HA1 PS1 NB1 HCE;generalize wr.heap.size=p13 at*;generalize wr.alloc (.cells #[.int .i64 (pj.f:Nat),.int .i64 (pj.l:Nat)] 221)=w2 at*;have hc4:=HM2.o.f4;have hgl:=HM2.o.glt;have qjt:w2.cell? ⟨w.heap.size,0,none⟩=some (.pointer (some ⟨g,0,none⟩)):=HA2.o.c 0 (show 0<1 by decide);have qjq:=HA2.o.lt;have PBa:=PB2.o.box.c0;have PBb:=PB2.o.box.c1;have PBl:=PB2.o.box.lt;have PCa:=PC2.o.box.c0;have PCb:=PC2.o.box.c1;have PCl:=PC2.o.box.lt
       try go_wp2
       refine aT [0,1,2,3,4,5,6,7] [] [8] (by kernel_rfl) (by kernel_rfl) ?_;simp only[pk]
       repeat(go_big_quiet_step (fail))
       refine wpQuiet_nil ?_;unfold aG;unfold aG
       go_wp2_with((with_reducible go_at_call 170);refine(nN (HM2.o.up (aR _)) n pj.f (by omega) (by omega) (by omega)).mono ?_;rintro en w3 ⟨rfl,S3,hm,hg⟩;have HM3:=qa hm;have HG3:=qa ((HG2.o.up (aR _)).trans hg);have HA3:=qa ((HA2.o.up (aR _)).gw hg);have PD3:=qa ((PD2.o.up (aR _)).gw hg);have PB3:=qa ((PB2.o.up (aR _)).gw hg);have PC3:=qa ((PC2.o.up (aR _)).gw hg);have PS3:=qa ((PS2.o.up (aR _)).gw hg NB2.o);have NB3:=qa (hg.out (qe (PS2.o.hd.hblk PS2.o.pos) (aR _).size) NB2.o);clear hm hg)
       refine⟨trivial,?_⟩;unfold aG;clear hc4 hgl qjt qjq PBa PBb PBl PCa PCb PCl HM2 HG2 HA2 PD2 PB2 PC2 PS2 NB2;have t2:=e9 pj.l m (d6 n pj.f si);have l2:=eT pj.l m (d6 n pj.f si);have hc4:=HM3.o.f4;have hgl:=HM3.o.glt;have qjs:w3.cell? ⟨w.heap.size,0,none⟩=some (.pointer (some ⟨g,0,none⟩)):=HA3.o.c 0 (show 0<1 by decide);have qjp:=HA3.o.lt;have PBa:=PB3.o.box.c0;have PBb:=PB3.o.box.c1;have PBl:=PB3.o.box.lt;have PCa:=PC3.o.box.c0;have PCb:=PC3.o.box.c1;have PCl:=PC3.o.box.lt
       try go_wp2
       refine aT [0,1,2,3,4,5,6,7] [] [8] (by kernel_rfl) (by kernel_rfl) ?_;simp only[pk]
       repeat(go_big_quiet_step (fail))
       refine wpQuiet_nil ?_;unfold aG;unfold aG
       go_wp2_with((with_reducible go_at_call 170);refine(nN (HM3.o.up (aR _)) pj.l m (by omega) (by omega) (by omega)).mono ?_;rintro en w4 ⟨rfl,S4,hm,hg⟩;have HM4:=qa hm;have HG4:=qa ((HG3.o.up (aR _)).trans hg);have HA4:=qa ((HA3.o.up (aR _)).gw hg);have PD4:=qa ((PD3.o.up (aR _)).gw hg);have PB4:=qa ((PB3.o.up (aR _)).gw hg);have PC4:=qa ((PC3.o.up (aR _)).gw hg);have PS4:=qa ((PS3.o.up (aR _)).gw hg NB3.o);have NB4:=qa (hg.out (qe (PS3.o.hd.hblk PS3.o.pos) (aR _).size) NB3.o);clear hm hg)
       refine⟨trivial,?_⟩;unfold aG;clear hc4 hgl qjs qjp PBa PBb PBl PCa PCb PCl HM3 HG3 HA3 PD3 PB3 PC3 PS3 NB3;go_wp2
       go_roundg (ln-(i+1))
       case measure=>omega
       case rel=>
        exact⟨i+1,S4,by go_num,by omega,by rw[HCS.o];exact HM4.o,HG4.o,PS4.o,NB4.o,PD4.o,PB4.o,HA4.o,rfl⟩
      have hie:i=ln:=by omega
      subst hie;have P73:=PB1;have P43:=PD1;have HM3:Hid (MkT wr Sr g q Z.2 F):=qa (by rw[HEZ.o];exact HM1.o);have HG3:=HG1;clear HM1 HG1 PB1 PD1 HA1 PS1 hal hat;generalize wr=w3 at*
      have HC7:Hid (∀c,c<2->w3.cell? ⟨p11,0+c,none⟩=some ((#[.int .i64 n,.int .i64 m]:Array Value).getD c undef)):=qa (fun c hcl=>by
       rw[qE];rcases(show c=0\/c=1 by omega)with rfl|rfl
       ·exact P73.o.box.c0
       exact P73.o.box.c1)
      have P4a:=P43.o.box.c0;have P4b:=P43.o.box.c1;have P4l:=P43.o.box.lt;have P4f:=P43.o.box.free 0;have P4g:=P43.o.box.free 1;have HST:=qa (P43.o.box.set n m)
      go_wp2_with(refine aH rfl 221 _ rfl p11 0 2 rfl _ _ HC7.o rfl underlying221 rfl (by kernel_rfl) ?_)
      refine cE rfl rfl rfl HST.o.1.load ?_;exact⟨rfl,_,HM3.o.keep HST.o.2 P43.o.no (by omega),HG3.o.new HST.o.2 (by omega)⟩
  case inr.inr.inr.inr.inl=>
   have hxn:=HXN.o;have hc1:cnt k=1:=by have h2:=HOX.o;unfold okN at h2;simp only at hxn h2;omega
   cases k with
   |nil=>simp[cnt]at hc1
   |cons y ky r=>
    have hr0:=kQ r (by simpa[cnt]using hc1);subst hr0;have hvl:=HPT.o.len;rw[d9]at hvl;have hcp:0<vs.length:=by rw[hvl];simp[cnt]
    obtain⟨ou,cu,bo,hu,hdo,hgo,hco,-,-⟩:=HPT.o.own.cases;have hou:=hdo.hat hcp;subst hou;obtain⟨qcb,qbC⟩:=hgo hcp;have hcu:=hdo.hcap;have qbS:=hdo.hmax;have qbF:=hdo.hblk hcp;have qc4:=HMR.o.no qbC
    have KJ0:KJ g w.heap.size p6 bo b u vs (cM (.cons y ky .nil)) S wc:=⟨HF0.o,H60.o,⟨fun i hi=>by
     have hi':i<vs.length:=by simpa using hi
     rw[hco i hi'];simp[List.getD,qO,hi'],qbF,qc4⟩,hbS,HPT.o.rows⟩
    have HKJ:=qa KJ0;clear KJ0;have hwk:=HWK.o;have hak:=HAK.o;obtain⟨Y,hY⟩:∃Y,Y=eF y (fun s=>g8 ky s) s:=⟨_,rfl⟩;have hnk:=mU y (fun s=>g8 ky s) (usz ky) (cnt ky) hak.1 hwk.1 (lR ky hwk.2.1 hak.2.1) s;rw[<-hY]at hnk;have k1:=hnk.len;have k2:=hnk.rlen;have k3:=hnk.rng 0 (by omega);have k4:=hnk.tot;simp only[j7]at k1 k2 k3 k4
    have hZe:Z=(bJ Y.2,nY true true Y.1 Y.2):=by
     rw[HZ.o,uB _ _ _ (by simp)];rw[hY];simp[g8,eN]
    have HZ2:=qa hZe;have hn2:n=Y.2.e.length:=by rw[HN.o,hZe];rfl
    have hm2:m=Y.2.e.length+1:=by rw[HMM.o,hZe];rfl
    obtain⟨hb1,hb2,hb3⟩:=HB.o
    have hun:cZ ⟨5,xn,xa,xb,xc,xd,xl,xh⟩ (usz (.cons y ky .nil))=cZ y (usz ky)+2:=by
     rw[wG _ _ (by simp)];simp[usz]
    rw[hun]at hb1 hb2 hb3;have hkl:(cO ky).length<N:=by simp only[cO,qx,qi,qK]at hN;omega
    have hk4:(cO ky).length<400:=by simp only[cO,qx,qi,qK]at qcx;omega
    obtain⟨u0,hu0⟩:∃u0,u0=vs.getD 0 undef:=⟨_,rfl⟩;obtain⟨qf,hqf⟩:∃qf,qf=Y.1.f:=⟨_,rfl⟩;obtain⟨ql,hql⟩:∃ql,ql=Y.1.l:=⟨_,rfl⟩;have hr0:eO wc b u0 (y::cO ky):=by rw[hu0];exact HKJ.o.rows 0 (by simp[cM])
    have HTR:=qa (HIH.o wc.drew S g q s F u0 b y ky hkl (hr0.up (aR _)) hbS hk4 hwk.1 hwk.2.1 hak.1 hak.2.1 (HM0.o.up (aR _)) (by omega) (by omega) (by omega) qf ql (by rw[<-hY];exact hqf) (by rw[<-hY];exact hql));rw[<-hY]at HTR;have hoc:wc.cell? ⟨bo,0,none⟩=some u0:=by rw[hco 0 hcp,hu0]
    have hix:∀W:World,(Instr.indexAt 26 (.slice (some ⟨bo,0,none⟩) vs.length cu) (.int .i64 0)).run prog W=.ok (.pointer (some ⟨bo,0,none⟩)) W:=fun W=>by
     have:=fN hdo W .i64 0 (by omega) (by omega);simpa using this
    have h6c:wc.cell? ⟨p6,0,none⟩=some (.slice (some ⟨bo,0,none⟩) vs.length cu):=by rw[<-hu];exact H60.o.c 0 (show 0<1 by decide)
    have h6l:=H60.o.lt;have h6n:=H60.o.no;have hkc:wc.cell? ⟨p5,0,none⟩=some (.int .i64 5):=HX0.o.c 0 (show 0<8 by decide);have qcn:=HX0.o.lt;have qgv:=HX0.o.no;have hac:wc.cell? ⟨w.heap.size,0,none⟩=some (.pointer (some ⟨g,0,none⟩)):=HF0.o.c 0 (show 0<1 by decide);have hal:=HF0.o.lt;have qhf:=HF0.o.no;have HQ:=qa (And.intro hqf hql);have HBY:Hid (Y.2.e.length<=4000/\Y.2.r.length<=4000/\tot Y.2.e<=90000/\qf<Y.2.e.length/\ql<Y.2.e.length):=qa ⟨by omega,by omega,by omega,by omega,by omega⟩;have HE2:=qa (And.intro hn2 hm2);have HEZ:Hid (Z.2=nY true true ⟨qf,ql⟩ Y.2):=qa (by rw[hZe,hqf,hql]);have qcG:vs.length=1:=by rw[hvl,hc1]
    rw[qcG]at hix h6c;clear hxn hc1 hvl hcp hdo hgo hco qcb qbC hcu qbS hwk hak hY hnk k1 k2 k3 k4 hZe hn2 hm2 hb1 hb2 hb3 hun hkl hk4 hu0 hqf hql hr0 hu qcG;go_wp2;refine cU (fun w'=>∃x,w'=wrt S wc x) [0,1,2,3,4,5,6,7,8,9,10] [11,12] [13] (by kernel_rfl) (by kernel_rfl) (sI (dD S (aR wc)).fx) ?_;simp only[pk]
    repeat(go_big_quiet_step (fail))
    refine wpQuiet_nil ?_;unfold aG
    go_wp2_with((with_reducible go_at_call 167);refine HTR.o.mono ?_;rintro en w1 ⟨rfl,S1,hm1,hg1⟩;have HM1:=qa hm1;have HD1:=qa ((dD S (aR wc)).trans hg1);clear hm1 hg1)
    refine⟨sI HD1.o.fx,?_⟩;obtain⟨y1,y2,y3,y4,y5⟩:=HBY.o;have HLO:=qa (q6L HM1.o (by omega) (by omega) (by omega) true true qf ql y4 y5 n m HE2.o.1 HE2.o.2);clear y1 y2 y3 y4 y5;unfold aG
    exact ZmI3
  case inr.inr.inr.inr.inr.inl=>
   have hxn:=HXN.o;have hc1:cnt k=1:=by have h2:=HOX.o;unfold okN at h2;simp only at hxn h2;omega
   cases k with
   |nil=>simp[cnt]at hc1
   |cons y ky r=>
    have hr0:=kQ r (by simpa[cnt]using hc1);subst hr0;have hvl:=HPT.o.len;rw[d9]at hvl;have hcp:0<vs.length:=by rw[hvl];simp[cnt]
    obtain⟨ou,cu,bo,hu,hdo,hgo,hco,-,-⟩:=HPT.o.own.cases;have hou:=hdo.hat hcp;subst hou;obtain⟨qcb,qbC⟩:=hgo hcp;have hcu:=hdo.hcap;have qbS:=hdo.hmax;have qbF:=hdo.hblk hcp;have qc4:=HMR.o.no qbC
    have KJ0:KJ g w.heap.size p6 bo b u vs (cM (.cons y ky .nil)) S wc:=⟨HF0.o,H60.o,⟨fun i hi=>by
     have hi':i<vs.length:=by simpa using hi
     rw[hco i hi'];simp[List.getD,qO,hi'],qbF,qc4⟩,hbS,HPT.o.rows⟩
    have HKJ:=qa KJ0;clear KJ0;have hwk:=HWK.o;have hak:=HAK.o;obtain⟨Y,hY⟩:∃Y,Y=eF y (fun s=>g8 ky s) s:=⟨_,rfl⟩;have hnk:=mU y (fun s=>g8 ky s) (usz ky) (cnt ky) hak.1 hwk.1 (lR ky hwk.2.1 hak.2.1) s;rw[<-hY]at hnk;have k1:=hnk.len;have k2:=hnk.rlen;have k3:=hnk.rng 0 (by omega);have k4:=hnk.tot;simp only[j7]at k1 k2 k3 k4
    have hZe:Z=(bJ Y.2,nY false true Y.1 Y.2):=by
     rw[HZ.o,uB _ _ _ (by simp)];rw[hY];simp[g8,eN]
    have HZ2:=qa hZe;have hn2:n=Y.2.e.length:=by rw[HN.o,hZe];rfl
    have hm2:m=Y.2.e.length+1:=by rw[HMM.o,hZe];rfl
    obtain⟨hb1,hb2,hb3⟩:=HB.o
    have hun:cZ ⟨6,xn,xa,xb,xc,xd,xl,xh⟩ (usz (.cons y ky .nil))=cZ y (usz ky)+2:=by
     rw[wG _ _ (by simp)];simp[usz]
    rw[hun]at hb1 hb2 hb3;have hkl:(cO ky).length<N:=by simp only[cO,qx,qi,qK]at hN;omega
    have hk4:(cO ky).length<400:=by simp only[cO,qx,qi,qK]at qcx;omega
    obtain⟨u0,hu0⟩:∃u0,u0=vs.getD 0 undef:=⟨_,rfl⟩;obtain⟨qf,hqf⟩:∃qf,qf=Y.1.f:=⟨_,rfl⟩;obtain⟨ql,hql⟩:∃ql,ql=Y.1.l:=⟨_,rfl⟩;have hr0:eO wc b u0 (y::cO ky):=by rw[hu0];exact HKJ.o.rows 0 (by simp[cM])
    have HTR:=qa (HIH.o wc.drew S g q s F u0 b y ky hkl (hr0.up (aR _)) hbS hk4 hwk.1 hwk.2.1 hak.1 hak.2.1 (HM0.o.up (aR _)) (by omega) (by omega) (by omega) qf ql (by rw[<-hY];exact hqf) (by rw[<-hY];exact hql));rw[<-hY]at HTR;have hoc:wc.cell? ⟨bo,0,none⟩=some u0:=by rw[hco 0 hcp,hu0]
    have hix:∀W:World,(Instr.indexAt 26 (.slice (some ⟨bo,0,none⟩) vs.length cu) (.int .i64 0)).run prog W=.ok (.pointer (some ⟨bo,0,none⟩)) W:=fun W=>by
     have:=fN hdo W .i64 0 (by omega) (by omega);simpa using this
    have h6c:wc.cell? ⟨p6,0,none⟩=some (.slice (some ⟨bo,0,none⟩) vs.length cu):=by rw[<-hu];exact H60.o.c 0 (show 0<1 by decide)
    have h6l:=H60.o.lt;have h6n:=H60.o.no;have hkc:wc.cell? ⟨p5,0,none⟩=some (.int .i64 6):=HX0.o.c 0 (show 0<8 by decide);have qcn:=HX0.o.lt;have qgv:=HX0.o.no;have hac:wc.cell? ⟨w.heap.size,0,none⟩=some (.pointer (some ⟨g,0,none⟩)):=HF0.o.c 0 (show 0<1 by decide);have hal:=HF0.o.lt;have qhf:=HF0.o.no;have HQ:=qa (And.intro hqf hql);have HBY:Hid (Y.2.e.length<=4000/\Y.2.r.length<=4000/\tot Y.2.e<=90000/\qf<Y.2.e.length/\ql<Y.2.e.length):=qa ⟨by omega,by omega,by omega,by omega,by omega⟩;have HE2:=qa (And.intro hn2 hm2);have HEZ:Hid (Z.2=nY false true ⟨qf,ql⟩ Y.2):=qa (by rw[hZe,hqf,hql]);have qcG:vs.length=1:=by rw[hvl,hc1]
    rw[qcG]at hix h6c;clear hxn hc1 hvl hcp hdo hgo hco qcb qbC hcu qbS hwk hak hY hnk k1 k2 k3 k4 hZe hn2 hm2 hb1 hb2 hb3 hun hkl hk4 hu0 hqf hql hr0 hu qcG;go_wp2;refine cU (fun w'=>∃x,w'=wrt S wc x) [0,1,2,3,4,5,6,7,8,9,10] [11,12] [13] (by kernel_rfl) (by kernel_rfl) (sI (dD S (aR wc)).fx) ?_;simp only[pk]
    repeat(go_big_quiet_step (fail))
    refine wpQuiet_nil ?_;unfold aG
    go_wp2_with((with_reducible go_at_call 167);refine HTR.o.mono ?_;rintro en w1 ⟨rfl,S1,hm1,hg1⟩;have HM1:=qa hm1;have HD1:=qa ((dD S (aR wc)).trans hg1);clear hm1 hg1)
    refine⟨sI HD1.o.fx,?_⟩;obtain⟨y1,y2,y3,y4,y5⟩:=HBY.o;have HLO:=qa (q6L HM1.o (by omega) (by omega) (by omega) false true qf ql y4 y5 n m HE2.o.1 HE2.o.2);clear y1 y2 y3 y4 y5;unfold aG
    exact ZmI3
  case inr.inr.inr.inr.inr.inr.inl=>
   have hxn:=HXN.o;have hc1:cnt k=1:=by have h2:=HOX.o;unfold okN at h2;simp only at hxn h2;omega
   cases k with
   |nil=>simp[cnt]at hc1
   |cons y ky r=>
    have hr0:=kQ r (by simpa[cnt]using hc1);subst hr0;have hvl:=HPT.o.len;rw[d9]at hvl;have hcp:0<vs.length:=by rw[hvl];simp[cnt]
    obtain⟨ou,cu,bo,hu,hdo,hgo,hco,-,-⟩:=HPT.o.own.cases;have hou:=hdo.hat hcp;subst hou;obtain⟨qcb,qbC⟩:=hgo hcp;have hcu:=hdo.hcap;have qbS:=hdo.hmax;have qbF:=hdo.hblk hcp;have qc4:=HMR.o.no qbC
    have KJ0:KJ g w.heap.size p6 bo b u vs (cM (.cons y ky .nil)) S wc:=⟨HF0.o,H60.o,⟨fun i hi=>by
     have hi':i<vs.length:=by simpa using hi
     rw[hco i hi'];simp[List.getD,qO,hi'],qbF,qc4⟩,hbS,HPT.o.rows⟩
    have HKJ:=qa KJ0;clear KJ0;have hwk:=HWK.o;have hak:=HAK.o;obtain⟨Y,hY⟩:∃Y,Y=eF y (fun s=>g8 ky s) s:=⟨_,rfl⟩;have hnk:=mU y (fun s=>g8 ky s) (usz ky) (cnt ky) hak.1 hwk.1 (lR ky hwk.2.1 hak.2.1) s;rw[<-hY]at hnk;have k1:=hnk.len;have k2:=hnk.rlen;have k3:=hnk.rng 0 (by omega);have k4:=hnk.tot;simp only[j7]at k1 k2 k3 k4
    have hZe:Z=(bJ Y.2,nY true false Y.1 Y.2):=by
     rw[HZ.o,uB _ _ _ (by simp)];rw[hY];simp[g8,eN]
    have HZ2:=qa hZe;have hn2:n=Y.2.e.length:=by rw[HN.o,hZe];rfl
    have hm2:m=Y.2.e.length+1:=by rw[HMM.o,hZe];rfl
    obtain⟨hb1,hb2,hb3⟩:=HB.o
    have hun:cZ ⟨7,xn,xa,xb,xc,xd,xl,xh⟩ (usz (.cons y ky .nil))=cZ y (usz ky)+2:=by
     rw[wG _ _ (by simp)];simp[usz]
    rw[hun]at hb1 hb2 hb3;have hkl:(cO ky).length<N:=by simp only[cO,qx,qi,qK]at hN;omega
    have hk4:(cO ky).length<400:=by simp only[cO,qx,qi,qK]at qcx;omega
    obtain⟨u0,hu0⟩:∃u0,u0=vs.getD 0 undef:=⟨_,rfl⟩;obtain⟨qf,hqf⟩:∃qf,qf=Y.1.f:=⟨_,rfl⟩;obtain⟨ql,hql⟩:∃ql,ql=Y.1.l:=⟨_,rfl⟩;have hr0:eO wc b u0 (y::cO ky):=by rw[hu0];exact HKJ.o.rows 0 (by simp[cM])
    have HTR:=qa (HIH.o wc.drew S g q s F u0 b y ky hkl (hr0.up (aR _)) hbS hk4 hwk.1 hwk.2.1 hak.1 hak.2.1 (HM0.o.up (aR _)) (by omega) (by omega) (by omega) qf ql (by rw[<-hY];exact hqf) (by rw[<-hY];exact hql));rw[<-hY]at HTR;have hoc:wc.cell? ⟨bo,0,none⟩=some u0:=by rw[hco 0 hcp,hu0]
    have hix:∀W:World,(Instr.indexAt 26 (.slice (some ⟨bo,0,none⟩) vs.length cu) (.int .i64 0)).run prog W=.ok (.pointer (some ⟨bo,0,none⟩)) W:=fun W=>by
     have:=fN hdo W .i64 0 (by omega) (by omega);simpa using this
    have h6c:wc.cell? ⟨p6,0,none⟩=some (.slice (some ⟨bo,0,none⟩) vs.length cu):=by rw[<-hu];exact H60.o.c 0 (show 0<1 by decide)
    have h6l:=H60.o.lt;have h6n:=H60.o.no;have hkc:wc.cell? ⟨p5,0,none⟩=some (.int .i64 7):=HX0.o.c 0 (show 0<8 by decide);have qcn:=HX0.o.lt;have qgv:=HX0.o.no;have hac:wc.cell? ⟨w.heap.size,0,none⟩=some (.pointer (some ⟨g,0,none⟩)):=HF0.o.c 0 (show 0<1 by decide);have hal:=HF0.o.lt;have qhf:=HF0.o.no;have HQ:=qa (And.intro hqf hql);have HBY:Hid (Y.2.e.length<=4000/\Y.2.r.length<=4000/\tot Y.2.e<=90000/\qf<Y.2.e.length/\ql<Y.2.e.length):=qa ⟨by omega,by omega,by omega,by omega,by omega⟩;have HE2:=qa (And.intro hn2 hm2);have HEZ:Hid (Z.2=nY true false ⟨qf,ql⟩ Y.2):=qa (by rw[hZe,hqf,hql]);have qcG:vs.length=1:=by rw[hvl,hc1]
    rw[qcG]at hix h6c;clear hxn hc1 hvl hcp hdo hgo hco qcb qbC hcu qbS hwk hak hY hnk k1 k2 k3 k4 hZe hn2 hm2 hb1 hb2 hb3 hun hkl hk4 hu0 hqf hql hr0 hu qcG;go_wp2;refine cU (fun w'=>∃x,w'=wrt S wc x) [0,1,2,3,4,5,6,7,8,9,10] [11,12] [13] (by kernel_rfl) (by kernel_rfl) (sI (dD S (aR wc)).fx) ?_;simp only[pk]
    repeat(go_big_quiet_step (fail))
    refine wpQuiet_nil ?_;unfold aG
    go_wp2_with((with_reducible go_at_call 167);refine HTR.o.mono ?_;rintro en w1 ⟨rfl,S1,hm1,hg1⟩;have HM1:=qa hm1;have HD1:=qa ((dD S (aR wc)).trans hg1);clear hm1 hg1)
    refine⟨sI HD1.o.fx,?_⟩;obtain⟨y1,y2,y3,y4,y5⟩:=HBY.o;have HLO:=qa (q6L HM1.o (by omega) (by omega) (by omega) true false qf ql y4 y5 n m HE2.o.1 HE2.o.2);clear y1 y2 y3 y4 y5;unfold aG
    exact ZmI3
  case inr.inr.inr.inr.inr.inr.inr=>
   have hxn:=HXN.o;have hc1:cnt k=1:=by have h2:=HOX.o;unfold okN at h2;simp only at hxn h2;omega
   cases k with
   |nil=>simp[cnt]at hc1
   |cons y ky r=>
    have hr0:=kQ r (by simpa[cnt]using hc1);subst hr0;have hvl:=HPT.o.len;rw[d9]at hvl;have hcp:0<vs.length:=by rw[hvl];simp[cnt]
    obtain⟨ou,cu,bo,hu,hdo,hgo,hco,-,-⟩:=HPT.o.own.cases;have hou:=hdo.hat hcp;subst hou;obtain⟨qcb,qbC⟩:=hgo hcp;have hcu:=hdo.hcap;have qbS:=hdo.hmax;have qbF:=hdo.hblk hcp;have qc4:=HMR.o.no qbC
    have KJ0:KJ g w.heap.size p6 bo b u vs (cM (.cons y ky .nil)) S wc:=⟨HF0.o,H60.o,⟨fun i hi=>by
     have hi':i<vs.length:=by simpa using hi
     rw[hco i hi'];simp[List.getD,qO,hi'],qbF,qc4⟩,hbS,HPT.o.rows⟩
    have HKJ:=qa KJ0;clear KJ0;have hok:=HOX.o;have hlo:0<=xl/\xl<=30/\ -1<=xh:=by unfold okN at hok;simp only at hok;omega
    have htl:=sF hok rfl;obtain⟨t,ht⟩:∃t:Nat,eY ⟨8,xn,xa,xb,xc,xd,xl,xh⟩=t:=⟨_,(Int.toNat_of_nonneg htl.1).symm⟩;have qdD:t<=30:=by omega
    have htn:(eY ⟨8,xn,xa,xb,xc,xd,xl,xh⟩).toNat=t:=by rw[ht];rfl
    have hpe:(fun s=>eN (g8 (.cons y ky .nil) s))=fun s=>eF y (fun s=>g8 ky s) s:=by funext s;simp[g8,eN]
    have hus:usz (.cons y ky .nil)=cZ y (usz ky):=by simp[usz]
    have hZe:Z=(bJ s,(eB ⟨8,xn,xa,xb,xc,xd,xl,xh⟩ t (bJ s) (fun s=>eF y (fun s=>g8 ky s) s) (iff (decide (xl=0)) (d6 (bJ s).f (bJ s).l) (two s)) t).2):=by
     rw[HZ.o,q6N _ _ _ rfl];unfold wC;rw[hpe,htn]
    have HZ2:=qa hZe;have hn2:n=s.e.length:=by rw[HN.o,hZe];rfl
    have hm2:m=s.e.length+1:=by rw[HMM.o,hZe];rfl
    obtain⟨hb1,hb2,hb3⟩:=HB.o
    have hun:cZ ⟨8,xn,xa,xb,xc,xd,xl,xh⟩ (usz (.cons y ky .nil))=2+t*cZ y (usz ky):=by
     rw[q4R _ _ rfl,htn,hus]
    rw[hun]at hb1 hb2 hb3;have hwk:=HWK.o;have hak:=HAK.o;have hkl:(cO ky).length<N:=by simp only[cO,qx,qi,qK]at hN;omega
    have hk4:(cO ky).length<400:=by simp only[cO,qx,qi,qK]at qcx;omega
    have hv1:vs=[vs.getD 0 undef]:=by
     have h1:vs.length=1:=by rw[hvl,hc1]
     match vs,h1 with
     |[z],_=>rfl
    obtain⟨u0,hu0⟩:∃u0,u0=vs.getD 0 undef:=⟨_,rfl⟩;rw[<-hu0]at hv1;have hKP:=lR (.cons y ky .nil) hwk hak;have hp:∀s,N3 s ([(eF y (fun s=>g8 ky s) s).1],(eF y (fun s=>g8 ky s) s).2) (cZ y (usz ky)) 1:=fun s=>mU y (fun s=>g8 ky s) (usz ky) (cnt ky) hak.1 hwk.1 (lR ky hwk.2.1 hak.2.1) s
    have hT:∀(w:World) (S:Nat->Prop) (s:St),eO w b u0 (y::cO ky)->¬S b->MkT w S g q s F->s.e.length+cZ y (usz ky)<=4000->s.r.length+cZ y (usz ky)<=4000->tot s.e+2*cZ y (usz ky)<=90000->
      ∀n m:Nat,n=(eF y (fun s=>g8 ky s) s).1.f->m=(eF y (fun s=>g8 ky s) s).1.l->Calls prog 167 #[.pointer (some ⟨g,0,none⟩),u0] w fun e w'=>e=.returned (.agg #[.int .i64 n,.int .i64 m])/\∃S',MkT w' S' g q (eF y (fun s=>g8 ky s) s).2 F/\Gw S w S' w':=
     fun w S s hnb hb hm b1 b2 b3 n m hn hm2=>HIH.o w S g q s F u0 b y ky hkl hnb hb hk4 hwk.1 hwk.2.1 hak.1 hak.2.1 hm b1 b2 b3 n m hn hm2
    have qbz:∀(w1:World) (S1:Nat->Prop) (s1:St),MkT w1 S1 g q s1 F->KJ g w.heap.size p6 bo b u vs (cM (.cons y ky .nil)) S1 w1->s1.e.length+cZ y (usz ky)<=4000->s1.r.length+cZ y (usz ky)<=4000->tot s1.e+2*cZ y (usz ky)<=90000->∀n m:Nat,n=(eF y (fun s=>g8 ky s) s1).1.f->m=(eF y (fun s=>g8 ky s) s1).1.l->Calls prog 174 #[.pointer (some ⟨w.heap.size,0,none⟩),.pointer (some ⟨p6,0,none⟩)] w1 fun e w2=>e=.returned (.agg #[.int .i64 n,.int .i64 m])/\∃S2,MkT w2 S2 g q (eF y (fun s=>g8 ky s) s1).2 F/\Gw S1 w1 S2 w2:=
     fun w1 S1 s1 hm1 hj1 b1 b2 b3 n m hn hm2=>by
      have hv2:vs.length=1:=by rw[hvl,hc1]
      rw[hu,hv2]at hj1;exact q8r hT hj1 hv1 (by omega) qbS hm1 b1 b2 b3 n m hn hm2
    have HRE:Hid (Calls prog 173 #[.pointer (some ⟨g,0,none⟩),.agg #[.int .i64 8,.int .i64 xn,.int .u64 xa,.int .u64 xb,.int .u64 xc,.int .u64 xd,.int .i64 xl,.int .i64 xh],.func (.func 174) #[] #[.pointer (some ⟨w.heap.size,0,none⟩),.pointer (some ⟨p6,0,none⟩)]] wc fun e w'=>e=.returned (.agg #[.int .i64 n,.int .i64 m])/\∃S',MkT w' S' g q Z.2 F/\Gw S wc S' w'):=qa (by
     rw[hZe];have e1:t*(2*cZ y (usz ky))=2*(t*cZ y (usz ky)):=by rw[Nat.mul_left_comm]
     rcases Classical.em (xl=0)with hz|hz
     ·exact q4P (fun S w'=>KJ g w.heap.size p6 bo b u vs (cM (.cons y ky .nil)) S w') (fun S w1 S' w2 h1 h2=>KJ.gw S w1 S' w2 (by simp[cM]) h1 h2) (fun S w1 w2 h1 h2=>KJ.up S w1 w2 h1 h2) 8 xn xa xb xc xd xl xh w.heap.size p6 (fun s=>eF y (fun s=>g8 ky s) s) (cZ y (usz ky)) t ht qdD hlo.1 hlo.2.1 hlo.2.2 hp qbz HM0.o HKJ.o (by omega) (by omega) (by omega) n m hz hn2 hm2
     exact q4Q (fun S w'=>KJ g w.heap.size p6 bo b u vs (cM (.cons y ky .nil)) S w') (fun S w1 S' w2 h1 h2=>KJ.gw S w1 S' w2 (by simp[cM]) h1 h2) (fun S w1 w2 h1 h2=>KJ.up S w1 w2 h1 h2) 8 xn xa xb xc xd xl xh w.heap.size p6 (fun s=>eF y (fun s=>g8 ky s) s) (cZ y (usz ky)) t ht qdD hlo.1 hlo.2.1 hlo.2.2 hp qbz HM0.o HKJ.o (by omega) (by omega) (by omega) n m hz hn2 hm2)
    have hkc:wc.cell? ⟨p5,0,none⟩=some (.int .i64 8):=HX0.o.c 0 (show 0<8 by decide);have qcn:=HX0.o.lt;have hac:wc.cell? ⟨w.heap.size,0,none⟩=some (.pointer (some ⟨g,0,none⟩)):=HF0.o.c 0 (show 0<1 by decide);have hal:=HF0.o.lt;clear hxn hc1 hvl hcp hdo hgo hco qcb qbC hcu qbS qbF qc4 hok hlo htl ht qdD htn hpe hus hZe hn2 hm2 hb1 hb2 hb3 hun hwk hak hkl hk4 hv1 hu0 hKP hp hT qbz hu
    go_wp2_with(first|(refine aH rfl 65 _ rfl p5 0 8 rfl _ _ (tZ HX0.o 8 rfl) rfl underlying65 rfl (by kernel_rfl) ?_)|((with_reducible go_at_call 173);refine HRE.o.mono ?_;rintro en w1 ⟨rfl,S1,hm1,hg1⟩;have HM1:=qa hm1;have HG1:=qa (HG0.o.trans hg1);have P41:=qa (P40.o.gw hg1);(have P4a:=P41.o.box.c0);(have P4b:=P41.o.box.c1);(have P4l:=P41.o.box.lt);(have P4f:=P41.o.box.free 0);(have P4g:=P41.o.box.free 1);clear hm1 hg1))
    have HST:=qa (P41.o.box.set n m);refine cE rfl rfl rfl HST.o.1.load ?_;exact⟨rfl,S1,HM1.o.keep HST.o.2 P41.o.no (by omega),HG1.o.new HST.o.2 (by omega)⟩
end Go.Cm
