/- Walks of functions and plain facts, joined and squeezed by a program. Conditions: as each says. -/
import Derived.Test.YtnelgjehpbjloaaGreatDoorGXC
set_option maxHeartbeats 8000000
set_option maxRecDepth 100000
set_option linter.unusedSimpArgs false
namespace Go.Cm
open Go.RowKit Go.Proofs
def z30:Array Value:=(ints (List.replicate 30 0)).toArray
theorem wH(W:World):(zeroValue 281).run Tryz.prog W=.ok (.agg z30) W:=by kernel_rfl
theorem q2H:z30.toList=ints (nls (List.replicate 30 0)):=rfl
theorem U6(w:World)(A:Array Value)(hA:A=z30):kS (w.alloc (.cells A 281)) 281 30 w.heap.size (nls (List.replicate 30 0)):=by
 subst hA
 exact rE w 281 z30 (nls (List.replicate 30 0)) q2H (by decide)
def nM(base each k:Nat):List Nat:=(List.range 30).map fun i=>if i<k then qL base each i else 0
theorem kY(base each k:Nat):(nM base each k).length=30:=by simp[nM]
theorem nN(base each k i:Nat)(h:i<30):(nM base each k).getD i 0=if i<k then qL base each i else 0:=by simp[nM,List.getD,h]
theorem zD(base each:Nat):nM base each 0=List.replicate 30 0:=by simp[nM,List.map_const']
theorem O0(base each k:Nat):(nM base each k).set k (qL base each k)=nM base each (k+1):=by
 refine List.ext_getElem (by simp[nM]) fun i h1 h2=>?_
 simp only[nM,List.length_set,List.length_map,List.length_range]at h1;simp only[nM,List.getElem_set,List.getElem_map,List.getElem_range]
 by_cases h:k=i
 ·subst h;rw[if_pos rfl,if_pos (by omega)]
 ·rw[if_neg h]
  by_cases h3:i<k
  ·rw[if_pos h3,if_pos (by omega)]
  ·rw[if_neg h3,if_neg (by omega)]
def q23:Array Value:=#[.int .i64 257,.int .i64 28,.int .i64 3,.int .i64 4]
theorem kd4(w:World):Calls Tryz.prog 171 #[] w fun e w'=>e=.returned (.agg q23)/\∃x,w'=ext w x:=by
 have HO:=q7 (qE w w.heap.size #[Value.int .i64 257,.int .i64 28,.int .i64 3,.int .i64 4] 257 (by simp) (q9 _))
 go_enter Tryz.func171,Tryz.ntmps171
 go_wp2;refine bC rfl rfl rfl (bD HO.out _ Tryz.underlying257 rfl (by kernel_rfl)) ?_
 exact⟨rfl,(qt (by repeat(first|exact qj _ _|assumption|refine qw ?_ _|refine qk ?_|refine qA ?_ _|refine qs ?_ _)))⟩
theorem q4I(i:Nat)(hi:i<100)(w:World):Calls Tryz.prog 193 #[.agg q23,.int .i64 i] w fun e w'=>e=.returned (.int .i64 (spB 4 i:Nat))/\∃x,w'=ext w x:=by
 have h1:(i:Int).tdiv 4=((i/4:Nat):Int):=by norm_cast
 have hl:i/4<100:=by omega
 unfold q23 spB
 go_enter Tryz.func193,Tryz.ntmps193
 go_wp2
 all_goals
  go_ret;refine⟨?_,(qt (by repeat(first|exact qj _ _|assumption|refine qw ?_ _|refine qk ?_|refine qA ?_ _|refine qs ?_ _)))⟩
  first
   |(rw[show((i/4-1:Nat):Int)=(i:Int)/4-1 by omega];rfl)
   |(rw[show((i/4-1:Nat):Int)=0 by omega];rfl)
theorem q0E(i:Nat)(h:i<30):spB 4 i<=13:=by unfold spB;omega
theorem uT:∀i,i<=30->qL 3 4 i<=40000:=by
 intro i hi
 exact qa (rR 3 4 hi) (by decide)
theorem q3Q(w:World):Calls Tryz.prog 192 #[.agg q23] w fun e w'=>e=.returned (.agg (ints (nls (nM 3 4 28))).toArray)/\∃x,w'=ext w x:=by
 have HBI:=q7 (fun(i:Nat) (hi:i<100) (W:World)=>q4I i hi W)
 unfold q23 at HBI⊢;obtain⟨w1,hw1⟩:∃w1,w1=w.alloc (.cells #[.int .i64 257,.int .i64 28,.int .i64 3,.int .i64 4] 257):=⟨_,rfl⟩;have hz:=wH;obtain⟨Z,hZ⟩:∃Z,Z=z30:=⟨_,rfl⟩;rw[<-hZ]at hz;have hk:=qE w w.heap.size #[Value.int .i64 257,.int .i64 28,.int .i64 3,.int .i64 4] 257 (by simp) (q9 _)
 rw[<-hw1]at hk;have hs1:w1.heap.size=w.heap.size+1:=by rw[hw1];simp
 have hb1:=U6 w1 Z hZ;have hb2:=U6 (w1.alloc (.cells Z 281)) Z hZ;rw[show(w1.alloc (.cells Z 281)).heap.size=w.heap.size+2 by simp[hs1]]at hb2
 rw[hs1]at hb1;rw[<-zD 3 4]at hb2;obtain⟨O,hO⟩:∃O:List Int,O=nls (List.replicate 30 0):=⟨_,rfl⟩;rw[<-hO]at hb1;have HB1:=q7 (hb1.up (qn _ (.cells Z 281)));have HB2:=q7 hb2;have HK:=q7 ((hk.up (qn w1 (.cells Z 281))).up (qn _ (.cells Z 281)));have HBL:Hid (Below w.heap.size w ((w1.alloc (.cells Z 281)).alloc (.cells Z 281))):=q7 (by rw[hw1];exact(by repeat(first|exact qj _ _|assumption|refine qw ?_ _|refine qk ?_|refine qA ?_ _|refine qs ?_ _)))
 have HW1:=q7 hw1;have HS1:=q7 hs1;clear hw1 hZ hb1 hb2 hk hO hs1
 go_enter Tryz.func192,Tryz.ntmps192
 go_wp2;rw[<-HW1.out];generalize (w1.alloc (.cells Z 281)).alloc (.cells Z 281)=w3 at*
 go_loopg [4,10] (28+1) (fun gk nv iv wr=>∃k:Nat,nv=.int .i64 (qL 3 4 k:Nat)/\iv=.int .i64 k/\k<=28/\kS wr 281 30 (w.heap.size+2) (nls (nM 3 4 k))/\kS wr 281 30 (w.heap.size+1) O/\Own wr w.heap.size 257 (.slice (some ⟨w.heap.size,0,none⟩) 4 4) [.int .i64 257,.int .i64 28,.int .i64 3,.int .i64 4]/\Below w.heap.size w wr/\gk=28+1-k)
 case atStart=>exact⟨0,rfl,rfl,qc _,HB2.out,HB1.out,HK.out,HBL.out,rfl⟩
 case round=>
  clear HB2 HB1 HK HBL;obtain⟨k,rfl,rfl,hk,hb2,hb1,hkk,q8Z,rfl⟩:=hrel;have HB2:=q7 hb2;have HB1:=q7 hb1;have HK:=q7 hkk;have HBL:=q7 q8Z;have hsz:=q8Z.size;have hl2:=hb2.lt
  by_cases hlt:k<28
  ·have q9w:(k:Int)<28:=by omega
   have hc:=hb2.cell (c:=k) (by omega)
   rw[jb]at hc;have hf:=hb2.free k;have hst:=hb2.set k (qL 3 4 k:Nat);rw[i7,O0]at hst;have HST:=q7 hst;have hbs:=uT k (by omega)
   have qat:=q0E k (by omega)
   have hnx:=dC 3 4 k;have HNX:=q7 hnx;clear hb2 hb1 hkk q8Z hst hnx;obtain⟨A,hgA,hsA,hA⟩:=(HK.out.keep HST.out.2 (.inr (by simp[Value.ownBlock]))).whole
   have hA':A=#[.int .i64 257,.int .i64 28,.int .i64 3,.int .i64 4]:=by rw[<-Array.toArray_toList (xs:=A),hA]
   subst hA';clear hA hsA;generalize (nM 3 4 k).getD k 0=z at*;have HBK:=q7 (fun W=>HBI.out k (by omega) W)
   have HN1:Hid (((qL 3 4 (k+1):Nat):Int)=((qL 3 4 k:Nat):Int)+2^(spB 4 k)):=q7 (by rw[HNX.out];norm_cast)
   have hp:=qe (n:=2) (by decide) qat
   have hpi:(2:Int)^(spB 4 k)<=8192:=by
    have h:((2^spB 4 k:Nat):Int)<=8192:=by omega
    simpa using h
   have qet:(0:Int)<=(2:Int)^(spB 4 k):=Int.pow_nonneg (by decide)
   generalize qL 3 4 k=q at*;generalize spB 4 k=b at*
   go_wp2_with(first|(refine qI rfl 257 4 _ rfl w.heap.size rfl #[.int .i64 257,.int .i64 28,.int .i64 3,.int .i64 4] rfl hgA _ Tryz.underlying257 rfl (by kernel_rfl) ?_)|(go_at_call 193;(with_reducible refine(HBK.out _).mono ?_);rintro e w4 ⟨rfl,x4,rfl⟩))
   go_roundg (28+1-(k+1))
   case measure=>omega
   case rel=>exact⟨k+1,by rw[HN1.out],by go_num,by omega,HST.out.1.up (qu _ x4),(HB1.out.keep HST.out.2 (by simp)).up (qu _ x4),(HK.out.keep HST.out.2 (.inr (by simp[Value.ownBlock]))).up (qu _ x4),(HBL.out.grown HST.out.2 hsz (fun q hq=>by cases hq;omega)).trans ((qu _ x4).mono (qa hsz HST.out.2.size)),rfl⟩
  ·obtain rfl:k=28:=by omega
   obtain⟨A,hgA,hsA,hA⟩:=hb2.open;have HA:=q7 (congrArg List.toArray hA);clear hb2 hb1 hkk q8Z HB2 HK hA hlt
   go_wp2_with(first|(refine qI rfl 281 30 _ rfl (w.heap.size+2) rfl A hsA hgA _ Tryz.underlying281 rfl (by kernel_rfl) ?_)|(refine jD rfl 281 30 _ _ rfl (w.heap.size+1) rfl O (nls (nM 3 4 28)) (congrArg Value.agg HA.out) (by rw[qB,kY]) (by kernel_rfl) HB1.out ?_;intro w4 hB4 hg4;have HB4:=q7 hB4;have HG4:=q7 hg4;clear hB4 hg4))
   refine bC rfl rfl rfl (HB4.out.load _ Tryz.underlying281 rfl (by kernel_rfl)) ?_
   exact⟨rfl,qt (HBL.out.grown HG4.out hsz (fun q hq=>by cases hq;omega))⟩
theorem q7F(n:Nat)(hn:3<=n)(hn2:n<=40000)(w:World):Calls Tryz.prog 172 #[.agg q23,.int .i64 n] w fun e w'=>e=.returned (.tuple #[.int .i64 ((gE 257 3 4 n 27).s:Nat),.int .i64 ((gE 257 3 4 n 27).b:Nat),.int .i64 ((gE 257 3 4 n 27).v:Nat)])/\∃x,w'=ext w x:=by
 have HBI:=q7 (fun(i:Nat) (hi:i<100) (W:World)=>q4I i hi W)
 have HBA:=q7 (fun(W:World)=>q3Q W)
 obtain⟨s3,hs3⟩:∃s3,s3=gE 257 3 4 n 27:=⟨_,rfl⟩;rw[<-hs3];have HS3:=q7 hs3;clear hs3;unfold q23 at HBI HBA⊢;obtain⟨cl,hcl⟩:∃cl,cl=nls (nM 3 4 28):=⟨_,rfl⟩;rw[<-hcl]at HBA;have HCL:Hid (∀i,i<28->cl.getD i 0=(qL 3 4 i:Nat)):=q7 (fun i hi=>by rw[hcl,jb,nN _ _ _ _ (by omega),if_pos hi])
 have hll:cl.length=30:=by rw[hcl,qB,kY]
 clear hcl;have hz:=wH;obtain⟨Z,hZ⟩:∃Z,Z=z30:=⟨_,rfl⟩;rw[<-hZ]at hz;have qdv:=q7 (fun W=>U6 W Z hZ)
 clear hZ;obtain⟨w1,hw1⟩:∃w1,w1=w.alloc (.cells #[.int .i64 257,.int .i64 28,.int .i64 3,.int .i64 4] 257):=⟨_,rfl⟩;have hk:=qE w w.heap.size #[Value.int .i64 257,.int .i64 28,.int .i64 3,.int .i64 4] 257 (by simp) (q9 _)
 rw[<-hw1]at hk;have HK:=q7 hk;have HW1:=q7 hw1;have hb1:Below w.heap.size w w1:=by rw[hw1];exact qn _ _
 have HB1:=q7 hb1;obtain⟨A,hgA,hsA,hA⟩:=hk.whole;have hA':A=#[.int .i64 257,.int .i64 28,.int .i64 3,.int .i64 4]:=by rw[<-Array.toArray_toList (xs:=A),hA]
 subst hA';rw[hw1]at hgA;clear hA hsA hk hb1 hw1
 go_enter Tryz.func172,Tryz.ntmps172
 go_wp2_with(first|(refine qI rfl 257 4 _ rfl w.heap.size rfl #[.int .i64 257,.int .i64 28,.int .i64 3,.int .i64 4] rfl hgA _ Tryz.underlying257 rfl (by kernel_rfl) ?_)|(go_at_call 192;rw[<-HW1.out];(with_reducible refine(HBA.out _).mono ?_);rintro e w2 ⟨rfl,x2,rfl⟩;have HX2:=q7 (qu w1 x2);generalize ext w1 x2=w2 at*;have HB2:=q7 (qdv.out w2);have HK2:=q7 ((HK.out.up HX2.out).up (qn w2 (.cells Z 281)));clear qdv HK)|(refine jD rfl 281 30 _ _ rfl w2.heap.size rfl _ cl rfl hll (by kernel_rfl) HB2.out ?_;intro w4 hB4 hg4;have HB4:=q7 hB4;have HK4:=q7 (HK2.out.keep hg4 (.inr (by intro e;have e2:some w.heap.size=some w2.heap.size:=e;injection e2 with e2;have h1:=HX2.out.size;have h2:=(HK2.out.blk).1;have h3:=HB1.out.size;rw[HW1.out]at h1;simp at h1;omega)));have HL4:Hid (Below w.heap.size w w4):=q7 (((HB1.out.trans (HX2.out.mono HB1.out.size)).alloc (qa HB1.out.size HX2.out.size) _).grown hg4 (qa (qa HB1.out.size HX2.out.size) (qn _ _).size) (fun q hq=>by cases hq;exact qa HB1.out.size HX2.out.size));have c41:w4.cell? ⟨w.heap.size,1,none⟩=some (.int .i64 28):=HK4.out.cell (by simp);have b41:=HK4.out.blk.2;clear hB4 hg4 HB2 HK2))
 have hg4:=HB4.out.lt;have hb0:∀i,i<28->w4.cell? ⟨w2.heap.size,i,none⟩=some (.int .i64 (qL 3 4 i:Nat)):=fun i hi=>by rw[HB4.out.cell (by omega),HCL.out i hi]
 have HC0:=q7 hb0;obtain⟨A4,qeM,qeo,hA4⟩:=HK4.out.whole;have qfg:A4=#[.int .i64 257,.int .i64 28,.int .i64 3,.int .i64 4]:=by rw[<-Array.toArray_toList (xs:=A4),hA4]
 subst qfg;have c40:w4.cell? ⟨w.heap.size,0,none⟩=some (.int .i64 257):=HK4.out.cell (by simp)
 generalize w2.heap.size=q2 at*;clear hb0 hA4 qeo HCL HBA HB4 HK4 c41 hgA;have hgk:∀w',(∃x,w'=ext w4 x)->w'.heap[w.heap.size]? =some (.cells #[.int .i64 257,.int .i64 28,.int .i64 3,.int .i64 4] 257 (0,0)):=fun w' ⟨x,hx⟩=>by rw[hx,rC w4 x _ b41];exact qeM
 have HGK:=q7 hgk;clear hgk
 go_loopg [8] 27 (fun gk iv wr=>∃k:Nat,iv=.int .i64 k/\k<=27/\wr=w4/\Hid (aE 3 4 n 27=aE 3 4 n k)/\gk=k)
 case atStart=>exact⟨27,rfl,q9 _,rfl,q7 rfl,rfl⟩
 case round=>
  obtain⟨k,rfl,hk,rfl,HX,rfl⟩:=hrel;have hck:=HC0.out gk (by omega)
  by_cases h:qL 3 4 gk<=n
  ·have hd:decide ((qL 3 4 gk:Nat)>(n:Int))=false:=by rw[qm];omega
   have HE:Hid (s3.s=257+gk/\s3.b=spB 4 gk/\s3.v=n-qL 3 4 gk):=q7 (by
    have e:aE 3 4 n 27=gk:=by rw[HX.out];exact kR h
    rw[HS3.out];unfold gE;rw[e]
    exact⟨rfl,rfl,rfl⟩)
   have hv:((n-qL 3 4 gk:Nat):Int)=(n:Int)-(qL 3 4 gk:Nat):=by omega
   have HV:=q7 hv;have HBK:=q7 (fun W=>HBI.out gk (by omega) W)
   clear hv HX HC0 HS3;obtain⟨ss,sb,sv⟩:=s3;simp only at HE;obtain⟨b,hb⟩:∃b,b=spB 4 gk:=⟨_,rfl⟩;rw[<-hb]at HBK HE;clear hb;generalize qL 3 4 gk=q at*;generalize hvv:n-q=vv at*;clear hvv;go_wp2;refine qY (by kernel_rfl) (by kernel_rfl) ?_
   repeat(first|(go_big_quiet_want;refine jg 257 4 _ rfl w.heap.size rfl #[.int .i64 257,.int .i64 28,.int .i64 3,.int .i64 4] rfl HGK.out _ Tryz.underlying257 rfl (by kernel_rfl) ?_;go_simp;go_big_quiet_on)|go_big_quiet_step ((go_at_call 193;exact jx (HBK.out _))))
   refine wpQuiet_nil ?_;rintro w' ⟨x2,rfl⟩;go_wp2
   go_ret3
   obtain⟨e1,e2,e3⟩:=HE.out;subst e1 e2 e3;refine⟨?_,qt (HL4.out.trans ((qu _ _).mono HL4.out.size))⟩;rw[HV.out]
   (try rw[Nat.zero_add])
   rfl
  ·have hd:decide ((qL 3 4 gk:Nat)>(n:Int))=true:=by simp;omega
   obtain⟨j,rfl⟩:∃j,gk=j+1:=⟨gk-1,by
    rcases Nat.eq_zero_or_pos gk with h0|h0
    ·subst h0;exact absurd hn h
    ·omega⟩
   have HX2:Hid (aE 3 4 n 27=aE 3 4 n j):=q7 (by rw[HX.out];exact kQ (by omega))
   generalize qL 3 4 (j+1)=q at*;go_wp2
   go_roundg j
   case measure=>omega
   case rel=>exact⟨j,by go_num,by omega,rfl,HX2,rfl⟩
def q24:Array Value:=#[.int .i64 0,.int .i64 30,.int .i64 1,.int .i64 2]
theorem kd2(w:World):Calls Tryz.prog 173 #[] w fun e w'=>e=.returned (.agg q24)/\∃x,w'=ext w x:=by
 have HO:=q7 (qE w w.heap.size #[Value.int .i64 0,.int .i64 30,.int .i64 1,.int .i64 2] 257 (by simp) (q9 _))
 go_enter Tryz.func173,Tryz.ntmps173
 go_wp2;refine bC rfl rfl rfl (bD HO.out _ Tryz.underlying257 rfl (by kernel_rfl)) ?_
 exact⟨rfl,(qt (by repeat(first|exact qj _ _|assumption|refine qw ?_ _|refine qk ?_|refine qA ?_ _|refine qs ?_ _)))⟩
theorem q4J(i:Nat)(hi:i<100)(w:World):Calls Tryz.prog 193 #[.agg q24,.int .i64 i] w fun e w'=>e=.returned (.int .i64 (spB 2 i:Nat))/\∃x,w'=ext w x:=by
 have h1:(i:Int).tdiv 2=((i/2:Nat):Int):=by norm_cast
 have hl:i/2<100:=by omega
 unfold q24 spB
 go_enter Tryz.func193,Tryz.ntmps193
 go_wp2
 all_goals
  go_ret;refine⟨?_,(qt (by repeat(first|exact qj _ _|assumption|refine qw ?_ _|refine qk ?_|refine qA ?_ _|refine qs ?_ _)))⟩
  first
   |(rw[show((i/2-1:Nat):Int)=(i:Int)/2-1 by omega];rfl)
   |(rw[show((i/2-1:Nat):Int)=0 by omega];rfl)
theorem q0F(i:Nat)(h:i<30):spB 2 i<=13:=by unfold spB;omega
theorem uU:∀i,i<=30->qL 1 2 i<=40000:=by
 intro i hi
 exact qa (rR 1 2 hi) (by decide)
theorem q3R(w:World):Calls Tryz.prog 192 #[.agg q24] w fun e w'=>e=.returned (.agg (ints (nls (nM 1 2 30))).toArray)/\∃x,w'=ext w x:=by
 have HBI:=q7 (fun(i:Nat) (hi:i<100) (W:World)=>q4J i hi W)
 unfold q24 at HBI⊢;obtain⟨w1,hw1⟩:∃w1,w1=w.alloc (.cells #[.int .i64 0,.int .i64 30,.int .i64 1,.int .i64 2] 257):=⟨_,rfl⟩;have hz:=wH;obtain⟨Z,hZ⟩:∃Z,Z=z30:=⟨_,rfl⟩;rw[<-hZ]at hz;have hk:=qE w w.heap.size #[Value.int .i64 0,.int .i64 30,.int .i64 1,.int .i64 2] 257 (by simp) (q9 _)
 rw[<-hw1]at hk;have hs1:w1.heap.size=w.heap.size+1:=by rw[hw1];simp
 have hb1:=U6 w1 Z hZ;have hb2:=U6 (w1.alloc (.cells Z 281)) Z hZ;rw[show(w1.alloc (.cells Z 281)).heap.size=w.heap.size+2 by simp[hs1]]at hb2
 rw[hs1]at hb1;rw[<-zD 1 2]at hb2;obtain⟨O,hO⟩:∃O:List Int,O=nls (List.replicate 30 0):=⟨_,rfl⟩;rw[<-hO]at hb1;have HB1:=q7 (hb1.up (qn _ (.cells Z 281)));have HB2:=q7 hb2;have HK:=q7 ((hk.up (qn w1 (.cells Z 281))).up (qn _ (.cells Z 281)));have HBL:Hid (Below w.heap.size w ((w1.alloc (.cells Z 281)).alloc (.cells Z 281))):=q7 (by rw[hw1];exact(by repeat(first|exact qj _ _|assumption|refine qw ?_ _|refine qk ?_|refine qA ?_ _|refine qs ?_ _)))
 have HW1:=q7 hw1;have HS1:=q7 hs1;clear hw1 hZ hb1 hb2 hk hO hs1
 go_enter Tryz.func192,Tryz.ntmps192
 go_wp2;rw[<-HW1.out];generalize (w1.alloc (.cells Z 281)).alloc (.cells Z 281)=w3 at*
 go_loopg [4,10] (30+1) (fun gk nv iv wr=>∃k:Nat,nv=.int .i64 (qL 1 2 k:Nat)/\iv=.int .i64 k/\k<=30/\kS wr 281 30 (w.heap.size+2) (nls (nM 1 2 k))/\kS wr 281 30 (w.heap.size+1) O/\Own wr w.heap.size 257 (.slice (some ⟨w.heap.size,0,none⟩) 4 4) [.int .i64 0,.int .i64 30,.int .i64 1,.int .i64 2]/\Below w.heap.size w wr/\gk=30+1-k)
 case atStart=>exact⟨0,rfl,rfl,qc _,HB2.out,HB1.out,HK.out,HBL.out,rfl⟩
 case round=>
  clear HB2 HB1 HK HBL;obtain⟨k,rfl,rfl,hk,hb2,hb1,hkk,q8Z,rfl⟩:=hrel;have HB2:=q7 hb2;have HB1:=q7 hb1;have HK:=q7 hkk;have HBL:=q7 q8Z;have hsz:=q8Z.size;have hl2:=hb2.lt
  by_cases hlt:k<30
  ·have q9w:(k:Int)<30:=by omega
   have hc:=hb2.cell (c:=k) (by omega)
   rw[jb]at hc;have hf:=hb2.free k;have hst:=hb2.set k (qL 1 2 k:Nat);rw[i7,O0]at hst;have HST:=q7 hst;have hbs:=uU k (by omega)
   have qat:=q0F k (by omega)
   have hnx:=dC 1 2 k;have HNX:=q7 hnx;clear hb2 hb1 hkk q8Z hst hnx;obtain⟨A,hgA,hsA,hA⟩:=(HK.out.keep HST.out.2 (.inr (by simp[Value.ownBlock]))).whole
   have hA':A=#[.int .i64 0,.int .i64 30,.int .i64 1,.int .i64 2]:=by rw[<-Array.toArray_toList (xs:=A),hA]
   subst hA';clear hA hsA;generalize (nM 1 2 k).getD k 0=z at*;have HBK:=q7 (fun W=>HBI.out k (by omega) W)
   have HN1:Hid (((qL 1 2 (k+1):Nat):Int)=((qL 1 2 k:Nat):Int)+2^(spB 2 k)):=q7 (by rw[HNX.out];norm_cast)
   have hp:=qe (n:=2) (by decide) qat
   have hpi:(2:Int)^(spB 2 k)<=8192:=by
    have h:((2^spB 2 k:Nat):Int)<=8192:=by omega
    simpa using h
   have qet:(0:Int)<=(2:Int)^(spB 2 k):=Int.pow_nonneg (by decide)
   generalize qL 1 2 k=q at*;generalize spB 2 k=b at*
   go_wp2_with(first|(refine qI rfl 257 4 _ rfl w.heap.size rfl #[.int .i64 0,.int .i64 30,.int .i64 1,.int .i64 2] rfl hgA _ Tryz.underlying257 rfl (by kernel_rfl) ?_)|(go_at_call 193;(with_reducible refine(HBK.out _).mono ?_);rintro e w4 ⟨rfl,x4,rfl⟩))
   go_roundg (30+1-(k+1))
   case measure=>omega
   case rel=>exact⟨k+1,by rw[HN1.out],by go_num,by omega,HST.out.1.up (qu _ x4),(HB1.out.keep HST.out.2 (by simp)).up (qu _ x4),(HK.out.keep HST.out.2 (.inr (by simp[Value.ownBlock]))).up (qu _ x4),(HBL.out.grown HST.out.2 hsz (fun q hq=>by cases hq;omega)).trans ((qu _ x4).mono (qa hsz HST.out.2.size)),rfl⟩
  ·obtain rfl:k=30:=by omega
   obtain⟨A,hgA,hsA,hA⟩:=hb2.open;have HA:=q7 (congrArg List.toArray hA);clear hb2 hb1 hkk q8Z HB2 HK hA hlt
   go_wp2_with(first|(refine qI rfl 281 30 _ rfl (w.heap.size+2) rfl A hsA hgA _ Tryz.underlying281 rfl (by kernel_rfl) ?_)|(refine jD rfl 281 30 _ _ rfl (w.heap.size+1) rfl O (nls (nM 1 2 30)) (congrArg Value.agg HA.out) (by rw[qB,kY]) (by kernel_rfl) HB1.out ?_;intro w4 hB4 hg4;have HB4:=q7 hB4;have HG4:=q7 hg4;clear hB4 hg4))
   refine bC rfl rfl rfl (HB4.out.load _ Tryz.underlying281 rfl (by kernel_rfl)) ?_
   exact⟨rfl,qt (HBL.out.grown HG4.out hsz (fun q hq=>by cases hq;omega))⟩
theorem q7G(n:Nat)(hn:1<=n)(hn2:n<=40000)(w:World):Calls Tryz.prog 172 #[.agg q24,.int .i64 n] w fun e w'=>e=.returned (.tuple #[.int .i64 ((gE 0 1 2 n 29).s:Nat),.int .i64 ((gE 0 1 2 n 29).b:Nat),.int .i64 ((gE 0 1 2 n 29).v:Nat)])/\∃x,w'=ext w x:=by
 have HBI:=q7 (fun(i:Nat) (hi:i<100) (W:World)=>q4J i hi W)
 have HBA:=q7 (fun(W:World)=>q3R W)
 obtain⟨s3,hs3⟩:∃s3,s3=gE 0 1 2 n 29:=⟨_,rfl⟩;rw[<-hs3];have HS3:=q7 hs3;clear hs3;unfold q24 at HBI HBA⊢;obtain⟨cl,hcl⟩:∃cl,cl=nls (nM 1 2 30):=⟨_,rfl⟩;rw[<-hcl]at HBA;have HCL:Hid (∀i,i<30->cl.getD i 0=(qL 1 2 i:Nat)):=q7 (fun i hi=>by rw[hcl,jb,nN _ _ _ _ (by omega),if_pos hi])
 have hll:cl.length=30:=by rw[hcl,qB,kY]
 clear hcl;have hz:=wH;obtain⟨Z,hZ⟩:∃Z,Z=z30:=⟨_,rfl⟩;rw[<-hZ]at hz;have qdv:=q7 (fun W=>U6 W Z hZ)
 clear hZ;obtain⟨w1,hw1⟩:∃w1,w1=w.alloc (.cells #[.int .i64 0,.int .i64 30,.int .i64 1,.int .i64 2] 257):=⟨_,rfl⟩;have hk:=qE w w.heap.size #[Value.int .i64 0,.int .i64 30,.int .i64 1,.int .i64 2] 257 (by simp) (q9 _)
 rw[<-hw1]at hk;have HK:=q7 hk;have HW1:=q7 hw1;have hb1:Below w.heap.size w w1:=by rw[hw1];exact qn _ _
 have HB1:=q7 hb1;obtain⟨A,hgA,hsA,hA⟩:=hk.whole;have hA':A=#[.int .i64 0,.int .i64 30,.int .i64 1,.int .i64 2]:=by rw[<-Array.toArray_toList (xs:=A),hA]
 subst hA';rw[hw1]at hgA;clear hA hsA hk hb1 hw1
 go_enter Tryz.func172,Tryz.ntmps172
 go_wp2_with(first|(refine qI rfl 257 4 _ rfl w.heap.size rfl #[.int .i64 0,.int .i64 30,.int .i64 1,.int .i64 2] rfl hgA _ Tryz.underlying257 rfl (by kernel_rfl) ?_)|(go_at_call 192;rw[<-HW1.out];(with_reducible refine(HBA.out _).mono ?_);rintro e w2 ⟨rfl,x2,rfl⟩;have HX2:=q7 (qu w1 x2);generalize ext w1 x2=w2 at*;have HB2:=q7 (qdv.out w2);have HK2:=q7 ((HK.out.up HX2.out).up (qn w2 (.cells Z 281)));clear qdv HK)|(refine jD rfl 281 30 _ _ rfl w2.heap.size rfl _ cl rfl hll (by kernel_rfl) HB2.out ?_;intro w4 hB4 hg4;have HB4:=q7 hB4;have HK4:=q7 (HK2.out.keep hg4 (.inr (by intro e;have e2:some w.heap.size=some w2.heap.size:=e;injection e2 with e2;have h1:=HX2.out.size;have h2:=(HK2.out.blk).1;have h3:=HB1.out.size;rw[HW1.out]at h1;simp at h1;omega)));have HL4:Hid (Below w.heap.size w w4):=q7 (((HB1.out.trans (HX2.out.mono HB1.out.size)).alloc (qa HB1.out.size HX2.out.size) _).grown hg4 (qa (qa HB1.out.size HX2.out.size) (qn _ _).size) (fun q hq=>by cases hq;exact qa HB1.out.size HX2.out.size));have c41:w4.cell? ⟨w.heap.size,1,none⟩=some (.int .i64 30):=HK4.out.cell (by simp);have b41:=HK4.out.blk.2;clear hB4 hg4 HB2 HK2))
 have hg4:=HB4.out.lt;have hb0:∀i,i<30->w4.cell? ⟨w2.heap.size,i,none⟩=some (.int .i64 (qL 1 2 i:Nat)):=fun i hi=>by rw[HB4.out.cell (by omega),HCL.out i hi]
 have HC0:=q7 hb0;obtain⟨A4,qeM,qeo,hA4⟩:=HK4.out.whole;have qfg:A4=#[.int .i64 0,.int .i64 30,.int .i64 1,.int .i64 2]:=by rw[<-Array.toArray_toList (xs:=A4),hA4]
 subst qfg;have c40:w4.cell? ⟨w.heap.size,0,none⟩=some (.int .i64 0):=HK4.out.cell (by simp)
 generalize w2.heap.size=q2 at*;clear hb0 hA4 qeo HCL HBA HB4 HK4 c41 hgA;have hgk:∀w',(∃x,w'=ext w4 x)->w'.heap[w.heap.size]? =some (.cells #[.int .i64 0,.int .i64 30,.int .i64 1,.int .i64 2] 257 (0,0)):=fun w' ⟨x,hx⟩=>by rw[hx,rC w4 x _ b41];exact qeM
 have HGK:=q7 hgk;clear hgk
 go_loopg [8] 29 (fun gk iv wr=>∃k:Nat,iv=.int .i64 k/\k<=29/\wr=w4/\Hid (aE 1 2 n 29=aE 1 2 n k)/\gk=k)
 case atStart=>exact⟨29,rfl,q9 _,rfl,q7 rfl,rfl⟩
 case round=>
  obtain⟨k,rfl,hk,rfl,HX,rfl⟩:=hrel;have hck:=HC0.out gk (by omega)
  by_cases h:qL 1 2 gk<=n
  ·have hd:decide ((qL 1 2 gk:Nat)>(n:Int))=false:=by rw[qm];omega
   have HE:Hid (s3.s=0+gk/\s3.b=spB 2 gk/\s3.v=n-qL 1 2 gk):=q7 (by
    have e:aE 1 2 n 29=gk:=by rw[HX.out];exact kR h
    rw[HS3.out];unfold gE;rw[e]
    exact⟨rfl,rfl,rfl⟩)
   have hv:((n-qL 1 2 gk:Nat):Int)=(n:Int)-(qL 1 2 gk:Nat):=by omega
   have HV:=q7 hv;have HBK:=q7 (fun W=>HBI.out gk (by omega) W)
   clear hv HX HC0 HS3;obtain⟨ss,sb,sv⟩:=s3;simp only at HE;obtain⟨b,hb⟩:∃b,b=spB 2 gk:=⟨_,rfl⟩;rw[<-hb]at HBK HE;clear hb;generalize qL 1 2 gk=q at*;generalize hvv:n-q=vv at*;clear hvv;go_wp2;refine qY (by kernel_rfl) (by kernel_rfl) ?_
   repeat(first|(go_big_quiet_want;refine jg 257 4 _ rfl w.heap.size rfl #[.int .i64 0,.int .i64 30,.int .i64 1,.int .i64 2] rfl HGK.out _ Tryz.underlying257 rfl (by kernel_rfl) ?_;go_simp;go_big_quiet_on)|go_big_quiet_step ((go_at_call 193;exact jx (HBK.out _))))
   refine wpQuiet_nil ?_;rintro w' ⟨x2,rfl⟩;go_wp2
   go_ret3
   obtain⟨e1,e2,e3⟩:=HE.out;subst e1 e2 e3;refine⟨?_,qt (HL4.out.trans ((qu _ _).mono HL4.out.size))⟩;rw[HV.out]
   (try rw[Nat.zero_add])
   rfl
  ·have hd:decide ((qL 1 2 gk:Nat)>(n:Int))=true:=by simp;omega
   obtain⟨j,rfl⟩:∃j,gk=j+1:=⟨gk-1,by
    rcases Nat.eq_zero_or_pos gk with h0|h0
    ·subst h0;exact absurd hn h
    ·omega⟩
   have HX2:Hid (aE 1 2 n 29=aE 1 2 n j):=q7 (by rw[HX.out];exact kQ (by omega))
   generalize qL 1 2 (j+1)=q at*;go_wp2
   go_roundg j
   case measure=>omega
   case rel=>exact⟨j,by go_num,by omega,rfl,HX2,rfl⟩
theorem jH{fn:Func}{t u v x:Tmp}(h:fn.results=#[.tmp t,.tmp u,.tmp v,.tmp x])(tmps:Array Value)(P:Program)(w:World):
  (results fn tmps).run P w=.ok (.tuple #[tmps.getD t undef,tmps.getD u undef,tmps.getD v undef,tmps.getD x undef]) w:=by
 simp[results,h]
def q25(y:q7h):Value:=.tuple #[.int .i64 y.s,.int .i64 y.b,.int .i64 y.v,.int .i64 y.e]
theorem q6m(n:Int)(hn1: -9223372036854775808<=n)(hn2:n<=9223372036854775807)(w:World):Calls Tryz.prog 143 #[.int .i64 n] w fun e w'=>e=.returned (q25 (aA n))/\∃x,w'=ext w x:=by
 have HK:=q7 kd4;obtain⟨y,hy⟩:∃y,y=aA n:=⟨_,rfl⟩;rw[<-hy];have HY:=q7 hy;clear hy;unfold aA at HY
 by_cases h:n<3\/258<n
 ·have hor:decide (n<3)=true\/(decide (n<3)=false/\decide (n>258)=true):=by
   by_cases h1:n<3
   ·exact .inl (by simpa using h1)
   ·exact .inr ⟨by simpa using h1,by rw[decide_eq_true_iff];omega⟩
  rw[if_pos h]at HY;clear h
  rcases hor with h|⟨h1,h2⟩<;>
  ·go_enter Tryz.func143,Tryz.ntmps143
   go_wp2;refine bodyPost_ret (jH rfl _ _ _) rfl ?_
   exact⟨by rw[HY.out];rfl,(qt (by repeat(first|exact qj _ _|assumption|refine qw ?_ _|refine qk ?_|refine qA ?_ _|refine qs ?_ _)))⟩
 ·rw[if_neg h]at HY
  have h1:decide (n<3)=false:=by rw[qm];omega
  have h2:decide (n>258)=false:=by rw[qm];omega
  by_cases h3:n=258
  ·rw[if_pos h3]at HY
   subst h3;clear h h1 h2
   go_enter Tryz.func143,Tryz.ntmps143
   go_wp2;refine bodyPost_ret (jH rfl _ _ _) rfl ?_
   exact⟨by rw[HY.out];rfl,(qt (by repeat(first|exact qj _ _|assumption|refine qw ?_ _|refine qk ?_|refine qA ?_ _|refine qs ?_ _)))⟩
  ·rw[if_neg h3]at HY
   have h3i:(n==258)=false:=by simpa using h3
   obtain⟨m,rfl⟩:∃m:Nat,n=m:=⟨n.toNat,by omega⟩
   rw[Int.toNat_natCast]at HY;have HSY:=q7 (fun W=>q7F m (by omega) (by omega) W)
   rw[<-HY.out]at HSY;have HE:Hid (y.e=0):=q7 (by rw[HY.out];rfl)
   clear h h3 HY
   go_enter Tryz.func143,Tryz.ntmps143
   go_wp2_with(first|(go_at_call 171;(with_reducible refine(HK.out _).mono ?_);rintro e w2 ⟨rfl,x2,rfl⟩)|(go_at_call 172;(with_reducible refine(HSY.out _).mono ?_);rintro e w3 ⟨rfl,x3,rfl⟩))
   refine bodyPost_ret (jH rfl _ _ _) rfl ?_;refine⟨?_,(qt (by repeat(first|exact qj _ _|assumption|refine qw ?_ _|refine qk ?_|refine qA ?_ _|refine qs ?_ _)))⟩
   unfold q25;rw[HE.out]
   rfl
theorem q6n(n:Int)(hn1: -9223372036854775808<=n)(hn2:n<=9223372036854775807)(w:World):Calls Tryz.prog 144 #[.int .i64 n] w fun e w'=>e=.returned (q25 (aM n))/\∃x,w'=ext w x:=by
 have HK:=q7 kd2;obtain⟨y,hy⟩:∃y,y=aM n:=⟨_,rfl⟩;rw[<-hy];have HY:=q7 hy;clear hy;unfold aM at HY
 by_cases h:n<1\/32768<n
 ·have hor:decide (n<1)=true\/(decide (n<1)=false/\decide (n>32768)=true):=by
   by_cases h1:n<1
   ·exact .inl (by simpa using h1)
   ·exact .inr ⟨by simpa using h1,by rw[decide_eq_true_iff];omega⟩
  rw[if_pos h]at HY;clear h
  rcases hor with h|⟨h1,h2⟩<;>
  ·go_enter Tryz.func144,Tryz.ntmps144
   go_wp2;refine bodyPost_ret (jH rfl _ _ _) rfl ?_
   exact⟨by rw[HY.out];rfl,(qt (by repeat(first|exact qj _ _|assumption|refine qw ?_ _|refine qk ?_|refine qA ?_ _|refine qs ?_ _)))⟩
 ·rw[if_neg h]at HY
  have h1:decide (n<1)=false:=by rw[qm];omega
  have h2:decide (n>32768)=false:=by rw[qm];omega
  obtain⟨m,rfl⟩:∃m:Nat,n=m:=⟨n.toNat,by omega⟩
  rw[Int.toNat_natCast]at HY;have HSY:=q7 (fun W=>q7G m (by omega) (by omega) W)
  rw[<-HY.out]at HSY;have HE:Hid (y.e=0):=q7 (by rw[HY.out];rfl)
  clear h HY
  go_enter Tryz.func144,Tryz.ntmps144
  go_wp2_with(first|(go_at_call 173;(with_reducible refine(HK.out _).mono ?_);rintro e w2 ⟨rfl,x2,rfl⟩)|(go_at_call 172;(with_reducible refine(HSY.out _).mono ?_);rintro e w3 ⟨rfl,x3,rfl⟩))
  refine bodyPost_ret (jH rfl _ _ _) rfl ?_;refine⟨?_,(qt (by repeat(first|exact qj _ _|assumption|refine qw ?_ _|refine qk ?_|refine qA ?_ _|refine qs ?_ _)))⟩
  unfold q25;rw[HE.out]
  rfl
end Go.Cm
