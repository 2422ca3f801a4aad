/- Walks of functions and plain facts, joined and squeezed by a program. Conditions: as each says. -/
import Derived.Laws.EntriesVeiled
import Derived.Shelf.Abstract
import Derived.WalkMore
import Derived.Test.YtnelgjehpbjloaaGreatDoorGXG
set_option maxHeartbeats 8000000
set_option maxRecDepth 100000
set_option linter.unusedSimpArgs false
namespace Go.Cm
open Go.RowKit Go.Proofs
def Y0(y:Nat×Nat×Bool):Value:=.tuple #[.int .i64 (y.1:Nat),.int .i64 (y.2.1:Nat),.bool y.2.2]
theorem aP{fn:Func}{t u v:Tmp}(h:fn.results=#[.tmp t,.tmp u,.tmp v])(tmps:Array Value)(P:Program)(w:World):
  (results fn tmps).run P w=.ok (.tuple #[tmps.getD t undef,tmps.getD u undef,tmps.getD v undef]) w:=by
 simp[results,h]
theorem q8N(s:Nat)(hs:s<100000)(w:World):Calls Tryz.prog 212 #[.agg q23,.int .i64 (s:Nat)] w fun e w'=>e=.returned (Y0 (if 257<=s/\s<285 then(qL 3 4 (s-257),spB 4 (s-257),true)else(0,0,false)))/\∃x,w'=ext w x:=by
 have HBA:=q7 (fun(W:World)=>q3Q W)
 obtain⟨y,hy⟩:∃y,y=(if 257<=s/\s<285 then(qL 3 4 (s-257),spB 4 (s-257),true)else(0,0,false)):=⟨_,rfl⟩
 rw[<-hy];have HY:=q7 hy;clear hy;unfold q23 at HBA⊢;have hk:=qE w w.heap.size #[Value.int .i64 257,.int .i64 28,.int .i64 3,.int .i64 4] 257 (by simp) (q9 _)
 obtain⟨w1,hw1⟩:∃w1,w1=w.alloc (.cells #[.int .i64 257,.int .i64 28,.int .i64 3,.int .i64 4] 257):=⟨_,rfl⟩;rw[<-hw1]at hk;have HK:=q7 hk;have HW1:=q7 hw1;have HB1:Hid (Below w.heap.size w w1):=q7 (by rw[hw1];exact qn _ _)
 have hg:w.heap.size<w1.heap.size:=hk.blk.2;have c0:w1.cell? ⟨w.heap.size,0,none⟩=some (.int .i64 257):=hk.cell (by simp)
 have c1:w1.cell? ⟨w.heap.size,1,none⟩=some (.int .i64 28):=hk.cell (by simp)
 clear hk hw1
 by_cases h:257<=s/\s<285
 ·obtain⟨i,hsi⟩:∃i,i=s-257:=⟨_,rfl⟩
  rw[if_pos h,<-hsi]at HY;have hi:i<28:=by omega
  have HBI:=q7 (fun(W:World)=>q4I i (by omega) W)
  unfold q23 at HBI;have h1:(s:Int)-257=(i:Nat):=by omega
  have h2:¬s<257:=by omega
  have h3:¬28<=i:=by omega
  obtain⟨X,hX⟩:∃X,X=(ints (nls (nM 3 4 28))).toArray:=⟨_,rfl⟩;rw[<-hX]at HBA;obtain⟨bs,hbs⟩:∃bs,bs=qL 3 4 i:=⟨_,rfl⟩;obtain⟨bt,hbt⟩:∃bt,bt=spB 4 i:=⟨_,rfl⟩;rw[<-hbs,<-hbt]at HY;rw[<-hbt]at HBI
  have hXi:X[i]? =some (.int .i64 (bs:Nat)):=by
   rw[hX,hbs];have e:(nls (nM 3 4 28)).getD i 0=(qL 3 4 i:Nat):=by rw[jb,nN _ _ _ _ (by omega),if_pos hi]
   have hl:i<(nls (nM 3 4 28)).length:=by rw[qB,kY];omega
   have h2:=eV (nls (nM 3 4 28)) i hl;rw[e]at h2;simp only[List.getElem?_toArray];rw[<-h2,List.getD_eq_getElem?_getD,List.getElem?_eq_getElem (by simpa using hl)]
   rfl
  have hix:=eQ (P:=Tryz.prog) 281 3 30 Tryz.underlying281 Tryz.underlying3 (by kernel_rfl) X i (by omega) _ hXi
  have HGK:Hid (∀w',(∃x,w'=ext w1 x)->w'.heap[w.heap.size]? =some (.cells #[.int .i64 257,.int .i64 28,.int .i64 3,.int .i64 4] 257 (0,0))):=q7 (fun w' ⟨x,hx⟩=>by
   obtain⟨A,hgA,hsA,hA⟩:=HK.out.whole;have hA':A=#[.int .i64 257,.int .i64 28,.int .i64 3,.int .i64 4]:=by rw[<-Array.toArray_toList (xs:=A),hA]
   subst hA';rw[hx,rC w1 x _ hg];exact hgA)
  clear h hX hbs hbt hXi hsi hs
  go_enter Tryz.func212,Tryz.ntmps212
  go_upto_region 1 with(fail)
  rw[<-HW1.out]
  go_upto_region 4 with(fail)
  refine qY (by kernel_rfl) (by kernel_rfl) ?_
  repeat(first
   |(go_big_quiet_want;refine jg 257 4 _ rfl w.heap.size rfl #[.int .i64 257,.int .i64 28,.int .i64 3,.int .i64 4] rfl HGK.out _ Tryz.underlying257 rfl (by kernel_rfl) ?_;go_simp;go_big_quiet_on)
   |go_big_quiet_step (first|(go_at_call 192;exact jx (HBA.out _))|(go_at_call 193;exact jx (HBI.out _))))
  refine wpQuiet_nil ?_;rintro w' ⟨y4,rfl⟩;go_wp2;refine bodyPost_ret (aP rfl _ _ _) rfl ?_;refine⟨?_,qt (HB1.out.trans ((qu w1 y4).mono HB1.out.size))⟩;unfold Y0;rw[HY.out]
  rfl
 ·rw[if_neg h]at HY
  have hor:s<257\/(¬s<257/\∃k:Nat,(s:Int)-257=(k:Nat)/\decide (28<=k)=true/\k<100000/\¬k<28):=by
   by_cases h1:s<257
   ·exact .inl h1
   ·exact .inr ⟨h1,s-257,by omega,by rw[decide_eq_true_eq];omega,by omega,by omega⟩
  clear h
  rcases hor with h1|⟨h1,k,hk1,hk2,hk3,hk4⟩<;>
  ·go_enter Tryz.func212,Tryz.ntmps212
   go_upto_region 1 with(fail)
   rw[<-HW1.out];go_wp2;refine bodyPost_ret (aP rfl _ _ _) rfl ?_;refine⟨?_,qt HB1.out⟩;unfold Y0;rw[HY.out]
   rfl
theorem q8O(s:Nat)(hs:s<100000)(w:World):Calls Tryz.prog 212 #[.agg q24,.int .i64 (s:Nat)] w fun e w'=>e=.returned (Y0 (if 0<=s/\s<30 then(qL 1 2 (s-0),spB 2 (s-0),true)else(0,0,false)))/\∃x,w'=ext w x:=by
 have HBA:=q7 (fun(W:World)=>q3R W)
 obtain⟨y,hy⟩:∃y,y=(if 0<=s/\s<30 then(qL 1 2 (s-0),spB 2 (s-0),true)else(0,0,false)):=⟨_,rfl⟩
 rw[<-hy];have HY:=q7 hy;clear hy;unfold q24 at HBA⊢;have hk:=qE w w.heap.size #[Value.int .i64 0,.int .i64 30,.int .i64 1,.int .i64 2] 257 (by simp) (q9 _)
 obtain⟨w1,hw1⟩:∃w1,w1=w.alloc (.cells #[.int .i64 0,.int .i64 30,.int .i64 1,.int .i64 2] 257):=⟨_,rfl⟩;rw[<-hw1]at hk;have HK:=q7 hk;have HW1:=q7 hw1;have HB1:Hid (Below w.heap.size w w1):=q7 (by rw[hw1];exact qn _ _)
 have hg:w.heap.size<w1.heap.size:=hk.blk.2;have c0:w1.cell? ⟨w.heap.size,0,none⟩=some (.int .i64 0):=hk.cell (by simp)
 have c1:w1.cell? ⟨w.heap.size,1,none⟩=some (.int .i64 30):=hk.cell (by simp)
 clear hk hw1
 by_cases h:0<=s/\s<30
 ·obtain⟨i,hsi⟩:∃i,i=s-0:=⟨_,rfl⟩
  rw[if_pos h,<-hsi]at HY;have hi:i<30:=by omega
  obtain rfl:i=s:=by omega
  have HBI:=q7 (fun(W:World)=>q4J i (by omega) W)
  unfold q24 at HBI;have h3:¬30<=i:=by omega
  obtain⟨X,hX⟩:∃X,X=(ints (nls (nM 1 2 30))).toArray:=⟨_,rfl⟩;rw[<-hX]at HBA;obtain⟨bs,hbs⟩:∃bs,bs=qL 1 2 i:=⟨_,rfl⟩;obtain⟨bt,hbt⟩:∃bt,bt=spB 2 i:=⟨_,rfl⟩;rw[<-hbs,<-hbt]at HY;rw[<-hbt]at HBI
  have hXi:X[i]? =some (.int .i64 (bs:Nat)):=by
   rw[hX,hbs];have e:(nls (nM 1 2 30)).getD i 0=(qL 1 2 i:Nat):=by rw[jb,nN _ _ _ _ (by omega),if_pos hi]
   have hl:i<(nls (nM 1 2 30)).length:=by rw[qB,kY];omega
   have h2:=eV (nls (nM 1 2 30)) i hl;rw[e]at h2;simp only[List.getElem?_toArray];rw[<-h2,List.getD_eq_getElem?_getD,List.getElem?_eq_getElem (by simpa using hl)]
   rfl
  have hix:=eQ (P:=Tryz.prog) 281 3 30 Tryz.underlying281 Tryz.underlying3 (by kernel_rfl) X i (by omega) _ hXi
  have HGK:Hid (∀w',(∃x,w'=ext w1 x)->w'.heap[w.heap.size]? =some (.cells #[.int .i64 0,.int .i64 30,.int .i64 1,.int .i64 2] 257 (0,0))):=q7 (fun w' ⟨x,hx⟩=>by
   obtain⟨A,hgA,hsA,hA⟩:=HK.out.whole;have hA':A=#[.int .i64 0,.int .i64 30,.int .i64 1,.int .i64 2]:=by rw[<-Array.toArray_toList (xs:=A),hA]
   subst hA';rw[hx,rC w1 x _ hg];exact hgA)
  clear h hX hbs hbt hXi hsi
  go_enter Tryz.func212,Tryz.ntmps212
  go_upto_region 1 with(fail)
  rw[<-HW1.out]
  go_upto_region 4 with(fail)
  refine qY (by kernel_rfl) (by kernel_rfl) ?_
  repeat(first
   |(go_big_quiet_want;refine jg 257 4 _ rfl w.heap.size rfl #[.int .i64 0,.int .i64 30,.int .i64 1,.int .i64 2] rfl HGK.out _ Tryz.underlying257 rfl (by kernel_rfl) ?_;go_simp;go_big_quiet_on)
   |go_big_quiet_step (first|(go_at_call 192;exact jx (HBA.out _))|(go_at_call 193;exact jx (HBI.out _))))
  refine wpQuiet_nil ?_;rintro w' ⟨y4,rfl⟩;go_wp2;refine bodyPost_ret (aP rfl _ _ _) rfl ?_;refine⟨?_,qt (HB1.out.trans ((qu w1 y4).mono HB1.out.size))⟩;unfold Y0;rw[HY.out]
  rfl
 ·rw[if_neg h]at HY
  have hk2:decide (30<=s)=true:=by rw[decide_eq_true_eq];omega
  have hk3:decide ((30:Int)<=(s:Nat))=true:=by rw[decide_eq_true_eq];omega
  clear h
  ·go_enter Tryz.func212,Tryz.ntmps212
   go_upto_region 1 with(fail)
   rw[<-HW1.out];go_wp2;refine bodyPost_ret (aP rfl _ _ _) rfl ?_;refine⟨?_,qt HB1.out⟩;unfold Y0;rw[HY.out]
   rfl
theorem q7T(s:Nat)(hs:s<100000)(w:World):Calls Tryz.prog 209 #[.int .i64 (s:Nat)] w fun e w'=>e=.returned (Y0 (bP s))/\∃x,w'=ext w x:=by
 have HO:=q7 (fun W=>q8N s hs W)
 have HKD:=q7 kd4;unfold bP
 by_cases h:s=285
 ·simp only[if_pos h]
  have hi:((s:Int)==285)=true:=by rw[h];rfl
  subst h
  go_enter Tryz.func209,Tryz.ntmps209
  go_wp2;refine bodyPost_ret (aP rfl _ _ _) rfl ?_
  exact⟨rfl,(qt (by repeat(first|exact qj _ _|assumption|refine qw ?_ _|refine qk ?_|refine qA ?_ _|refine qs ?_ _)))⟩
 ·simp only[if_neg h]
  obtain⟨y,hy⟩:∃y,y=(if 257<=s/\s<285 then(qL 3 4 (s-257),spB 4 (s-257),true)else(0,0,false)):=⟨_,rfl⟩
  rw[<-hy]at HO⊢;have hi:((s:Int)==285)=false:=by simp;omega
  have hn:¬s=285:=h;clear hy;unfold Y0 at HO⊢
  go_enter Tryz.func209,Tryz.ntmps209
  go_wp2_with(first|((with_reducible go_at_call 171);(with_reducible refine(HKD.out _).mono ?_);rintro e w2 ⟨rfl,x2,rfl⟩)|((with_reducible go_at_call 212);(with_reducible refine(HO.out _).mono ?_);rintro e w3 ⟨rfl,x3,rfl⟩))
  refine bodyPost_ret (aP rfl _ _ _) rfl ?_
  exact⟨rfl,(qt (by repeat(first|exact qj _ _|assumption|refine qw ?_ _|refine qk ?_|refine qA ?_ _|refine qs ?_ _)))⟩
theorem q7U(s:Nat)(hs:s<100000)(w:World):Calls Tryz.prog 210 #[.int .i64 (s:Nat)] w fun e w'=>e=.returned (Y0 (gX s))/\∃x,w'=ext w x:=by
 have HO:=q7 (fun W=>q8O s hs W)
 have HKD:=q7 kd2;have e:gX s=(if 0<=s/\s<30 then(qL 1 2 (s-0),spB 2 (s-0),true)else(0,0,false)):=by unfold gX;simp
 rw[e];obtain⟨y,hy⟩:∃y,y=(if 0<=s/\s<30 then(qL 1 2 (s-0),spB 2 (s-0),true)else(0,0,false)):=⟨_,rfl⟩
 rw[<-hy]at HO⊢;clear hy e;unfold Y0 at HO⊢
 go_enter Tryz.func210,Tryz.ntmps210
 go_wp2_with(first|((with_reducible go_at_call 173);(with_reducible refine(HKD.out _).mono ?_);rintro e w2 ⟨rfl,x2,rfl⟩)|((with_reducible go_at_call 212);(with_reducible refine(HO.out _).mono ?_);rintro e w3 ⟨rfl,x3,rfl⟩))
 refine bodyPost_ret (aP rfl _ _ _) rfl ?_
 exact⟨rfl,(qt (by repeat(first|exact qj _ _|assumption|refine qw ?_ _|refine qk ?_|refine qA ?_ _|refine qs ?_ _)))⟩
theorem q1b(s:ByteArray)(a n:Nat)(h:a+n<=s.size)(W:World):(Instr.sliceAt 9 (.string s) (some (.int .i64 (a:Int))) (some (.int .i64 ((a+n:Nat):Int))) none).run Tryz.prog W=.ok (.string ⟨(((bys s).drop a).take n).toArray⟩) W:=by
 rw[run_sliceAt_string (P:=Tryz.prog) (t:=9) (h:=Tryz.underlying9)];have:=Go.run_slice_string (P:=Tryz.prog) (w:=W) 9 s .i64 .i64 (a:Int) ((a+n:Nat):Int) Tryz.underlying9 (by omega) (by omega) (by omega)
 rw[this]
 have e:s.extract (a:Int).toNat ((a+n:Nat):Int).toNat=⟨(((bys s).drop a).take n).toArray⟩:=by
  rw[Int.toNat_natCast,Int.toNat_natCast,q5e (s.extract _ _),mB,Nat.add_sub_cancel_left]
 rw[e]
theorem q5f{w:World}{g p:Nat}{s:ByteArray}(h:cX w g s p)(hs:s.size<=4294967296)(n:Nat)(hp:p%8=0)(hn:p+8*n<=8*s.size):Calls Tryz.prog 199 #[.pointer (some ⟨g,0,none⟩),.int .i64 (n:Nat)] w fun e w'=>e=.returned (.tuple #[.string ⟨(((bys s).drop (p/8)).take n).toArray⟩,.int .i64 0])/\cX w' g s (p+8*n)/\w.grownBy w' (some g):=by
 have HB:=q7 h;have HT:=q7 (nD h);have HL:=q7 (q08 h hs (by omega))
 have c1:=h.c1;have c2:=h.c2;have f2:=h.free 2;have hg:=h.lt;have hp8:(p:Int).tmod 8=0:=by rw[Int.tmod_eq_emod_of_nonneg (by omega)];omega
 have hp9:(p:Int)%8=0:=by omega
 obtain⟨a,ha⟩:∃a,a=p/8:=⟨_,rfl⟩;have hpd:(p:Int).tdiv 8=(a:Nat):=by rw[Int.tdiv_eq_ediv_of_nonneg (by omega)];omega
 have hpe:(p:Int)/8=(a:Nat):=by omega
 obtain⟨q,hq⟩:∃q,q=8*s.size-p:=⟨_,rfl⟩;rw[<-hq]at HL;obtain⟨q8,hq8⟩:∃q8,q8=q/8:=⟨_,rfl⟩;have hqd:(q:Int).tdiv 8=(q8:Nat):=by rw[Int.tdiv_eq_ediv_of_nonneg (by omega)];omega
 have hqe:(q:Int)/8=(q8:Nat):=by omega
 have hnl:¬q8<n:=by omega
 have hqb:q8<=4294967296:=by omega
 have hsl:=fun W=>q1b s a n (by omega) W
 obtain⟨m,hm⟩:∃m,m=a+n:=⟨_,rfl⟩;rw[<-hm]at hsl;have HSL:=q7 hsl;have hst:=fun x=>(h.up (qu w x)).set2 (p+8*n)
 obtain⟨r,hr⟩:∃r,r=p+8*n:=⟨_,rfl⟩;rw[<-hr]at hst⊢;have HST:=q7 hst;clear hsl hst;have hpn:(p:Int)+8*(n:Int)=(r:Nat):=by omega
 have han:(a:Int)+(n:Int)=(m:Nat):=by omega
 have hab:m<=4294967296:=by omega
 have hnb:n<=4294967296:=by omega
 have hpb:r<=40000000000:=by omega
 have hn0:¬(n:Int)<0:=by omega
 rw[<-ha];have HP:=q7 hp;clear h ha hq hq8 hp hn hs hm hr
 go_enter Tryz.func199,Tryz.ntmps199
 go_wp2_with(first|((with_reducible go_at_call 158);(with_reducible refine HT.out.mono ?_);rintro e w' ⟨rfl,hw⟩;rw[hw];clear hw)|((with_reducible go_at_call 198);(with_reducible refine HL.out.mono ?_);rintro e w1 ⟨rfl,x1,rfl⟩)|((with_reducible show wpList _ _ _ (Oper.mk _ (.slice _ _ _ _ _) _ _ _ _::_) _ _);refine jQ rfl 9 (.tmp 45) (some (.tmp 46)) (some (.tmp 49)) none rfl _ (HSL.out _) ?_))
 go_ret2
 exact⟨rfl,(HST.out x1).1,qp (qv (qu w x1) _) (HST.out x1).2⟩
structure MV where
 at_:Nat
 fin:Bool
 left:Nat
 vl:Value
 vd:Value
 made:Nat
 told:Nat
 waits:ByteArray
 wrong:Nat
 vs:Value
 vf:Value
def mvC(gr gw:Nat)(m:MV):List Value:=[.pointer (some ⟨gr,0,none⟩),.pointer (some ⟨gw,0,none⟩),.int .i64 m.at_,.bool m.fin,.int .i64 m.left,m.vl,m.vd,.int .i64 m.made,.int .i64 m.told,.string m.waits,.int .i64 m.wrong,m.vs,m.vf]
def mR(w:World)(B gm gr gw:Nat)(m:MV):Prop:=Own w B 200 (.slice (some ⟨gm,0,none⟩) 13 13) (mvC gr gw m)
theorem mR.cell{w:World}{B gm gr gw:Nat}{m:MV}(h:mR w B gm gr gw m){i:Nat}(hi:i<13):w.cell? ⟨gm,i,none⟩=some ((mvC gr gw m).getD i undef):=Own.cell h (by simpa[mvC]using hi)
theorem mR.free{w:World}{B gm gr gw:Nat}{m:MV}(h:mR w B gm gr gw m)(i:Nat):w.frozen? ⟨gm,i,none⟩=false:=Own.free h i
theorem mR.blk{w:World}{B gm gr gw:Nat}{m:MV}(h:mR w B gm gr gw m):B<=gm/\gm<w.heap.size:=Own.blk h
theorem mR.up{w w':World}{B gm gr gw:Nat}{m:MV}(h:mR w B gm gr gw m)(hb:Below w.heap.size w w'):mR w' B gm gr gw m:=Own.up h hb
theorem mR.fx{S:Nat->Prop}{w w':World}{B gm gr gw:Nat}{m:MV}(h:mR w B gm gr gw m)(hf:Fx S w w')(h1:¬S gm):mR w' B gm gr gw m:=hf.own h (fun k hk=>by injection hk with hk;subst hk;exact h1)
theorem mR.set{w:World}{B gm gr gw:Nat}{m m':MV}(h:mR w B gm gr gw m)(i:Nat)(v:Value)(hv:(mvC gr gw m).set i v=mvC gr gw m'):mR (w.setCell ⟨gm,i,none⟩ v) B gm gr gw m'/\w.grownBy (w.setCell ⟨gm,i,none⟩ v) (some gm):=by
 have:=Own.store h i v;rw[hv]at this
 exact this
def fnV(k:Nat):Value:=if k=0 then .func (.func 124) #[] #[]else if k=1 then .func (.func 183) #[] #[]else .func (.func 184) #[] #[]
def MV.turn(m:MV)(k:Nat):MV:={m with at_:=k,vf:=if k<3 then fnV k else m.vf}
theorem q1m{w:World}{B gm gr gw:Nat}{m:MV}(h:mR w B gm gr gw m):Calls Tryz.prog 125 #[.pointer (some ⟨gm,0,none⟩)] w fun e w'=>e=.returned (.bool true)/\w'=w:=by
 have c0:w.cell? ⟨gm,0,none⟩=some (.pointer (some ⟨gr,0,none⟩)):=h.cell (by decide)
 go_enter Tryz.func125,Tryz.ntmps125
 go_wp2;go_ret
 exact⟨rfl,rfl⟩
theorem q3b{w:World}{B gm gr gw:Nat}{m:MV}(h:mR w B gm gr gw m)(k:Nat)(hk:k<=3):Calls Tryz.prog 156 #[.pointer (some ⟨gm,0,none⟩),.int .i64 (k:Nat)] w fun e w'=>e=.returned (.tuple #[])/\mR w' B gm gr gw (m.turn k)/\w.grownBy w' (some gm):=by
 obtain⟨h2,g2⟩:=h.set 2 (.int .i64 (k:Nat)) (m':={m with at_:=k}) rfl
 have c2:w.cell? ⟨gm,2,none⟩=some (.int .i64 m.at_):=h.cell (by decide)
 have f2:=h.free 2;have hg:=h.blk.2;have HG2:=q7 g2;have H2:=q7 h2;have c12:(w.setCell ⟨gm,2,none⟩ (.int .i64 (k:Nat))).cell? ⟨gm,12,none⟩=some m.vf:=h2.cell (by decide)
 have f12:=h2.free 12;have hg2:=h2.blk.2;have HS:=q7 (fun(v:Value)=>h2.set 12 v (m':={m with at_:=k,vf:=v}) rfl)
 clear h2 g2 h
 rcases(show k=0\/k=1\/k=2\/k=3 by omega)with rfl|rfl|rfl|rfl
 ·rw[show((0:Nat):Int)=0 from rfl]at c12 f12 hg2 HS HG2
  go_enter Tryz.func156,Tryz.ntmps156
  go_wp2
  go_end0
  exact⟨rfl,(HS.out _).1,qp HG2.out (HS.out _).2⟩
 ·rw[show((1:Nat):Int)=1 from rfl]at c12 f12 hg2 HS HG2
  go_enter Tryz.func156,Tryz.ntmps156
  go_wp2
  go_end0
  exact⟨rfl,(HS.out _).1,qp HG2.out (HS.out _).2⟩
 ·rw[show((2:Nat):Int)=2 from rfl]at c12 f12 hg2 HS HG2
  go_enter Tryz.func156,Tryz.ntmps156
  go_wp2
  go_end0
  exact⟨rfl,(HS.out _).1,qp HG2.out (HS.out _).2⟩
 ·go_enter Tryz.func156,Tryz.ntmps156
  go_wp2
  go_end0
  exact⟨rfl,H2.out,HG2.out⟩
def MV.close(m:MV):MV:=m.turn (if m.fin then 3 else 0)
theorem q4a{w:World}{B gm gr gw:Nat}{m:MV}(h:mR w B gm gr gw m):Calls Tryz.prog 197 #[.pointer (some ⟨gm,0,none⟩)] w fun e w'=>e=.returned (.tuple #[])/\mR w' B gm gr gw m.close/\w.grownBy w' (some gm):=by
 have c3:w.cell? ⟨gm,3,none⟩=some (.bool m.fin):=h.cell (by decide)
 have hg:=h.blk.2;have HT3:=q7 (q3b h 3 (by decide))
 have HT0:=q7 (q3b h 0 (by decide))
 clear h;unfold MV.close
 cases hf:m.fin with
 |true=>
  rw[hf]at c3;simp only[if_true];clear hf
  go_enter Tryz.func197,Tryz.ntmps197
  go_wp2_with((with_reducible go_at_call 156);(refine HT3.out.mono ?_);rintro e w1 ⟨rfl,h1,g1⟩;have H1:=q7 h1;have G1:=q7 g1;clear h1 g1)
  go_end0
  exact⟨rfl,H1.out,G1.out⟩
 |false=>
  rw[hf]at c3;simp only[if_neg (show¬(false=true) by decide)]
  clear hf
  go_enter Tryz.func197,Tryz.ntmps197
  go_wp2_with((with_reducible go_at_call 156);(refine HT0.out.mono ?_);rintro e w1 ⟨rfl,h1,g1⟩;have H1:=q7 h1;have G1:=q7 g1;clear h1 g1)
  go_end0
  exact⟨rfl,H1.out,G1.out⟩
abbrev J1(gm gr gw:Nat)(vb:Value)(k:Nat):Prop:=k=gm\/k=gr\/k=gw\/vb.ownBlock=some k
structure rA(w:World)(B gm gr gw:Nat)(vb:Value)(s:ByteArray)(p:Nat)(H:qK)(m:MV):Prop where
 box:mR w B gm gr gw m
 rd:cX w gr s p
 win:iS w B gw vb H
 n1:gm≠gr
 n2:gm≠gw
 n3:gr≠gw
 b1:vb.ownBlock≠some gm
 b2:vb.ownBlock≠some gr
 Br:B<=gr
theorem rA.up{w w':World}{B gm gr gw p:Nat}{vb:Value}{s:ByteArray}{H:qK}{m:MV}(h:rA w B gm gr gw vb s p H m)(hb:Below w.heap.size w w'):rA w' B gm gr gw vb s p H m:=
 ⟨h.box.up hb,h.rd.up hb,h.win.up hb,h.n1,h.n2,h.n3,h.b1,h.b2,h.Br⟩
theorem rA.B{w:World}{B gm gr gw p:Nat}{vb:Value}{s:ByteArray}{H:qK}{m:MV}(h:rA w B gm gr gw vb s p H m):B<=w.heap.size:=qa h.Br (Nat.le_of_lt h.rd.lt)
theorem rA.read{w w':World}{B gm gr gw p q:Nat}{vb:Value}{s:ByteArray}{H:qK}{m:MV}(h:rA w B gm gr gw vb s p H m)(hr:cX w' gr s q)(hg:w.grownBy w' (some gr)):rA w' B gm gr gw vb s q H m/\Fx (J1 gm gr gw vb) w w':=by
 have hf:Fx (fun k=>k=gr) w w':=jn hg (fun k e=>by injection e with e;exact e.symm)
 exact⟨⟨h.box.fx hf h.n1,hr,h.win.fx hf (fun e=>h.n3 e.symm) (fun k e z=>h.b2 (by rw[e,z])),h.n1,h.n2,h.n3,h.b1,h.b2,h.Br⟩,hf.mono (fun k e=>.inr (.inl e))⟩
theorem rA.mset{w w':World}{B gm gr gw p:Nat}{vb:Value}{s:ByteArray}{H:qK}{m m':MV}(h:rA w B gm gr gw vb s p H m)(hm:mR w' B gm gr gw m')(hg:w.grownBy w' (some gm)):rA w' B gm gr gw vb s p H m'/\Fx (J1 gm gr gw vb) w w':=by
 have hf:Fx (fun k=>k=gm) w w':=jn hg (fun k e=>by injection e with e;exact e.symm)
 exact⟨⟨hm,⟨hf.own h.rd.own (fun k e z=>by cases e;exact h.n1 z.symm)⟩,h.win.fx hf (fun e=>h.n2 e.symm) (fun k e z=>h.b1 (by rw[e,z])),h.n1,h.n2,h.n3,h.b1,h.b2,h.Br⟩,hf.mono (fun k e=>.inl e)⟩
theorem rA.wset{w w':World}{B gm gr gw p:Nat}{vb vb':Value}{s:ByteArray}{H H':qK}{m:MV}(h:rA w B gm gr gw vb s p H m)(hw:iS w' B gw vb' H')(hk:∀k,vb'.ownBlock=some k->vb.ownBlock=some k\/w.heap.size<=k)(hf:WFx gw vb w w'):rA w' B gm gr gw vb' s p H' m/\Fx (J1 gm gr gw vb) w w':=by
 have hgm:=h.box.blk.2;have hgr:=h.rd.lt;refine⟨⟨h.box.fx hf (fun e=>e.elim h.n2 h.b1),⟨hf.own h.rd.own (fun k e z=>by injection e with e;subst e;exact z.elim h.n3 h.b2)⟩,hw,h.n1,h.n2,h.n3,fun e=>?_,fun e=>?_,h.Br⟩,hf.mono (fun k e=>e.elim (fun z=>.inr (.inr (.inl z))) (fun z=>.inr (.inr (.inr z))))⟩
 ·rcases hk gm e with z|z
  ·exact h.b1 z
  ·omega
 ·rcases hk gr e with z|z
  ·exact h.b2 z
  ·omega
def t6(w:World)(v:Value)(a b:Nat)(L:List Nat):Prop:=∃g,v=.pointer (some ⟨g,0,none⟩)/\b<=w.heap.size/\∀w':World,(∀k,a<=k->k<b->w'.heap[k]? =w.heap[k]?)->b<=w'.heap.size->iB w' a g L
theorem t6.fx{S:Nat->Prop}{w w':World}{v:Value}{a b:Nat}{L:List Nat}(h:t6 w v a b L)(hf:Fx S w w')(hS:∀k,a<=k->k<b->¬S k):t6 w' v a b L:=by
 obtain⟨g,h1,h2,h3⟩:=h;refine⟨g,h1,qa h2 hf.size,fun w'' h4 h5=>h3 w'' (fun k ha hb=>?_) h5⟩
 rw[h4 k ha hb,hf.block k (by omega) (hS k ha hb)]
theorem t6.here{w:World}{v:Value}{a b:Nat}{L:List Nat}(h:t6 w v a b L):∃g,v=.pointer (some ⟨g,0,none⟩)/\iB w a g L:=by
 obtain⟨g,h1,h2,h3⟩:=h
 exact⟨g,h1,h3 w (fun _ _ _=>rfl) h2⟩
theorem q1n{w:World}{B gm gr gw p:Nat}{s:ByteArray}{m:MV}(h:mR w B gm gr gw m)(hr:cX w gr s p)(hs:s.size<=4294967296)(hp:p<=8*s.size)(y:Nat×Nat×Bool)(hy1:y.1<=40000)(hy2:y.2.1<=32):
  Calls Tryz.prog 208 #[.pointer (some ⟨gm,0,none⟩),.int .i64 (y.1:Nat),.int .i64 (y.2.1:Nat),.bool y.2.2] w fun e w'=>e=.returned (.tuple #[.int .i64 ((numB (qH s) (8*s.size) p y).1:Nat),.int .i64 ((numB (qH s) (8*s.size) p y).2.1:Nat)])/\cX w' gr s (numB (qH s) (8*s.size) p y).2.2/\w.grownBy w' (some gr):=by
 obtain⟨b,n,ok⟩:=y;simp only at hy1 hy2⊢;have HR:=q7 hr
 cases ok with
 |false=>
  unfold numB;simp only[if_true];clear hr h
  go_enter Tryz.func208,Tryz.ntmps208
  go_wp2
  go_ret2
  exact⟨rfl,HR.out,qv (qj _ _) _⟩
 |true=>
  unfold numB;simp only[if_neg (show¬(true=false) by decide)]
  have HBT:=q7 (q66 hr hs n hy2 hp);unfold aH at HBT
  have hv:(jl (qH s) (8*s.size) p n).1<2^32:=by
   unfold jl;split
   ·exact qd (mM _ _ _) (qe (by decide) hy2)
   ·exact Nat.pow_pos (by decide)
  generalize jl (qH s) (8*s.size) p n=D at*;obtain⟨v,er,q⟩:=D;simp only at HBT hv⊢;have c0:w.cell? ⟨gm,0,none⟩=some (.pointer (some ⟨gr,0,none⟩)):=h.cell (by decide)
  have hg:=h.blk.2;have hbv:b+v<=10000000000:=by omega
  clear h hr
  go_enter Tryz.func208,Tryz.ntmps208
  go_wp2_with((with_reducible go_at_call 194);(with_reducible refine HBT.out.mono ?_);rintro e w1 ⟨rfl,hb1,hg1⟩;have HB1:=q7 hb1;have HG1:=q7 hg1;clear hb1 hg1)
  go_ret2
  exact⟨by go_num,HB1.out,HG1.out⟩
theorem iB.up'{w w':World}{B g:Nat}{L:List Nat}(h:iB w B g L)(hb:Below w.heap.size w w'):iB w' B g L:=by
 obtain⟨E,fs,vf,h1,h2⟩:=h
 exact⟨E,fs,vf,h1.up hb,h2⟩
def eC(B gm gr gw:Nat)(vb:Value)(s:ByteArray)(h0:qK)(m:MV)(M:MV->Prop)(y:Nat×IS)(w:World)(e:Ending)(w':World):Prop:=
 ∃c p' H' vb' m',e=.returned (.tuple #[.string c,.int .i64 (y.1:Nat)])/\rA w' B gm gr gw vb' s p' H' m'/\Fx (J1 gm gr gw vb) w w'/\(∀k,vb'.ownBlock=some k->vb.ownBlock=some k\/w.heap.size<=k)/\
  (y.1=0->p'=y.2.p/\H'=y.2.h/\y.2.h=h0++bys c/\M m')/\(y.1≠0->m'=m)
theorem q5n{w:World}{B gm gr gw p tc td:Nat}{vb:Value}{s:ByteArray}{z:IS}{m:MV}(h:rA w B gm gr gw vb s p z.h m)(ht:t6 w m.vd tc td z.di)(ha:∀k,tc<=k->k<td->¬J1 gm gr gw vb k)(h15:∀x∈z.di,x<=15)(hs:s.size<=4294967296)(hp:p<=8*s.size)(sym:Nat)(hsy:sym<100000)(hdl:z.di.length<100000):
  Calls Tryz.prog 201 #[.pointer (some ⟨gm,0,none⟩),.int .i64 (sym:Nat)] w (eC B gm gr gw vb s z.h m (fun m'=>m'=m) (iQ (qH s) (8*s.size) z sym p) w):=by
 obtain⟨Y,hY⟩:∃Y,Y=iQ (qH s) (8*s.size) z sym p:=⟨_,rfl⟩;rw[<-hY];have HY:=q7 hY;clear hY;unfold iQ at HY;have HLN:=q7 (fun W=>q7T sym hsy W)
 have hle:=fun h=>I4 (s:=sym) h
 have hb1:(bP sym).1<=40000/\(bP sym).2.1<=32:=by
  by_cases h:(bP sym).2.2=true
  ·obtain⟨a,b,-⟩:=hle h;omega
  ·have:bP sym=(0,0,false):=by
    unfold bP at h⊢
    by_cases h1:sym=285
    ·rw[if_pos h1]at h;exact absurd rfl h
    ·rw[if_neg h1]at h⊢
     by_cases h2:257<=sym/\sym<285
     ·rw[if_pos h2]at h;exact absurd rfl h
     ·rw[if_neg h2]
   rw[this];decide
 have HN1:=q7 (fun(W:World) (hb:Below w.heap.size w W)=>q1n (h.box.up hb) (h.rd.up hb) hs hp (bP sym) hb1.1 hb1.2)
 have hn1:(numB (qH s) (8*s.size) p (bP sym)).2.1=0->(numB (qH s) (8*s.size) p (bP sym)).1<=300/\(numB (qH s) (8*s.size) p (bP sym)).2.2<=8*s.size:=fun e=>by
  obtain⟨a1,a2,a3,a4⟩:=mL e;obtain⟨l1,l2,l3,l4⟩:=hle a1;have:=mM (qH s) p (bP sym).2.1;omega
 generalize numB (qH s) (8*s.size) p (bP sym)=D1 at*;unfold Y0 at HLN;generalize bP sym=L1 at*;obtain⟨l1,l2,l3⟩:=L1;obtain⟨n,e1,p1⟩:=D1;simp only at HY HLN HN1 hn1;have HM:=q7 h;have HNN:=q7 hn1;clear h hn1 hle hb1
 go_enter Tryz.func201,Tryz.ntmps201
 go_upto_region 2 with(first|((with_reducible go_at_call 209);(with_reducible refine(HLN.out _).mono ?_);rintro e w1 ⟨rfl,x1,rfl⟩)|((with_reducible go_at_call 208);(with_reducible refine(HN1.out _ (qu w x1)).mono ?_);rintro e w2 ⟨rfl,hr2,hg2⟩;have HR2:=q7 hr2;have HG2:=q7 hg2;clear hr2 hg2))
 obtain⟨hM2,hF2⟩:=(HM.out.up (qu w x1)).read HR2.out HG2.out;have HM2:=q7 hM2;have HF2:=q7 ((qP (S:=J1 gm gr gw vb) (qu w x1)).trans hF2);clear hM2 hF2 HR2 HG2
 by_cases he1:e1=0
 ·subst he1
  rw[if_neg (fun h=>h rfl)]at HY
  obtain⟨hn3,hp1⟩:=HNN.out rfl;have HN3:=q7 hn3;have HP1:=q7 hp1;have hT2:=ht.fx HF2.out (fun k h1 h2=>ha k h1 h2)
  obtain⟨gt,hgt,hT⟩:=hT2.here;have HTI:=q7 hT2;have HRD:=q7 (q4t (hT.up' (qC w2 1)) (HM2.out.rd.up (qC w2 1)) h15 hs hp1);rw[<-World.drew_is_drewN]at HRD;unfold eY at HRD;have c0:w2.cell? ⟨gm,0,none⟩=some (.pointer (some ⟨gr,0,none⟩)):=HM2.out.box.cell (by decide)
  have c6:w2.cell? ⟨gm,6,none⟩=some (.pointer (some ⟨gt,0,none⟩)):=by rw[<-hgt];exact HM2.out.box.cell (by decide)
  have hgm:=HM2.out.box.blk.2;have hne:some gm≠some gr:=fun e=>HM2.out.n1 (by injection e)
  unfold pZ at HY;clear hT2 hT hn3 hp1 HNN
  go_wp2_with(fail)
  refine jZ (fun w'=>∃x,w'=chg w2 (some gr) x) [([0,1,2,3,4,5,6,7],[8]),([9,10,11,12,13],[])] (by kernel_rfl) (by kernel_rfl) (qW (qV _ _)) ?_
  (unfold j6;simp only[pk])
  repeat(go_big_quiet_step (fail))
  refine wpQuiet_nil ?_;unfold qy
  go_wp2_with((with_reducible go_at_call 200);(with_reducible refine HRD.out.mono ?_);rintro e w3 ⟨a,er,d,rfl,hrn,hb3,hg3⟩;have HR3:=q7 hrn;have HB3:=q7 hb3;have HG3:=q7 (qp (qV w2 (some gr)) hg3);clear hrn hb3 hg3)
  refine⟨qW HG3.out,?_⟩;unfold qy
  (unfold j6;simp only[pk])
  repeat(go_big_quiet_step (fail))
  refine wpQuiet_nil ?_;unfold qy;unfold j6;intro hz;clear hz;obtain⟨ra,re,rd⟩:=mX HR3.out (dP z.di (qH s/2^p1) (8*s.size-p1));rw[<-ra,<-re,<-rd]at HY;have HRL:=q7 (rX HR3.out)
  have HRA:Hid (a<100000):=q7 (by
   rcases HR3.out with⟨h1,-⟩|⟨-,h1,-⟩<;>omega)
  obtain⟨hM3,hF3⟩:=HM2.out.read HB3.out HG3.out;have HM3:=q7 hM3;have HF3:=q7 (HF2.out.trans hF3);clear hM3 hF3 HB3 HG3 HRD HM2 HF2 c0 c6 hgm ra re rd HTI hgt
  by_cases her:er=0
  ·subst her
   rw[if_neg (fun h=>h rfl)]at HY
   have HP3:Hid (p1+d<=8*s.size):=q7 (by have:=HRL.out;have:=HP1.out;omega)
   have HDS:=q7 (fun W=>q7U a HRA.out W)
   have hle:=fun h=>I5 (s:=a) h
   have hb1:(gX a).1<=40000/\(gX a).2.1<=32:=by
    by_cases h:(gX a).2.2=true
    ·obtain⟨x1,x2,x3⟩:=hle h
     have:0<2^(gX a).2.1:=Nat.pow_pos (by decide)
     omega
    ·have:gX a=(0,0,false):=by
      unfold gX at h⊢
      by_cases h1:a<30
      ·rw[if_pos h1]at h;exact absurd rfl h
      ·rw[if_neg h1]
     rw[this];decide
   have HN4:=q7 (fun(W:World) (hb:Below w3.heap.size w3 W)=>q1n (HM3.out.box.up hb) (HM3.out.rd.up hb) hs HP3.out (gX a) hb1.1 hb1.2)
   have hn4:(numB (qH s) (8*s.size) (p1+d) (gX a)).2.1=0->1<=(numB (qH s) (8*s.size) (p1+d) (gX a)).1/\(numB (qH s) (8*s.size) (p1+d) (gX a)).1<=40000:=fun e=>by
    obtain⟨a1,a2,a3,a4⟩:=mL e;obtain⟨x1,x2,x3⟩:=hle a1;have:=mM (qH s) (p1+d) (gX a).2.1;omega
   generalize numB (qH s) (8*s.size) (p1+d) (gX a)=D4 at*;unfold Y0 at HDS;generalize gX a=L4 at*;obtain⟨q1,q2,q3⟩:=L4;obtain⟨dd,e4,p4⟩:=D4;simp only at HY HDS HN4 hn4;have HN5:=q7 hn4;clear hn4 hle hb1 HR3 HRL HRA;unfold nV at HY;simp only at HY
   go_upto_region 8 with(first|((with_reducible go_at_call 210);(with_reducible refine(HDS.out _).mono ?_);rintro e w4 ⟨rfl,x4,rfl⟩)|((with_reducible go_at_call 208);(with_reducible refine(HN4.out _ (qu w3 x4)).mono ?_);rintro e w5 ⟨rfl,hr5,hg5⟩;have HR5:=q7 hr5;have HG5:=q7 hg5;clear hr5 hg5))
   obtain⟨hM5,hF5⟩:=(HM3.out.up (qu w3 x4)).read HR5.out HG5.out;have HM5:=q7 hM5;have HF5:=q7 (HF3.out.trans ((qP (S:=J1 gm gr gw vb) (qu w3 x4)).trans hF5));clear hM5 hF5 HR5 HG5 HM3 HF3
   by_cases he4:e4=0
   ·subst he4
    rw[if_neg (fun h=>h rfl)]at HY
    obtain⟨hd1,hd2⟩:=HN5.out rfl;have HCP:=q7 (q6O HM5.out.win HM5.out.B dd n hd1 hd2 (by have:=HN3.out;omega))
    unfold I7 at HCP;have c1:w5.cell? ⟨gm,1,none⟩=some (.pointer (some ⟨gw,0,none⟩)):=HM5.out.box.cell (by decide)
    have hgm:=HM5.out.box.blk.2
    by_cases q90:min z.h.length 32768<dd
    ·simp only[if_pos q90]at HCP
     rw[if_pos q90]at HY;clear q90 hd1 hd2
     go_wp2_with((with_reducible go_at_call 211);(with_reducible refine HCP.out.mono ?_);rintro e w6 ⟨rfl,hw6⟩;rw[hw6];clear hw6)
     go_ret2
     refine⟨⟨#[]⟩,p4,z.h,vb,m,by rw[HY.out];rfl,HM5.out,HF5.out,fun k e=>.inl e,fun e=>?_,fun _=>rfl⟩
     rw[HY.out]at e
     cases e
    ·simp only[if_neg q90]at HCP
     rw[if_neg q90]at HY;clear q90 hd1 hd2
     go_wp2_with((with_reducible go_at_call 211);(with_reducible refine HCP.out.mono ?_);rintro e w6 ⟨c,v6,rfl,hc6,hl6,hw6,hk6,hf6⟩;have HC6:=q7 hc6;have HW6:=q7 hw6;have HK6:=q7 hk6;have HF6:=q7 hf6;clear hc6 hw6 hk6 hf6 hl6)
     go_ret2
     obtain⟨hM7,hF7⟩:=HM5.out.wset HW6.out HK6.out HF6.out;refine⟨⟨c.toArray⟩,p4,z.h++c,v6,m,by rw[HY.out];rfl,hM7,HF5.out.trans hF7,fun k e=>(HK6.out k e).imp id (fun h=>qa HF5.out.size h),fun e=>?_,fun _=>rfl⟩
     rw[HY.out]
     exact⟨rfl,HC6.out.symm,by rw[uO];exact HC6.out,rfl⟩
   ·rw[if_pos he4]at HY
    have hei:((e4:Int) != 0)=true:=by simpa using he4
    go_wp2
    go_ret2
    refine⟨⟨#[]⟩,p4,z.h,vb,m,by rw[HY.out];rfl,HM5.out,HF5.out,fun k e=>.inl e,fun e=>?_,fun _=>rfl⟩
    rw[HY.out]at e
    exact absurd e he4
  ·rw[if_pos her]at HY
   have hei:((er:Int) != 0)=true:=by simpa using her
   go_wp2
   go_ret2
   refine⟨⟨#[]⟩,p1+d,z.h,vb,m,by rw[HY.out];rfl,HM3.out,HF3.out,fun k e=>.inl e,fun e=>?_,fun _=>rfl⟩
   rw[HY.out]at e
   exact absurd e her
 ·rw[if_pos he1]at HY
  have hei:((e1:Int) != 0)=true:=by simpa using he1
  go_wp2
  go_ret2
  refine⟨⟨#[]⟩,p1,z.h,vb,m,by rw[HY.out];rfl,HM2.out,HF2.out,fun k e=>.inl e,fun e=>?_,fun _=>rfl⟩
  rw[HY.out]at e
  exact absurd e he1
def Y1(z:IS)(m:MV):Prop:=m.at_=z.md/\m.fin=z.fin/\(z.md=1->m.left=z.left)/\(z.md<3->m.vf=fnV z.md)/\∃k,m.vf=fnV k
def A3(m m':MV):Prop:=m'.vl=m.vl/\m'.vd=m.vd/\m'.made=m.made/\m'.told=m.told/\m'.waits=m.waits/\m'.wrong=m.wrong/\m'.vs=m.vs
theorem A3.refl(m:MV):A3 m m:=⟨rfl,rfl,rfl,rfl,rfl,rfl,rfl⟩
theorem Y1.close{z:IS}{m:MV}(h:Y1 z m):Y1 (cE z) m.close/\A3 m m.close:=by
 obtain⟨h1,h2,h3,h4,k5,h5⟩:=h;unfold cE MV.close MV.turn;refine⟨⟨by show(if m.fin=true then 3 else 0)=_;rw[h2],h2,fun e=>?_,fun e=>?_,?_⟩,rfl,rfl,rfl,rfl,rfl,rfl,rfl⟩
 ·have e':(if z.fin=true then 3 else 0)=1:=e
  split at e'<;>cases e'
 ·have e':(if z.fin=true then 3 else 0)<3:=e
  show(if(if m.fin=true then 3 else 0)<3 then fnV (if m.fin=true then 3 else 0)else m.vf)=fnV (if z.fin=true then 3 else 0)
  rw[h2,if_pos e']
 ·show∃k,(if(if m.fin=true then 3 else 0)<3 then fnV (if m.fin=true then 3 else 0)else m.vf)=fnV k
  generalize (if m.fin=true then 3 else 0)=j
  by_cases hj:j<3
  ·rw[if_pos hj];exact⟨_,rfl⟩
  ·rw[if_neg hj];exact⟨k5,h5⟩
theorem Y1.of{z z':IS}{m:MV}(h:Y1 z m)(h1:z'.md=z.md)(h2:z'.fin=z.fin)(h3:z'.left=z.left):Y1 z' m:=by
 obtain⟨a,b,c,d,d2⟩:=h
 exact⟨a.trans h1.symm,b.trans h2.symm,fun e=>by rw[h3];exact c (by rw[<-h1];exact e),fun e=>by rw[h1];exact d (by rw[<-h1];exact e),d2⟩
theorem q1o{N T s p:Nat}{z:IS}:(iQ N T z s p).2.md=z.md/\(iQ N T z s p).2.fin=z.fin/\(iQ N T z s p).2.left=z.left:=by
 unfold iQ;split
 ·exact⟨rfl,rfl,rfl⟩
 ·unfold pZ
  split
  ·exact⟨rfl,rfl,rfl⟩
  ·unfold nV
   split
   ·exact⟨rfl,rfl,rfl⟩
   ·split<;>exact⟨rfl,rfl,rfl⟩
theorem eC.mono{B gm gr gw:Nat}{vb:Value}{s:ByteArray}{h0:qK}{m:MV}{M M':MV->Prop}{y:Nat×IS}{w:World}{e:Ending}{w':World}(h:eC B gm gr gw vb s h0 m M y w e w')(hM:y.1=0->∀x,M x->M' x):eC B gm gr gw vb s h0 m M' y w e w':=by
 obtain⟨c,p',H',vb',m',h1,h2,h3,h4,h5,h6⟩:=h
 exact⟨c,p',H',vb',m',h1,h2,h3,h4,fun e=>(let ⟨a,b,c,d⟩:=h5 e;⟨a,b,c,hM e _ d⟩),h6⟩
theorem eC.from{B gm gr gw:Nat}{vb:Value}{s:ByteArray}{h0:qK}{m:MV}{M:MV->Prop}{y:Nat×IS}{w w1:World}{e:Ending}{w':World}(hf:Fx (J1 gm gr gw vb) w w1)(h:eC B gm gr gw vb s h0 m M y w1 e w'):eC B gm gr gw vb s h0 m M y w e w':=by
 obtain⟨c,p',H',vb',m',h1,h2,h3,h4,h5,h6⟩:=h
 exact⟨c,p',H',vb',m',h1,h2,hf.trans h3,fun k e=>(h4 k e).imp id (fun q=>qa hf.size q),h5,h6⟩
theorem q6W{w:World}{B gm gr gw ta tb tc td:Nat}{vb:Value}{s:ByteArray}{z:IS}{m:MV}(h:rA w B gm gr gw vb s z.p z.h m)(hl:t6 w m.vl ta tb z.li)(ht:t6 w m.vd tc td z.di)(ha:∀k,tc<=k->k<td->¬J1 gm gr gw vb k)
  (qka:∀x∈z.li,x<=15) (h15:∀x∈z.di,x<=15) (hs:s.size<=4294967296) (hp:z.p<=8*s.size) (hll:z.li.length<100000) (hdl:z.di.length<100000) (hr:Y1 z m):
  Calls Tryz.prog 184 #[.pointer (some ⟨gm,0,none⟩)] w (eC B gm gr gw vb s z.h m (fun m'=>Y1 (oU (qH s) (8*s.size) z).2 m'/\A3 m m') (oU (qH s) (8*s.size) z) w):=by
 obtain⟨Y,hY⟩:∃Y,Y=oU (qH s) (8*s.size) z:=⟨_,rfl⟩;rw[<-hY];have HY:=q7 hY;clear hY;unfold oU oT at HY;have HM:=q7 h;obtain⟨gt,hgt,hT⟩:=hl.here;have HRD:=q7 (q4t (hT.up' (qC w 1)) (h.rd.up (qC w 1)) qka hs hp);rw[<-World.drew_is_drewN]at HRD;unfold eY at HRD;have c0:w.cell? ⟨gm,0,none⟩=some (.pointer (some ⟨gr,0,none⟩)):=h.box.cell (by decide)
 have c5:w.cell? ⟨gm,5,none⟩=some (.pointer (some ⟨gt,0,none⟩)):=by rw[<-hgt];exact h.box.cell (by decide)
 have hgm:=h.box.blk.2;have hne:some gm≠some gr:=fun e=>h.n1 (by injection e)
 clear h hT
 go_enter Tryz.func184,Tryz.ntmps184
 go_wp2_with(fail)
 refine jZ (fun w'=>∃x,w'=chg w (some gr) x) [([0,1,2,3,4,5,6,7],[8]),([9,10,11,12,13],[])] (by kernel_rfl) (by kernel_rfl) (qW (qV _ _)) ?_
 (unfold j6;simp only[pk])
 repeat(go_big_quiet_step (fail))
 refine wpQuiet_nil ?_;unfold qy
 go_wp2_with((with_reducible go_at_call 200);(with_reducible refine HRD.out.mono ?_);rintro e w3 ⟨a,er,d,rfl,hrn,hb3,hg3⟩;have HR3:=q7 hrn;have HB3:=q7 hb3;have HG3:=q7 (qp (qV w (some gr)) hg3);clear hrn hb3 hg3)
 refine⟨qW HG3.out,?_⟩;unfold qy
 (unfold j6;simp only[pk])
 repeat(go_big_quiet_step (fail))
 refine wpQuiet_nil ?_;unfold qy;unfold j6;intro hz;clear hz;obtain⟨ra,re,rd⟩:=mX HR3.out (dP z.li (qH s/2^z.p) (8*s.size-z.p));rw[<-ra,<-re,<-rd]at HY;have HRL:=q7 (rX HR3.out)
 have HRA:Hid (a<100000):=q7 (by
  rcases HR3.out with⟨h1,-⟩|⟨-,h1,-⟩<;>omega)
 obtain⟨hM3,hF3⟩:=HM.out.read HB3.out HG3.out;have HM3:=q7 hM3;have HF3:=q7 hF3;have HT3:=q7 (ht.fx hF3 (fun k h1 h2=>ha k h1 h2))
 clear hM3 hF3 HB3 HG3 HRD HM c0 c5 hgm ra re rd hgt ht hl
 by_cases her:er=0
 ·subst her
  rw[if_neg (fun h=>h rfl)]at HY
  have HP3:Hid (z.p+d<=8*s.size):=q7 (by have:=HRL.out;omega)
  by_cases q9Y:a=256
  ·rw[if_pos q9Y]at HY
   subst q9Y;have HCL:=q7 (q4a HM3.out.box)
   go_wp2_with((with_reducible go_at_call 197);(with_reducible refine HCL.out.mono ?_);rintro e w4 ⟨rfl,h4,g4⟩;have H4:=q7 h4;have G4:=q7 g4;clear h4 g4)
   go_ret2
   obtain⟨hM4,hF4⟩:=HM3.out.mset H4.out G4.out;refine⟨⟨#[]⟩,z.p+d,z.h,vb,m.close,by rw[HY.out];rfl,hM4,HF3.out.trans hF4,fun k e=>.inl e,fun _=>?_,fun e=>?_⟩
   ·rw[HY.out]
    exact⟨rfl,rfl,by simp[cE,bys],(hr.of (z':={z with p:=z.p+d}) rfl rfl rfl).close⟩
   ·rw[HY.out]at e;exact absurd rfl e
  ·rw[if_neg q9Y]at HY
   have qfh:((a:Int)==256)=false:=by simp;omega
   by_cases hgt:256<a
   ·rw[if_pos hgt]at HY
    have hga:(a:Int)>256:=by omega
    have hgn:256<a:=hgt;have hsm:=q1o (N:=qH s) (T:=8*s.size) (z:=z) (s:=a) (p:=z.p+d);have HCO:=q7 (q5n HM3.out HT3.out ha h15 hs HP3.out a HRA.out hdl);rw[<-HY.out]at HCO hsm;have HSM:=q7 hsm;clear hsm hgt
    go_wp2_with((with_reducible go_at_call 201);(with_reducible refine HCO.out.mono ?_);rintro e w4 qgr;have HRT:=q7 (eC.from HF3.out qgr);obtain⟨c,p',H',vb',m',rfl,-⟩:=qgr)
    go_ret2
    exact HRT.out.mono (fun _ x hx=>by
     obtain⟨s1,s2,s3⟩:=HSM.out;rw[hx]
     exact⟨hr.of s1 s2 s3,A3.refl m⟩)
   ·rw[if_neg hgt]at HY
    have hga:¬256<a:=hgt;have ha8:a<256:=by omega
    clear hgt;have hb8:IntKind.u8.wrap (a:Int)=(a:Int):=by unfold IntKind.wrap;simp[IntKind.bits,IntKind.signed];omega
    have h5b:=qE w3 w3.heap.size #[.int .u8 (a:Nat)] 5 (by simp) (q9 _)
    have hcv:=j7 (P:=Tryz.prog) (w3.alloc (.cells #[.int .u8 (a:Nat)] 5)) 49 9 5 Tryz.underlying49 Tryz.underlying5 Tryz.underlying9 (.slice (some ⟨w3.heap.size,0,none⟩) 1 1) [UInt8.ofNat a] (by
     rw[vX a ha8]
     exact h5b.sl)
    have HCV:=q7 hcv;have HA5:=q7 (qn w3 (.cells #[.int .u8 (a:Nat)] 5));have HM5:=q7 (HM3.out.up HA5.out);have HF5:=q7 (HF3.out.trans (qP (S:=J1 gm gr gw vb) HA5.out));obtain⟨cs,hcs⟩:∃cs:ByteArray,cs=⟨[UInt8.ofNat a].toArray⟩:=⟨_,rfl⟩;have HPU:=q7 (q5d HM5.out.win HM5.out.B cs (by rw[hcs];show [UInt8.ofNat a].toArray.size<=_;simp))
    have HCS:=q7 hcs;rw[<-hcs]at HCV;clear h5b hcv hcs
    go_upto_region 10 with((with_reducible show wpList _ _ _ (Oper.mk _ (.convert _ _ _) _ _ _ _::_) _ _);refine aD rfl 49 9 (.tmp 38) rfl _ HCV.out ?_)
    have hby:bys cs=[UInt8.ofNat a]:=by rw[HCS.out,uO]
    rw[hby]at HPU;generalize w3.alloc (.cells #[.int .u8 (a:Nat)] 5)=w5 at*;have c1:w5.cell? ⟨gm,1,none⟩=some (.pointer (some ⟨gw,0,none⟩)):=HM5.out.box.cell (by decide)
    have hgm:=HM5.out.box.blk.2;clear HCV HA5 HM3 HF3 HT3
    go_wp2_with((with_reducible go_at_call 154);(with_reducible refine HPU.out.mono ?_);rintro e w6 ⟨rfl,v6,hw6,hk6,hf6⟩;have HW6:=q7 hw6;have HK6:=q7 hk6;have HF6:=q7 hf6;clear hw6 hk6 hf6)
    go_ret2
    obtain⟨hM7,hF7⟩:=HM5.out.wset HW6.out HK6.out HF6.out;refine⟨cs,z.p+d,z.h++[UInt8.ofNat a],v6,m,by rw[HY.out];rfl,hM7,HF5.out.trans hF7,fun k e=>(HK6.out k e).imp id (fun h=>qa HF5.out.size h),fun e=>?_,fun _=>rfl⟩
    rw[HY.out,hby]
    exact⟨rfl,rfl,rfl,hr.of rfl rfl rfl,A3.refl m⟩
 ·rw[if_pos her]at HY
  have hei:((er:Int) != 0)=true:=by simpa using her
  go_wp2
  go_ret2
  refine⟨⟨#[]⟩,z.p+d,z.h,vb,m,by rw[HY.out];rfl,HM3.out,HF3.out,fun k e=>.inl e,fun e=>?_,fun _=>rfl⟩
  rw[HY.out]at e
  exact absurd e her
theorem q5o{w:World}{B gm gr gw:Nat}{vb:Value}{s:ByteArray}{z:IS}{m:MV}(h:rA w B gm gr gw vb s z.p z.h m)(hs:s.size<=4294967296)(hp:z.p<=8*s.size)(hal:z.p%8=0)(hlf:z.left<=65535)(hr:Y1 z m)(hmd:z.md=1):
  Calls Tryz.prog 183 #[.pointer (some ⟨gm,0,none⟩)] w (eC B gm gr gw vb s z.h m (fun m'=>Y1 (dI (8*s.size) (bys s) z).2 m'/\A3 m m') (dI (8*s.size) (bys s) z) w):=by
 obtain⟨Y,hY⟩:∃Y,Y=dI (8*s.size) (bys s) z:=⟨_,rfl⟩;rw[<-hY];have HY:=q7 hY;clear hY;unfold dI at HY;have HM:=q7 h;have hml:=hr.2.2.1 hmd;have HR:=q7 hr;have c4:w.cell? ⟨gm,4,none⟩=some (.int .i64 (z.left:Nat)):=by rw[<-hml];exact h.box.cell (by decide)
 have c0:w.cell? ⟨gm,0,none⟩=some (.pointer (some ⟨gr,0,none⟩)):=h.box.cell (by decide)
 have hgm:=h.box.blk.2;clear h hr
 by_cases h0:z.left=0
 ·rw[if_pos h0]at HY
  rw[h0]at c4;have HCL:=q7 (q4a HM.out.box);clear h0 hlf
  go_enter Tryz.func183,Tryz.ntmps183
  go_wp2_with((with_reducible go_at_call 197);(with_reducible refine HCL.out.mono ?_);rintro e w4 ⟨rfl,h4,g4⟩;have H4:=q7 h4;have G4:=q7 g4;clear h4 g4)
  go_ret2
  obtain⟨hM4,hF4⟩:=HM.out.mset H4.out G4.out;refine⟨⟨#[]⟩,z.p,z.h,vb,m.close,by rw[HY.out];rfl,hM4,hF4,fun k e=>.inl e,fun _=>?_,fun e=>?_⟩
  ·rw[HY.out]
   exact⟨rfl,rfl,by simp[cE,bys],HR.out.close⟩
  ·rw[HY.out]at e;exact absurd rfl e
 ·rw[if_neg h0]at HY
  have h0i:((z.left:Int)==0)=false:=by simp;omega
  obtain⟨q,hq⟩:∃q,q=8*s.size-z.p:=⟨_,rfl⟩;obtain⟨q8,hq8⟩:∃q8,q8=q/8:=⟨_,rfl⟩;obtain⟨n,hn⟩:∃n,n=min z.left q8:=⟨_,rfl⟩;have HLF:=q7 (fun x=>q08 (HM.out.rd.up (qu w x)) hs hp)
  rw[<-hq]at HLF;rw[<-hq,<-hq8,<-hn]at HY;have hqd:(q:Int).tdiv 8=(q8:Nat):=by rw[Int.tdiv_eq_ediv_of_nonneg (by omega)];omega
  have hqe:(q:Int)/8=(q8:Nat):=by omega
  have hqb:q8<=4294967296:=by omega
  have HMN:=q7 hn;have HNL:Hid (n<=z.left/\z.p+8*n<=8*s.size):=q7 (by omega)
  obtain⟨lf,qeC⟩:∃lf,lf=z.left:=⟨_,rfl⟩;have HLE:=q7 qeC;rw[<-qeC]at c4 h0i HMN;have qlz:lf<=65535:=by omega
  clear hq hq8 h0 hlf qeC hn
  go_enter Tryz.func183,Tryz.ntmps183
  go_wp2_with(fail)
  refine qY (by kernel_rfl) (by kernel_rfl) ?_
  repeat(first
   |(go_big_quiet_want;(with_reducible show Oper.quiet _ (Oper.mk _ (.call _) _ _ _ _) _ _ _);refine q1a (.tmp 17) (.tmp 23) 3 3 rfl lf q8 n rfl rfl HMN.out ?_;go_simp;go_big_quiet_on)
   |go_big_quiet_step ((go_at_call 198;exact jx (HLF.out _))))
  refine wpQuiet_nil ?_;rintro w1 ⟨y1,rfl⟩;have HB1:=q7 (qu w y1);have HM1:=q7 (HM.out.up HB1.out);generalize ext w y1=w1 at*;clear HLF hqd hqe
  by_cases hn0:n=0
  ·rw[if_pos hn0]at HY
   subst hn0;go_wp2
   go_ret2
   refine⟨⟨#[]⟩,z.p,z.h,vb,m,by rw[HY.out];rfl,HM1.out,qP HB1.out,fun k e=>.inl e,fun e=>?_,fun _=>rfl⟩
   rw[HY.out]at e
   cases e
  ·rw[if_neg hn0]at HY
   have hni:((n:Int)==0)=false:=by simp;omega
   obtain⟨qj7,qgC⟩:=HNL.out;have HBY:=q7 (q5f HM1.out.rd hs n hal qgC);obtain⟨C,hC⟩:∃C,C=((bys s).drop (z.p/8)).take n:=⟨_,rfl⟩;rw[<-hC]at HBY HY;have hCl:C.length<=65535:=by rw[hC,List.length_take];have:=HLE.out;omega
   obtain⟨cs,hcs⟩:∃cs:ByteArray,cs=⟨C.toArray⟩:=⟨_,rfl⟩;rw[<-hcs]at HBY;have hby:bys cs=C:=by rw[hcs,uO]
   have HCZ:Hid (cs.size<=50000000):=q7 (by rw[<-qF,hby];omega)
   have HBC:=q7 hby;have c0:w1.cell? ⟨gm,0,none⟩=some (.pointer (some ⟨gr,0,none⟩)):=HM1.out.box.cell (by decide)
   have c1:w1.cell? ⟨gm,1,none⟩=some (.pointer (some ⟨gw,0,none⟩)):=HM1.out.box.cell (by decide)
   have qlT:=HM1.out.box.blk.2;have hln:(lf:Int)-(n:Int)=((lf-n:Nat):Int):=by have:=HLE.out;omega
   obtain⟨ln,qdI⟩:∃ln,ln=lf-n:=⟨_,rfl⟩;rw[<-qdI]at hln;have qlx:ln<=65535:=by omega
   have HLN:=q7 qdI;have hne:gm≠gr:=HM1.out.n1;clear hC hCl hcs hby hn0 qj7 qgC qdI
   go_upto_region 8 with((with_reducible go_at_call 199);(with_reducible refine HBY.out.mono ?_);rintro e w2 ⟨rfl,hb2,hg2⟩;have HB2:=q7 hb2;have HG2:=q7 hg2;clear hb2 hg2)
   obtain⟨hM2,hF2⟩:=HM1.out.read HB2.out HG2.out;have HM2:=q7 hM2;have HF2:=q7 ((qP (S:=J1 gm gr gw vb) HB1.out).trans hF2);obtain⟨hS3,hG3⟩:=hM2.box.set 4 (.int .i64 (ln:Nat)) (m':={m with left:=ln}) rfl
   obtain⟨hM3,hF3⟩:=hM2.mset hS3 hG3;have c4':w2.cell? ⟨gm,4,none⟩=some (.int .i64 (lf:Nat)):=by rw[HLE.out,<-hml];exact hM2.box.cell (by decide)
   have f4:=hM2.box.free 4;have g2:=hM2.box.blk.2;have HM3:=q7 hM3;have HF3:=q7 (HF2.out.trans hF3);have HPU:=q7 (q5d hM3.win hM3.B cs HCZ.out);have c1':(w2.setCell ⟨gm,4,none⟩ (.int .i64 (ln:Nat))).cell? ⟨gm,1,none⟩=some (.pointer (some ⟨gw,0,none⟩)):=hM3.box.cell (by decide)
   clear hM2 hF2 hS3 hG3 hM3 hF3 HM1 HB1 HM
   go_wp2_with((with_reducible go_at_call 154);(with_reducible refine HPU.out.mono ?_);rintro e w6 ⟨rfl,v6,hw6,hk6,hf6⟩;have HW6:=q7 hw6;have HK6:=q7 hk6;have HF6:=q7 hf6;clear hw6 hk6 hf6)
   go_ret2
   obtain⟨hM7,hF7⟩:=HM3.out.wset HW6.out HK6.out HF6.out;refine⟨cs,z.p+8*n,z.h++bys cs,v6,{m with left:=ln},by rw[HY.out];rfl,hM7,HF3.out.trans hF7,fun k e=>(HK6.out k e).imp id (fun h=>qa HF3.out.size h),fun _=>?_,fun e=>?_⟩
   ·rw[HY.out,HBC.out]
    refine⟨rfl,rfl,rfl,⟨HR.out.1,HR.out.2.1,fun _=>?_,HR.out.2.2.2⟩,rfl,rfl,rfl,rfl,rfl,rfl,rfl⟩
    show ln=z.left-n
    rw[HLN.out,HLE.out]
   ·rw[HY.out]at e;exact absurd rfl e
theorem fP.agr{w w':World}{B g sy:Nat}{E:Nat->Ent}{fs:List Sub}{vf:Value}(h:fP w B g sy E fs vf)(ha:∀k,B<=k->k<w.heap.size->w'.heap[k]? =w.heap[k]?):fP w' B g sy E fs vf:=by
 have key:∀{T:TypeId} {v:Value} {xs:List Value},Own w B T v xs->Own w' B T v xs:=fun ho=>ho.of_blk (fun k e=>ha k (ho.lt k e).1 (ho.lt k e).2)
 exact⟨key h.box,key h.outer,h.ne,fun k f hf=>⟨key (h.rows k f hf).1,(h.rows k f hf).2⟩,h.apart⟩
theorem iB.iv{w w':World}{g:Nat}{L:List Nat}(h:iB w' w.heap.size g L):t6 w' (.pointer (some ⟨g,0,none⟩)) w.heap.size w'.heap.size L:=by
 obtain⟨E,fs,vf,h1,h2⟩:=h
 exact⟨g,rfl,q9 _,fun w'' ha _=>⟨E,fs,vf,h1.agr ha,h2⟩⟩
def stC(x:Nat×Nat):List Value:=[.int .i64 (x.1:Nat),.int .i64 (x.2:Nat)]
abbrev iV(gm gr gw:Nat)(vb vs:Value)(k:Nat):Prop:=J1 gm gr gw vb k\/vs.ownBlock=some k
def MV.One(m:MV):Prop:=m.vl.oneCell'=true/\m.vd.oneCell'=true/\∃k,m.vf=fnV k
theorem MV.One.turn{m:MV}{k:Nat}(h:m.One):(m.turn k).One:=by
 obtain⟨a,b,c,d⟩:=h;refine⟨a,b,?_⟩
 show∃j,(if k<3 then fnV k else m.vf)=fnV j
 split
 ·exact⟨_,rfl⟩
 ·exact⟨c,d⟩
structure fK(w:World)(B gm gr gw:Nat)(vb:Value)(s:ByteArray)(p:Nat)(H:qK)(st:List (Nat×Nat))(m:MV):Prop where
 mach:rA w B gm gr gw vb s p H m
 sts:eK 2 w B 101 m.vs (st.map stC)
 sd:∀k,m.vs.ownBlock=some k->k≠gm/\k≠gr/\k≠gw/\vb.ownBlock≠some k
 one:MV.One m
structure E3(w:World)(B gm gr gw:Nat)(vb:Value)(X:Nat->Prop)(s:ByteArray)(z:IS)(m:MV):Prop where
 f0:fK w B gm gr gw vb s z.p z.h z.st m
 rel:Y1 z m
 tabs:z.md=2->∃ta tb tc td,t6 w m.vl ta tb z.li/\t6 w m.vd tc td z.di/\∀k,(ta<=k/\k<tb)\/(tc<=k/\k<td)->¬iV gm gr gw vb m.vs k/\¬X k
theorem bU{gm gr gw:Nat}{vb vb' vs vs':Value}{w w1 w2:World}(h:Fx (iV gm gr gw vb vs) w w1)(hk:∀k,vb'.ownBlock=some k->vb.ownBlock=some k\/w.heap.size<=k)(hk2:∀k,vs'.ownBlock=some k->vs.ownBlock=some k\/w.heap.size<=k)(k:Fx (iV gm gr gw vb' vs') w1 w2):Fx (iV gm gr gw vb vs) w w2:=
 ⟨k.os.trans h.os,k.tape.trans h.tape,k.output.trans h.output,qa h.size k.size,fun i hi h1=>by
  rw[k.block i (qd hi h.size) (fun e=>?_),h.block i hi h1]
  rcases e with(e|e|e|e)|e
  ·exact h1 (.inl (.inl e))
  ·exact h1 (.inl (.inr (.inl e)))
  ·exact h1 (.inl (.inr (.inr (.inl e))))
  ·rcases hk i e with h2|h2
   ·exact h1 (.inl (.inr (.inr (.inr h2))))
   ·omega
  ·rcases hk2 i e with h2|h2
   ·exact h1 (.inr h2)
   ·omega⟩
theorem eK.fx{k:Nat}{S:Nat->Prop}{w w':World}{B:Nat}{E:TypeId}{v:Value}{l:List (List Value)}(h:eK k w B E v l)(hf:Fx S w w')(hS:∀q,v.ownBlock=some q->¬S q):eK k w' B E v l:=by
 obtain⟨⟨h0,h1⟩,h2⟩:=h;refine⟨⟨h0,?_⟩,h2⟩
 rcases h1 with h1|⟨g,cap,cur,e,hb,hg,hr⟩
 ·exact .inl h1
 ·refine .inr ⟨g,cap,cur,e,hb,?_,hr⟩
  rw[hf.block g (Array.getElem?_eq_some_iff.1 hg).1 (hS g (by rw[e];rfl))];exact hg
theorem fK.make{w w':World}{B gm gr gw p p':Nat}{vb vb':Value}{s:ByteArray}{H H':qK}{st:List (Nat×Nat)}{m m':MV}(h:fK w B gm gr gw vb s p H st m)(hM:rA w' B gm gr gw vb' s p' H' m')(hf:Fx (J1 gm gr gw vb) w w')(hk:∀k,vb'.ownBlock=some k->vb.ownBlock=some k\/w.heap.size<=k)(hv:m'.vs=m.vs)(ho:m.One->m'.One):fK w' B gm gr gw vb' s p' H' st m':=by
 have h1:eK 2 w' B 101 m.vs (st.map stC):=h.sts.fx hf (fun q e z=>by
  obtain⟨a,b,c,d⟩:=h.sd q e
  rcases z with z|z|z|z
  ·exact a z
  ·exact b z
  ·exact c z
  ·exact d z)
 refine⟨hM,by rw[hv];exact h1,fun k e=>?_,ho h.one⟩
 ·rw[hv]at e
  obtain⟨a,b,c,d⟩:=h.sd k e;refine⟨a,b,c,fun z=>?_⟩
  rcases hk k z with q|q
  ·exact d q
  ·have:=(h.sts.lt k e).2;omega
theorem fK.up{w w':World}{B gm gr gw p:Nat}{vb:Value}{s:ByteArray}{H:qK}{st:List (Nat×Nat)}{m:MV}(h:fK w B gm gr gw vb s p H st m)(hb:Below w.heap.size w w'):fK w' B gm gr gw vb s p H st m:=⟨h.mach.up hb,h.sts.up hb,h.sd,h.one⟩
theorem fK.mset{w w':World}{B gm gr gw p:Nat}{vb:Value}{s:ByteArray}{H:qK}{st:List (Nat×Nat)}{m m':MV}(h:fK w B gm gr gw vb s p H st m)(hm:mR w' B gm gr gw m')(hg:w.grownBy w' (some gm))(hv:m'.vs=m.vs)(ho:m.One->m'.One:=by first|exact id|exact fun h=>⟨rfl,h.2⟩|exact fun h=>⟨h.1,rfl,h.2.2⟩|exact fun h=>⟨rfl,rfl,h.2.2⟩|exact MV.One.turn):fK w' B gm gr gw vb s p H st m'/\Fx (iV gm gr gw vb m.vs) w w':=by
 obtain⟨a,b⟩:=h.mach.mset hm hg
 exact⟨h.make a b (fun k e=>.inl e) hv ho,b.mono (fun k e=>.inl e)⟩
theorem rA.fx{S:Nat->Prop}{w w':World}{B gm gr gw p:Nat}{vb:Value}{s:ByteArray}{H:qK}{m:MV}(h:rA w B gm gr gw vb s p H m)(hf:Fx S w w')(hS:∀k,J1 gm gr gw vb k->¬S k):rA w' B gm gr gw vb s p H m:=
 ⟨h.box.fx hf (hS gm (.inl rfl)),⟨hf.own h.rd.own (fun k e=>by cases e;exact hS _ (.inr (.inl rfl)))⟩,h.win.fx hf (hS gw (.inr (.inr (.inl rfl)))) (fun k e=>hS k (.inr (.inr (.inr e)))),h.n1,h.n2,h.n3,h.b1,h.b2,h.Br⟩
theorem fK.push{w w5:World}{B gm gr gw p:Nat}{vb v':Value}{s:ByteArray}{H:qK}{st:List (Nat×Nat)}{m:MV}{x:Nat×Nat}(h:fK w B gm gr gw vb s p H st m)(ho:eK 2 w5 B 101 v' (st.map stC++[stC x]))(hg:w.grownBy w5 m.vs.ownBlock)(hk:∀k,v'.ownBlock=some k->m.vs.ownBlock=some k\/w.heap.size<=k):
  mR w5 B gm gr gw m/\fK (w5.setCell ⟨gm,11,none⟩ v') B gm gr gw vb s p H (st++[x]) {m with vs:=v'}/\Fx (iV gm gr gw vb m.vs) w (w5.setCell ⟨gm,11,none⟩ v'):=by
 have hf:Fx (fun k=>m.vs.ownBlock=some k) w w5:=jn hg (fun k e=>e)
 have hM:rA w5 B gm gr gw vb s p H m:=h.mach.fx hf (fun k e z=>by
  obtain⟨a,b,c,d⟩:=h.sd k z
  rcases e with e|e|e|e
  ·exact a e
  ·exact b e
  ·exact c e
  ·exact d e)
 obtain⟨hS,hG⟩:=hM.box.set 11 v' (m':={m with vs:=v'}) rfl
 obtain⟨hM6,hF6⟩:=hM.mset hS hG;have hgm:=h.mach.box.blk.2;have hgr:=h.mach.rd.lt
 have hgw:gw<w.heap.size/\∀k,vb.ownBlock=some k->k<w.heap.size:=by
  obtain⟨b,hb,-⟩:=h.mach.win
  exact⟨hb.box.blk.2,fun k e=>(hb.own.lt k e).2⟩
 have hsd:∀k,v'.ownBlock=some k->k≠gm/\k≠gr/\k≠gw/\vb.ownBlock≠some k:=fun k e=>by
  rcases hk k e with z|z
  ·exact h.sd k z
  ·exact⟨by omega,by omega,by omega,fun q=>by have:=hgw.2 k q;omega⟩
 refine⟨hM.box,⟨hM6,?_,hsd,h.one⟩,?_⟩
 ·rw[List.map_append]
  exact ho.keep hG (.inr (fun e=>(hsd gm e).1 rfl))
 ·exact(hf.mono (fun k e=>.inr e)).trans (hF6.mono (fun k e=>.inl e))
def q6X(m m':MV):Prop:=m'.made=m.made/\m'.told=m.told/\m'.waits=m.waits/\m'.wrong=m.wrong
def xH(B gm gr gw:Nat)(vb:Value)(X:Nat->Prop)(s:ByteArray)(z:IS)(m:MV)(y:Nat×IS)(w:World)(e:Ending)(w':World):Prop:=
 ∃c p' H' vb' m',e=.returned (.tuple #[.string c,.int .i64 (y.1:Nat)])/\Fx (iV gm gr gw vb m.vs) w w'/\(∀k,vb'.ownBlock=some k->vb.ownBlock=some k\/w.heap.size<=k)/\(∀k,m'.vs.ownBlock=some k->m.vs.ownBlock=some k\/w.heap.size<=k)/\q6X m m'/\
  (y.1=0->E3 w' B gm gr gw vb' X s y.2 m'/\y.2.h=z.h++bys c)/\(y.1≠0->fK w' B gm gr gw vb' s p' H' z.st m')
theorem q1p(a b:Nat):∀u∈([[Value.int .i64 (a:Nat),.int .i64 (b:Nat)]]:List (List Value)).flatten,u.oneCell'=true:=by
 intro u hu;simp at hu;rcases hu with rfl|rfl<;>rfl
theorem A6(a b:Nat):∀x∈([[Value.int .i64 (a:Nat),.int .i64 (b:Nat)]]:List (List Value)),x.length=2:=by
 intro x hx;simp at hx;subst hx;rfl
theorem q83{w:World}{B gm gr gw pre:Nat}{vb:Value}{X:Nat->Prop}{s:ByteArray}{z:IS}{m:MV}(h:fK w B gm gr gw vb s z.p z.h z.st m)(hs:s.size<=4294967296)(hp:z.p<=8*s.size)(qaK:m.made=z.h.length-pre)(hst:z.st.length<=100000000)(hX:∀k,X k->k<w.heap.size):
  Calls Tryz.prog 124 #[.pointer (some ⟨gm,0,none⟩)] w (xH B gm gr gw vb X s z m (iR (qH s) (8*s.size) pre z) w):=by
 obtain⟨Y,hY⟩:∃Y,Y=iR (qH s) (8*s.size) pre z:=⟨_,rfl⟩;rw[<-hY];have HY:=q7 hY;clear hY;unfold iR at HY;have HF:=q7 h;have HX:=q7 hX;clear hX;have HAT:=q7 (atS h.mach.rd);have HRP:=q7 (q6i h.mach.rd hs hp);unfold oQ at HRP;have HER:=q7 (fun e=>P1 (N:=qH s) (T:=8*s.size) (p:=z.p) ⟨s.size,rfl⟩ hp e)
 have HKI:=q7 (fun e=>lG (N:=qH s) (T:=8*s.size) (p:=z.p) e)
 have HSZ:=q7 (fun e=>zX (N:=qH s) (T:=8*s.size) (p:=z.p) ⟨s.size,rfl⟩ hp e)
 generalize jk (qH s) (8*s.size) z.p=D at*;have HMD:=q7 qaK;have c0:w.cell? ⟨gm,0,none⟩=some (.pointer (some ⟨gr,0,none⟩)):=h.mach.box.cell (by decide)
 have hgm:=h.mach.box.blk.2;clear h qaK
 go_enter Tryz.func124,Tryz.ntmps124
 go_upto_region 3 with(first|((with_reducible go_at_call 127);(with_reducible refine HAT.out.mono ?_);rintro e w' ⟨rfl,hw⟩;rw[hw];clear hw)|((with_reducible go_at_call 155);(with_reducible refine HRP.out.mono ?_);rintro e w1 ⟨v1,v2,rfl,ho1,ho2,hx,hg⟩;have HX1:=q7 hx;have HG1:=q7 hg;have HO1:=q7 ho1;have HO2:=q7 ho2;obtain⟨o1,c1,g1,hv1,-⟩:=ho1.cases;obtain⟨o2,c2,g2,hv2,-⟩:=ho2.cases;subst hv1 hv2;generalize (ints (nls D.1.lits)).length=n1 at*;generalize (ints (nls D.1.dists)).length=n2 at*;clear ho1 ho2 hx hg))
 have HHA:=q7 (q2E w1 D.1.fin (D.1.kind:Nat) (D.1.size:Nat) o1 o2 n1 n2 c1 c2 112);have HBA:=q7 (qn w1 (.cells #[.bool D.1.fin,.int .i64 (D.1.kind:Nat),.int .i64 (D.1.size:Nat),.slice o1 n1 c1,.slice o2 n2 c2] 112));obtain⟨hM1,hF1⟩:=HF.out.mach.read HX1.out HG1.out;have HM2:=q7 (hM1.up HBA.out);have HB2:=q7 HBA.out.size;have HF2:=q7 (hF1.trans (qP (S:=J1 gm gr gw vb) HBA.out));have q9R:=q7 (HO1.out.up HBA.out);have qaV:=q7 (HO2.out.up HBA.out);have hw1:w.heap.size<=w1.heap.size:=HG1.out.size;generalize w1.alloc (.cells #[.bool D.1.fin,.int .i64 (D.1.kind:Nat),.int .i64 (D.1.size:Nat),.slice o1 n1 c1,.slice o2 n2 c2] 112)=w2 at*;have HW1:=q7 hw1;generalize w1.heap.size=b1 at*;clear hM1 hF1 HX1 HG1 HO1 HO2 HBA HAT HRP c0 hgm;have HU2:=q7 (HF.out.make HM2.out HF2.out (fun k e=>.inl e) rfl id)
 by_cases he:D.2.1=0
 ·rw[if_neg (by rw[he];exact fun h=>h rfl)]at HY
  have hei:((D.2.1:Int) != 0)=false:=by rw[he];rfl
  have qmx:=q7 (HKI.out he);have qkU:=q7 (HER.out he);have qmu:=q7 (HSZ.out he)
  go_upto_region 5 with(fail)
  obtain⟨row,hrw⟩:∃row,row=m.vs.ownBlock:=⟨_,rfl⟩;have q97:=q7 hrw;have hne:some gm≠row:=fun e=>(HU2.out.sd gm (by rw[<-hrw,<-e])).1 rfl
  have c11:w2.cell? ⟨gm,11,none⟩=some m.vs:=HM2.out.box.cell (by decide)
  have c7:w2.cell? ⟨gm,7,none⟩=some (.int .i64 (m.made:Nat)):=HM2.out.box.cell (by decide)
  have hgm:=HM2.out.box.blk.2;obtain⟨mm,hmm⟩:∃mm,mm=m.made:=⟨_,rfl⟩;have HMM:=q7 hmm;rw[<-hmm]at c7;have HTO:=q7 ((HU2.out.sts.up (qC w2 1)).up (qn _ (.cells #[.int .i64 (z.p:Nat),.int .i64 (mm:Nat)] 101)));rw[<-World.drew_is_drewN]at HTO;have hsl:=iY 2 w2.drew #[.int .i64 (z.p:Nat),.int .i64 (mm:Nat)] 101 [[.int .i64 (z.p:Nat),.int .i64 (mm:Nat)]] rfl (A6 _ _) (by simp)
  have HSL:Hid (SlK 2 (w2.drew.alloc (.cells #[.int .i64 (z.p:Nat),.int .i64 (mm:Nat)] 101)) (.slice (some ⟨w2.heap.size,0,none⟩) 1 1) [[.int .i64 (z.p:Nat),.int .i64 (mm:Nat)]]):=q7 (by simpa using hsl)
  have HLN:Hid ((z.st.map stC).length+[[Value.int .i64 (z.p:Nat),.int .i64 (mm:Nat)]].length<=1000000000):=q7 (by rw[List.length_map,List.length_singleton];omega)
  have HT4:Hid (B<=(w2.drew.alloc (.cells #[.int .i64 (z.p:Nat),.int .i64 (mm:Nat)] 101)).heap.size):=q7 (qa HM2.out.B (qn w2.drew _).size);clear hrw hsl hmm;refine jw (fun w'=>∃x,w'=chg w2 row x) [0,1,2,3,4,5,6,7,8,9,10] [11,12,13,14] [15] (by kernel_rfl) (by kernel_rfl) (qW (qV _ _)) ?_
  simp only[pk]
  repeat(go_big_quiet_step (fail))
  refine wpQuiet_nil ?_
  (unfold qy;go_wp2;refine⟨qW (qv (by repeat(first|exact qj _ _|assumption|refine qw ?_ _|refine qk ?_|refine qA ?_ _|refine qs ?_ _)) _),?_⟩)
  unfold qy
  go_wp2_with(at_builtin;go_loud (refine rS 2 rfl (.tmp 27) (.tmp 34) 36 rfl B 101 (.agg #[.int .i64 0,.int .i64 0]) 16 Tryz.underlying36 (by kernel_rfl) rfl (by decide) (by decide) m.vs _ rfl HTO.out _ _ rfl HSL.out (A6 _ _) (q1p _ _) HLN.out HT4.out ?_);intro v' w5 hown1 hg1 hk1;rw[<-q97.out]at hg1 hk1;have HO5:=q7 hown1;have HG5:=q7 hg1;have HK5:=q7 hk1;clear hown1 hg1 hk1)
  refine⟨qW (qp (qv (by repeat(first|exact qj _ _|assumption|refine qw ?_ _|refine qk ?_|refine qA ?_ _|refine qs ?_ _)) _) HG5.out),?_⟩
  (unfold qy;go_wp2;refine⟨qW (qp (qv (by repeat(first|exact qj _ _|assumption|refine qw ?_ _|refine qk ?_|refine qA ?_ _|refine qs ?_ _)) _) HG5.out),?_⟩)
  (unfold qy;go_wp2;refine⟨qW (qp (qv (by repeat(first|exact qj _ _|assumption|refine qw ?_ _|refine qk ?_|refine qA ?_ _|refine qs ?_ _)) _) HG5.out),?_⟩)
  unfold qy;have HU3:=q7 ((HU2.out.up (qC w2 1)).up (qn _ (.cells #[.int .i64 (z.p:Nat),.int .i64 (mm:Nat)] 101)));rw[<-World.drew_is_drewN]at HU3;obtain⟨o5,k5,q5,off5,hv5,-,-⟩:=HO5.out.sl;obtain⟨l5,hl5⟩:∃l5,l5=(z.st.map stC++[[Value.int .i64 (z.p:Nat),.int .i64 (mm:Nat)]]).length:=⟨_,rfl⟩;rw[<-hl5]at hv5;subst hv5;obtain⟨hB5,hU6,hF6⟩:=HU3.out.push (x:=(z.p,mm)) HO5.out (by have h:=HG5.out;rw[q97.out]at h;exact h) (by have h:=HK5.out;rw[q97.out]at h;exact h)
  have c115:w5.cell? ⟨gm,11,none⟩=some m.vs:=hB5.cell (by decide)
  have f115:=hB5.free 11;have g5:=hB5.blk.2;have HU6:=q7 hU6;have hb3:Below w2.heap.size w2 (w2.drew.alloc (.cells #[.int .i64 (z.p:Nat),.int .i64 (mm:Nat)] 101)):=(qC w2 1).trans ((qn _ _).mono (q9 _));have HF6:=q7 ((qP (S:=iV gm gr gw vb m.vs) hb3).trans hF6)
  have HK6:Hid (∀k,(Value.slice o5 l5 k5).ownBlock=some k->m.vs.ownBlock=some k\/w2.heap.size<=k):=q7 (fun k e=>by
   have h:=HK5.out k e;rw[q97.out]at h
   exact h.imp id (fun q=>qa hb3.size q))
  clear hB5 hU6 hF6 HU3 hl5 HTO HSL HLN HT4 HG5 HK5 HO5;unfold qy;go_wp2;refine⟨trivial,?_⟩;unfold qy;generalize w5.setCell ⟨gm,11,none⟩ (.slice o5 l5 k5)=w6 at*;clear c115 f115 g5 c11 c7 hgm hb3
  have hlt:gm<w.heap.size/\gr<w.heap.size/\gw<w.heap.size/\(∀k,vb.ownBlock=some k->k<w.heap.size)/\(∀k,m.vs.ownBlock=some k->k<w.heap.size):=by
   obtain⟨b,hb,-⟩:=HF.out.mach.win
   exact⟨HF.out.mach.box.blk.2,HF.out.mach.rd.lt,hb.box.blk.2,fun k e=>(hb.own.lt k e).2,fun k e=>(HF.out.sts.lt k e).2⟩
  have HLT:=q7 hlt
  have hge:∀k,w.heap.size<=k->¬iV gm gr gw vb m.vs k:=fun k hk e=>by
   obtain⟨a,b,c,d,f⟩:=hlt
   rcases e with(e|e|e|e)|e
   ·omega
   ·omega
   ·omega
   ·have:=d k e;omega
   ·have:=f k e;omega
  have HGE:=q7 hge;have HH6:=q7 (HF6.out.own HHA.out (fun k e=>by cases e;exact hge _ HW1.out))
  have HI1:=q7 (HF6.out.own q9R.out (fun k e=>hge k (q9R.out.lt k e).1))
  have HI2:=q7 (HF6.out.own qaV.out (fun k e=>hge k (qaV.out.lt k e).1))
  obtain⟨hS7,hG7⟩:=HU6.out.mach.box.set 3 (.bool D.1.fin) (m':={m with vs:=.slice o5 l5 k5,fin:=D.1.fin}) rfl
  obtain⟨hU7,hF7⟩:=HU6.out.mset hS7 hG7 rfl;have qhd:gm≠b1:=fun e=>by have:=hlt.1;have:=HW1.out;omega
  have HH7:=q7 (HH6.out.keep hG7 (.inr (fun e=>qhd (by injection e with e;exact e.symm))))
  have qkL:=q7 (HI1.out.keep hG7 (.inr (fun e=>by have h1:=(HI1.out.lt gm e).1;have:=hlt.1;omega)))
  have qkK:=q7 (HI2.out.keep hG7 (.inr (fun e=>by have h1:=(HI2.out.lt gm e).1;have:=hlt.1;omega)))
  have HU7:=q7 hU7;have HF7:=q7 (bU HF6.out (fun k e=>.inl e) (fun k e=>HK6.out k e) hF7)
  have c3:w6.cell? ⟨gm,3,none⟩=some (.bool m.fin):=HU6.out.mach.box.cell (by decide)
  have f3:=HU6.out.mach.box.free 3;have g6:=HU6.out.mach.box.blk.2;have p0:w6.cell? ⟨b1,0,none⟩=some (.bool D.1.fin):=HH6.out.cell (by simp)
  have p1:(w6.setCell ⟨gm,3,none⟩ (.bool D.1.fin)).cell? ⟨b1,1,none⟩=some (.int .i64 (D.1.kind:Nat)):=HH7.out.cell (by simp)
  have hb6:=HH6.out.blk.2;clear hS7 hG7 hU7 hF7 hge hlt HI1 HI2 q9R qaV HHA HH6 HU2 HM2
  go_upto_region 7 with(fail)
  generalize w6.setCell ⟨gm,3,none⟩ (.bool D.1.fin)=w7 at*;have qkE:Hid (∀k,(Value.slice o5 l5 k5).ownBlock=some k->m.vs.ownBlock=some k\/w2.heap.size<=k):=HK6;have qea:=q7 ((HF2.out.mono (fun k hk=>(Or.inl hk:iV gm gr gw vb m.vs k))).trans HF7.out)
  have HKW:Hid (∀k,(Value.slice o5 l5 k5).ownBlock=some k->m.vs.ownBlock=some k\/w.heap.size<=k):=q7 (fun k e=>(HK6.out k e).imp id (fun q=>qa (qa HW1.out HB2.out) q))
  clear p0 c3 f3 g6 hb6 HF6 HU6 HF7 HK6 qkE;have hb7:=HH7.out.blk.2;have g7:=HU7.out.mach.box.blk.2;have HME:Hid (mm=z.h.length-pre):=q7 (HMM.out.trans HMD.out)
  by_cases hk0:D.1.kind=0
  ·rw[if_pos hk0]at HY
   rw[hk0]at p1;have p2:w7.cell? ⟨b1,2,none⟩=some (.int .i64 (D.1.size:Nat)):=HH7.out.cell (by simp)
   have c4:w7.cell? ⟨gm,4,none⟩=some (.int .i64 (m.left:Nat)):=HU7.out.mach.box.cell (by decide)
   have f4:=HU7.out.mach.box.free 4;obtain⟨hS8,hG8⟩:=HU7.out.mach.box.set 4 (.int .i64 (D.1.size:Nat)) (m':={m with vs:=.slice o5 l5 k5,fin:=D.1.fin,left:=D.1.size}) rfl
   obtain⟨hU8,hF8⟩:=HU7.out.mset hS8 hG8 rfl;have HU8:=q7 hU8;have HF8:=q7 (bU (vs':=.slice o5 l5 k5) qea.out (fun k e=>.inl e) (fun k e=>HKW.out k e) hF8)
   have HTN:=q7 (q3b hU8.mach.box 1 (by decide))
   clear hS8 hG8 hU8 hF8
   go_wp2_with((with_reducible go_at_call 156);(refine HTN.out.mono ?_);rintro e w9 ⟨rfl,h9,g9⟩;have H9:=q7 h9;have G9:=q7 g9;clear h9 g9)
   go_ret2
   obtain⟨hU9,hF9⟩:=HU8.out.mset H9.out G9.out rfl;refine⟨⟨#[]⟩,0,[],vb,MV.turn {m with vs:=.slice o5 l5 k5,fin:=D.1.fin,left:=D.1.size} 1,by rw[HY.out];rfl,bU (vs':=.slice o5 l5 k5) HF8.out (fun k e=>.inl e) (fun k e=>HKW.out k e) hF9,fun k e=>.inl e,fun k e=>HKW.out k e,⟨rfl,rfl,rfl,rfl⟩,fun _=>?_,fun e=>?_⟩
   ·rw[HY.out]
    refine⟨⟨?_,⟨rfl,rfl,fun _=>rfl,fun _=>rfl,1,rfl⟩,fun e=>by cases e⟩,by simp[bys]⟩
    show fK w9 B gm gr gw vb s D.2.2 z.h (z.st++[(z.p,z.h.length-pre)]) _
    rw[<-HME.out]
    exact hU9
   ·rw[HY.out]at e;exact absurd rfl e
  ·rw[if_neg hk0]at HY
   obtain⟨qh4,qh3⟩:=qkU.out hk0;have hki:((D.1.kind:Int)==0)=false:=by simpa using hk0
   have p3:w7.cell? ⟨b1,3,none⟩=some (.slice o1 n1 c1):=HH7.out.cell (by simp)
   have HN1:=q7 (q7x (.slice o1 n1 c1) (nls D.1.lits) w7 qkL.out.sl);unfold yQ at HN1;rw[jm]at HN1;have HE1:=q7 qh4;have HE2:=q7 qh3;clear qh4 qh3
   go_upto_region 11 with(fail)
   go_wp2_with(fail)
   (with_reducible refine HN1.out.mono ?_)
   rintro e w8 ⟨hb8,⟨-,t1,rfl,ht1⟩|⟨h1,-⟩⟩
   ·have HU8:=q7 (HU7.out.up hb8)
    have HH8:=q7 (HH7.out.up hb8);have qhX:=q7 (qkK.out.up hb8);have HT8:=q7 ht1.iv;have HS8:=q7 hb8.size;have HF8:=q7 (qea.out.trans (qP (S:=iV gm gr gw vb m.vs) hb8));have c5:w8.cell? ⟨gm,5,none⟩=some m.vl:=HU8.out.mach.box.cell (by decide)
    have f5:=HU8.out.mach.box.free 5;have g8:=HU8.out.mach.box.blk.2;have p4:w8.cell? ⟨b1,4,none⟩=some (.slice o2 n2 c2):=HH8.out.cell (by simp)
    have hb1:=HH8.out.blk.2;obtain⟨hS9,hG9⟩:=HU8.out.mach.box.set 5 (.pointer (some ⟨t1,0,none⟩)) (m':={m with vs:=.slice o5 l5 k5,fin:=D.1.fin,vl:=.pointer (some ⟨t1,0,none⟩)}) rfl
    obtain⟨hU9,hF9⟩:=HU8.out.mset hS9 hG9 rfl;have HU9:=q7 hU9;have HG9:=q7 hG9;have HF9:=q7 (bU (vs':=.slice o5 l5 k5) HF8.out (fun k e=>.inl e) (fun k e=>HKW.out k e) hF9)
    have HH9:=q7 (HH8.out.keep hG9 (.inr (fun e=>qhd (by injection e with e;exact e.symm))))
    have qlu:gm<w7.heap.size:=g7;have qkJ:=q7 (qhX.out.keep hG9 (.inr (fun e=>by have h1:=(qhX.out.lt gm e).1;have:=HLT.out.1;omega)))
    have p49:(w8.setCell ⟨gm,5,none⟩ (.pointer (some ⟨t1,0,none⟩))).cell? ⟨b1,4,none⟩=some (.slice o2 n2 c2):=HH9.out.cell (by simp)
    have hb9:=HH9.out.blk.2;clear hb8 ht1 hS9 hG9 hU9 hF9
    go_upto_region 13 with(fail)
    generalize w8.setCell ⟨gm,5,none⟩ (.pointer (some ⟨t1,0,none⟩))=w9 at*;clear c5 f5 g8 p4 hb1 p1 p3;have HN2:=q7 (q7x (.slice o2 n2 c2) (nls D.1.dists) w9 qkJ.out.sl);unfold yQ at HN2;rw[jm]at HN2
    go_wp2_with(fail)
    (with_reducible refine HN2.out.mono ?_)
    rintro e w10 ⟨qck,⟨-,t2,rfl,ht2⟩|⟨h2,-⟩⟩
    ·have qd6:=q7 (HU9.out.up qck)
     have qkT:=q7 (HF9.out.trans (qP (S:=iV gm gr gw vb m.vs) qck))
     have qaH:∀k,w7.heap.size<=k->¬iV gm gr gw vb (.slice o5 l5 k5) k:=fun k hk e=>by
      obtain⟨a,b,c,d,-⟩:=HLT.out;have h7:w.heap.size<=w7.heap.size:=qea.out.size
      rcases e with(e|e|e|e)|e
      ·omega
      ·omega
      ·omega
      ·have:=d k e;omega
      ·have:=(HU7.out.sts.lt k e).2;omega
     have qbe:=q7 qaH;have qgn:w7.heap.size<=w9.heap.size:=qa HS8.out HG9.out.size;have qfq:=q7 qgn;have hf9:Fx (fun k=>k=gm) w8 w9:=jn HG9.out (fun k e=>by injection e with e;exact e.symm)
     have HTA:=q7 ((HT8.out.fx hf9 (fun k hk _ e=>by omega)).fx (qP (S:=fun _=>False) qck) (fun _ _ _ h=>h))
     have HTB:=q7 ht2.iv;have c6:w10.cell? ⟨gm,6,none⟩=some m.vd:=qd6.out.mach.box.cell (by decide)
     have f6:=qd6.out.mach.box.free 6;have g10:=qd6.out.mach.box.blk.2;obtain⟨qhk,qfc⟩:=qd6.out.mach.box.set 6 (.pointer (some ⟨t2,0,none⟩)) (m':={m with vs:=.slice o5 l5 k5,fin:=D.1.fin,vl:=.pointer (some ⟨t1,0,none⟩),vd:=.pointer (some ⟨t2,0,none⟩)}) rfl
     obtain⟨qfa,qhl⟩:=qd6.out.mset qhk qfc rfl;have qkf:=q7 qfa;have qbj:=q7 qfc;have qkS:=q7 (bU (vs':=.slice o5 l5 k5) qkT.out (fun k e=>.inl e) (fun k e=>HKW.out k e) qhl)
     have HTN:=q7 (q3b qfa.mach.box 2 (by decide))
     clear qck ht2 qhk qfc qfa qhl hf9 qaH qgn
     go_wp2_with((with_reducible go_at_call 156);(refine HTN.out.mono ?_);rintro e w12 ⟨rfl,h9,g9⟩;have H12:=q7 h9;have G12:=q7 g9;clear h9 g9)
     go_ret2
     obtain⟨qjX,qjZ⟩:=qkf.out.mset H12.out G12.out rfl;refine⟨⟨#[]⟩,0,[],vb,MV.turn {m with vs:=.slice o5 l5 k5,fin:=D.1.fin,vl:=.pointer (some ⟨t1,0,none⟩),vd:=.pointer (some ⟨t2,0,none⟩)} 2,by rw[HY.out];rfl,bU (vs':=.slice o5 l5 k5) qkS.out (fun k e=>.inl e) (fun k e=>HKW.out k e) qjZ,fun k e=>.inl e,fun k e=>HKW.out k e,⟨rfl,rfl,rfl,rfl⟩,fun _=>?_,fun e=>?_⟩
     ·rw[HY.out]
      have hfa:Fx (fun k=>k=gm) w10 w12:=jn (qp qbj.out G12.out) (fun k e=>by injection e with e;exact e.symm)
      refine⟨⟨?_,⟨rfl,rfl,fun e=>(by cases e),fun _=>rfl,2,rfl⟩,fun _=>?_⟩,by simp[bys]⟩
      ·show fK w12 B gm gr gw vb s D.2.2 z.h (z.st++[(z.p,z.h.length-pre)]) _
       rw[<-HME.out]
       exact qjX
      ·refine⟨_,_,_,_,HTA.out.fx hfa (fun k hk _ e=>by omega),HTB.out.fx hfa (fun k hk _ e=>by have:=qfq.out;omega),fun k hk=>⟨qbe.out k ?_,fun e=>?_⟩⟩
       ·have:=qfq.out
        omega
       ·have:=HX.out k e
        have h7:w.heap.size<=w7.heap.size:=qea.out.size;have:=qfq.out;omega
     ·rw[HY.out]at e;exact absurd rfl e
    ·exact absurd HE2.out h2
   ·exact absurd HE1.out h1
 ·rw[if_pos he]at HY
  have hei:((D.2.1:Int) != 0)=true:=by simpa using he
  go_wp2
  go_ret2
  refine⟨⟨#[]⟩,D.2.2,z.h,vb,m,by rw[HY.out];rfl,HF2.out.mono (fun k hk=>.inl hk),fun k e=>.inl e,fun k e=>.inl e,⟨rfl,rfl,rfl,rfl⟩,fun e=>?_,fun _=>HU2.out⟩
  rw[HY.out]at e
  exact absurd e he
theorem A7{N T s p:Nat}{z:IS}:(iQ N T z s p).2.st=z.st/\(iQ N T z s p).2.li=z.li/\(iQ N T z s p).2.di=z.di:=by
 unfold iQ pZ nV;split
 ·exact⟨rfl,rfl,rfl⟩
 ·split
  ·exact⟨rfl,rfl,rfl⟩
  ·split
   ·exact⟨rfl,rfl,rfl⟩
   ·split<;>exact⟨rfl,rfl,rfl⟩
theorem A8{N T:Nat}{z:IS}:(oU N T z).2.st=z.st/\(oU N T z).2.li=z.li/\(oU N T z).2.di=z.di:=by
 unfold oU oT;split
 ·exact⟨rfl,rfl,rfl⟩
 ·split
  ·exact⟨rfl,rfl,rfl⟩
  ·split
   ·exact A7
   ·exact⟨rfl,rfl,rfl⟩
theorem vD{T:Nat}{bs:qK}{z:IS}(h:z.md=1):(dI T bs z).2.st=z.st/\(dI T bs z).2.md≠2:=by
 unfold dI;split
 ·exact⟨rfl,(xC z).2⟩
 ·split
  ·exact⟨rfl,by rw[h];decide⟩
  ·exact⟨rfl,by show z.md≠2;rw[h];decide⟩
theorem eC.full{w:World}{B gm gr gw:Nat}{vb:Value}{X:Nat->Prop}{s:ByteArray}{z:IS}{m:MV}{y:Nat×IS}{e:Ending}{w':World}(hF:E3 w B gm gr gw vb X s z m)(h:eC B gm gr gw vb s z.h m (fun m'=>Y1 y.2 m'/\A3 m m') y w e w')(h1:y.2.st=z.st)
  (h2:y.1=0->y.2.md=2->z.md=2/\y.2.li=z.li/\y.2.di=z.di):xH B gm gr gw vb X s z m y w e w':=by
 obtain⟨c,p',H',vb',m',he,hM,hf,hk,hy,hn⟩:=h;have hf2:Fx (iV gm gr gw vb m.vs) w w':=hf.mono (fun k e=>.inl e)
 by_cases h0:y.1=0
 ·obtain⟨rfl,rfl,hc,hrel,hkp⟩:=hy h0
  have hvs:m'.vs=m.vs:=hkp.2.2.2.2.2.2;refine⟨c,y.2.p,y.2.h,vb',m',he,hf2,hk,fun k e=>.inl (by rw[<-hvs];exact e),⟨hkp.2.2.1,hkp.2.2.2.1,hkp.2.2.2.2.1,hkp.2.2.2.2.2.1⟩,fun _=>⟨⟨?_,hrel,fun h3=>?_⟩,hc⟩,fun h3=>absurd h0 h3⟩
  ·rw[h1];exact hF.f0.make hM hf hk hvs (fun o=>⟨by rw[hkp.1];exact o.1,by rw[hkp.2.1];exact o.2.1,hrel.2.2.2.2⟩)
  ·obtain⟨hz,e1,e2⟩:=h2 h0 h3
   obtain⟨ta,tb,tc,td,k1,k2,k3⟩:=hF.tabs hz;have l1:tb<=w.heap.size:=by obtain⟨_,_,q,_⟩:=k1;exact q
   have l2:td<=w.heap.size:=by obtain⟨_,_,q,_⟩:=k2;exact q
   rw[e1,e2,hkp.1,hkp.2.1,hvs];refine⟨ta,tb,tc,td,k1.fx hf2 (fun k a b=>(k3 k (.inl ⟨a,b⟩)).1),k2.fx hf2 (fun k a b=>(k3 k (.inr ⟨a,b⟩)).1),fun k hk'=>⟨fun e=>?_,(k3 k hk').2⟩⟩
   have hlt:k<w.heap.size:=by omega
   refine(k3 k hk').1 ?_
   rcases e with(e|e|e|e)|e
   ·exact .inl (.inl e)
   ·exact .inl (.inr (.inl e))
   ·exact .inl (.inr (.inr (.inl e)))
   ·rcases hk k e with q|q
    ·exact .inl (.inr (.inr (.inr q)))
    ·omega
   ·exact .inr e
 ·have hm:=hn h0
  subst hm
  exact⟨c,p',H',vb',m',he,hf2,hk,fun k e=>.inl e,⟨rfl,rfl,rfl,rfl⟩,fun h3=>absurd h3 h0,fun _=>hF.f0.make hM hf hk rfl id⟩
theorem q5p{a b:List Nat}(h:nls a=nls b):a=b:=by rw[<-jm a,h,jm]
theorem q1q{L:List Nat}(h:bE (nls L)=0):L.length<=320/\∀x∈L,x<=15:=by
 obtain⟨M,h1,h2,h3,-⟩:=gM h;rw[q5p h1];exact⟨h2,h3⟩
theorem q6Y{w:World}{B gm gr gw pre:Nat}{vb:Value}{X:Nat->Prop}{s:ByteArray}{z:IS}{m:MV}(hF:E3 w B gm gr gw vb X s z m)(hi:IOk (8*s.size) pre z)(hmd:z.md≠3)(hs:s.size<=4294967296)(qaK:m.made=z.h.length-pre)(hst:z.st.length<=100000000)(hX:∀k,X k->k<w.heap.size):
  ∃f,m.vf=.func (.func f) #[] #[]/\(∀args w,(callFunc f args).run Tryz.prog w=.ok (.enter f args) w)/\Calls Tryz.prog f #[.pointer (some ⟨gm,0,none⟩)] w (xH B gm gr gw vb X s z m (stI (qH s) (8*s.size) pre (bys s) z) w):=by
 have h3:=hi.md;have hv:=hF.rel.2.2.2.1 (by omega)
 unfold stI
 rcases(show z.md=0\/z.md=1\/z.md=2 by omega)with h0|h0|h0
 ·rw[h0]at hv
  refine⟨_,hv,enters_of Tryz.func124 (by kernel_rfl) rfl,?_⟩
  rw[if_pos h0]
  exact q83 hF.f0 hs hi.p qaK hst hX
 ·rw[h0]at hv
  refine⟨_,hv,enters_of Tryz.func183 (by kernel_rfl) rfl,?_⟩
  rw[if_neg (by rw[h0];decide),if_pos h0]
  obtain⟨k1,k2⟩:=vD (T:=8*s.size) (bs:=bys s) h0
  exact(q5o hF.f0.mach hs hi.p (hi.al h0) hi.left hF.rel h0).mono (fun e w' h=>h.full hF k1 (fun _ q=>absurd q k2))
 ·rw[h0]at hv
  refine⟨_,hv,enters_of Tryz.func184 (by kernel_rfl) rfl,?_⟩
  rw[if_neg (by rw[h0];decide),if_neg (by rw[h0];decide),if_pos h0]
  obtain⟨k1,k2,k3⟩:=A8 (N:=qH s) (T:=8*s.size) (z:=z);obtain⟨ta,tb,tc,td,t1,t2,t3⟩:=hF.tabs h0;obtain⟨a1,a2⟩:=q1q (hi.li.resolve_right (fun e=>e h0))
  obtain⟨b1,b2⟩:=q1q (hi.di.resolve_right (fun e=>e h0))
  exact(q6W hF.f0.mach t1 t2 (fun k x y e=>(t3 k (.inr ⟨x,y⟩)).1 (.inl e)) a2 b2 hs hi.p (by omega) (by omega) hF.rel).mono (fun e w' h=>h.full hF k1 (fun _ _=>⟨h0,k2,k3⟩))
theorem dK(P:Program)(g o:Nat)(t:TypeId)(fz:Nat×Nat):∀(vs:List Value) (i:Nat) (cur:Array Value) (w:World),w.heap[g]? =some (.cells cur t fz)->(cur.size<=fz.1\/fz.2=0)->o+i+vs.length<=cur.size->(∀v∈vs,v.oneCell'=true)->
  (storeCells ⟨g,o,none⟩ vs i).run P w=.ok () (w.setRow g (cur.toList.take (o+i)++vs++cur.toList.drop (o+i+vs.length)).toArray)
 |[],i,cur,w,hg,_,_,_=>by
  simp only[storeCells,List.append_nil,List.length_nil,Nat.add_zero,List.take_append_drop,Array.toArray_toList];rw[setRow_self w g cur t fz hg]
  rfl
 |v::rest,i,cur,w,hg,hf,hl,h1=>by
  have hi:o+i<cur.size:=by simp at hl;omega
  have qau:(⟨g,o,none⟩:Addr).add i=⟨g,o+i,none⟩:=by unfold Addr.add;split<;>simp_all
  have hcell:w.cell? ⟨g,o+i,none⟩=some cur[o+i]:=by simp[World.cell?,hg,hi]
  have qjB:w.frozen? ⟨g,o+i,none⟩=false:=by
   obtain⟨a,b⟩:=fz;simp only[World.frozen?,hg,Bool.and_eq_false_iff,qm];simp only at hf;omega
  have hst:(store ((⟨g,o,none⟩:Addr).add i) v).run P w=.ok () (w.setRow g (cur.setIfInBounds (o+i) v)):=by
   rw[qau,run_store P w _ v _ (h1 v (by simp)),hcell]
   simp[qjB,setCell_eq_setRow w g (o+i) cur t fz v hg]
  have ih:=dK P g o t fz rest (i+1) (cur.setIfInBounds (o+i) v) (w.setRow g (cur.setIfInBounds (o+i) v)) (setRow_heap w g cur _ t _ hg) (by simpa using hf) (by simp at hl⊢;omega) (fun x hx=>h1 x (by simp[hx]))
  simp only[storeCells,Sem.run_bind,hst,Result.andThen_ok,ih,setRow_setRow]
  congr 3
  have e:=list_seg_step cur.toList (o+i) v rest (by simp at hl⊢;omega)
  simpa[Array.toList_setIfInBounds,Nat.add_assoc]using e
def lN (w : World) (B : Nat) (E : TypeId) (v : Value) (xs : List Value) : Prop :=
  xs.length ≤ 140737488351232 ∧ ((v = .slice none 0 0 ∧ xs = []) ∨
   ∃ g cap cur fz, v = .slice (some ⟨g, 0, none⟩) xs.length cap ∧ B ≤ g ∧ w.heap[g]? = some (.cells cur E fz) ∧ (cur.size ≤ fz.1 ∨ fz.2 = 0) ∧ xs.length ≤ cap ∧ cap ≤ maxLen ∧ cur.size = cap ∧ cur.toList.take xs.length = xs)
theorem lN.lt{w:World}{B E:Nat}{v:Value}{xs:List Value}(h:lN w B E v xs):∀k,v.ownBlock=some k->B<=k/\k<w.heap.size:=by
 intro k hk;obtain⟨-,⟨rfl,-⟩|⟨g,cap,cur,fz,rfl,hb,hg,-⟩⟩:=h
 ·cases hk
 ·injection hk with hk;subst hk
  exact⟨hb,(Array.getElem?_eq_some_iff.1 hg).1⟩
theorem lN.fx{S:Nat->Prop}{w w':World}{B E:Nat}{v:Value}{xs:List Value}(h:lN w B E v xs)(hf:Fx S w w')(hS:∀k,v.ownBlock=some k->¬S k):lN w' B E v xs:=by
 obtain⟨h0,h1⟩:=h;refine⟨h0,?_⟩
 rcases h1 with h1|⟨g,cap,cur,fz,e,hb,hg,hr⟩
 ·exact .inl h1
 ·refine .inr ⟨g,cap,cur,fz,e,hb,?_,hr⟩
  rw[hf.block g (Array.getElem?_eq_some_iff.1 hg).1 (hS g (by rw[e];rfl))];exact hg
theorem lN.sl{w:World}{B:Nat}{E:TypeId}{v:Value}{xs:List Value}(h:lN w B E v xs):Sl w v xs:=by
 obtain⟨hl,h⟩:=h
 rcases h with⟨rfl,rfl⟩|⟨g,cap,cur,fz,rfl,hb,hg,hf,hnc,hcm,hcs,q91⟩
 ·exact Sl.nil w
 ·refine⟨some ⟨g,0,none⟩,cap,g,0,rfl,⟨fun _=>rfl,hnc,hcm,by omega,fun _=>(Array.getElem?_eq_some_iff.1 hg).1⟩,fun i hi=>?_⟩
  rw[cell_of_row _ _ _ _ _ _ hg,Nat.zero_add];have:cur[i]? =(cur.toList.take xs.length)[i]? :=by rw[List.getElem?_take,if_pos hi];simp
  rw[this,q91,List.getElem?_eq_getElem hi]
  simp[List.getD,hi]
theorem eF{P:Program}{ops:Array Oper}{rest:List Oper}{o:Oper}{a:Act}{w:World}{Q:Exit->Act->World->Prop}(hgd:o.guard=none)(src dst e:TypeId)(x:Operand)(ho:o.op=.convert src dst x)(hs:P.underlying src=some .string)(hd:P.underlying dst=some (.slice e))(he:P.underlying e=some (.int .u8))(s:ByteArray)(hx:a.eval x=.string s)(hsz:s.size<=100000000)
  (h:∀v' w',lN w' w.heap.size e v' (qD (bys s))->Below w.heap.size w w'->wpList P ops Q rest (a.put o.dst v') w'):wpList P ops Q (o::rest) a w:=by
 have hr:=run_bytes_of_string (P:=P) w src dst e s hs hd he;refine wpList_plain hgd fun K hK=>?_
 unfold Oper.wp execOp;simp only[ho,hx,Sem.run_bind,Sem.run_pure,Result.andThen_ok,hr];refine hK _ _ (h _ _ ?_ ?_)
 ·have hl:(qD (bys s)).length=s.size:=by rw[qz,qF]
  have hmx:s.size<=maxLen:=by simp only[maxLen];omega
  have hge:=grownCap_ge w s.size 0 e
  have hgs:(bytesRow s (grownCap w s.size 0 e)).size=grownCap w s.size 0 e:=by
   unfold bytesRow;simp only[Array.size_append,Array.size_map,Array.size_replicate]
   show s.data.size+(grownCap w s.size 0 e-s.data.size)=_
   have:s.data.size=s.size:=rfl;omega
  have hg:(w.drew.alloc (.cells (bytesRow s (grownCap w s.size 0 e)) e ((bytesRow s (grownCap w s.size 0 e)).size,(bytesRow s (grownCap w s.size 0 e)).size+1))).heap[w.heap.size]? =some (.cells (bytesRow s (grownCap w s.size 0 e)) e ((bytesRow s (grownCap w s.size 0 e)).size,(bytesRow s (grownCap w s.size 0 e)).size+1)):=by
   show(w.heap.push _)[w.heap.size]? =_
   simp
  refine⟨by rw[hl];omega,.inr ⟨w.heap.size,grownCap w s.size 0 e,_,_,by rw[hl],q9 _,hg,.inl (q9 _),by rw[hl];exact hge,grownCap_le_maxLen w s.size 0 e hmx,hgs,?_⟩⟩
  rw[hl];unfold bytesRow;have e1:(s.data.map (fun b=>Value.int .u8 b.toNat)).toList=qD (bys s):=by simp[qD,bys]
  rw[Array.toList_append,e1,<-hl,List.take_left]
 ·exact(qC w 1).trans ((qn w.drew _).mono (q9 _))
theorem A9{P:Program}(w:World)(B:Nat)(t u ty E:TypeId)(z:Value)(bytes:Nat)(ht:P.underlying t=some (.slice E))(hu:P.underlying u=some .string)(q92:(P.info? E).map (fun i=>(i.zero,i.size,i.bytes))=some (some z,1,bytes))(hz:z.cells.size=1)(hby:bytes<=24)
  (v:Value) (xs:List Value) (hown:lN w B E v xs) (s:ByteArray) (hlen:xs.length+s.size<=4294967296) (hB:B<=w.heap.size):
  ∃v' w',(Builtin.append_ #[t,u] ty #[v,.string s]).run P w=.ok v' w'/\lN w' B E v' (xs++qD s.data.toList)/\w.grownBy w' v.ownBlock/\(∀k,v'.ownBlock=some k->v.ownBlock=some k\/w.heap.size<=k):=by
 obtain⟨i,hi,hz0,hz1,hz2⟩:∃i0,P.info? E=some i0/\i0.zero=some z/\i0.size=1/\i0.bytes=bytes:=by
  cases hq:P.info? E with
  |none=>simp[hq]at q92
  |some i0=>simp[hq]at q92;exact⟨i0,rfl,q92.1,q92.2.1,q92.2.2⟩
 have hnl:(qD s.data.toList).length=s.size:=by rw[qz];simp
 have h1:=gC s.data.toList;have hl1:xs.length+s.size<=maxLen:=by simp only[maxLen];omega
 have hl2:(xs.length+s.size)*bytes<=140737488355328:=by
  have:=Nat.mul_le_mul hlen hby;omega
 have hf:=fun w'=>fQ (P:=P) w' 1 s
 have hsl:=hown.sl
 rcases hown with⟨hsm,hrow⟩
 rcases hrow with⟨rfl,rfl⟩|⟨g,cap,cur,fz,rfl,hbg,hg,hfz,hnc,hcm,hcs,q91⟩
 ·obtain⟨v',w',h2,⟨⟨h3,h4⟩,h5⟩,h6,h7⟩:=sF (P:=P) w B t u ty E z bytes ht hu q92 hz hby (.slice none 0 0) [] (Own.nil w B E) s hlen hB
  refine⟨v',w',h2,⟨h5,?_⟩,h6,h7⟩
  rcases h4 with⟨a,b⟩|⟨g,cap,cur,a,b,c,d,e,f,i⟩
  ·exact .inl ⟨a,List.length_eq_zero_iff.1 b⟩
  ·exact .inr ⟨g,cap,cur,(0,0),a,b,c,.inr rfl,d,e,by omega,by simpa using i⟩
 generalize qD s.data.toList=news at*;have q96:(xs++news).length<=140737488351232:=by rw[qg,hnl];omega
 by_cases hroom:xs.length+s.size<=cap
 ·have qcf:xs.length+news.length<=cur.size:=by rw[hnl,hcs];omega
  have hst:=dK P g xs.length E fz news 0 cur w hg hfz (by simpa using qcf) h1
  simp only[Nat.add_zero]at hst;generalize hR:(cur.toList.take xs.length++news++cur.toList.drop (xs.length+news.length)).toArray=R at hst
  have hRs:R.size=cur.size:=by
   rw[<-hR];simp only[List.size_toArray,qg,List.length_take,List.length_drop,Array.length_toList];omega
  refine⟨.slice (some ⟨g,0,none⟩) (xs.length+s.size) cap,w.setRow g R,?_,⟨q96,.inr ⟨g,cap,R,fz,?_,hbg,setRow_heap w g cur R E _ hg,by rw[hRs];exact hfz,?_,hcm,by rw[hRs];exact hcs,?_⟩⟩,⟨rfl,rfl,rfl,by simp,fun k _ hk=>setRow_other w g k _ (fun e=>hk (by simp[Value.ownBlock,e]))⟩,fun k hk=>.inl hk⟩
  ·have hf0:=hf w
   simp[Builtin.append_,run_underlying ht,run_underlying hu,sizeOf,typeInfo,hi,hz1,Builtin.lenOf,hroom,hf0,Addr.add_lit,hst]
  ·rw[qg,hnl]
  ·rw[qg,hnl];exact hroom
  ·rw[<-hR,q91]
   exact List.take_left
 ·have holds:∀j u,xs[j]? =some u->w.cell? ((⟨g,0,none⟩:Addr).add j)=some u:=fun j u hj=>by
   obtain⟨hjl,hju⟩:=List.getElem?_eq_some_iff.1 hj;rw[aZ,cell_of_row _ _ _ _ _ _ hg,Nat.zero_add];have:cur[j]? =(cur.toList.take xs.length)[j]? :=by rw[List.getElem?_take,if_pos hjl];simp
   rw[this,q91,hj]
  have hge:=grownCap_ge w (xs.length+s.size) cap E;have qeV:grownCap w (xs.length+s.size) cap E<=maxLen:=grownCap_le_maxLen w (xs.length+s.size) cap E hl1;refine⟨.slice (some ⟨w.heap.size,0,none⟩) (xs.length+s.size) (grownCap w (xs.length+s.size) cap E),w.drew.alloc (.cells (xs.toArray++news.toArray++Builtin.zeroCells z.cells (grownCap w (xs.length+s.size) cap E-(xs.length+s.size))) E),?_,⟨q96,.inr ⟨w.heap.size,_,_,(0,0),by rw[qg,hnl],hB,heap_alloc_new w.drew _,.inr rfl,by rw[qg,hnl];exact hge,qeV,?_,?_⟩⟩,⟨rfl,rfl,rfl,by simp,fun k hk _=>Below.heap_alloc w.drew _ k hk⟩,fun k hk=>.inr (by simp[Value.ownBlock]at hk;omega)⟩
  ·have hn:¬(xs.length+s.size<=cap):=hroom
   have qbI:¬(9223372036854775807<((xs.length:Int)+(s.size:Int))):=by omega
   have qbJ:¬(281474976710656<Builtin.nextslicecap (xs.length+s.size) cap*i.bytes):=by
    have:=growslice_fits (need:=xs.length+s.size) (old:=cap) (bytes:=bytes) (by omega) hl2
    rw[hz2];omega
   have hf0:=hf w.drew;have hfo:=run_firstCells_some (P:=P) w.drew 1 xs.length ⟨g,0,none⟩ xs.length cap xs (by omega) (by simpa using holds)
   simp[Builtin.append_,run_underlying ht,run_underlying hu,sizeOf,typeInfo,zeroValue,hi,hz0,hz1,Builtin.lenOf,hn,qbI,qbJ,Question.forced,hf0,hfo,newRow,grownCap]
   congr 2
   apply Array.ext'
   simp[qh]
  ·simp only[Array.size_append,List.size_toArray,size_zeroCells,hz,hnl]
   omega
  ·simp only[Array.toList_append]
   show List.take _ (xs++news++_)=_
   exact List.take_left
theorem kJ{P:Program}{ops:Array Oper}{rest:List Oper}{o:Oper}{a:Act}{w:World}{Q:Exit->Act->World->Prop}(hgd:o.guard=none)(s x:Operand)(t u:TypeId)
  (ho:o.op=.call {callee:=.builtin .append,args:=#[s,x],argTypes:=#[t,u]})
  (B E:TypeId) (z:Value) (bytes:Nat) (ht:P.underlying t=some (.slice E)) (hu:P.underlying u=some .string) (q92:(P.info? E).map (fun i=>(i.zero,i.size,i.bytes))=some (some z,1,bytes)) (hz:z.cells.size=1) (hby:bytes<=24)
  (v:Value) (xs:List Value) (hs:a.eval s=v) (hown:lN w B E v xs) (tx:ByteArray) (hxe:a.eval x=.string tx) (hlen:xs.length+tx.size<=4294967296) (hB:B<=w.heap.size)
  (h:∀v' w',lN w' B E v' (xs++qD tx.data.toList)->w.grownBy w' v.ownBlock->(∀k,v'.ownBlock=some k->v.ownBlock=some k\/w.heap.size<=k)->wpList P ops Q rest (a.put o.dst v') w'):wpList P ops Q (o::rest) a w:=by
 obtain⟨v',w',hr,h2,h3,h4⟩:=A9 (P:=P) w B t u o.type E z bytes ht hu q92 hz hby v xs hown tx hlen hB;refine wpList_plain hgd fun K hK=>?_
 unfold Oper.wp execOp;simp only[ho,resolve,invoke,builtin,Sem.run_bind,Sem.run_pure,Result.andThen_ok,List.map_toArray,List.map_cons,List.map_nil,hs,hxe,hr]
 exact hK _ _ (h v' w' h2 h3 h4)
end Go.Cm
namespace Go.Cm
open Go.RowKit Go.Proofs
theorem q3c{N T pre:Nat}{z:IS}:(iR N T pre z).2.st.length<=z.st.length+1:=by
 unfold iR;split
 ·exact Nat.le_succ _
 ·simp
theorem q4b{N T pre:Nat}{bs:qK}{z:IS}:(stI N T pre bs z).2.st.length<=z.st.length+1:=by
 unfold stI;split
 ·exact q3c
 ·split
  ·rename_i h;rw[(vD h).1];exact Nat.le_succ _
  ·split
   ·rw[A8.1];exact Nat.le_succ _
   ·exact Nat.le_succ _
theorem q5q{pre:Nat}{y:Nat×IS}:(lF pre y).2.st=y.2.st:=by
 have key:∀M,(if y.1≠0 then y else if M<y.2.h.length-pre then(3,{y.2 with h:=y.2.h.take (pre+M)})else y).2.st=y.2.st:=by
  intro M
  by_cases h1:y.1≠0
  ·rw[if_pos h1]
  ·rw[if_neg h1]
   by_cases h2:M<y.2.h.length-pre
   ·rw[if_pos h2]
   ·rw[if_neg h2]
 have h:=key 16777216;unfold lF
 exact h
theorem P7{N T pre:Nat}{bs:qK}{z0:IS}:∀k,(j5 N T pre bs z0 k).2.st.length<=z0.st.length+k
 |0=>q9 _
 |k+1=>by
  have ih:=P7 (N:=N) (T:=T) (pre:=pre) (bs:=bs) (z0:=z0) k
  show(if(j5 N T pre bs z0 k).1≠0\/(j5 N T pre bs z0 k).2.md=3 then j5 N T pre bs z0 k else lF pre (stI N T pre bs (j5 N T pre bs z0 k).2)).2.st.length<=_
  split
  ·omega
  ·rw[q5q]
   have:=q4b (N:=N) (T:=T) (pre:=pre) (bs:=bs) (z:=(j5 N T pre bs z0 k).2);omega
noncomputable def jc(s:ByteArray)(pre:Nat)(z0:IS)(k:Nat):Nat×IS:=j5 (qH s) (8*s.size) pre (bys s) z0 k
noncomputable def eG(s:ByteArray)(pre:Nat)(z:IS):Nat×IS:=stI (qH s) (8*s.size) pre (bys s) z
noncomputable def lO(s:ByteArray)(pre:Nat)(z0:IS):Nat×IS:=q44 (qH s) (8*s.size) pre (bys s) z0
section
variable {s : ByteArray} {pre : Nat} {z0 : IS}
theorem t8(s:ByteArray):8∣8*s.size:=⟨s.size,rfl⟩
theorem lI{k:Nat}(h:¬aK (jc s pre z0 k)):jc s pre z0 (k+1)=lF pre (eG s pre (jc s pre z0 k).2):=fD h
theorem B5{k:Nat}(h:¬aK (jc s pre z0 k))(he:(eG s pre (jc s pre z0 k).2).1≠0):jc s pre z0 (k+1)=((eG s pre (jc s pre z0 k).2).1,(jc s pre z0 k).2):=by
 have e:=q19 he;rw[lI h];unfold lF;rw[if_pos he]
 show stI _ _ _ _ _=_
 exact Prod.ext rfl e
theorem B6{k M:Nat}(hM:M=16777216)(h:¬aK (jc s pre z0 k))(he:(eG s pre (jc s pre z0 k).2).1=0)(hb:M<(eG s pre (jc s pre z0 k).2).2.h.length-pre):
  jc s pre z0 (k+1)=(3,{(eG s pre (jc s pre z0 k).2).2 with h:=(eG s pre (jc s pre z0 k).2).2.h.take (pre+M)}):=by
 rw[lI h];unfold lF;rw[<-hM];rw[if_neg (by rw[he];exact fun h=>h rfl),if_pos hb]
theorem P8{k M:Nat}(hM:M=16777216)(h:¬aK (jc s pre z0 k))(he:(eG s pre (jc s pre z0 k).2).1=0)(hb:¬M<(eG s pre (jc s pre z0 k).2).2.h.length-pre):
  jc s pre z0 (k+1)=eG s pre (jc s pre z0 k).2:=by
 rw[lI h];unfold lF;rw[<-hM];rw[if_neg (by rw[he];exact fun h=>h rfl),if_neg hb]
theorem cF(hi:IOk (8*s.size) pre z0)(k:Nat):(pre<=(jc s pre z0 k).2.h.length/\(jc s pre z0 k).2.h.length-pre<=16777216)/\((jc s pre z0 k).1=0->IOk (8*s.size) pre (jc s pre z0 k).2/\(aK (jc s pre z0 k)\/muI (8*s.size) (jc s pre z0 k).2+k<=muI (8*s.size) z0)):=by
 obtain⟨a,b,-⟩:=cW (N:=qH s) (bs:=bys s) (t8 s) hi k
 exact⟨a,b⟩
theorem nZ(hz:z0.st=[])(k:Nat):(jc s pre z0 k).2.st.length<=k:=by
 have h:=P7 (N:=qH s) (T:=8*s.size) (pre:=pre) (bs:=bys s) (z0:=z0) k;rw[hz,List.length_nil,Nat.zero_add]at h
 exact h
theorem q1r{T:Nat}(z:IS):muI T z<=2*T+1:=by unfold muI;split<;>omega
end
theorem fK.fx{S:Nat->Prop}{w w':World}{B gm gr gw p:Nat}{vb:Value}{s:ByteArray}{H:qK}{st:List (Nat×Nat)}{m:MV}(h:fK w B gm gr gw vb s p H st m)(hf:Fx S w w')(hS:∀k,iV gm gr gw vb m.vs k->¬S k):fK w' B gm gr gw vb s p H st m:=
 ⟨h.mach.fx hf (fun k e=>hS k (.inl e)),h.sts.fx hf (fun q e=>hS q (.inr e)),h.sd,h.one⟩
theorem E3.fx{S X:Nat->Prop}{w w':World}{B gm gr gw:Nat}{vb:Value}{s:ByteArray}{z:IS}{m:MV}(h:E3 w B gm gr gw vb X s z m)(hf:Fx S w w')(hS:∀k,iV gm gr gw vb m.vs k->¬S k)(hX:∀k,S k->X k):E3 w' B gm gr gw vb X s z m:=
 ⟨h.f0.fx hf hS,h.rel,fun e=>by
  obtain⟨ta,tb,tc,td,k1,k2,k3⟩:=h.tabs e
  exact⟨ta,tb,tc,td,k1.fx hf (fun k a b q=>(k3 k (.inl ⟨a,b⟩)).2 (hX k q)),k2.fx hf (fun k a b q=>(k3 k (.inr ⟨a,b⟩)).2 (hX k q)),k3⟩⟩
theorem E3.reX{X X':Nat->Prop}{w:World}{B gm gr gw:Nat}{vb:Value}{s:ByteArray}{z:IS}{m:MV}(h:E3 w B gm gr gw vb X s z m)(hX:∀k,X' k->X k\/w.heap.size<=k):E3 w B gm gr gw vb X' s z m:=
 ⟨h.f0,h.rel,fun e=>by
  obtain⟨ta,tb,tc,td,k1,k2,k3⟩:=h.tabs e;have l1:tb<=w.heap.size:=by obtain⟨_,_,q,_⟩:=k1;exact q
  have l2:td<=w.heap.size:=by obtain⟨_,_,q,_⟩:=k2;exact q
  refine⟨ta,tb,tc,td,k1,k2,fun k hk=>⟨(k3 k hk).1,fun q=>?_⟩⟩
  rcases hX k q with q|q
  ·exact(k3 k hk).2 q
  ·omega⟩
theorem E3.up{X:Nat->Prop}{w w':World}{B gm gr gw:Nat}{vb:Value}{s:ByteArray}{z:IS}{m:MV}(h:E3 w B gm gr gw vb X s z m)(hb:Below w.heap.size w w'):E3 w' B gm gr gw vb X s z m:=
 h.fx (qP (S:=fun _=>False) hb) (fun _ _ e=>e) (fun _ e=>e.elim)
theorem E3.mset{X:Nat->Prop}{w w':World}{B gm gr gw:Nat}{vb:Value}{s:ByteArray}{z:IS}{m m':MV}(h:E3 w B gm gr gw vb X s z m)(hm:mR w' B gm gr gw m')(hg:w.grownBy w' (some gm))(hv:m'.vs=m.vs)(h1:m'.at_=m.at_)(h2:m'.fin=m.fin)(h3:m'.left=m.left)(h4:m'.vf=m.vf)(h5:m'.vl=m.vl)(h6:m'.vd=m.vd):E3 w' B gm gr gw vb X s z m':=by
 obtain⟨hf0,hf⟩:=h.f0.mset hm hg hv (fun o=>⟨by rw[h5];exact o.1,by rw[h6];exact o.2.1,by rw[h4];exact o.2.2⟩)
 refine⟨hf0,?_,fun e=>?_⟩
 ·obtain⟨r1,r2,r3,r4⟩:=h.rel
  exact⟨by rw[h1];exact r1,by rw[h2];exact r2,by rw[h3];exact r3,by rw[h4];exact r4⟩
 ·obtain⟨ta,tb,tc,td,k1,k2,k3⟩:=h.tabs e
  rw[h5,h6,hv]
  exact⟨ta,tb,tc,td,k1.fx hf (fun k a b=>(k3 k (.inl ⟨a,b⟩)).1),k2.fx hf (fun k a b=>(k3 k (.inr ⟨a,b⟩)).1),k3⟩
structure dA(w:World)(B gm gr gw:Nat)(vb:Value)(X:Nat->Prop)(s:ByteArray)(pre:Nat)(z0:IS)(m:MV)(k:Nat):Prop where
 kb:k<=muI (8*s.size) z0+1
 wrong:m.wrong=(jc s pre z0 k).1
 made:m.made=(jc s pre z0 k).2.h.length-pre
 bad:∃p H st,fK w B gm gr gw vb s p H st m/\st.length<=100000000
 good:(jc s pre z0 k).1=0->E3 w B gm gr gw vb X s (jc s pre z0 k).2 m
structure q3d(w:World)(B gm gr gw:Nat)(vb:Value)(X:Nat->Prop)(s:ByteArray)(pre:Nat)(z0:IS)(m:MV)(k:Nat):Prop where
 live:dA w B gm gr gw vb X s pre z0 m k
 text:∃t:qK,t.length=m.told/\(jc s pre z0 k).2.h.drop pre=t++bys m.waits
section
variable {w w' : World} {B gm gr gw : Nat} {vb : Value} {X : Nat → Prop} {s : ByteArray} {pre : Nat} {z0 : IS} {m m' : MV} {k : Nat}
theorem dA.box(h:dA w B gm gr gw vb X s pre z0 m k):mR w B gm gr gw m:=by obtain⟨p,H,st,h,-⟩:=h.bad;exact h.mach.box
theorem dA.lt(h:dA w B gm gr gw vb X s pre z0 m k):∀q,iV gm gr gw vb m.vs q->q<w.heap.size:=by
 obtain⟨p,H,st,h,-⟩:=h.bad;intro q e;obtain⟨b,hb,-⟩:=h.mach.win
 rcases e with(e|e|e|e)|e
 ·rw[e];exact h.mach.box.blk.2
 ·rw[e];exact h.mach.rd.lt
 ·rw[e];exact hb.box.blk.2
 ·exact(hb.own.lt q e).2
 ·exact(h.sts.lt q e).2
theorem dA.fx{S:Nat->Prop}(h:dA w B gm gr gw vb X s pre z0 m k)(hf:Fx S w w')(hS:∀q,iV gm gr gw vb m.vs q->¬S q)(hX:∀q,S q->X q):dA w' B gm gr gw vb X s pre z0 m k:=by
 obtain⟨p,H,st,hb,hbl⟩:=h.bad
 exact⟨h.kb,h.wrong,h.made,⟨p,H,st,hb.fx hf hS,hbl⟩,fun e=>(h.good e).fx hf hS hX⟩
theorem dA.up(h:dA w B gm gr gw vb X s pre z0 m k)(hb:Below w.heap.size w w'):dA w' B gm gr gw vb X s pre z0 m k:=
 h.fx (qP (S:=fun _=>False) hb) (fun _ _ e=>e) (fun _ e=>e.elim)
theorem dA.reX{X':Nat->Prop}(h:dA w B gm gr gw vb X s pre z0 m k)(hX:∀q,X' q->X q\/w.heap.size<=q):dA w B gm gr gw vb X' s pre z0 m k:=
 ⟨h.kb,h.wrong,h.made,h.bad,fun e=>(h.good e).reX hX⟩
theorem dA.mset(h:dA w B gm gr gw vb X s pre z0 m k)(hm:mR w' B gm gr gw m')(hg:w.grownBy w' (some gm))(hw:m'={m with waits:=m'.waits,told:=m'.told}):dA w' B gm gr gw vb X s pre z0 m' k/\Fx (iV gm gr gw vb m.vs) w w':=by
 obtain⟨p,H,st,hb,hbl⟩:=h.bad;have hv:m'.vs=m.vs:=by rw[hw]
 obtain⟨h1,h2⟩:=hb.mset hm hg hv (fun o=>by rw[hw];exact o)
 exact⟨⟨h.kb,by rw[hw];exact h.wrong,by rw[hw];exact h.made,⟨p,H,st,h1,hbl⟩,fun e=>(h.good e).mset hm hg hv (by rw[hw]) (by rw[hw]) (by rw[hw]) (by rw[hw]) (by rw[hw]) (by rw[hw])⟩,h2⟩
end
end Go.Cm
namespace Go.Cm
open Go.RowKit Go.Proofs
def o4(w w':World)(B gm gr gw:Nat)(vb:Value)(X:Nat->Prop)(s:ByteArray)(pre:Nat)(z0:IS)(m:MV)(k:Nat)(M:Value->MV->Nat->Prop):Prop:=
 ∃vb' m' k',k<=k'/\q3d w' B gm gr gw vb' X s pre z0 m' k'/\Fx (iV gm gr gw vb m.vs) w w'/\(∀q,vb'.ownBlock=some q->vb.ownBlock=some q\/w.heap.size<=q)/\(∀q,m'.vs.ownBlock=some q->m.vs.ownBlock=some q\/w.heap.size<=q)/\M vb' m' k'
theorem fZ{a b:ByteArray}(h:bys a=bys b):a=b:=by
 cases a;cases b;congr 1;exact Array.toList_inj.1 h
theorem xI{w wr w':World}{B gm gr gw pre k0 k:Nat}{vb vb1:Value}{X X1:Nat->Prop}{s:ByteArray}{z0:IS}{m mr:MV}{t t1:qK}{n:Int}(hk:k0<=k)(hlv:dA wr B gm gr gw vb1 X1 s pre z0 mr k)(hX:∀q,X q->X1 q)(hf:Fx (iV gm gr gw vb m.vs) w wr)
  (hk1:∀q,vb1.ownBlock=some q->vb.ownBlock=some q\/w.heap.size<=q) (hk2:∀q,mr.vs.ownBlock=some q->m.vs.ownBlock=some q\/w.heap.size<=q) (htl:mr.told=m.told) (ht1:t1.length=m.told) (htx:(jc s pre z0 k).2.h.drop pre=t1++t)
  (hS:mR w' B gm gr gw {mr with waits:=⟨t.toArray⟩}) (hG:wr.grownBy w' (some gm)) (hst:n<=(t.length:Int)\/aK (jc s pre z0 k)):
  o4 w w' B gm gr gw vb X s pre z0 m k0 (fun _ m' k'=>m'.told=m.told/\(n<=m'.waits.size\/aK (jc s pre z0 k'))):=by
 obtain⟨h1,h2⟩:=hlv.mset hS hG rfl;refine⟨vb1,_,k,hk,⟨h1.reX (fun q e=>.inl (hX q e)),t1,?_,?_⟩,bU hf hk1 hk2 h2,hk1,hk2,htl,?_⟩
 ·rw[ht1];exact htl.symm
 ·rw[htx,uO]
 ·refine hst.imp (fun e=>?_) id
  show n<=((⟨t.toArray⟩:ByteArray).size:Int)
  rw[<-qF,uO];exact e
theorem dA.app{w w':World}{B gm gr gw pre k:Nat}{vb bv v':Value}{X:Nat->Prop}{s:ByteArray}{z0:IS}{m:MV}(h:dA w B gm gr gw vb (fun q=>X q\/bv.ownBlock=some q) s pre z0 m k)(hsp:∀q,iV gm gr gw vb m.vs q->bv.ownBlock≠some q)(hg:w.grownBy w' bv.ownBlock)(hk:∀q,v'.ownBlock=some q->bv.ownBlock=some q\/w.heap.size<=q):
  dA w' B gm gr gw vb (fun q=>X q\/v'.ownBlock=some q) s pre z0 m k/\∀q,iV gm gr gw vb m.vs q->v'.ownBlock≠some q:=by
 have h1:=h.reX (X':=fun q=>(X q\/bv.ownBlock=some q)\/v'.ownBlock=some q) (fun q e=>e.elim .inl (fun e=>(hk q e).imp .inr id))
 have h2:=h1.fx (jn (S:=fun q=>bv.ownBlock=some q) hg (fun q e=>e)) (fun q e z=>hsp q e z) (fun q e=>.inl (.inr e))
 refine⟨h2.reX (fun q e=>.inl (e.elim (fun e=>.inl (.inl e)) .inr)),fun q e z=>?_⟩
 rcases hk q z with h3|h3
 ·exact hsp q e h3
 ·have:=h.lt q e;omega
theorem ar1{M made zl yl cl pre r:Nat}(h1:r=M-made)(h2:made=zl-pre)(h3:pre<=zl)(h4:yl=zl+cl)(h5:r<cl):M<yl-pre:=by omega
theorem ar2{M made zl pre r:Nat}(h1:r=M-made)(h2:made=zl-pre)(h3:made<=M):M=zl-pre+r:=by omega
theorem ar3{M made zl yl pre r:Nat}(h1:M=zl-pre+r)(h2:made=zl-pre)(h3:M<yl-pre):made+r=min (pre+M) yl-pre:=by omega
theorem ar4{M zl pre r:Nat}(h1:M=zl-pre+r)(h3:pre<=zl):zl<=pre+M/\pre-zl=0/\pre+M-zl=r:=by omega
theorem ar5{M zl pre r a b:Nat}(h1:M=zl-pre+r)(h2:zl-pre=a+b)(hM:M=16777216):b+r<=4294967296:=by omega
theorem ar6{M made zl yl cl pre r:Nat}(h1:r=M-made)(h2:made=zl-pre)(h3:pre<=zl)(h4:yl=zl+cl)(h5:¬r<cl)(h6:made<=M):¬M<yl-pre/\made+cl=yl-pre:=by omega
theorem ar7{M zl yl cl pre a b:Nat}(h1:¬M<yl-pre)(h2:zl-pre=a+b)(h3:pre<=zl)(h4:yl=zl+cl)(hM:M=16777216):b+cl<=4294967296:=by omega
theorem q6Z{w:World}{B gm gr gw pre k0:Nat}{vb:Value}{X:Nat->Prop}{s:ByteArray}{z0:IS}{m:MV}(hL:q3d w B gm gr gw vb X s pre z0 m k0)(hi:IOk (8*s.size) pre z0)(hz:z0.st=[])(hs:s.size<=4000000)(hX:∀q,X q->q<w.heap.size)(n:Int):
  Calls Tryz.prog 126 #[.pointer (some ⟨gm,0,none⟩),.int .i64 n] w fun e w'=>e=.returned (.tuple #[])/\o4 w w' B gm gr gw vb X s pre z0 m k0 (fun _ m' k'=>m'.told=m.told/\(n<=m'.waits.size\/aK (jc s pre z0 k'))):=by
 have HI:=q7 hi;have HZ:=q7 hz;have HS:=q7 hs;have HX:=q7 hX;obtain⟨hB,t0,ht0,htx⟩:=hL;have HLB:=q7 hB;have HTX:=q7 htx;have HT0:=q7 ht0;have c9:w.cell? ⟨gm,9,none⟩=some (.string m.waits):=hB.box.cell (by decide)
 have hgm:=hB.box.blk.2
 have hws:m.waits.size<=16777216:=by
  have h1:=(cF (s:=s) hi k0).1.2;have h2:=congrArg List.length htx;rw[List.length_drop,qg,qF]at h2;omega
 have qiO:m.waits.size<=100000000:=by omega
 clear hB htx ht0 hX hz hi
 go_enter Tryz.func126,Tryz.ntmps126
 go_step3
 go_wp2_with((with_reducible show wpList _ _ _ (Oper.mk _ (.convert _ _ _) _ _ _ _::_) _ _);(refine eF rfl 9 49 5 (.tmp 11) rfl Tryz.underlying9 Tryz.underlying49 Tryz.underlying5 m.waits rfl qiO ?_);intro v1 w1 ho1 hb1;have HO1:=q7 ho1;have HB1:=q7 hb1;clear ho1 hb1)
 go_step3
 go_wp2
 go_loopg [4] (muI (8*s.size) z0+2-k0) (fun gk bv wr=>∃(k:Nat) (vb1:Value) (mr:MV) (t:qK),k0<=k/\lN wr w.heap.size 5 bv (qD t)/\dA wr B gm gr gw vb1 (fun q=>X q\/bv.ownBlock=some q) s pre z0 mr k/\(∀q,iV gm gr gw vb1 mr.vs q->bv.ownBlock≠some q)/\
   Fx (iV gm gr gw vb m.vs) w wr/\(∀q,vb1.ownBlock=some q->vb.ownBlock=some q\/w.heap.size<=q)/\(∀q,mr.vs.ownBlock=some q->m.vs.ownBlock=some q\/w.heap.size<=q)/\mr.told=m.told/\(∃t1:qK,t1.length=m.told/\(jc s pre z0 k).2.h.drop pre=t1++t)/\gk=muI (8*s.size) z0+2-k)
 case atStart=>
  exact⟨k0,vb,m,bys m.waits,q9 _,HO1.out,(HLB.out.reX (fun q e=>e.imp id (fun e=>(HO1.out.lt q e).1))).up HB1.out,fun q e z=>by have h1:=HLB.out.lt q e;have h2:=(HO1.out.lt q z).1;omega,qP HB1.out,fun q e=>.inl e,fun q e=>.inl e,rfl,⟨t0,HT0.out,HTX.out⟩,rfl⟩
 case round=>
  obtain⟨k,vb1,mr,t,hk,hbo,hlv,hsp,hf,hk1,hk2,htl,⟨t1,ht1,htx⟩,rfl⟩:=hrel;obtain⟨ob,kb,qb,fb,hvb,hdb,-⟩:=hbo.sl;rw[qz]at hvb hdb;have hmb:=hdb.len;subst hvb;have HBO:=q7 hbo;have HLV:=q7 hlv;have HSP:=q7 hsp;have HF:=q7 hf;have HK1:=q7 hk1;have HK2:=q7 hk2;have HTL:=q7 htl;have HT1:=q7 ht1;have HT2:=q7 htx;have HK:=q7 hk;have c2:wr.cell? ⟨gm,2,none⟩=some (.int .i64 (mr.at_:Nat)):=hlv.box.cell (by decide)
  have c9:wr.cell? ⟨gm,9,none⟩=some (.string mr.waits):=hlv.box.cell (by decide)
  have c10:wr.cell? ⟨gm,10,none⟩=some (.int .i64 (mr.wrong:Nat)):=hlv.box.cell (by decide)
  have f9:=hlv.box.free 9;have f10:=hlv.box.free 10;have hgm:=hlv.box.blk.2;clear hbo hsp hf hk1 hk2 htl ht1 htx hk hdb
  by_cases hgo:(t.length:Int)<n/\mr.at_≠3/\mr.wrong=0
  ·obtain⟨h1,h2,h3⟩:=hgo
   have hp0:(jc s pre z0 k).1=0:=by rw[<-hlv.wrong];exact h3
   have q9K:=hlv.good hp0;have hmd:(jc s pre z0 k).2.md≠3:=by rw[<-q9K.rel.1];exact h2
   have hns:¬aK (jc s pre z0 k):=fun e=>e.elim (fun e=>e hp0) hmd
   obtain⟨⟨hpre,q90⟩,hok⟩:=cF (s:=s) (pre:=pre) HI.out k;obtain⟨qgP,hmu⟩:=hok hp0;have qgE:=hmu.resolve_left hns;have hkb:k+1<=muI (8*s.size) z0+1:=by omega
   have hk8:k<=64000001:=by have:=q1r (T:=8*s.size) z0;omega
   have HLZ:Hid ((jc s pre z0 k).2.st.length<=100000000/\(eG s pre (jc s pre z0 k).2).2.st.length<=100000000):=q7 (by
    have q1:=nZ (s:=s) (pre:=pre) HZ.out k;have q2:(eG s pre (jc s pre z0 k).2).2.st.length<=(jc s pre z0 k).2.st.length+1:=q4b
    exact⟨by omega,by omega⟩)
   obtain⟨f,hvf,qmb,q9L⟩:=q6Y (X:=fun q=>X q\/(Value.slice ob t.length kb).ownBlock=some q) q9K qgP hmd (by omega) hlv.made (qa (nZ HZ.out k) (qa hk8 (by decide))) (fun q e=>e.elim (fun e=>qd (HX.out q e) HF.out.size) (fun e=>(HBO.out.lt q e).2))
   have HC:=q7 q9L;have c12:wr.cell? ⟨gm,12,none⟩=some (.func (.func f) #[] #[]):=by rw[<-hvf];exact hlv.box.cell (by decide)
   have h1':decide ((t.length:Int)<n)=true:=decide_eq_true h1;have h2':((mr.at_:Int) != 3)=true:=by simpa using(by omega:¬(mr.at_:Int)=3)
   rw[h3]at c10;have HNS:=q7 hns;have HKB:=q7 hkb;have HMD:=q7 hlv.made;have HPR:=q7 hpre;have HBG:=q7 q90;have HBD:=q7 hlv.bad;have HWR:=q7 (hlv.wrong.trans hp0);clear hlv q9K qgP hmd hns hpre q90 hok hmu qgE hkb hk8 q9L hvf hp0;have HPE:=q7 (fun e=>B5 (s:=s) (pre:=pre) (z0:=z0) HNS.out e)
   have HPB:=q7 (fun M (hM:M=16777216) e=>B6 (s:=s) (pre:=pre) (z0:=z0) hM HNS.out e)
   have HPO:=q7 (fun M (hM:M=16777216) e=>P8 (s:=s) (pre:=pre) (z0:=z0) hM HNS.out e)
   obtain⟨Z,hZ⟩:∃Z,Z=(jc s pre z0 k).2:=⟨_,rfl⟩;obtain⟨Y,hY⟩:∃Y,Y=eG s pre Z:=⟨_,rfl⟩;rw[<-hZ]at HPE HPB HPO HC HMD HPR HBG HT2 HLZ;rw[<-hY]at HPE HPB HPO HLZ;have HC2:Hid (Calls Tryz.prog f #[.pointer (some ⟨gm,0,none⟩)] wr (xH B gm gr gw vb1 (fun q=>X q\/(Value.slice ob t.length kb).ownBlock=some q) s Z mr Y wr)):=q7 (by rw[hY];exact HC.out)
   clear HC hY hZ
   go_upto_region 3 with((with_reducible refine HC2.out.mono ?_);rintro e w2 ⟨c,p2,H2,vb2,m2,rfl,hf2,ho1,ho2,hkp,hgd,hbd⟩;have HF2:=q7 hf2;have HOA:=q7 ho1;have HOB:=q7 ho2;have HKP:=q7 hkp;have HGD:=q7 hgd;have ql9:=q7 hbd;clear hf2 ho1 ho2 hkp hgd hbd)
   have HFU:=q7 (HF.out.mono (S':=iV gm gr gw vb m.vs) (fun _ e=>e))
   have qg1:=q7 (HBO.out.fx HF2.out (fun q e z=>HSP.out q z e))
   have HFX:=q7 (bU HF.out HK1.out HK2.out HF2.out)
   have qd8:Hid (∀q,iV gm gr gw vb2 m2.vs q->(Value.slice ob t.length kb).ownBlock≠some q):=q7 (fun q e z=>by
    have hlt:=(HBO.out.lt q z).2
    rcases e with(e|e|e|e)|e
    ·exact HSP.out q (.inl (.inl e)) z
    ·exact HSP.out q (.inl (.inr (.inl e))) z
    ·exact HSP.out q (.inl (.inr (.inr (.inl e)))) z
    ·rcases HOA.out q e with h|h
     ·exact HSP.out q (.inl (.inr (.inr (.inr h)))) z
     ·omega
    ·rcases HOB.out q e with h|h
     ·exact HSP.out q (.inr h) z
     ·omega)
   have qct:Hid (∀q,vb2.ownBlock=some q->vb.ownBlock=some q\/w.heap.size<=q):=q7 (fun q e=>by
    rcases HOA.out q e with h|h
    ·exact HK1.out q h
    ·exact .inr (qa HF.out.size h))
   have qcs:Hid (∀q,m2.vs.ownBlock=some q->m.vs.ownBlock=some q\/w.heap.size<=q):=q7 (fun q e=>by
    rcases HOB.out q e with h|h
    ·exact HK2.out q h
    ·exact .inr (qa HF.out.size h))
   have qd7:Hid (m2.told=m.told):=q7 (HKP.out.2.1.trans HTL.out);have qcq:Hid (m2.made=Z.h.length-pre):=q7 (HKP.out.1.trans HMD.out);clear HFU
   by_cases he:Y.1=0
   ·have he2:((Y.1:Int) != 0)=false:=by rw[he];rfl
    obtain⟨q9K,hyh⟩:=HGD.out he;have qc3:=q7 q9K;have HYH:=q7 hyh;have c7:w2.cell? ⟨gm,7,none⟩=some (.int .i64 (m2.made:Nat)):=q9K.f0.mach.box.cell (by decide)
    have g2:=q9K.f0.mach.box.blk.2;obtain⟨r,hr⟩:∃r,r=16777216-m2.made:=⟨_,rfl⟩;have qgF:m2.made<=16777216:=by rw[qcq.out];exact HBG.out
    have hri:wrap64 ((16777216:Int)-(m2.made:Nat))=(r:Nat):=by rw[IntWalk.wrap64_in _ ⟨by omega,by omega⟩];omega
    have HR:=q7 hr;have qbg:=q7 qgF;clear q9K hyh hr qgF
    go_upto_region 6 with(fail)
    rw[hri]
    by_cases hbg:r<c.size
    ·have hb2:decide ((c.size:Int)>(r:Nat))=true:=by rw[decide_eq_true_eq];omega
     obtain⟨cr,hcr,hsl⟩:=xE c r (by omega)
     have HSL:=q7 hsl;clear hsl;have qh7:cr.size=r:=by rw[<-qF,hcr,List.length_take,qF];omega
     have HCR:=q7 hcr;have HCS:=q7 qh7;have hF0:=qc3.out.f0;have c10:w2.cell? ⟨gm,10,none⟩=some (.int .i64 (m2.wrong:Nat)):=hF0.mach.box.cell (by decide)
     have f10:=hF0.mach.box.free 10;obtain⟨hS3,hG3⟩:=hF0.mach.box.set 10 (.int .i64 3) (m':={m2 with wrong:=3}) rfl
     obtain⟨hU3,hF3⟩:=hF0.mset hS3 hG3 rfl;have c73:(w2.setCell ⟨gm,10,none⟩ (.int .i64 3)).cell? ⟨gm,7,none⟩=some (.int .i64 (m2.made:Nat)):=hU3.mach.box.cell (by decide)
     have f73:=hU3.mach.box.free 7;have g3:=hU3.mach.box.blk.2;obtain⟨hS4,hG4⟩:=hU3.mach.box.set 7 (.int .i64 ((m2.made+r:Nat):Int)) (m':={m2 with wrong:=3,made:=m2.made+r}) rfl
     obtain⟨hU4,hF4⟩:=hU3.mset hS4 hG4 rfl;have HU4:=q7 hU4;have HF4:=q7 (hF3.trans hF4)
     have qau:wrap64 (((m2.made:Nat):Int)+(r:Nat))=((m2.made+r:Nat):Int):=by
      have h1:=HR.out;have h2:=qbg.out;rw[IntWalk.wrap64_in _ ⟨by omega,by omega⟩];omega
     clear hS3 hG3 hU3 hF3 hS4 hG4 hU4 hF4 hF0
     go_upto_region 10 with((with_reducible show wpList _ _ _ (Oper.mk _ (.slice _ _ _ _ _) _ _ _ _::_) _ _);refine jQ rfl 9 (.tmp 55) none (some (.tmp 56)) none rfl _ (HSL.out _) ?_)
     try rw[qau]
     have qc4:=q7 (bU (vs':=m2.vs) HFX.out (fun q e=>qct.out q e) (fun q e=>qcs.out q e) HF4.out)
     have qds:=q7 (qg1.out.fx HF4.out (fun q e z=>qd8.out q z e))
     generalize hw4:World.setCell (World.setCell w2 ⟨gm,10,none⟩ _) ⟨gm,7,none⟩ _=w4;have hw5:(w2.setCell ⟨gm,10,none⟩ (.int .i64 3)).setCell ⟨gm,7,none⟩ (.int .i64 ((m2.made+r:Nat):Int))=w4:=hw4;rw[hw5]at HU4 HF4 qc4 qds;obtain⟨M,hM⟩:∃M:Nat,M=16777216:=⟨_,rfl⟩;rw[<-hM]at HR qbg;have h4:=congrArg List.length HYH.out;rw[qg,qF]at h4;have hMY:=ar1 HR.out qcq.out HPR.out h4 hbg;have hMh:=ar2 HR.out qcq.out qbg.out;have hP:=HPB.out M hM he hMY
     have hL4:dA w4 B gm gr gw vb2 (fun q=>X q\/(Value.slice ob t.length kb).ownBlock=some q) s pre z0 {m2 with wrong:=3,made:=m2.made+r} (k+1):=by
      refine⟨HKB.out,by rw[hP],?_,⟨_,_,_,HU4.out,HLZ.out.2⟩,fun e=>by rw[hP]at e;exact absurd e (show¬(3:Nat)=0 by decide)⟩
      rw[hP]
      show m2.made+r=(List.take (pre+M) Y.2.h).length-pre
      rw[List.length_take]
      exact ar3 hMh qcq.out hMY
     obtain⟨q1,q2,q3⟩:=ar4 hMh HPR.out
     have hTX:(jc s pre z0 (k+1)).2.h.drop pre=t1++(t++bys cr):=by
      rw[hP,HCR.out]
      show(List.take (pre+M) Y.2.h).drop pre=_
      rw[HYH.out,List.take_append,List.take_of_length_le q1,List.drop_append,q2,List.drop_zero,HT2.out,qh,q3]
     have HL4:=q7 hL4;have qfk:=q7 hTX
     have HLN:Hid ((qD t).length+cr.size<=4294967296):=q7 (by
      have h1:=congrArg List.length HT2.out;rw[List.length_drop,qg]at h1;rw[qz,qh7]
      exact ar5 hMh h1 hM)
     have HSZ:Hid (w.heap.size<=w4.heap.size):=q7 qc4.out.size;clear hL4 hTX hP hMY hMh qau HR qbg hM
     go_wp2_with(at_builtin;go_loud (refine kJ rfl (.tmp 70) (.tmp 71) 49 9 rfl w.heap.size 5 (.int .u8 0) 1 Tryz.underlying49 Tryz.underlying9 (by kernel_rfl) rfl (by decide) (.slice ob t.length kb) (qD t) rfl qds.out cr rfl HLN.out HSZ.out ?_);intro v5 w5 q9g hg5 hk5;have HO5:=q7 q9g;have HG5:=q7 hg5;have HK5:=q7 hk5;clear q9g hg5 hk5)
     obtain⟨hl5,hs5⟩:=HL4.out.app qd8.out HG5.out HK5.out
     go_roundg (muI (8*s.size) z0+2-(k+1))
     case measure=>have:=HKB.out;omega
     case rel=>
      refine⟨k+1,vb2,_,t++bys cr,Nat.le_succ_of_le HK.out,?_,hl5,hs5,qc4.out.grown HG5.out (fun q e=>.inr (HBO.out.lt q e).1),qct.out,qcs.out,qd7.out,⟨t1,HT1.out,qfk.out⟩,rfl⟩
      rw[jC];exact HO5.out
    ·have hb2:decide ((c.size:Int)>(r:Nat))=false:=by rw[qm];omega
     have hF0:=qc3.out.f0;have f7:=hF0.mach.box.free 7;have h4:=congrArg List.length HYH.out;rw[qg,qF]at h4;have HM4:=q7 h4
     have qau:wrap64 (((m2.made:Nat):Int)+(c.size:Nat))=((m2.made+c.size:Nat):Int):=by
      have h1:=HR.out;have h2:=qbg.out;rw[IntWalk.wrap64_in _ ⟨by omega,by omega⟩];omega
     obtain⟨hS4,hG4⟩:=hF0.mach.box.set 7 (.int .i64 ((m2.made+c.size:Nat):Int)) (m':={m2 with made:=m2.made+c.size}) rfl
     have HU4:=q7 (qc3.out.mset hS4 hG4 rfl rfl rfl rfl rfl rfl rfl);have HF4:=q7 (hF0.mset hS4 hG4 rfl).2;clear hS4 hG4 hF0 h4
     go_upto_region 10 with(fail)
     try rw[qau]
     have qc4:=q7 (bU (vs':=m2.vs) HFX.out (fun q e=>qct.out q e) (fun q e=>qcs.out q e) HF4.out)
     have qds:=q7 (qg1.out.fx HF4.out (fun q e z=>qd8.out q z e))
     generalize hw4:World.setCell w2 ⟨gm,7,none⟩ _=w4;have hw5:w2.setCell ⟨gm,7,none⟩ (.int .i64 ((m2.made+c.size:Nat):Int))=w4:=hw4;rw[hw5]at HU4 HF4 qc4 qds;obtain⟨M,hM⟩:∃M:Nat,M=16777216:=⟨_,rfl⟩;rw[<-hM]at HR qbg;obtain⟨hMY,hms⟩:=ar6 HR.out qcq.out HPR.out HM4.out hbg qbg.out;have hP:=HPO.out M hM he hMY
     have hL4:dA w4 B gm gr gw vb2 (fun q=>X q\/(Value.slice ob t.length kb).ownBlock=some q) s pre z0 {m2 with made:=m2.made+c.size} (k+1):=by
      refine⟨HKB.out,?_,by rw[hP];exact hms,⟨_,_,_,HU4.out.f0,HLZ.out.2⟩,fun _=>by rw[hP];exact HU4.out⟩
      rw[hP,he]
      exact HKP.out.2.2.2.trans HWR.out
     have hTX:(jc s pre z0 (k+1)).2.h.drop pre=t1++(t++bys c):=by
      rw[hP,HYH.out,List.drop_append,show pre-Z.h.length=0 from Nat.sub_eq_zero_of_le HPR.out,List.drop_zero,HT2.out,qh]
     have HL4:=q7 hL4;have qfk:=q7 hTX
     have HLN:Hid ((qD t).length+c.size<=4294967296):=q7 (by
      have h1:=congrArg List.length HT2.out;rw[List.length_drop,qg]at h1;rw[qz]
      exact ar7 hMY h1 HPR.out HM4.out hM)
     have HSZ:Hid (w.heap.size<=w4.heap.size):=q7 qc4.out.size;clear hL4 hTX hP hMY hms qau HR qbg hM
     go_wp2_with(at_builtin;go_loud (refine kJ rfl (.tmp 70) (.tmp 71) 49 9 rfl w.heap.size 5 (.int .u8 0) 1 Tryz.underlying49 Tryz.underlying9 (by kernel_rfl) rfl (by decide) (.slice ob t.length kb) (qD t) rfl qds.out c rfl HLN.out HSZ.out ?_);intro v5 w5 q9g hg5 hk5;have HO5:=q7 q9g;have HG5:=q7 hg5;have HK5:=q7 hk5;clear q9g hg5 hk5)
     obtain⟨hl5,hs5⟩:=HL4.out.app qd8.out HG5.out HK5.out
     go_roundg (muI (8*s.size) z0+2-(k+1))
     case measure=>have:=HKB.out;omega
     case rel=>
      refine⟨k+1,vb2,_,t++bys c,Nat.le_succ_of_le HK.out,?_,hl5,hs5,qc4.out.grown HG5.out (fun q e=>.inr (HBO.out.lt q e).1),qct.out,qcs.out,qd7.out,⟨t1,HT1.out,qfk.out⟩,rfl⟩
      rw[jC];exact HO5.out
   ·have he2:((Y.1:Int) != 0)=true:=by simpa using he
    have hB2:=ql9.out he;have c10:w2.cell? ⟨gm,10,none⟩=some (.int .i64 (m2.wrong:Nat)):=hB2.mach.box.cell (by decide)
    have f10:=hB2.mach.box.free 10;have g2:=hB2.mach.box.blk.2;obtain⟨hS3,hG3⟩:=hB2.mach.box.set 10 (.int .i64 (Y.1:Nat)) (m':={m2 with wrong:=Y.1}) rfl
    obtain⟨hU3,hF3⟩:=hB2.mset hS3 hG3 rfl;have HU3:=q7 hU3;have HF3:=q7 hF3;clear hS3 hG3 hU3 hF3 hB2
    go_upto_region 11 with(fail)
    have qkR:=q7 (bU (vs':=m2.vs) HFX.out (fun q e=>qct.out q e) (fun q e=>qcs.out q e) HF3.out)
    have ql7:=q7 (qg1.out.fx HF3.out (fun q e z=>qd8.out q z e))
    generalize w2.setCell ⟨gm,10,none⟩ (.int .i64 (Y.1:Nat))=w3 at*;have HCV:=q7 (j7 (P:=Tryz.prog) w3 49 9 5 Tryz.underlying49 Tryz.underlying5 Tryz.underlying9 (.slice ob t.length kb) t ql7.out.sl);have c9:w3.cell? ⟨gm,9,none⟩=some (.string m2.waits):=HU3.out.mach.box.cell (by decide)
    have f9:=HU3.out.mach.box.free 9;have g3:=HU3.out.mach.box.blk.2;obtain⟨hS9,hG9⟩:=HU3.out.mach.box.set 9 (.string ⟨t.toArray⟩) (m':={m2 with wrong:=Y.1,waits:=⟨t.toArray⟩}) rfl
    have HS9:=q7 hS9;have HG9:=q7 hG9;have HL3:Hid (dA w3 B gm gr gw vb2 X s pre z0 {m2 with wrong:=Y.1} (k+1)):=q7 ⟨HKB.out,by rw[HPE.out he],by rw[HPE.out he];exact qcq.out,⟨_,_,_,HU3.out,HLZ.out.1⟩,fun e=>by rw[HPE.out he]at e;exact absurd e he⟩
    clear hS9 hG9
    go_wp2_with((with_reducible show wpList _ _ _ (Oper.mk _ (.convert _ _ _) _ _ _ _::_) _ _);refine aD rfl 49 9 (.tmp 74) rfl _ HCV.out ?_)
    try rw[Exit.noGoto_normal]
    go_end0
    exact⟨rfl,xI (Nat.le_succ_of_le HK.out) HL3.out (fun q e=>e) qkR.out qct.out qcs.out qd7.out HT1.out (by rw[HPE.out he];exact HT2.out) HS9.out HG9.out (.inr (.inl (by rw[HPE.out he];exact he)))⟩
  ·have hst:n<=(t.length:Int)\/aK (jc s pre z0 k):=by
    by_cases h1:n<=(t.length:Int)
    ·exact .inl h1
    ·refine .inr ?_
     by_cases h2:(jc s pre z0 k).1=0
     ·refine .inr ?_
      apply qf
      intro h3
      exact hgo ⟨by omega,by rw[(hlv.good h2).rel.1];exact h3,by rw[hlv.wrong];exact h2⟩
     ·exact .inl h2
   have HST:=q7 hst;have HCV:=q7 (j7 (P:=Tryz.prog) wr 49 9 5 Tryz.underlying49 Tryz.underlying5 Tryz.underlying9 (.slice ob t.length kb) t HBO.out.sl);obtain⟨hS9,hG9⟩:=hlv.box.set 9 (.string ⟨t.toArray⟩) (m':={mr with waits:=⟨t.toArray⟩}) rfl
   have HS9:=q7 hS9;have HG9:=q7 hG9;clear hlv hst hS9 hG9
   rcases(show¬((t.length:Int)<n)\/((t.length:Int)<n/\mr.at_=3)\/((t.length:Int)<n/\mr.at_≠3/\mr.wrong≠0) by omega)with h1|⟨h1,h2⟩|⟨h1,h2,h3⟩
   ·have h1':decide ((t.length:Int)<n)=false:=decide_eq_false h1
    go_wp2_with((with_reducible show wpList _ _ _ (Oper.mk _ (.convert _ _ _) _ _ _ _::_) _ _);refine aD rfl 49 9 (.tmp 74) rfl _ HCV.out ?_)
    try rw[Exit.noGoto_normal]
    go_end0
    exact⟨rfl,xI HK.out HLV.out (fun q e=>.inl e) HF.out HK1.out HK2.out HTL.out HT1.out HT2.out HS9.out HG9.out HST.out⟩
   ·have h1':decide ((t.length:Int)<n)=true:=decide_eq_true h1
    have h2':((mr.at_:Int) != 3)=false:=by rw[h2];rfl
    go_wp2_with((with_reducible show wpList _ _ _ (Oper.mk _ (.convert _ _ _) _ _ _ _::_) _ _);refine aD rfl 49 9 (.tmp 74) rfl _ HCV.out ?_)
    try rw[Exit.noGoto_normal]
    go_end0
    exact⟨rfl,xI HK.out HLV.out (fun q e=>.inl e) HF.out HK1.out HK2.out HTL.out HT1.out HT2.out HS9.out HG9.out HST.out⟩
   ·have h1':decide ((t.length:Int)<n)=true:=decide_eq_true h1
    have h2':((mr.at_:Int) != 3)=true:=by simpa using(by omega:¬(mr.at_:Int)=3)
    have h3':((mr.wrong:Int)==0)=false:=by simpa using h3
    go_wp2_with((with_reducible show wpList _ _ _ (Oper.mk _ (.convert _ _ _) _ _ _ _::_) _ _);refine aD rfl 49 9 (.tmp 74) rfl _ HCV.out ?_)
    try rw[Exit.noGoto_normal]
    go_end0
    exact⟨rfl,xI HK.out HLV.out (fun q e=>.inl e) HF.out HK1.out HK2.out HTL.out HT1.out HT2.out HS9.out HG9.out HST.out⟩
noncomputable def dL(s:ByteArray)(pre:Nat)(z0:IS):qK:=(lO s pre z0).2.h.drop pre
theorem oY{s:ByteArray}{pre:Nat}{z0:IS}(hi:IOk (8*s.size) pre z0){k:Nat}{t wt:qK}(h:(jc s pre z0 k).2.h.drop pre=t++wt){n:Nat}(hn:1<=n)(hst:n<=wt.length\/aK (jc s pre z0 k)):
  ((dL s pre z0).drop t.length).take n=wt.take n/\(wt=[]->(dL s pre z0).length<=t.length/\(lO s pre z0).1=(jc s pre z0 k).1)/\(wt≠[]->t.length<(dL s pre z0).length)/\(aK (jc s pre z0 k)->dL s pre z0=t++wt/\lO s pre z0=jc s pre z0 k):=by
 obtain⟨c,hc⟩:=q5c (N:=qH s) (bs:=bys s) (t8 s) hi k;have hp:=(cF (s:=s) hi k).1.1
 have htx:dL s pre z0=t++wt++c:=by
  show(q44 _ _ _ _ _).2.h.drop pre=_
  rw[hc,<-h]
  show _=List.drop pre (j5 (qH s) (8*s.size) pre (bys s) z0 k).2.h++c
  have hp2:pre<=(j5 (qH s) (8*s.size) pre (bys s) z0 k).2.h.length:=hp;rw[List.drop_append,Nat.sub_eq_zero_of_le hp2,List.drop_zero]
 have q9z:aK (jc s pre z0 k)->dL s pre z0=t++wt/\lO s pre z0=jc s pre z0 k:=fun hs=>by
  have e:lO s pre z0=jc s pre z0 k:=vB (t8 s) hi hs
  exact⟨by unfold dL;rw[e,h],e⟩
 refine⟨?_,fun hw=>?_,fun hw=>?_,q9z⟩
 ·rcases hst with h1|h1
  ·rw[htx,qh,List.drop_left,List.take_append_of_le_length h1]
  ·rw[(q9z h1).1,List.drop_left]
 ·have hs:aK (jc s pre z0 k):=hst.resolve_left (by rw[hw,List.length_nil];omega)
  obtain⟨h1,h2⟩:=q9z hs;rw[h1,h2,hw,List.append_nil]
  exact⟨q9 _,rfl⟩
 ·rw[htx,qg,qg]
  have:0<wt.length:=List.length_pos_iff.2 hw;omega
def q5r(B gm gr gw:Nat)(vb:Value)(X:Nat->Prop)(s:ByteArray)(pre:Nat)(z0:IS)(m:MV)(k0:Nat)(n:Int)(w:World)(e:Ending)(w':World):Prop:=
 ∃(c:ByteArray) (er:Nat),e=.returned (.tuple #[.string c,.int .i64 (er:Nat)])/\(n<1->bys c=[]/\er=1)/\(1<=n->bys c=((dL s pre z0).drop m.told).take n.toNat/\er=if(dL s pre z0).length<=m.told then(lO s pre z0).1 else 0)/\
  o4 w w' B gm gr gw vb X s pre z0 m k0 (fun _ m' _=>m'.told=m.told+(bys c).length)
theorem q70{w:World}{B gm gr gw pre k0:Nat}{vb:Value}{X:Nat->Prop}{s:ByteArray}{z0:IS}{m:MV}(hL:q3d w B gm gr gw vb X s pre z0 m k0)(hi:IOk (8*s.size) pre z0)(hz:z0.st=[])(hs:s.size<=4000000)(hX:∀q,X q->q<w.heap.size)(n:Int):
  Calls Tryz.prog 77 #[.pointer (some ⟨gm,0,none⟩),.int .i64 n] w (q5r B gm gr gw vb X s pre z0 m k0 n w):=by
 have HTH:=q7 (q1m hL.live.box)
 by_cases hn:n<1
 ·have hn':decide (n<1)=true:=decide_eq_true hn
  have HL:=q7 hL;clear hL hi
  go_enter Tryz.func77,Tryz.ntmps77
  go_wp2_with((with_reducible go_at_call 125);(with_reducible refine HTH.out.mono ?_);rintro e w' ⟨rfl,hw⟩;rw[hw];clear hw)
  go_ret2
  exact⟨⟨#[]⟩,1,rfl,fun _=>⟨rfl,rfl⟩,fun h=>by omega,vb,m,k0,q9 _,HL.out,Fx.refl _ _,fun q e=>.inl e,fun q e=>.inl e,rfl⟩
 ·have hn':decide (n<1)=false:=decide_eq_false hn
  obtain⟨N,rfl⟩:∃N:Nat,n=N:=⟨n.toNat,by omega⟩
  have hN:1<=N:=by omega
  have HN:=q7 hN;have HWK:=q7 (q6Z hL hi hz hs hX (N:Int));have HI:=q7 hi;clear hL hi hN hn
  go_enter Tryz.func77,Tryz.ntmps77
  go_upto_region 6 with(first|((with_reducible go_at_call 125);(with_reducible refine HTH.out.mono ?_);rintro e w' ⟨rfl,hw⟩;rw[hw];clear hw)|((with_reducible go_at_call 126);(with_reducible refine HWK.out.mono ?_);rintro e w1 ⟨rfl,haf⟩;have HAF:=q7 haf;clear haf))
  obtain⟨vb1,m1,k1,hk,⟨hlv,t,ht,htx⟩,hfx,ho1,ho2,htl,hst⟩:=HAF.out;have qb1:N<=(bys m1.waits).length\/aK (jc s pre z0 k1):=hst.imp (fun h=>by rw[qF];omega) id
  obtain⟨p1,p2,p3,-⟩:=oY HI.out htx HN.out qb1;have HLV:=q7 hlv;have c9:w1.cell? ⟨gm,9,none⟩=some (.string m1.waits):=hlv.box.cell (by decide)
  have c10:w1.cell? ⟨gm,10,none⟩=some (.int .i64 (m1.wrong:Nat)):=hlv.box.cell (by decide)
  have c8:w1.cell? ⟨gm,8,none⟩=some (.int .i64 (m1.told:Nat)):=hlv.box.cell (by decide)
  have f9:=hlv.box.free 9;have hgm:=hlv.box.blk.2
  by_cases hw:m1.waits=⟨#[]⟩
  ·rw[hw]at c9
   have hwb:bys m1.waits=[]:=by rw[hw];rfl
   obtain⟨q1,q2⟩:=p2 hwb
   have HQ:Hid (((dL s pre z0).drop m.told).take N=[]/\(if(dL s pre z0).length<=m.told then(lO s pre z0).1 else 0)=m1.wrong):=q7 (by
    rw[<-htl,<-ht,p1,hwb,if_pos q1,q2,hlv.wrong]
    exact⟨by simp,rfl⟩)
   have qah:Hid (o4 w w1 B gm gr gw vb X s pre z0 m k0 (fun _ m' _=>m'.told=m.told+0)):=q7 ⟨vb1,m1,k1,hk,⟨hlv,t,ht,htx⟩,hfx,ho1,ho2,htl⟩
   clear hlv ht htx hfx ho1 ho2 htl hst qb1 p1 p2 p3 hw hwb q1 q2 hk c8 f9;go_wp2;refine qY (by kernel_rfl) (by kernel_rfl) ?_
   repeat(go_big_quiet_step (fail))
   refine wpQuiet_nil ?_;rintro w2 ⟨y,rfl⟩;go_wp2
   go_ret2
   obtain⟨vb1,m1',k1,hk,⟨hlv,htx⟩,hfx,ho1,ho2,htl⟩:=qah.out;have hb:=qu w1 y;refine⟨⟨#[]⟩,m1.wrong,rfl,fun h=>absurd h (by have:=HN.out;omega),fun _=>⟨HQ.out.1.symm,HQ.out.2.symm⟩,vb1,m1',k1,hk,⟨hlv.up hb,htx⟩,hfx.trans (qP (S:=iV gm gr gw vb m.vs) hb),ho1,ho2,htl⟩
  ·have hwb:bys m1.waits≠[]:=fun e=>hw (fZ e)
   have hwi:m1.waits.toList.isEmpty=false:=by rw[<-decide_eq_emptyBytes];exact decide_eq_false hw
   have q3:=p3 hwb;obtain⟨K,hK⟩:∃K,K=min N m1.waits.size:=⟨_,rfl⟩;have hKs:K<=m1.waits.size:=by omega
   obtain⟨cr,hcr,hsl⟩:=xE m1.waits K hKs;obtain⟨cd,hcd,q9v⟩:=vC m1.waits K hKs;have HK:=q7 hK;have HS1:=q7 hsl;have HS2:=q7 q9v;have qeT:(bys cr).length=K:=by rw[hcr,List.length_take,qF];omega
   have htk:(bys m1.waits).take N=bys cr:=by
    rw[hcr,hK,<-qF]
    by_cases h:N<=(bys m1.waits).length
    ·rw[Nat.min_eq_left h]
    ·rw[Nat.min_eq_right (by omega),List.take_of_length_le (by omega),List.take_length]
   have HQ:Hid (((dL s pre z0).drop m.told).take N=bys cr/\(if(dL s pre z0).length<=m.told then(lO s pre z0).1 else 0)=0):=q7 (by
    rw[<-htl,<-ht,p1,htk,if_neg (by omega)]
    exact⟨rfl,rfl⟩)
   have HTX:Hid ((jc s pre z0 k1).2.h.drop pre=(t++bys cr)++bys cd):=q7 (by rw[htx,hcr,hcd,qh,List.take_append_drop])
   have qd7:Hid ((t++bys cr).length=m1.told+K):=q7 (by rw[qg,ht,qeT])
   have HCL:=q7 qeT;obtain⟨hS9,hG9⟩:=hlv.box.set 9 (.string cd) (m':={m1 with waits:=cd}) rfl
   obtain⟨hL9,hF9⟩:=hlv.mset hS9 hG9 rfl;have c89:(w1.setCell ⟨gm,9,none⟩ (.string cd)).cell? ⟨gm,8,none⟩=some (.int .i64 (m1.told:Nat)):=hL9.box.cell (by decide)
   have f89:=hL9.box.free 8;have qlS:=hL9.box.blk.2;obtain⟨hS8,hG8⟩:=hL9.box.set 8 (.int .i64 ((m1.told+K:Nat):Int)) (m':={m1 with waits:=cd,told:=m1.told+K}) rfl
   obtain⟨hL8,hF8⟩:=hL9.mset hS8 hG8 rfl;have HL8:=q7 hL8;have HF8:=q7 (bU hfx ho1 ho2 (hF9.trans hF8));have HO1:=q7 ho1;have HO2:=q7 ho2;have HKK:=q7 hk;have HTT:=q7 htl;have hbg:=(cF (s:=s) HI.out k1).1.2
   have htb:m1.told+K<=16777216:=by
    have h1:=congrArg List.length htx;rw[List.length_drop,qg,qF]at h1;omega
   have qau:wrap64 (((m1.told:Nat):Int)+(K:Nat))=((m1.told+K:Nat):Int):=by rw[IntWalk.wrap64_in _ ⟨by omega,by omega⟩];omega
   clear hlv ht htx hfx ho1 ho2 htl hst qb1 p1 p2 p3 hwb q3 hk hS9 hG9 hL9 hF9 hS8 hG8 hL8 hF8 htk qeT hcr hcd hsl q9v hK hbg htb hKs
   go_upto_region 12 with(first|((with_reducible show wpList _ _ _ (Oper.mk _ (.call _) _ _ _ _::_) _ _);refine iH rfl (.tmp 27) (.tmp 32) 3 3 rfl N m1.waits.size K rfl rfl HK.out ?_)|((with_reducible show wpList _ _ _ (Oper.mk _ (.slice _ _ _ _ _) _ _ _ _::_) _ _);refine jQ rfl 9 (.tmp 37) none (some (.tmp 38)) none rfl _ (HS1.out _) ?_)|((with_reducible show wpList _ _ _ (Oper.mk _ (.slice _ _ _ _ _) _ _ _ _::_) _ _);refine jQ rfl 9 (.tmp 44) (some (.tmp 45)) none none rfl _ (HS2.out _) ?_))
   try rw[qau]
   generalize hw4:World.setCell (World.setCell w1 ⟨gm,9,none⟩ _) ⟨gm,8,none⟩ _=w4;have hw5:(w1.setCell ⟨gm,9,none⟩ (.string cd)).setCell ⟨gm,8,none⟩ (.int .i64 ((m1.told+K:Nat):Int))=w4:=hw4;rw[hw5]at HL8 HF8;go_wp2
   go_ret2
   exact⟨cr,0,rfl,fun h=>absurd h (by have:=HN.out;omega),fun _=>⟨HQ.out.1.symm,HQ.out.2.symm⟩,vb1,_,k1,HKK.out,⟨HL8.out,_,qd7.out,HTX.out⟩,HF8.out,HO1.out,HO2.out,by show m1.told+K=_;rw[HTT.out,HCL.out]⟩
def q5s(B gm gr gw:Nat)(vb:Value)(X:Nat->Prop)(s:ByteArray)(pre:Nat)(z0:IS)(m:MV)(k0:Nat)(w:World)(e:Ending)(w':World):Prop:=
 ∃b:Bool,e=.returned (.bool b)/\(b=true↔(dL s pre z0).length<=m.told/\(lO s pre z0).1=0)/\
  o4 w w' B gm gr gw vb X s pre z0 m k0 (fun _ m' k'=>m'.told=m.told/\(b=true->jc s pre z0 k'=lO s pre z0))
theorem q5t{w:World}{B gm gr gw pre k0:Nat}{vb:Value}{X:Nat->Prop}{s:ByteArray}{z0:IS}{m:MV}(hL:q3d w B gm gr gw vb X s pre z0 m k0)(hi:IOk (8*s.size) pre z0)(hz:z0.st=[])(hs:s.size<=4000000)(hX:∀q,X q->q<w.heap.size):
  Calls Tryz.prog 78 #[.pointer (some ⟨gm,0,none⟩)] w (q5s B gm gr gw vb X s pre z0 m k0 w):=by
 have HTH:=q7 (q1m hL.live.box);have c9:w.cell? ⟨gm,9,none⟩=some (.string m.waits):=hL.live.box.cell (by decide)
 have hgm:=hL.live.box.blk.2
 by_cases hw:m.waits=⟨#[]⟩
 ·have HWK:=q7 (q6Z hL hi hz hs hX 1)
  have HI:=q7 hi;rw[hw]at c9;clear hL hi
  go_enter Tryz.func78,Tryz.ntmps78
  go_upto_region 4 with(first|((with_reducible go_at_call 125);(with_reducible refine HTH.out.mono ?_);rintro e w' ⟨rfl,hw⟩;rw[hw];clear hw)|((with_reducible go_at_call 126);(with_reducible refine HWK.out.mono ?_);rintro e w1 ⟨rfl,haf⟩;have HAF:=q7 haf;clear haf))
  obtain⟨vb1,m1,k1,hk,⟨hlv,t,ht,htx⟩,hfx,ho1,ho2,htl,hst⟩:=HAF.out;have qb1:1<=(bys m1.waits).length\/aK (jc s pre z0 k1):=hst.imp (fun h=>by rw[qF];omega) id
  obtain⟨p1,p2,p3,p4⟩:=oY HI.out htx (q9 1) qb1;have qfe:∀b:Bool,(b=true->jc s pre z0 k1=lO s pre z0)->o4 w w1 B gm gr gw vb X s pre z0 m k0 (fun _ m' k'=>(m'.told=m.told/\(b=true->jc s pre z0 k'=lO s pre z0))):=fun b hb=>⟨vb1,m1,k1,hk,⟨hlv,t,ht,htx⟩,hfx,ho1,ho2,htl,hb⟩
  have qah:=q7 qfe;have c9:w1.cell? ⟨gm,9,none⟩=some (.string m1.waits):=hlv.box.cell (by decide)
  have c10:w1.cell? ⟨gm,10,none⟩=some (.int .i64 (m1.wrong:Nat)):=hlv.box.cell (by decide)
  have hgm:=hlv.box.blk.2
  by_cases hw1:m1.waits=⟨#[]⟩
  ·have hwb:bys m1.waits=[]:=by rw[hw1];rfl
   obtain⟨q1,q2⟩:=p2 hwb;have hs1:aK (jc s pre z0 k1):=qb1.resolve_left (by rw[hwb];exact Nat.not_succ_le_zero 0)
   have hq4:=(p4 hs1).2
   have hD:((dL s pre z0).length<=m.told/\(lO s pre z0).1=0)↔m1.wrong=0:=by
    rw[<-htl,<-ht,hlv.wrong,q2]
    exact⟨fun h=>h.2,fun h=>⟨q1,h⟩⟩
   have HD:=q7 hD;have HQ4:=q7 hq4;rw[hw1]at c9;clear hlv ht htx hfx ho1 ho2 htl hst qb1 p1 p2 p3 p4 hwb q1 q2 hk hs1 hD hq4 qfe
   by_cases h0:m1.wrong=0
   ·rw[h0]at c10
    go_wp2;go_ret
    exact⟨true,rfl,⟨fun _=>HD.out.2 h0,fun _=>rfl⟩,qah.out true (fun _=>HQ4.out.symm)⟩
   ·have h0':((m1.wrong:Int)==0)=false:=by simpa using h0
    go_wp2;go_ret
    exact⟨false,rfl,⟨fun e=>Bool.noConfusion e,fun e=>absurd (HD.out.1 e) h0⟩,qah.out false (fun e=>Bool.noConfusion e)⟩
  ·have hwb:bys m1.waits≠[]:=fun e=>hw1 (fZ e)
   have hwi:m1.waits.toList.isEmpty=false:=by rw[<-decide_eq_emptyBytes];exact decide_eq_false hw1
   have q3:=p3 hwb;have hD:¬((dL s pre z0).length<=m.told/\(lO s pre z0).1=0):=fun h=>by rw[<-htl,<-ht]at h;omega
   have HD:=q7 hD;clear hlv ht htx hfx ho1 ho2 htl hst qb1 p1 p2 p3 p4 hwb q3 hk hD qfe;go_wp2;go_ret
   exact⟨false,rfl,⟨fun e=>Bool.noConfusion e,fun e=>absurd e HD.out⟩,qah.out false (fun e=>Bool.noConfusion e)⟩
 ·have hwb:bys m.waits≠[]:=fun e=>hw (fZ e)
  have hwi:m.waits.toList.isEmpty=false:=by rw[<-decide_eq_emptyBytes];exact decide_eq_false hw
  obtain⟨t,ht,htx⟩:=hL.text;obtain⟨p1,p2,p3,p4⟩:=oY hi htx (q9 1) (.inl (List.length_pos_iff.2 hwb));have q3:=p3 hwb;have hD:¬((dL s pre z0).length<=m.told/\(lO s pre z0).1=0):=fun h=>by rw[<-ht]at h;omega
  have HD:=q7 hD;have HL:=q7 hL;clear hL hi ht htx p1 p2 p3 p4 q3 hwb hD
  go_enter Tryz.func78,Tryz.ntmps78
  go_wp2_with((with_reducible go_at_call 125);(with_reducible refine HTH.out.mono ?_);rintro e w' ⟨rfl,hw⟩;rw[hw];clear hw)
  go_ret
  exact⟨false,rfl,⟨fun e=>Bool.noConfusion e,fun e=>absurd e HD.out⟩,vb,m,k0,q9 _,HL.out,Fx.refl _ _,fun q e=>.inl e,fun q e=>.inl e,rfl,fun e=>Bool.noConfusion e⟩
theorem q8Q{w:World}{B gm gr gw:Nat}{m:MV}(h:mR w B gm gr gw m):Calls Tryz.prog 79 #[.pointer (some ⟨gm,0,none⟩)] w fun e w'=>e=.returned (.int .i64 (m.told:Nat))/\w'=w:=by
 have HTH:=q7 (q1m h);have c8:w.cell? ⟨gm,8,none⟩=some (.int .i64 (m.told:Nat)):=h.cell (by decide)
 have hgm:=h.blk.2;clear h
 go_enter Tryz.func79,Tryz.ntmps79
 go_wp2_with((with_reducible go_at_call 125);(with_reducible refine HTH.out.mono ?_);rintro e w' ⟨rfl,hw⟩;rw[hw];clear hw)
 go_ret
 exact⟨rfl,rfl⟩
def q71(B gm gr gw:Nat)(vb:Value)(X:Nat->Prop)(s:ByteArray)(pre:Nat)(z0:IS)(m:MV)(k0:Nat)(w:World)(e:Ending)(w':World):Prop:=
 ∃q:Nat,e=.returned (.int .i64 q)/\((dL s pre z0).length<=m.told/\(lO s pre z0).1=0->q=(lO s pre z0).2.p)/\(¬((dL s pre z0).length<=m.told/\(lO s pre z0).1=0)->q=0)/\o4 w w' B gm gr gw vb X s pre z0 m k0 (fun _ m' _=>m'.told=m.told)
theorem q8R{w:World}{B gm gr gw pre k0:Nat}{vb:Value}{X:Nat->Prop}{s:ByteArray}{z0:IS}{m:MV}(hL:q3d w B gm gr gw vb X s pre z0 m k0)(hi:IOk (8*s.size) pre z0)(hz:z0.st=[])(hs:s.size<=4000000)(hX:∀q,X q->q<w.heap.size):
  Calls Tryz.prog 81 #[.pointer (some ⟨gm,0,none⟩)] w (q71 B gm gr gw vb X s pre z0 m k0 w):=by
 have HDN:=q7 (q5t hL hi hz hs hX);clear hL hi
 go_enter Tryz.func81,Tryz.ntmps81
 go_upto_region 1 with(fail)
 go_wp2_with(fail)
 (with_reducible refine HDN.out.mono ?_)
 rintro e w1 ⟨b,rfl,hb,vb1,m1,k1,hk,hlv,hfx,ho1,ho2,htl,q9z⟩;have HB:=q7 hb
 cases b with
 |true=>
  have hD:=hb.1 rfl;have hp:=q9z rfl;have hfl:=hlv.live.good (by rw[hp];exact hD.2)
  have HAT:=q7 (atS hfl.f0.mach.rd);rw[hp]at HAT;have c0:w1.cell? ⟨gm,0,none⟩=some (.pointer (some ⟨gr,0,none⟩)):=hfl.f0.mach.box.cell (by decide)
  have hgm:=hfl.f0.mach.box.blk.2;have qah:Hid (o4 w w1 B gm gr gw vb X s pre z0 m k0 (fun _ m' _=>m'.told=m.told)):=q7 ⟨vb1,m1,k1,hk,hlv,hfx,ho1,ho2,htl⟩
  have HD:=q7 hD;clear hlv hfx ho1 ho2 htl q9z hk hb hD hp hfl
  go_wp2_with((with_reducible go_at_call 127);(with_reducible refine HAT.out.mono ?_);rintro e w' ⟨rfl,hw⟩;rw[hw];clear hw)
  go_ret
  exact⟨_,rfl,fun _=>rfl,fun h=>absurd HD.out h,qah.out⟩
 |false=>
  have qah:Hid (o4 w w1 B gm gr gw vb X s pre z0 m k0 (fun _ m' _=>m'.told=m.told)):=q7 ⟨vb1,m1,k1,hk,hlv,hfx,ho1,ho2,htl⟩
  clear hlv hfx ho1 ho2 htl q9z hk hb;go_wp2;go_ret
  exact⟨0,rfl,fun h=>(by have:=HB.out.2 h;cases this),fun _=>rfl,qah.out⟩
theorem q5u(l:List (Nat×Nat)):∀x∈l.map stC,x.length=2:=by
 intro x hx;rw[List.mem_map]at hx;obtain⟨y,-,rfl⟩:=hx;rfl
theorem q5v(l:List (Nat×Nat)):∀u∈(l.map stC).flatten,u.oneCell'=true:=by
 intro u hu;rw[List.mem_flatten]at hu;obtain⟨x,hx,hu⟩:=hu;rw[List.mem_map]at hx;obtain⟨y,-,rfl⟩:=hx
 simp[stC]at hu
 rcases hu with rfl|rfl<;>rfl
def q1s(B gm gr gw:Nat)(vb:Value)(X:Nat->Prop)(s:ByteArray)(pre:Nat)(z0:IS)(m:MV)(k0:Nat)(w:World)(e:Ending)(w':World):Prop:=
 ∃v:Value,e=.returned v/\((dL s pre z0).length<=m.told/\(lO s pre z0).1=0->eK 2 w' w.heap.size 101 v ((lO s pre z0).2.st.map stC))/\(¬((dL s pre z0).length<=m.told/\(lO s pre z0).1=0)->v=.slice none 0 0)/\o4 w w' B gm gr gw vb X s pre z0 m k0 (fun vb' m' _=>m'.told=m.told/\∀q,v.ownBlock=some q->w.heap.size<=q/\¬iV gm gr gw vb' m'.vs q)
theorem q5w{w:World}{B gm gr gw pre k0:Nat}{vb:Value}{X:Nat->Prop}{s:ByteArray}{z0:IS}{m:MV}(hL:q3d w B gm gr gw vb X s pre z0 m k0)(hi:IOk (8*s.size) pre z0)(hz:z0.st=[])(hs:s.size<=4000000)(hX:∀q,X q->q<w.heap.size):
  Calls Tryz.prog 80 #[.pointer (some ⟨gm,0,none⟩)] w (q1s B gm gr gw vb X s pre z0 m k0 w):=by
 have HDN:=q7 (q5t hL hi hz hs hX);have HI:=q7 hi;have HZ:=q7 hz;have HS:=q7 hs;clear hL hi hz hs
 go_enter Tryz.func80,Tryz.ntmps80
 go_upto_region 1 with(fail)
 go_wp2_with(fail)
 (with_reducible refine HDN.out.mono ?_)
 rintro e w1 ⟨b,rfl,hb,vb1,m1,k1,hk,hlv,hfx,ho1,ho2,htl,q9z⟩;have HB:=q7 hb
 cases b with
 |true=>
  have hD:=hb.1 rfl;have hp:=q9z rfl;have hfl:=hlv.live.good (by rw[hp];exact hD.2)
  have hst:=hfl.f0.sts
  have qdB:(jc s pre z0 k1).2.st.length<=100000000:=by
   have h1:=nZ (s:=s) (pre:=pre) HZ.out k1;have h2:=hlv.live.kb;have h3:=q1r (T:=8*s.size) z0;have h4:=HS.out;omega
  rw[hp]at hst qdB;have HST:=q7 hst.sl;have c11:w1.cell? ⟨gm,11,none⟩=some m1.vs:=hfl.f0.mach.box.cell (by decide)
  have hgm:=hfl.f0.mach.box.blk.2;have HLN:Hid (([]:List (List Value)).length+((lO s pre z0).2.st.map stC).length<=1000000000):=q7 (by rw[List.length_map,List.length_nil];omega)
  have HSZ:Hid (w.heap.size<=w1.heap.size):=q7 hfx.size
  have qah:Hid (∀w5 (v:Value),w1.grownBy w5 none->(∀q,v.ownBlock=some q->w1.heap.size<=q)->o4 w w5 B gm gr gw vb X s pre z0 m k0 (fun vb' m' _=>m'.told=m.told/\∀q,v.ownBlock=some q->w.heap.size<=q/\¬iV gm gr gw vb' m'.vs q)):=q7 (fun w5 v hg hv=>by
   have hf:Fx (fun _=>False) w1 w5:=jn hg (fun k e=>by cases e)
   exact⟨vb1,m1,k1,hk,⟨hlv.live.fx hf (fun _ _ e=>e) (fun _ e=>e.elim),hlv.text⟩,hfx.trans (hf.mono (fun _ e=>e.elim)),ho1,ho2,htl,fun q e=>⟨qa hfx.size (hv q e),fun z=>by have h1:=hlv.live.lt q z;have h2:=hv q e;omega⟩⟩)
  have HD:=q7 hD;clear hlv hfx ho1 ho2 htl q9z hk hb hD hp hfl hst qdB
  go_wp2_with(at_builtin;go_loud (refine rS 2 rfl (.const (.slice none 0 0)) (.tmp 9) 36 rfl w.heap.size 101 (.agg #[.int .i64 0,.int .i64 0]) 16 Tryz.underlying36 (by kernel_rfl) rfl (by decide) (by decide) (.slice none 0 0) [] rfl (eK.nil 2 w1 w.heap.size 101) m1.vs _ rfl HST.out (q5u _) (q5v _) HLN.out HSZ.out ?_);intro v5 w5 q9g hg5 hk5;have HO5:=q7 q9g;have HG5:=q7 hg5;have HK5:=q7 hk5;clear q9g hg5 hk5)
  go_ret
  exact⟨v5,rfl,fun _=>by simpa using HO5.out,fun h=>absurd HD.out h,qah.out _ v5 HG5.out (fun q e=>(HK5.out q e).elim (fun h=>by cases h) id)⟩
 |false=>
  have qah:Hid (o4 w w1 B gm gr gw vb X s pre z0 m k0 (fun vb' m' _=>m'.told=m.told/\∀q,(Value.slice none 0 0).ownBlock=some q->w.heap.size<=q/\¬iV gm gr gw vb' m'.vs q)):=q7 ⟨vb1,m1,k1,hk,hlv,hfx,ho1,ho2,htl,fun q e=>by cases e⟩
  clear hlv hfx ho1 ho2 htl q9z hk hb;go_wp2;go_ret
  exact⟨_,rfl,fun h=>(by have:=HB.out.2 h;cases this),fun _=>rfl,qah.out⟩
end Go.Cm
namespace Go.Cm
open Go.RowKit Go.Proofs
attribute [local irreducible] j8
def eH(t:qK)(p:Nat):IS:=⟨0,false,0,[],[],p,j8 t,[]⟩
theorem cA{s:ByteArray}{t:qK}{p:Nat}(hp:p<=8*s.size):IOk (8*s.size) (j8 t).length (eH t p):=
 ⟨hp,qc _,fun h=>absurd h (show¬(0:Nat)=1 by decide),qc _,.inr (show¬(0:Nat)=2 by decide),.inr (show¬(0:Nat)=2 by decide),q9 _,by
  have h:(eH t p).h.length-(j8 t).length=0:=Nat.sub_self _;rw[h];exact qc _⟩
theorem gV(s:ByteArray)(pre:Nat)(z0:IS):jc s pre z0 0=(0,z0):=by unfold jc;rw[j5]
def q7q:MV:=⟨0,false,0,.pointer none,.pointer none,0,0,⟨#[]⟩,0,.slice none 0 0,fnV 0⟩
def q5x(s:ByteArray)(t:qK)(p:Nat)(w:World)(e:Ending)(w':World):Prop:=
 ∃gm gr gw vb,e=.returned (.tuple #[.pointer (some ⟨gm,0,none⟩),.int .i64 0])/\(∀X,q3d w' w.heap.size gm gr gw vb X s (j8 t).length (eH t p) q7q 0)/\Below w.heap.size w w'
theorem q8S(s:ByteArray)(t:ByteArray)(p:Nat)(hs:s.size<=4294967296)(hp:p<=8*s.size)(ht:t.size<=50000000)(w:World):Calls Tryz.prog 76 #[.string s,.int .i64 p,.string t] w (q5x s (bys t) p w):=by
 have HNS:=q7 (q8B s p hs hp);have HNW:=q7 (q7S t ht)
 go_enter Tryz.func76,Tryz.ntmps76
 go_wp2_with(first|((with_reducible go_at_call 122);(with_reducible refine(HNS.out _).mono ?_);rintro e w1 ⟨g,rfl,hx,hge,hb⟩;have HX1:=q7 hx;have HB1:=q7 hb;have HG1:=q7 hge;clear hx hb hge)|((with_reducible go_at_call 123);(with_reducible refine(HNW.out _).mono ?_);rintro e w2 ⟨gw,vb,rfl,hw,hgw,hgl,hb⟩;have HW2:=q7 hw;have HGW:=q7 hgw;have HGL:=q7 hgl;have HB2:=q7 hb;clear hw hgw hgl hb))
 go_ret2
 have hw2:=HW2.out;obtain⟨b,hV,hb1,hb2⟩:=hw2;have hs1:=HB1.out.size;have hs2:=HB2.out.size;have hg:=HG1.out;have hgw:=HGW.out;have hg1:=HX1.out.lt;have hbx:=qE w2 w.heap.size #[.pointer (some ⟨g,0,none⟩),.pointer (some ⟨gw,0,none⟩),.int .i64 0,.bool false,.int .i64 0,.pointer none,.pointer none,.int .i64 0,.int .i64 0,.string ⟨#[]⟩,.int .i64 0,.slice none 0 0,.func (.func 124) #[] #[]] 200 (by simp) (qa hs1 hs2)
 have hal:=qn w2 (.cells #[.pointer (some ⟨g,0,none⟩),.pointer (some ⟨gw,0,none⟩),.int .i64 0,.bool false,.int .i64 0,.pointer none,.pointer none,.int .i64 0,.int .i64 0,.string ⟨#[]⟩,.int .i64 0,.slice none 0 0,.func (.func 124) #[] #[]] 200);have hvl:∀k,vb.ownBlock=some k->w1.heap.size<=k/\k<w2.heap.size:=fun k e=>hV.own.lt k e
 have qiP:iS w2 w.heap.size gw vb (j8 (bys t)):=⟨b,⟨hV.box.mono hs1,hV.own.mono hs1,hV.ne⟩,by rw[V4];exact hb1,hb2⟩
 have qez:rA (w2.alloc (.cells #[.pointer (some ⟨g,0,none⟩),.pointer (some ⟨gw,0,none⟩),.int .i64 0,.bool false,.int .i64 0,.pointer none,.pointer none,.int .i64 0,.int .i64 0,.string ⟨#[]⟩,.int .i64 0,.slice none 0 0,.func (.func 124) #[] #[]] 200)) w.heap.size w2.heap.size g gw vb s p (j8 (bys t)) q7q:=by
  refine⟨?_,(HX1.out.up HB2.out).up hal,qiP.up hal,by omega,?_,by omega,fun e=>?_,fun e=>?_,hg⟩
  ·exact hbx
  ·have:=HGL.out;omega
  ·have:=(hvl _ e).2;omega
  ·have:=(hvl _ e).1;omega
 have hf0:fK _ w.heap.size w2.heap.size g gw vb s p (j8 (bys t)) [] q7q:=⟨qez,eK.nil 2 _ _ _,(fun k e=>by cases e),rfl,rfl,0,rfl⟩
 refine⟨w2.heap.size,g,gw,vb,rfl,fun X=>⟨⟨qc _,by rw[gV];rfl,?_,⟨_,_,_,hf0,qc _⟩,fun _=>by rw[gV];exact⟨hf0,⟨rfl,rfl,fun _=>rfl,fun _=>rfl,0,rfl⟩,fun e=>absurd e (show¬(0:Nat)=2 by decide)⟩⟩,[],rfl,?_⟩,HB1.out.trans ((HB2.out.mono hs1).trans (hal.mono (qa hs1 hs2)))⟩
 ·rw[gV]
  show 0=(j8 (bys t)).length-(j8 (bys t)).length
  rw[Nat.sub_self]
 ·rw[gV]
  show(j8 (bys t)).drop (j8 (bys t)).length=_
  rw[List.drop_length];rfl
noncomputable def txI(s:ByteArray)(t:qK)(p:Nat):qK:=dL s (j8 t).length (eH t p)
noncomputable def erI(s:ByteArray)(t:qK)(p:Nat):Nat:=(lO s (j8 t).length (eH t p)).1
noncomputable def enI(s:ByteArray)(t:qK)(p:Nat):Nat:=(lO s (j8 t).length (eH t p)).2.p
noncomputable def bgI(s:ByteArray)(t:qK)(p:Nat):List (Nat×Nat):=(lO s (j8 t).length (eH t p)).2.st
def Mac(w:World)(B gm:Nat)(V:Nat->Prop)(s:ByteArray)(t:qK)(p told:Nat):Prop:=
 ∃gr gw vb m k,q3d w B gm gr gw vb (fun _=>False) s (j8 t).length (eH t p) m k/\m.told=told/\∀q,V q->¬iV gm gr gw vb m.vs q
abbrev MFx(B:Nat)(V:Nat->Prop)(w w':World):Prop:=Fx (fun q=>B<=q/\¬V q) w w'
theorem dA.ge{w:World}{B gm gr gw pre k:Nat}{vb:Value}{X:Nat->Prop}{s:ByteArray}{z0:IS}{m:MV}(h:dA w B gm gr gw vb X s pre z0 m k):(∀q,iV gm gr gw vb m.vs q->B<=q)/\B<=w.heap.size:=by
 obtain⟨p,H,st,h,-⟩:=h.bad;refine⟨fun q e=>?_,h.mach.B⟩
 obtain⟨b,hb,-⟩:=h.mach.win
 rcases e with(e|e|e|e)|e
 ·rw[e];exact h.mach.box.blk.1
 ·rw[e];exact h.mach.Br
 ·rw[e];exact hb.box.blk.1
 ·exact(hb.own.lt q e).1
 ·exact(h.sts.lt q e).1
theorem Mac.up{w w':World}{B gm:Nat}{V:Nat->Prop}{s:ByteArray}{t:qK}{p told:Nat}(h:Mac w B gm V s t p told)(hb:Below w.heap.size w w'):Mac w' B gm V s t p told:=by
 obtain⟨gr,gw,vb,m,k,hl,ht,hv⟩:=h
 exact⟨gr,gw,vb,m,k,⟨hl.live.up hb,hl.text⟩,ht,hv⟩
theorem Mac.B{w:World}{B gm:Nat}{V:Nat->Prop}{s:ByteArray}{t:qK}{p told:Nat}(h:Mac w B gm V s t p told):B<=w.heap.size:=by
 obtain⟨gr,gw,vb,m,k,hl,ht,hv⟩:=h
 exact hl.live.ge.2
section
variable {w : World} {B gm : Nat} {V : Nat → Prop} {s : ByteArray} {t : qK} {p told : Nat} (h : Mac w B gm V s t p told) (hp : p ≤ 8 * s.size) (hs : s.size ≤ 4000000) (hV : ∀ q, V q → q < w.heap.size)
include h hp hs hV
end
theorem xJ{s:ByteArray}{t:qK}{p:Nat}(hp:p<=8*s.size):(txI s t p).length<=16777216:=by
 have h1:=(cW (N:=qH s) (bs:=bys s) (t8 s) (cA (t:=t) hp) (2*(8*s.size)+2)).1.2;unfold txI dL;rw[List.length_drop]
 exact h1
end Go.Cm
namespace Go.Cm
open Go.RowKit Go.Proofs
theorem lN.of{w:World}{B E:Nat}{v:Value}{xs:List Value}(h:Own w B E v xs):lN w B E v xs:=by
 obtain⟨⟨h3,h4⟩,h5⟩:=h;refine⟨h5,?_⟩
 rcases h4 with⟨a,b⟩|⟨g,cap,cur,a,b,c,d,e,f,i⟩
 ·exact .inl ⟨a,List.length_eq_zero_iff.1 b⟩
 ·exact .inr ⟨g,cap,cur,(0,0),a,b,c,.inr rfl,d,e,by omega,by simpa using i⟩
end Go.Cm
namespace Go.Cm
attribute [local irreducible] j8
section
variable {N T pre : Nat} {bs : qK} {z0 : IS}
theorem C5{k:Nat}(h:(j5 N T pre bs z0 (k+1)).1=0):(j5 N T pre bs z0 k).1=0:=by
 apply qf
 intro hn;have e:=bQ (N:=N) (T:=T) (pre:=pre) (bs:=bs) (z0:=z0) (k:=k) (.inl hn) 1;rw[e]at h
 exact hn h
theorem o9{k:Nat}(h:(j5 N T pre bs z0 (k+1)).1=0)(hs:¬aK (j5 N T pre bs z0 k)):
  (stI N T pre bs (j5 N T pre bs z0 k).2).1=0/\j5 N T pre bs z0 (k+1)=stI N T pre bs (j5 N T pre bs z0 k).2/\(stI N T pre bs (j5 N T pre bs z0 k).2).2.h.length-pre<=16777216:=by
 rw[fD hs]at h⊢;generalize stI N T pre bs (j5 N T pre bs z0 k).2=y at*;unfold lF at h⊢;generalize (16777216:Nat)=M at*
 by_cases h1:y.1≠0
 ·rw[if_pos h1]at h;exact absurd h h1
 ·rw[if_neg h1]at h⊢
  by_cases h2:M<y.2.h.length-pre
  ·rw[if_pos h2]at h;cases h
  ·rw[if_neg h2]
   exact⟨by simpa using h1,rfl,by omega⟩
end
structure Sim(H H':qK)(i:Nat)(z z':IS):Prop where
 md:z'.md=z.md
 p:z'.p=z.p
 fin:z.md≠0->z'.fin=z.fin
 left:z.md≠0->z'.left=z.left
 li:z.md≠0->z'.li=z.li
 di:z.md≠0->z'.di=z.di
 h:∃c,z.h=H++c/\z'.h=H'++c
 st:z.st.length=i+z'.st.length
section
variable {N T pre pre' : Nat} {bs H H' : qK} {i : Nat} {z z' : IS}
theorem Sim.close(hs:Sim H H' i z z')(h0:z.md≠0)(q:Nat):Sim H H' i (cE {z with p:=q}) (cE {z' with p:=q}):=by
 have e:=hs.fin h0
 exact⟨by show(if z'.fin then 3 else 0)=if z.fin then 3 else 0;rw[e],rfl,fun _=>e,fun _=>hs.left h0,fun _=>hs.li h0,fun _=>hs.di h0,hs.h,hs.st⟩
theorem Sim.next(hs:Sim H H' i z z')(h0:z.md≠0)(q l:Nat)(c:qK):Sim H H' i {z with left:=l,p:=q,h:=z.h++c} {z' with left:=l,p:=q,h:=z'.h++c}:=by
 obtain⟨d,e1,e2⟩:=hs.h
 exact⟨hs.md,rfl,fun _=>hs.fin h0,fun _=>rfl,fun _=>hs.li h0,fun _=>hs.di h0,⟨d++c,by rw[e1,qh],by rw[e2,qh]⟩,hs.st⟩
theorem Sim.cpy(hH:j8 H=j8 H')(hs:Sim H H' i z z')(h0:z.md≠0){s p:Nat}(he:(iQ N T z s p).1=0):(iQ N T z' s p).1=0/\Sim H H' i (iQ N T z s p).2 (iQ N T z' s p).2:=by
 obtain⟨c,e1,e2⟩:=hs.h;have hl:j8 z.h=j8 z'.h:=by rw[e1,e2];exact lH hH c
 have hm:=nY hl;unfold iQ at he⊢
 by_cases h1:(numB N T p (bP s)).2.1≠0
 ·rw[if_pos h1]at he;exact absurd he h1
 rw[if_neg h1]at he⊢;rw[if_neg h1];generalize (numB N T p (bP s)).1=n at*;generalize (numB N T p (bP s)).2.2=q at*;unfold pZ at he⊢;rw[hs.di h0]
 by_cases h2:(j9 z.di (N/2^q) (T-q)).2.1≠0
 ·rw[if_pos h2]at he;exact absurd he h2
 rw[if_neg h2]at he⊢;rw[if_neg h2];have hd:=fun e=>(mL (N:=N) (T:=T) (p:=q+(j9 z.di (N/2^q) (T-q)).2.2) (y:=gX (j9 z.di (N/2^q) (T-q)).1) e)
 have hd2:=I5 (s:=(j9 z.di (N/2^q) (T-q)).1);generalize numB N T (q+(j9 z.di (N/2^q) (T-q)).2.2) (gX (j9 z.di (N/2^q) (T-q)).1)=y at*;unfold nV at he⊢
 by_cases h3:y.2.1≠0
 ·rw[if_pos h3]at he;exact absurd he h3
 rw[if_neg h3]at he⊢;rw[if_neg h3];rw[<-hm]
 by_cases h4:min z.h.length 32768<y.1
 ·rw[if_pos h4]at he;cases he
 rw[if_neg h4]at he⊢;rw[if_neg h4];obtain⟨k1,-,-,k2⟩:=hd (by simpa using h3)
 obtain⟨k3,-,-⟩:=hd2 k1;obtain⟨d,f1,f2,-⟩:=sX (b:=z.h) (H:=z'.h) (d:=y.1) hl (by omega) (by omega) (by omega) n
 refine⟨rfl,?_⟩;simp only[f1,f2];have:=hs.next h0 y.2.2 z.left d
 have e3:=hs.left h0
 exact⟨this.md,this.p,fun _=>hs.fin h0,fun _=>e3,fun _=>hs.li h0,fun _=>hs.di h0,this.h,hs.st⟩
theorem Sim.step(hH:j8 H=j8 H')(hs:Sim H H' i z z')(he:(stI N T pre bs z).1=0):(stI N T pre' bs z').1=0/\Sim H H' i (stI N T pre bs z).2 (stI N T pre' bs z').2:=by
 unfold stI at he⊢;rw[hs.md]
 by_cases h0:z.md=0
 ·rw[if_pos h0]at he⊢
  rw[if_pos h0];unfold iR at he⊢;rw[hs.p]
  by_cases h1:(jk N T z.p).2.1≠0
  ·rw[if_pos h1]at he;exact absurd he h1
  rw[if_neg h1];rw[if_neg h1]
  exact⟨rfl,rfl,rfl,fun _=>rfl,fun _=>rfl,fun _=>rfl,fun _=>rfl,hs.h,by simp only[qg,List.length_singleton];have:=hs.st;omega⟩
 rw[if_neg h0]at he⊢;rw[if_neg h0]
 by_cases h1:z.md=1
 ·rw[if_pos h1]at he⊢
  rw[if_pos h1];unfold dI at he⊢;rw[hs.left h0,hs.p]
  by_cases h2:z.left=0
  ·rw[if_pos h2]
   rw[if_pos h2];have:=hs.close h0 z.p;have e:({z' with p:=z.p}:IS)=z':=by rw[<-hs.p]
   rw[e]at this
   exact⟨rfl,this⟩
  rw[if_neg h2]at he⊢;rw[if_neg h2]
  by_cases h3:min z.left ((T-z.p)/8)=0
  ·rw[if_pos h3]at he;cases he
  rw[if_neg h3];rw[if_neg h3]
  exact⟨rfl,hs.next h0 _ _ _⟩
 rw[if_neg h1]at he⊢;rw[if_neg h1]
 by_cases h2:z.md=2
 ·rw[if_pos h2]at he⊢
  rw[if_pos h2];unfold oU at he⊢;rw[hs.li h0,hs.p];generalize j9 z.li (N/2^z.p) (T-z.p)=r at*;unfold oT at he⊢;rw[hs.p]
  by_cases h3:r.2.1≠0
  ·rw[if_pos h3]at he;exact absurd he h3
  rw[if_neg h3]at he⊢;rw[if_neg h3]
  by_cases h4:r.1=256
  ·rw[if_pos h4]
   rw[if_pos h4]
   exact⟨rfl,hs.close h0 _⟩
  rw[if_neg h4]at he⊢;rw[if_neg h4]
  by_cases h5:256<r.1
  ·rw[if_pos h5]at he⊢
   rw[if_pos h5]
   exact hs.cpy hH h0 he
  rw[if_neg h5];rw[if_neg h5];have:=hs.next h0 (z.p+r.2.2) z.left [UInt8.ofNat r.1]
  have e:({z' with left:=z.left,p:=z.p+r.2.2,h:=z'.h++[UInt8.ofNat r.1]}:IS)={z' with p:=z.p+r.2.2,h:=z'.h++[UInt8.ofNat r.1]}:=by rw[<-hs.left h0]
  rw[e]at this
  exact⟨rfl,this⟩
 ·rw[if_neg h2]
  rw[if_neg h2]
  exact⟨rfl,hs⟩
end
end Go.Cm
namespace Go.Cm
theorem q3q{n:Int}(h:¬(n<3\/258<n)):(bP (aA n).s).2.2=true/\(bP (aA n).s).2.1=(aA n).b/\(bP (aA n).s).1+(aA n).v=n.toNat/\257<=(aA n).s/\(aA n).s<=285:=by
 unfold aA;rw[if_neg h]
 by_cases h2:n=258
 ·rw[if_pos h2,h2];decide
 ·rw[if_neg h2]
  have hi:=gZ 3 4 n.toNat 27;obtain⟨hb,-⟩:=gD (base:=3) (each:=4) (n:=n.toNat) (by omega) 27
  unfold gE;simp only;generalize aE 3 4 n.toNat 27=i at*;unfold bP;rw[if_neg (by omega),if_pos (by omega),show 257+i-257=i by omega]
  exact⟨rfl,rfl,by show qL 3 4 i+_=_;omega,by omega,by omega⟩
theorem q3r{n:Int}(h:¬(n<1\/32768<n)):(gX (aM n).s).2.2=true/\(gX (aM n).s).2.1=(aM n).b/\(gX (aM n).s).1+(aM n).v=n.toNat:=by
 unfold aM;rw[if_neg h];have hi:=gZ 1 2 n.toNat 29;obtain⟨hb,-⟩:=gD (base:=1) (each:=2) (n:=n.toNat) (by omega) 29
 unfold gE;simp only;generalize aE 1 2 n.toNat 29=i at*;unfold gX;rw[if_pos (by omega),show 0+i=i by omega]
 exact⟨rfl,rfl,by show qL 1 2 i+_=_;omega⟩
theorem C8{l:List Int}{sym:Int}{bits v:Nat}{x:Nat×Nat×Nat}(h:(gB l sym bits v x).1=0):x.1=0:=by
 apply qf;intro hn
 rw[cD hn]at h;exact hn h
theorem q1O{l1 l2:List Int}{o:OpN}{st:Nat×Nat}{N T:Nat}{z:IS}(h0:st.1<2^st.2)(ho:o.lit<256)(he:(cOp l1 l2 o (0,st)).1=0)(hzp:z.p=st.2)(hli:z.li=l1.map Int.toNat)(hdi:z.di=l2.map Int.toNat)(hop:(opN 10 z.h o).1=0):
  pD st (cOp l1 l2 o (0,st)).2/\(Pre N T (cOp l1 l2 o (0,st)).2->oU N T z=(0,{z with p:=(cOp l1 l2 o (0,st)).2.2,h:=(opN 10 z.h o).2})):=by
 unfold cOp at he⊢;unfold opN at hop⊢
 by_cases hl:o.len=0
 ·rw[if_pos hl]at he hop⊢
  rw[if_pos hl];obtain⟨hE,g,r⟩:=oB (N:=N) (T:=T) (l:=l1) (sym:=(o.lit:Int)) (bits:=0) (v:=0) h0 (by decide) he
  refine⟨g,fun hp=>?_⟩
  obtain⟨r1,r2,r3⟩:=r hp;unfold oU;rw[hli,hzp,r1];unfold oT;simp only[Int.toNat_natCast];rw[if_neg (by simp),if_neg (by omega),if_neg (by omega)]
  obtain⟨e,-⟩:=fT (N:=N) (T:=T) (p:=(fG l1 (o.lit:Int) st).2) (n:=0) (by rw[r3])
  rw[r3]at e;simp only at e;rw[e,hzp,show st.2+((fG l1 (o.lit:Int) st).2-st.2)=(fG l1 (o.lit:Int) st).2+0 by omega,hli]
 ·rw[if_neg hl]at he hop⊢
  rw[if_neg hl]
  by_cases hr:o.len<3\/258<o.len\/o.dist<1\/32768<o.dist
  ·rw[if_pos hr]at hop;cases hop
  rw[if_neg hr]at hop⊢
  by_cases hd:(z.h.length:Int)<o.dist
  ·rw[if_pos hd]at hop;cases hop
  rw[if_neg hd];have hn1:¬(o.len<3\/258<o.len):=by omega
  have hn2:¬(o.dist<1\/32768<o.dist):=by omega
  obtain⟨a1,a2,a3,a4,a5⟩:=q3q hn1;obtain⟨b1,b2,b3⟩:=q3r hn2;obtain⟨f1,-,-⟩:=oK hn1;obtain⟨f2,-,-⟩:=oL hn2;have hx:=C8 he;obtain⟨x,hX⟩:∃x,x=gB l1 (aA o.len).s (aA o.len).b (aA o.len).v (0,st):=⟨_,rfl⟩;rw[<-hX]at he hx⊢;obtain⟨hE,g,r⟩:=oB (N:=N) (T:=T) (l:=l1) (sym:=((aA o.len).s:Int)) (bits:=(aA o.len).b) (v:=(aA o.len).v) h0 f1 (by rw[<-hX];exact hx)
  rw[<-hX]at g r;obtain⟨x1,st1⟩:=x;simp only at hx g r;subst hx;obtain⟨hE2,g2,r2⟩:=oB (N:=N) (T:=T) (l:=l2) (sym:=((aM o.dist).s:Int)) (bits:=(aM o.dist).b) (v:=(aM o.dist).v) g.lt f2 he;refine⟨g.trans g2,fun hp=>?_⟩
  obtain⟨s1,s2,s3⟩:=r2 hp;obtain⟨t1,t2,t3⟩:=r (hp.of g2);unfold oU;rw[hli,hzp,t1];unfold oT;simp only[Int.toNat_natCast];rw[if_neg (by simp),if_neg (by omega),if_pos (by omega),hzp,show st.2+((fG l1 ((aA o.len).s:Int) st).2-st.2)=(fG l1 ((aA o.len).s:Int) st).2 by omega]
  have hnb:numB N T (fG l1 ((aA o.len).s:Int) st).2 (bP (aA o.len).s)=(o.len.toNat,0,st1.2):=by
   unfold numB;rw[if_neg (by rw[a1];decide),a2,t3,a3]
  unfold iQ;rw[hnb];rw[if_neg (by simp)]
  unfold pZ;simp only;rw[hdi,s1];simp only[Int.toNat_natCast];rw[if_neg (by simp),show st1.2+((fG l2 ((aM o.dist).s:Int) st1).2-st1.2)=(fG l2 ((aM o.dist).s:Int) st1).2 by omega]
  have hdb:numB N T (fG l2 ((aM o.dist).s:Int) st1).2 (gX (aM o.dist).s)=(o.dist.toNat,0,(gB l2 ((aM o.dist).s:Int) (aM o.dist).b (aM o.dist).v (0,st1)).2.2):=by
   unfold numB;rw[if_neg (by rw[b1];decide),b2,s3,b3]
  rw[hdb];unfold nV;rw[if_neg (by simp),if_neg (by simp only;omega),hli,hdi]
theorem R4{l1:List Int}{st:Nat×Nat}{N T:Nat}{z:IS}(h0:st.1<2^st.2)(he:(gB l1 256 0 0 (0,st)).1=0)(hzp:z.p=st.2)(hli:z.li=l1.map Int.toNat):
  pD st (gB l1 256 0 0 (0,st)).2/\(Pre N T (gB l1 256 0 0 (0,st)).2->oU N T z=(0,cE {z with p:=(gB l1 256 0 0 (0,st)).2.2})):=by
 obtain⟨hE,g,r⟩:=oB (N:=N) (T:=T) (l:=l1) (sym:=256) (bits:=0) (v:=0) h0 (by decide) he
 refine⟨g,fun hp=>?_⟩
 obtain⟨r1,r2,r3⟩:=r hp;unfold oU;rw[hli,hzp,r1];unfold oT;have e256:(256:Int).toNat=256:=rfl;simp only[e256];rw[if_neg (by simp),if_pos (by trivial)]
 obtain⟨e,-⟩:=fT (N:=N) (T:=T) (p:=(fG l1 256 st).2) (n:=0) (by rw[r3])
 rw[r3]at e;simp only at e;rw[e,hzp,show st.2+((fG l1 256 st).2-st.2)=(fG l1 256 st).2+0 by omega,hli]
def Rch(N T:Nat)(bs:qK)(z0 z:IS):Prop:=∃k,j5 N T 0 bs z0 k=(0,z)
theorem Rch.step{N T:Nat}{bs:qK}{z0 z z':IS}(h:Rch N T bs z0 z)(hm:z.md≠3)(hs:stI N T 0 bs z=(0,z'))(hb:z'.h.length<=16777216):Rch N T bs z0 z':=by
 obtain⟨k,hk⟩:=h;refine⟨k+1,?_⟩;rw[fD (by rw[hk];exact fun e=>e.elim (fun e=>e rfl) hm),hk]
 show lF 0 (stI N T 0 bs z)=_
 rw[hs];unfold lF;generalize (16777216:Nat)=M at*;rw[if_neg (by simp),if_neg (by simp only;omega)]
theorem R5{y:Nat×qK}{o:OpN}{l:List OpN}(h:((o::l).foldl (opS 10) y).1=0):y.1=0/\(opN 10 y.2 o).1=0/\opS 10 y o=(0,(opN 10 y.2 o).2)/\(opN 10 y.2 o).2.length<=16777216:=by
 rw[List.foldl_cons]at h
 have h1:(opS 10 y o).1=0:=by
  apply qf;intro hn
  rw[yD hn]at h;exact hn h
 unfold opS at h1⊢;generalize (16777216:Nat)=M at*
 by_cases c1:y.1≠0
 ·rw[if_pos c1]at h1;exact absurd h1 c1
 rw[if_neg c1]at h1⊢
 by_cases c2:(opN 10 y.2 o).1≠0
 ·rw[if_pos c2]at h1;exact absurd h1 c2
 rw[if_neg c2]at h1⊢
 by_cases c3:M<(opN 10 y.2 o).2.length
 ·rw[if_pos c3]at h1;cases h1
 rw[if_neg c3]
 exact⟨by simpa using c1,by simpa using c2,Prod.ext (by simpa using c2) rfl,by omega⟩
theorem C9{l1 l2:List Int}{o:OpN}{ops:List OpN}{x:Nat×Nat×Nat}(h:(cC l1 l2 (o::ops) x).1=0):(cOp l1 l2 o x).1=0:=by
 apply qf;intro hn
 have e:cC l1 l2 (o::ops) x=cC l1 l2 ops (cOp l1 l2 o x):=rfl;rw[e,kZ hn]at h;exact hn h
theorem xQ{l1 l2:List Int}:∀(ops:List OpN) (st:Nat×Nat) (b:qK),st.1<2^st.2->(∀o∈ops,o.lit<256)->(cC l1 l2 ops (0,st)).1=0->(ops.foldl (opS 10) (0,b)).1=0->pD st (cC l1 l2 ops (0,st)).2
 |[],st,_,h0,_,_,_=>pD.refl h0
 |o::ops,st,b,h0,hl,he,hop=>by
  have h1:=C9 he;obtain⟨-,q2,q3,-⟩:=R5 hop;obtain⟨g,-⟩:=q1O (N:=0) (T:=0) (z:=⟨2,false,0,l1.map Int.toNat,l2.map Int.toNat,st.2,b,[]⟩) h0 (hl o (List.mem_cons_self ..)) h1 rfl rfl rfl q2
  have e:cC l1 l2 (o::ops) (0,st)=cC l1 l2 ops (0,(cOp l1 l2 o (0,st)).2):=by
   show cC l1 l2 ops (cOp l1 l2 o (0,st))=_
   rw[show cOp l1 l2 o (0,st)=(0,(cOp l1 l2 o (0,st)).2)from Prod.ext h1 rfl]
  rw[e]at he⊢;rw[List.foldl_cons,q3]at hop
  exact g.trans (xQ ops _ _ g.lt (fun o' h'=>hl o' (List.mem_cons_of_mem _ h')) he hop)
theorem R6{N T:Nat}{bs:qK}{z0:IS}{l1 l2:List Int}:∀(ops:List OpN) (st:Nat×Nat) (z:IS),st.1<2^st.2->(∀o∈ops,o.lit<256)->(cC l1 l2 ops (0,st)).1=0->(ops.foldl (opS 10) (0,z.h)).1=0->Pre N T (cC l1 l2 ops (0,st)).2->
  z.md=2->z.p=st.2->z.li=l1.map Int.toNat->z.di=l2.map Int.toNat->Rch N T bs z0 z->Rch N T bs z0 {z with p:=(cC l1 l2 ops (0,st)).2.2,h:=(ops.foldl (opS 10) (0,z.h)).2}
 |[],st,z,_,_,_,_,_,_,hp,_,_,hr=>by
  show Rch N T bs z0 {z with p:=st.2,h:=z.h}
  rw[<-hp];exact hr
 |o::ops,st,z,h0,hl,he,hop,hpre,hmd,hp,hli,hdi,hr=>by
  have h1:=C9 he;obtain⟨-,q2,q3,q4⟩:=R5 hop
  have e:cC l1 l2 (o::ops) (0,st)=cC l1 l2 ops (0,(cOp l1 l2 o (0,st)).2):=by
   show cC l1 l2 ops (cOp l1 l2 o (0,st))=_
   rw[show cOp l1 l2 o (0,st)=(0,(cOp l1 l2 o (0,st)).2)from Prod.ext h1 rfl]
  rw[e]at he hpre⊢;rw[List.foldl_cons,q3]at hop⊢;simp only at q2 q4 hop⊢;obtain⟨g,r⟩:=q1O (N:=N) (T:=T) (z:=z) h0 (hl o (List.mem_cons_self ..)) h1 hp hli hdi q2;have g2:=xQ ops _ _ g.lt (fun o' h'=>hl o' (List.mem_cons_of_mem _ h')) he hop
  have hc:=r (hpre.of g2)
  have hr2:Rch N T bs z0 {z with p:=(cOp l1 l2 o (0,st)).2.2,h:=(opN 10 z.h o).2}:=hr.step (by rw[hmd];decide) (by
   unfold stI;rw[if_neg (by rw[hmd];decide),if_neg (by rw[hmd];decide),if_pos hmd,hc]) q4
  exact R6 ops _ {z with p:=(cOp l1 l2 o (0,st)).2.2,h:=(opN 10 z.h o).2} g.lt (fun o' h'=>hl o' (List.mem_cons_of_mem _ h')) he hop hpre hmd rfl hli hdi hr2
theorem W5{N T:Nat}{bs:qK}{z0:IS}{l1 l2:List Int}{ops:List OpN}{st:Nat×Nat}{z:IS}(h0:st.1<2^st.2)(hl:∀o∈ops,o.lit<256)(he:(lJ l1 l2 ops st).1=0)(hop:(ops.foldl (opS 10) (0,z.h)).1=0)(hsz:(ops.foldl (opS 10) (0,z.h)).2.length<=16777216):
  pD st (lJ l1 l2 ops st).2/\(Pre N T (lJ l1 l2 ops st).2->z.md=2->z.p=st.2->z.li=l1.map Int.toNat->z.di=l2.map Int.toNat->Rch N T bs z0 z->Rch N T bs z0 (cE {z with p:=(lJ l1 l2 ops st).2.2,h:=(ops.foldl (opS 10) (0,z.h)).2})):=by
 unfold lJ at he⊢;have h1:=C8 he;have g:=xQ ops st z.h h0 hl h1 hop;have hb:=fun a b c d e f=>R6 (N:=N) (T:=T) (bs:=bs) (z0:=z0) ops st z h0 hl h1 hop a b c d e f
 generalize cC l1 l2 ops (0,st)=x at*;obtain⟨x1,st1⟩:=x;simp only at h1 g hb;subst h1;have g2:=(R4 (N:=0) (T:=0) (z:={z with p:=st1.2,li:=l1.map Int.toNat}) g.lt he rfl rfl).1
 refine⟨g.trans g2,fun hp hmd hzp hli hdi hr=>?_⟩
 have hr2:=hb (hp.of g2) hmd hzp hli hdi hr;have hc:=(R4 (N:=N) (T:=T) (z:={z with p:=st1.2,h:=(ops.foldl (opS 10) (0,z.h)).2}) g.lt he rfl hli).2 hp
 refine hr2.step (by show z.md≠3;rw[hmd];decide) ?_ hsz
 unfold stI;rw[if_neg (by show¬z.md=0;rw[hmd];decide),if_neg (by show¬z.md=1;rw[hmd];decide),if_pos hmd]
 exact hc
theorem tH{N T n:Nat}{st:Nat×Nat}(h:st.1<=27):(xb N T n st).2.1<=27:=by
 unfold xb;split
 ·show(jl N T st.2 n).2.1<=27
  unfold jl;split
  ·exact qc _
  ·show 2<=27;decide
 ·exact h
theorem q3v{e:Nat}{st:Nat×Nat}(he:e<=27)(h:st.1<=27):(xf e st).1<=27:=by
 unfold xf;split
 ·exact he
 ·exact h
theorem xS(L:List Nat)(V left:Nat):(j9 L V left).2.1<=27:=by
 rcases dP L V left with⟨-,-,-,h,-⟩|⟨-,-,-,h⟩
 ·rw[h];decide
 ·rw[h];split<;>decide
theorem xU(l:List Int)(b:Bool):bJ l b<=27:=by
 unfold bJ bE jU
 repeat(first|exact qc _|decide|split)
theorem R9{N T c:Nat}:∀(k:Nat) (x:List Nat×(Nat×Nat)),x.2.1<=27->(jO N T c k x).2.1<=27
 |0,_,h=>h
 |k+1,x,h=>by
  have ih:=R9 (N:=N) (T:=T) (c:=c) k x h;rw[jO];split
  ·exact tH ih
  ·exact ih
theorem q1R{N T sy:Nat}{l:List Nat}{st:Nat×Nat}(h:st.1<=27):(cN N T sy l st).2.2.1<=27:=by
 unfold cN;split
 ·exact tH h
 ·split
  ·split
   ·exact q3v (by decide) h
   ·exact tH h
  ·exact tH h
theorem J5{N T:Nat}{code:List Nat}{n:Nat}:∀(f:Nat) (l:List Nat) (st:Nat×Nat),st.1<=27->(bM N T code n f l st).2.1<=27
 |0,_,_,h=>h
 |f+1,l,st,h=>by
  rw[bM];split
  ·split
   ·exact xS _ _ _
   ·split
    ·exact J5 f _ _ (qc _)
    ·split
     ·exact q3v (by decide) (q1R (qc _))
     ·exact J5 f _ _ (q1R (qc _))
  ·exact h
theorem q3w(a b:List Nat):cY a b<=27:=by
 unfold cY;split
 ·decide
 ·split
  ·exact xU _ _
  ·exact xU _ _
theorem q5J{N T a b:Nat}{k:List Nat×(Nat×Nat)}(h:k.2.1<=27):(dynL N T a b k).2.2.1<=27:=by
 unfold dynL;split
 ·exact h
 ·split
  ·exact xU _ _
  ·split
   ·exact J5 _ _ _ h
   ·exact q3w _ _
theorem q5K{N T a b c:Nat}{st:Nat×Nat}(h:st.1<=27):(dynM N T a b c st).2.2.1<=27:=by
 unfold dynM;refine q5J (R9 _ _ ?_)
 show(if 286<257+a\/30<1+b then xf 3 st else st).1<=27
 split
 ·exact q3v (by decide) h
 ·exact h
theorem q5L{N T:Nat}{st:Nat×Nat}(h:st.1<=27):(dynN N T st).2.2.1<=27:=by
 unfold dynN
 exact q5K (tH (tH (tH h)))
theorem W8{N T:Nat}{st:Nat×Nat}(h:st.1<=27):(je N T st).2.1<=27:=by
 have h2:=tH (N:=N) (T:=T) (n:=16) (tH (N:=N) (T:=T) (n:=16) (st:=(st.1,qO st.2)) h);unfold je;simp only;split
 ·exact h2
 ·exact q3v (by decide) h2
theorem q3x{N T p:Nat}{fin:Bool}{k:Nat}{st:Nat×Nat}(h:st.1<=27):(dG N T p fin k st).2.1<=27:=by
 have h1:=W8 (N:=N) (T:=T) h;have h2:=q5L (N:=N) (T:=T) h;unfold dG;generalize je N T st=y1 at*;generalize dynN N T st=y2 at*;split
 ·exact h
 ·split
  ·split
   ·exact h1
   ·exact qc _
  ·split
   ·exact qc _
   ·split
    ·split
     ·exact h2
     ·exact qc _
    ·show 11<=27;decide
theorem q3y(N T p:Nat):(jk N T p).2.1<=27:=by
 unfold jk
 exact q3x (tH (tH (qc _)))
theorem q1S(N T p:Nat)(y:Nat×Nat×Bool):(numB N T p y).2.1<=27:=by
 unfold numB;split
 ·show 9<=27;decide
 ·show(jl N T p y.2.1).2.1<=27
  unfold jl;split
  ·exact qc _
  ·show 2<=27;decide
theorem q78(N T pre:Nat)(bs:qK)(z:IS):(stI N T pre bs z).1<=27:=by
 unfold stI;split
 ·unfold iR
  split
  ·exact q3y _ _ _
  ·exact qc _
 ·split
  ·unfold dI
   split
   ·exact qc _
   ·split
    ·show 2<=27;decide
    ·exact qc _
  ·split
   ·unfold oU oT
    split
    ·exact xS _ _ _
    ·split
     ·exact qc _
     ·split
      ·unfold iQ
       split
       ·exact q1S _ _ _ _
       ·unfold pZ
        split
        ·exact xS _ _ _
        ·unfold nV
         split
         ·exact q1S _ _ _ _
         ·split
          ·show 10<=27;decide
          ·exact qc _
      ·exact qc _
   ·exact qc _
theorem S0(N T pre:Nat)(bs:qK)(z0:IS):∀k,(j5 N T pre bs z0 k).1<=27
 |0=>qc _
 |k+1=>by
  have ih:=S0 N T pre bs z0 k;have hs:=q78 N T pre bs (j5 N T pre bs z0 k).2;rw[j5];generalize stI N T pre bs (j5 N T pre bs z0 k).2=y at*;split
  ·exact ih
  ·unfold lF
   generalize (16777216:Nat)=M;split
   ·exact hs
   ·split
    ·show 3<=27;decide
    ·exact hs
theorem q4f(s:ByteArray)(t:qK)(p:Nat):erI s t p<=27:=S0 _ _ _ _ _ _
theorem q3A:jk 1099 24 0=(⟨true,1,0,lM,oH⟩,0,3):=by
 rfl
theorem q89:j9 lM (1099/2^3) (24-3)=(97,0,8):=iC (.inl ⟨by decide+kernel,⟨by decide+kernel,by decide+kernel⟩,by decide+kernel,rfl,by decide+kernel⟩)
theorem q8a:j9 lM (1099/2^11) (24-11)=(256,0,7):=iC (.inl ⟨by decide+kernel,⟨by decide+kernel,by decide+kernel⟩,by decide+kernel,rfl,by decide+kernel⟩)
def knA:ByteArray:=⟨#[75,4,0]⟩
section
variable {N T pre : Nat} {bs : qK} {z0 : IS}
theorem q1T{pre M:Nat}{y:Nat×IS}(hM:1000<=M)(h:y.2.h.length<=1000):(if y.1≠0 then y else if M<y.2.h.length-pre then(3,{y.2 with h:=y.2.h.take (pre+M)})else y)=y:=by
 by_cases h1:y.1≠0
 ·rw[if_pos h1]
 ·rw[if_neg h1,if_neg (by omega)]
theorem X0{pre:Nat}{y:Nat×IS}(h:y.2.h.length<=1000):lF pre y=y:=by
 have h1:=q1T (pre:=pre) (M:=16777216) (by decide) h
 unfold lF
 exact h1
theorem J6{k:Nat}{z:IS}{y:Nat×IS}(h:j5 N T pre bs z0 k=(0,z))(hm:z.md≠3)(hs:stI N T pre bs z=y)(hb:y.2.h.length<=1000):j5 N T pre bs z0 (k+1)=y:=by
 rw[fD (by rw[h];exact fun e=>e.elim (fun e=>e rfl) hm),h]
 show lF pre (stI N T pre bs z)=y
 rw[hs,X0 hb]
end
theorem q7a(pre:Nat)(z0:IS)(h0:z0.md=0)(hp:z0.p=0)(hh:z0.h=[])(hst:z0.st=[])(hpre:pre=0)(bs:qK)(hi:IOk 24 pre z0):q44 1099 24 pre bs z0=(0,⟨3,true,0,lM,oH,18,[97],[(0,0)]⟩):=by
 obtain⟨md,fin,left,li,di,p,h,st⟩:=z0;simp only at h0 hp hh hst;subst h0 hp hh hst hpre
 have e1:j5 1099 24 0 bs ⟨0,fin,left,li,di,0,[],[]⟩ 1=(0,⟨2,true,0,lM,oH,3,[],[(0,0)]⟩):=by
  refine J6 (k:=0) (z:=⟨0,fin,left,li,di,0,[],[]⟩) (by rw[j5]) (show¬(0:Nat)=3 by decide) ?_ (by decide)
  unfold stI;rw[if_pos rfl];unfold iR;simp only[q3A]
  rfl
 have e2:j5 1099 24 0 bs ⟨0,fin,left,li,di,0,[],[]⟩ 2=(0,⟨2,true,0,lM,oH,11,[97],[(0,0)]⟩):=by
  refine J6 e1 (by decide) ?_ (by decide)
  unfold stI;rw[if_neg (by decide),if_neg (by decide),if_pos rfl]
  unfold oU;rw[q89]
  rfl
 have e3:j5 1099 24 0 bs ⟨0,fin,left,li,di,0,[],[]⟩ 3=(0,⟨3,true,0,lM,oH,18,[97],[(0,0)]⟩):=by
  refine J6 e2 (by decide) ?_ (by decide)
  unfold stI;rw[if_neg (by decide),if_neg (by decide),if_pos rfl]
  unfold oU;rw[q8a]
  rfl
 rw[vB ⟨3,rfl⟩ hi (k:=3) (by rw[e3];exact .inr rfl),e3]
theorem tI:j8 []=[]:=gT (by decide)
theorem q8X:txI knA [] 0=[97]/\erI knA [] 0=0/\enI knA [] 0=18/\bgI knA [] 0=[(0,0)]:=by
 have hi:=cA (s:=knA) (t:=[]) (p:=0) (qc _);have h:lO knA (j8 []).length (eH [] 0)=_:=q7a (j8 []).length (eH [] 0) rfl rfl tI rfl (by rw[tI];rfl) (bys knA) hi
 unfold txI dL erI enI bgI;rw[h,tI]
 exact⟨rfl,rfl,rfl,rfl⟩
end Go.Cm
