/- Walks of functions and plain facts, joined and squeezed by a program. Conditions: as each says. -/
import Derived.Laws.RangeAny
import Derived.Shelf.Abstract
import Derived.Laws.Bits64b
import Derived.Lib.TrailingZeros
import Derived.LaidSub
import Derived.Lib.LaidTab
import Derived.Test.YtdffpnabpoogbaaGreatDoorCTXD
import Derived.Test.YtdffpnabpoogbaaGreatDoorCTXE
set_option maxHeartbeats 8000000
set_option maxRecDepth 100000
set_option linter.unusedSimpArgs false
open Go.Proofs.Tryz
namespace Go.Cm
open Go.RowKit Go.Proofs
theorem ZmF0{P:Prop}(h:P:=by
 go_wp2_with((with_reducible refine(HL.o _).mono ?_);rintro e w2 ⟨rfl,rfl⟩)
 go_ret
 first|exact⟨rfl,rfl⟩|(refine⟨?_,rfl⟩;simp;omega)):P:=h
theorem ZmF1{P:Prop}(h:P:=by
 go_wp2_with(go_at_call 40;refine HN.o.mono ?_;rintro e w1 ⟨rfl,hx⟩;(have HB1:=qa (HB.o.up (aB hx)));(have HG1:=qa (aE (aB hx) (some g)));clear hx;unfold nxV)
 go_ret;rw[HT.o];exact⟨rfl,HB1.o,HG1.o⟩):P:=h
theorem ZmF2{P:Prop}(h:P:=by have:=cL ((w.alloc (.cells X 63)).alloc (.cells Y 63)) Z hZ;rwa [show((w.alloc (.cells X 63)).alloc (.cells Y 63)).heap.size=w.heap.size+2 by simp]at this):P:=h
theorem ZmF3{P:Prop}(h:P:=by
 clear hin;go_wp2
 go_roundg (256-k)
 case rel=>exact⟨k+1,by omega,by go_num,by rw[HK.o];exact HB.o,HA.o,HBL.o,by omega⟩
 case measure=>omega):P:=h
theorem ZmF4{P:Prop}(h:P:=by
 go_wp2_with((with_reducible refine(HC.o _).mono ?_);rintro e w2 ⟨rfl,rfl⟩)
 go_ret;rw[HE.o];exact⟨rfl,aI (aA _ _)⟩):P:=h
theorem ZmF5{P:Prop}(h:P:=by have:=gF (w.alloc (.cells X 63)) y;rwa [<-hY,show(w.alloc (.cells X 63)).heap.size=w.heap.size+1 by simp]at this):P:=h
theorem ZmF6{P:Prop}(h:P:=by have HR:=qa hR;clear hR h hd hc;go_enter func165,ntmps165;go_wp2;go_ret;exact⟨by rw[HR.o];rfl,fD _⟩):P:=h
theorem ZmF7{P:Prop}(h:P:=by
 clear h2;go_enter func127,ntmps127;go_wp2
 go_ret2
 exact⟨HE2.o,(aI aJ)⟩):P:=h
theorem ZmF8{P:Prop}(h:P:=by
 obtain rfl|rfl|rfl|rfl:k=0\/k=1\/k=2\/k=3:=by omega
 all_goals rfl):P:=h
theorem ZmF9{P:Prop}(h:P:=by
 go_quiet (fail)
 go_wp2
 go_ret2
 exact⟨by rw[HR.o];rfl,(aI aJ)⟩):P:=h
def kH(l:List Nd):Int:=if Chk l then 0 else 4
theorem F2(x:Nd)(c:Nat):(ndC x).getD c undef=(ndA x).getD c undef:=by unfold ndC ndA;simp[List.getD,qO]
theorem q8m(l:List Nd)(q:Nat)(h:q<l.length):l.getD q zN=l[q]:=by simp[List.getD,h]
theorem q2s{w:World}{v:Value}{l:List Nd}(h:cB w v l):
  Calls prog 105 #[v] w fun e w'=>e=.returned (.int .i64 (kH l))/\∃x,w'=ext w x:=by
 have qeX:=qa (fun hl=>qau h hl 0);obtain⟨oa,cap,b,off,rfl,hd,hc⟩:=h.open;have hix:=gA hd;have HC:Hid (∀i,i<l.length->∀c,c<8->w.cell? ⟨b,off+i*8+c,none⟩=some ((ndA (l.getD i zN)).getD c undef)):=qa (fun i hi c h8=>by rw[hc i hi c h8,F2]);have HB:=qa hd.hblk;have hm:=hd.len;obtain⟨R,hR⟩:∃R,R=kH l:=⟨_,rfl⟩;have HR:=qa hR;have HF:Hid (∀w k n a b c d lo hi,Calls prog 124 #[.agg #[.int .i64 k,.int .i64 n,.int .u64 a,.int .u64 b,.int .u64 c,.int .u64 d,.int .i64 lo,.int .i64 hi]] w fun e w'=>e=.returned (.bool (decide (okN ⟨k,n,a,b,c,d,lo,hi⟩)))/\∃x,w'=ext w x):=qa (fun w k n a b c d lo hi=>q2r ⟨k,n,a,b,c,d,lo,hi⟩);have H4:Hid (¬Chk l->R=4):=qa (fun h=>by rw[hR];unfold kH;rw[qr h]);have H0:Hid (Chk l->R=0):=qa (fun h=>by rw[hR];unfold kH;rw[qt h]);have HCH:Hid (Chk l↔(l.length<=400/\l.length≠0/\L3 l.length 1 l 0=l.length/\∀x∈l,okN x)):=qa (by unfold Chk;exact Iff.rfl);rw[<-hR];clear h hd hc hR;go_enter func105,ntmps105;by_cases h0:l.length=0
 ·have HV:=qa (H4.o (fun h=>(HCH.o.1 h).2.1 h0))
  go_wp2;go_ret;exact⟨by rw[HV.o];rfl,fD _⟩
 by_cases h1:400<l.length
 ·have HV:=qa (H4.o (fun h=>by have:=(HCH.o.1 h).1;omega))
  go_wp2;go_ret;exact⟨by rw[HV.o];rfl,fD _⟩
 have hb0:((l.length:Int)==0)=false:=by simpa using h0
 have hb1:decide ((400:Int)<l.length)=false:=by simp;omega
 have HE:=qa (qeX.o (by omega));obtain⟨z,hz⟩:∃z,z=L3 l.length 1 (l.drop 0) 0:=⟨_,rfl⟩;rw[<-hz]at HE;rw[List.drop_zero]at hz;rw[show((0:Nat):Int)=0 from rfl]at HE;by_cases h2:z=l.length
 ·have HZ:=qa (hz.symm.trans h2)
  clear hz;subst h2
  go_wp2_with(with_reducible go_at_call 123;refine(HE.o).mono ?_;rintro en w' ⟨rfl,x1,rfl⟩)
  go_loopg [22] (l.length) (fun gk iv wr=>∃j:Nat,iv=.int .i64 j/\j<=l.length/\(∀q,q<j->okN (l.getD q zN))/\(∃x,wr=ext w x)/\gk=l.length-j)
  case atStart=>exact⟨0,rfl,qd _,fun q hq=>absurd hq (qz q),⟨x1,rfl⟩,rfl⟩
  case round=>
   obtain⟨j,rfl,hj,hall,⟨xr,rfl⟩,rfl⟩:=hrel;have HA:=qa hall;clear hall;by_cases hlt:j<l.length
   ·have hcell:=HC.o j hlt
    have HBJ:=qa (HB.o (by omega));obtain⟨y,hy⟩:∃y,y=l.getD j zN:=⟨_,rfl⟩;rw[<-hy]at hcell;have HY:=qa hy;clear hy;obtain⟨k,n,a,b',c,d,lo,hi⟩:=y;have HCE:Hid (∀c',c'<8->(ext w xr).cell? ⟨b,off+j*8+c',none⟩=some ((#[.int .i64 k,.int .i64 n,.int .u64 a,.int .u64 b',.int .u64 c,.int .u64 d,.int .i64 lo,.int .i64 hi]:Array Value).getD c' undef)):=qa (fun c' h=>by rw[cell?_ext _ _ _ _ HBJ.o];exact hcell c' h);clear hcell;have HF1:=qa (fun w=>HF.o w k n a b' c d lo hi);by_cases hok:okN ⟨k,n,a,b',c,d,lo,hi⟩
    ·have hdo:decide (okN ⟨k,n,a,b',c,d,lo,hi⟩)=true:=by simpa using hok
     have HOK:=qa hok;clear hok;rw[hdo]at HF1
     go_wp2_with(first|(refine aH rfl 65 _ rfl b (off+j*8) 8 rfl _ _ HCE.o rfl underlying65 rfl (by kernel_rfl) ?_)|((with_reducible go_at_call 124);refine(HF1.o _).mono ?_;rintro en w' ⟨rfl,x2,rfl⟩))
     go_roundg (l.length-(j+1))
     case measure=>omega
     case rel=>
      refine⟨j+1,by go_num,by omega,fun q hq=>?_,aI (kK (Below.alloc (aD w xr) (iT w xr) _) x2),rfl⟩;by_cases hqj:q=j
      ·rw[hqj,<-HY.o];exact HOK.o
      exact HA.o q (by omega)
    have hdo:decide (okN ⟨k,n,a,b',c,d,lo,hi⟩)=false:=by simpa using hok
    have HV:=qa (H4.o (fun h=>hok (by rw[HY.o];exact(HCH.o.1 h).2.2.2 _ (by rw[q8m l j hlt];exact ji hlt))));clear hok;rw[hdo]at HF1
    go_wp2_with(first|(refine aH rfl 65 _ rfl b (off+j*8) 8 rfl _ _ HCE.o rfl underlying65 rfl (by kernel_rfl) ?_)|((with_reducible go_at_call 124);refine(HF1.o _).mono ?_;rintro en w' ⟨rfl,x2,rfl⟩))
    go_ret;exact⟨by rw[HV.o];rfl,aI (kK (Below.alloc (aD w xr) (iT w xr) _) x2)⟩
   have HV:=qa (H0.o (HCH.o.2 ⟨by omega,h0,HZ.o,fun y hy=>by
    obtain⟨q,hq,rfl⟩:=jg hy;have:=HA.o q (by omega);rwa [q8m l q hq]at this⟩))
   go_wp2;go_ret;exact⟨by rw[HV.o];rfl,xr,rfl⟩
 have HV:=qa (H4.o (fun h=>h2 (hz.trans (HCH.o.1 h).2.2.1)));clear hz
 go_wp2_with(with_reducible go_at_call 123;refine(HE.o).mono ?_;rintro en w' ⟨rfl,x1,rfl⟩)
 go_ret;exact⟨by rw[HV.o];rfl,x1,rfl⟩
def q60:Fo->Nat->List Nat
 |.nil,_=>[]
 |.cons _ k r,at_=>at_::q60 r (at_+1+(cO k).length)
def nz(l:List Nat):List Int:=l.map Int.ofNat
theorem N6(l:List Nat):(nz l).length=l.length:=by simp[nz]
theorem F3(l:List Nat)(j:Nat)(h:j<l.length):(nz l).getD j 0=(l.getD j 0:Nat):=by simp[nz,List.getD,h]
theorem N7(a b:List Nat):nz (a++b)=nz a++nz b:=by simp[nz]
theorem F4(a b:List Int):ints (a++b)=ints a++ints b:=by simp[ints]
theorem N8(l:List Int):∀u∈ints l,u.oneCell'=true:=by
 intro u hu;simp only[ints,jy]at hu;obtain⟨x,-,rfl⟩:=hu
 rfl
theorem sH{α:Type}{l t:List α}{x d:α}{i:Nat}(h:l.drop i=x::t):i<l.length/\l.getD i d=x/\l.drop (i+1)=t:=by
 have hi:i<l.length:=by
  apply qh;intro hn;rw[List.drop_eq_nil_of_le (by omega)]at h;cases h
 rw[jB hi]at h;simp only[List.cons.injEq]at h;exact⟨hi,by simp[List.getD,hi,h.1],h.2⟩
theorem q04{α:Type}{l a b:List α}{i:Nat}(h:l.drop i=a++b):l.drop (i+a.length)=b:=by
 rw[<-List.drop_drop,h,List.drop_left]
theorem q61{x:Nd}(h:okN x):x.kd=1\/x.kd=2\/x.kd=3\/x.kd=4\/x.kd=5\/x.kd=6\/x.kd=7\/x.kd=8:=by
 unfold okN at h;omega
theorem q2t{w:World}(k n a b c d lo hi:Int):Calls prog 178 #[.agg #[.int .i64 k,.int .i64 n,.int .u64 a,.int .u64 b,.int .u64 c,.int .u64 d,.int .i64 lo,.int .i64 hi]] w fun e w'=>e=.returned (.int .i64 (eY ⟨k,n,a,b,c,d,lo,hi⟩))/\∃x,w'=ext w x:=by
 obtain⟨R,hR⟩:∃R,R=eY ⟨k,n,a,b,c,d,lo,hi⟩:=⟨_,rfl⟩;have HR:=qa hR;rw[<-hR];clear hR;go_enter func178,ntmps178;by_cases h:hi<0
 all_goals
  go_wp2
  all_goals(go_ret;refine⟨qW (fun b=>Ending.returned (Value.int .i64 b)) ?_,aI ?_⟩)
  all_goals first
   |(rw[HR.o];simp only[eY];omega)
   |(repeat' first|exact qk _ _|refine Below.alloc ?_ ?_ _|(simp;done)|(simp;omega))
theorem cB.high{w:World}{v:Value}{l:List Nd}(h:cB w v l)(n:Nat)(hn:n<=l.length):
  ∃u,(∀W:World,(Instr.sliceAt 31 v (some (.int .i64 (n:Int))) none none).run prog W=.ok u W)/\cB w u (l.drop n):=by
 obtain⟨u,h1,h2⟩:=SlK.high (P:=prog) h 31 65 underlying31 (by kernel_rfl) n (by simpa using hn);exact⟨u,h1,by unfold cB;rw[List.map_drop];exact h2⟩
theorem cB.mid{w:World}{v:Value}{l:List Nd}(h:cB w v l)(n m:Nat)(hn:n<=m)(hm:m<=l.length):
  ∃u,(∀W:World,(Instr.sliceAt 31 v (some (.int .i64 (n:Int))) (some (.int .i64 (m:Int))) none).run prog W=.ok u W)/\cB w u ((l.drop n).take (m-n)):=by
 obtain⟨u,h1,h2⟩:=SlK.mid (P:=prog) h 31 65 underlying31 (by kernel_rfl) n m hn (by simpa using hm);exact⟨u,h1,by unfold cB;rw[List.map_take,List.map_drop];exact h2⟩
theorem q9Q(N:Nat):∀(w:World) (v:Value) (l post:List Nd) (x:Nd) (k:Fo),(cO k).length<N->cB w v l->l.length<=400->l=x::(cO k++post)->x.n=cnt k->wf k->okN x->T9 okN k->
  Calls prog 177 #[v] w fun e w'=>e=.returned (.tuple #[.int .i64 (pP x (gI k)),.int .i64 ((1+(cO k).length:Nat):Int)])/\∃x,w'=ext w x:=by
 induction N with
 |zero=>intro w v l post x k h;omega
 |succ N ih=>
 intro w v l post x k hN h hl hd0 hn hk hok hall;have HIH:=qa ih;have HAT:=qa h;obtain⟨oa,cap,b,off,rfl,hd,hc⟩:=h.open;obtain⟨hi,hx,hd1⟩:=sH (d:=zN) (i:=0) (l:=l) hd0
 have hix:∀W:World,(Instr.indexAt 31 (.slice oa l.length cap) (.int .i64 0)).run prog W=.ok (.pointer (some ⟨b,off,none⟩)) W:=fun(W:World)=>by
  have:=gA hd W .i64 0 (by omega) (by omega);simpa using this
 have hb:=hd.hblk (by omega);have hck:=vD k
 have hlk:1+(cO k).length+post.length=l.length:=by
  have:=qW List.length hd1;simp only[qY,qi]at this;omega
 have hsz:=kR k hall;have hc0:=hc 0 hi;rw[hx]at hc0;have HD:=qa hd1;have HK:=qa hk;have HA:=qa hall;have HKD:=qa (q61 hok);have HTM:=qa (sF hok);obtain⟨R,hR⟩:∃R,R=pP x (gI k):=⟨_,rfl⟩;have HR:=qa hR;obtain⟨T,hT⟩:∃T:Nat,T=1+(cO k).length:=⟨_,rfl⟩;rw[<-hR,<-hT];obtain⟨xk,xn,xa,xb,xc,xd,xl,xh⟩:=x;change xn=_ at hn;subst hn
 have HCE:Hid (∀c',c'<8->w.cell? ⟨b,off+c',none⟩=some ((#[.int .i64 xk,.int .i64 (cnt k),.int .u64 xa,.int .u64 xb,.int .u64 xc,.int .u64 xd,.int .i64 xl,.int .i64 xh]:Array Value).getD c' undef)):=qa (fun c' h=>by
  have:=hc0 c' h;rw[F2,Nat.zero_mul,jC]at this;exact this)
 have HTT:=qa (fun w=>q2t (w:=w) xk (cnt k) xa xb xc xd xl xh);clear ih h hd hc hx hd0 hd1 hk hR hok hall hc0;go_enter func177,ntmps177
 go_wp2_with(refine aH rfl 65 _ rfl b off 8 rfl _ _ HCE.o rfl underlying65 rfl (by kernel_rfl) ?_)
 go_loopg [5,6,14] (cnt k) (fun gk sv av jv wr=>∃(j at_:Nat) (r:Fo) (s:Int),jv=.int .i64 j/\av=.int .i64 at_/\sv=.int .i64 s/\at_+(cO r).length+post.length=l.length/\j+cnt r=cnt k/\l.drop at_=cO r++post/\wf r/\T9 okN r/\0<=s/\s+gI r=gI k/\(cO r).length<=(cO k).length/\Below w.heap.size w wr/\w.heap.size<wr.heap.size/\(∀c',c'<8->wr.cell? ⟨w.heap.size,c',none⟩=some ((#[.int .i64 xk,.int .i64 (cnt k),.int .u64 xa,.int .u64 xb,.int .u64 xc,.int .u64 xd,.int .i64 xl,.int .i64 xh]:Array Value).getD c' undef))/\gk=cnt k-j)
 case atStart=>exact⟨0,1,k,0,rfl,rfl,rfl,by omega,by omega,HD.o,HK.o,HA.o,by omega,by omega,qb _,aA _ _,by simp,fun c' h=>by rw[World.cell?_alloc_new];simp[qO,h],rfl⟩
 case round=>
  obtain⟨j,at_,r,s,rfl,rfl,rfl,qeO,hj,hdr,hwr,har,hs0,hss,hrk,qbe,hbx,hcx,rfl⟩:=hrel;have HBW:=qa qbe;have HCX:=qa hcx;clear qbe hcx;cases r with
  |nil=>
   have hje:j=cnt k:=by simpa[cnt]using hj
   have hse:s=gI k:=by simpa[gI]using hss
   have hae:at_=1+(cO k).length:=by simp only[cO,qK]at qeO;omega
   rw[<-hse]at HR;have hsB:s<=400000000:=by omega
   rw[<-hT]at hae;subst hae;subst hje;clear hss hdr hwr har hse hT;have h0:=HCX.o 0 (by decide);change wr.cell? ⟨w.heap.size,0,none⟩=some (.int .i64 xk)at h0;have qeQ:=HTM.o;have hkd:=HKD.o
   try simp only at qeQ
   try simp only at hkd
   clear HTM HKD;have fin:∀t:Int,0<=t->t<=30->0<=t*s/\t*s<=30*400000000:=fun t h0 h1=>⟨Int.mul_nonneg h0 hs0,Int.mul_le_mul h1 (by omega) hs0 (by omega)⟩;rcases hkd with h|h|h|h|h|h|h|h
   all_goals subst h
   case inr.inr.inr.inr.inr.inr.inr=>
    have ht:=qeQ rfl;have ft:=fin _ ht.1 ht.2;have HR3:Hid (R=min (2+eY ⟨8,cnt k,xa,xb,xc,xd,xl,xh⟩*s) 1000000):=qa (by rw[HR.o];simp[pP]);generalize eY ⟨8,cnt k,xa,xb,xc,xd,xl,xh⟩=t at*;clear qeQ fin;have qk1:Hid (∀c',c'<8->wr.cell? ⟨w.heap.size,0+c',none⟩=some ((#[.int .i64 8,.int .i64 (cnt k),.int .u64 xa,.int .u64 xb,.int .u64 xc,.int .u64 xd,.int .i64 xl,.int .i64 xh]:Array Value).getD c' undef)):=qa (fun c' h=>by rw[qE];exact HCX.o c' h)
    go_wp2_with(first|(refine aH rfl 65 _ rfl w.heap.size 0 8 rfl _ _ qk1.o rfl underlying65 rfl (by kernel_rfl) ?_)|((with_reducible go_at_call 178);refine(HTT.o _).mono ?_;rintro en w' ⟨rfl,x6,rfl⟩))
    all_goals(go_ret2;refine⟨qW (fun b=>Ending.returned (Value.tuple #[Value.int .i64 b,Value.int .i64 at_])) ?_,aI (kK HBW.o x6)⟩;rw[HR3.o];omega)
   all_goals
    clear qeQ fin;go_wp2
    all_goals(go_ret2;refine⟨qW (fun b=>Ending.returned (Value.tuple #[Value.int .i64 b,Value.int .i64 at_])) ?_,aI HBW.o⟩;rw[HR.o];first|(simp[pP];done)|(simp[pP];omega))
  |cons y ky r'=>
   simp only[cnt]at hj;simp only[cO,jj,qj]at hdr;simp only[cO,qx,qi]at qeO hrk;obtain⟨hy1,hy2,hy3⟩:=hwr;obtain⟨ha1,ha2,ha3⟩:=har;obtain⟨-,-,qdZ⟩:=sH (d:=zN) hdr;have HDR:Hid (l.drop (at_+1+(cO ky).length)=cO r'++post):=qa (q04 qdZ);obtain⟨u,hsl,hnu⟩:=(HAT.o.up HBW.o).high at_ (by omega);have HCL:=qa (HIH.o wr u _ (cO r'++post) y ky (by omega) hnu (by rw[qY];omega) hdr hy1 hy2 ha1 ha2);have hs1:=(iW ha1 (kR ky ha2).1);have hs2:=kR r' ha3;simp only[gI]at hss;generalize pP y (gI ky)=t at*;have HW3:=qa hy3;have HA3:=qa ha3;clear hdr qdZ hy1 hy2 hy3 ha1 ha2 ha3 hnu
   go_wp2_with((with_reducible go_at_call 177);refine HCL.o.mono ?_;rintro en w' ⟨rfl,x6,rfl⟩)
   go_roundg (cnt k-(j+1))
   case measure=>omega
   case rel=>
    exact⟨j+1,at_+1+(cO ky).length,r',s+t,by go_num,by go_num,by go_num,by omega,by omega,HDR.o,HW3.o,HA3.o,by omega,by omega,by omega,kK HBW.o x6,qe hbx (iT _ _),fun c' h=>by rw[cell?_ext _ _ _ _ hbx];exact HCX.o c' h,rfl⟩
theorem xH{l:List Nd}(h:Chk l):∃x k,l=x::(cO k++[])/\x.n=cnt k/\wf k/\okN x/\T9 okN k/\l.length<=400/\(cO k).length<400/\iH l=pP x (gI k):=by
 obtain⟨x,k,h1,h2,h3,h4,h5,h6⟩:=wB h;refine⟨x,k,by simpa using h1,h2,h3,h4,h5,h.1,h6,?_⟩;unfold iH;rw[qt h,h1,iM x k h2 h3];simp[gI]
theorem xI{l:List Nd}(h:Chk l):kH l=0:=by unfold kH;rw[qt h]
theorem xJ{l:List Nd}(h:¬Chk l):kH l=4:=by unfold kH;rw[qr h]
theorem q2u{l:List Nd}(h:¬Chk l):iH l=0:=by unfold iH;rw[qr h]
theorem q4M{w:World}{v:Value}{l:List Nd}(h:cB w v l):
  Calls prog 168 #[v] w fun e w'=>e=.returned (.int .i64 (iH l))/\∃x,w'=ext w x:=by
 have HCH:=qa (q2s h);obtain⟨R,hR⟩:∃R,R=iH l:=⟨_,rfl⟩;rw[<-hR];by_cases hc:Chk l
 ·rw[xI hc]at HCH
  obtain⟨x,k,h1,h2,h3,h4,h5,h6,h7,h8⟩:=xH hc;have HS:=qa (fun x1=>q9Q 400 (ext w x1) v l [] x k h7 (h.up (aD w x1)) h6 h1 h2 h3 h4 h5);rw[<-h8,<-hR]at HS;clear h hc h1 h2 h3 h4 h5 h6 h7 h8 hR;go_enter func168,ntmps168
  go_wp2_with(first|((with_reducible go_at_call 105);refine HCH.o.mono ?_;rintro en w' ⟨rfl,x1,rfl⟩)|((with_reducible go_at_call 177);refine(HS.o x1).mono ?_;rintro en w' ⟨rfl,x2,rfl⟩))
  go_ret;exact⟨rfl,q2b w x1 x2⟩
 rw[xJ hc]at HCH;rw[q2u hc]at hR;have HR:=qa hR;clear h hc hR;go_enter func168,ntmps168
 go_wp2_with((with_reducible go_at_call 105);refine HCH.o.mono ?_;rintro en w' ⟨rfl,x1,rfl⟩)
 go_ret;exact⟨by rw[HR.o];rfl,x1,rfl⟩
def gW(w:World)(v:Value)(ll:List (List Nd)):Prop:=
 ∃vs,Sl w v vs/\vs.length=ll.length/\∀i,i<ll.length->cB w (vs.getD i undef) (ll.getD i [])
theorem gW.up{w w':World}{v:Value}{ll:List (List Nd)}(h:gW w v ll)(hb:Below w.heap.size w w'):gW w' v ll:=by
 obtain⟨vs,h1,h2,h3⟩:=h;exact⟨vs,h1.up hb,h2,fun i hi=>(h3 i hi).up hb⟩
theorem gW.open{w:World}{v:Value}{ll:List (List Nd)}(h:gW w v ll):
  ∃oa cap b off,v=.slice oa ll.length cap/\Hd w oa ll.length cap b off/\∀i,i<ll.length->∃u,w.cell? ⟨b,off+i,none⟩=some u/\cB w u (ll.getD i []):=by
 obtain⟨vs,⟨oa,cap,b,off,rfl,hd,hc⟩,h2,h3⟩:=h;rw[h2]at hd hc⊢;exact⟨oa,cap,b,off,rfl,hd,fun i hi=>⟨_,hc i hi,h3 i hi⟩⟩
theorem fN{w:World}{oa:Option Addr}{b off len cap:Nat}(h:Hd w oa len cap b off):
  ∀(W:World) (kd:IntKind) (i:Int),0<=i->i<len->(Instr.indexAt 26 (.slice oa len cap) (.int kd i)).run prog W=.ok (.pointer (some ⟨b,off+i.toNat,none⟩)) W:=
 aU (P:=prog) 26 31 underlying26 (by kernel_rfl) h
noncomputable def F7(ll:List (List Nd))(j:Nat):Int:=((ll.take j).map iH).sum
theorem xK(ll:List (List Nd))(j:Nat)(h:j<ll.length):F7 ll (j+1)=F7 ll j+iH (ll.getD j []):=by
 unfold F7;rw[qI h,qD,List.sum_append];simp[List.getD,h]
theorem q05(ll:List (List Nd)):F7 ll ll.length=(ll.map iH).sum:=by unfold F7;rw[qX]
theorem qaK{w:World}{v:Value}{ll:List (List Nd)}(h:gW w v ll):
  Calls prog 165 #[v] w fun e w'=>e=.returned (.int .i64 (rH ll))/\∃x,w'=ext w x:=by
 obtain⟨oa,cap,b,off,rfl,hd,hc⟩:=h.open;have hix:=fN hd;have hm:=hd.len;have HB:=qa hd.hblk;have HC:=qa hc;obtain⟨R,hR⟩:∃R,R=rH ll:=⟨_,rfl⟩;have HSS:=qa (xK ll);have HSA:=qa (q05 ll);rw[<-hR];unfold rH at hR;by_cases h0:ll.length=0
 ·rw[qt h0]at hR
  exact ZmF6
 rw[qr h0]at hR;by_cases h1:32<ll.length
 ·rw[qt h1]at hR
  exact ZmF6
 rw[qr h1]at hR;have hb0:((ll.length:Int)==0)=false:=by simpa using h0
 have hb1:decide ((32:Int)<ll.length)=false:=by simp;omega
 have HR:=qa hR;clear hR h hd hc;go_enter func165,ntmps165;go_wp2
 go_loopg [3,16] (ll.length) (fun gk nv jv wr=>∃(j:Nat),jv=.int .i64 j/\nv=.int .i64 (1+F7 ll j)/\0<=F7 ll j/\F7 ll j<=1000000*j/\j<=ll.length/\(∀q,q<j->Chk (ll.getD q []))/\Below w.heap.size w wr/\gk=ll.length-j)
 case atStart=>exact⟨0,rfl,rfl,by simp[F7],by simp[F7],qd _,fun q hq=>absurd hq (qz q),qk _ _,rfl⟩
 case round=>
  obtain⟨j,rfl,rfl,hs0,hs1,hj,hall,qbe,rfl⟩:=hrel;have HA:=qa hall;have HBW:=qa qbe;clear hall qbe;by_cases hlt:j<ll.length
  ·obtain⟨u,hcu,hnu⟩:=HC.o j hlt
   have hb:=HB.o (by omega);have hcw:=(HBW.o.cell (p:=⟨b,off+j,none⟩) hb).trans hcu;have hbw:b<wr.heap.size:=by have:=HBW.o.size;omega
   have HN:=qa (hnu.up HBW.o);have HCH:=qa (q2s HN.o);have hsl:=q01 (ll.getD j []);have hss:=HSS.o j hlt;generalize F7 ll j=s at*;clear hcu hnu;by_cases hck:Chk (ll.getD j [])
   ·rw[xI hck]at HCH
    have HK:=qa hck;have HSZ:=qa (fun x1=>q4M (HN.o.up (aD wr x1)));generalize iH (ll.getD j [])=t at*;have HSN:=qa hss;clear hck hss
    go_wp2_with(first|((with_reducible go_at_call 105);refine HCH.o.mono ?_;rintro en w' ⟨rfl,x1,rfl⟩)|((with_reducible go_at_call 168);refine(HSZ.o x1).mono ?_;rintro en w' ⟨rfl,x2,rfl⟩))
    go_roundg (ll.length-(j+1))
    case measure=>omega
    case rel=>
     refine⟨j+1,by go_num,?_,?_,?_,by omega,fun q hq=>?_,q2c (kK HBW.o x1) (qc HBW.o.size (iT _ _)) x2,rfl⟩
     ·rw[HSN.o];go_num
     ·rw[HSN.o];omega
     ·rw[HSN.o];omega
     by_cases hqj:q=j
     ·rw[hqj];exact HK.o
     exact HA.o q (by omega)
   rw[xJ hck]at HCH;have HV:Hid (R=4):=qa (by rw[HR.o,qt (fun h=>hck (h _ (by simp[List.getD,hlt])))]);clear hck
   go_wp2_with((with_reducible go_at_call 105);refine HCH.o.mono ?_;rintro en w' ⟨rfl,x1,rfl⟩)
   go_ret;exact⟨by rw[HV.o];rfl,aI (kK HBW.o x1)⟩
  have hje:j=ll.length:=by omega
  subst hje
  have qcm:Hid (∀l∈ll,Chk l):=qa (fun l hl=>by
   obtain⟨q,hq,rfl⟩:=jg hl;have:=HA.o q hq;simpa[List.getD,hq]using this)
  have qbR:=HSA.o;generalize F7 ll ll.length=s at*;by_cases h3:3000<1+s
  ·have HV:Hid (R=3):=qa (by rw[HR.o,qr (fun h=>h qcm.o),<-qbR,qt h3])
   clear qbR;go_wp2;go_ret;exact⟨by rw[HV.o];rfl,aI HBW.o⟩
  have HV:Hid (R=0):=qa (by rw[HR.o,qr (fun h=>h qcm.o),<-qbR,qr h3]);clear qbR;go_wp2;go_ret;exact⟨by rw[HV.o];rfl,aI HBW.o⟩
end Go.Cm
namespace Go.Cm
open Go.RowKit Go.Proofs
section
variable {w w' w0 w1 : World} {g q : Nat} {ve vr : Value} {vs : List Value} {ll : List (List Ed)} {rl : List Int} {F : Int}
theorem Mk.ne_g(h:Mk w g q ve vs vr ll rl F):ve.ownBlock≠some g/\vr.ownBlock≠some g/\q≠g:=by
 refine⟨fun e=>?_,fun e=>?_,fun e=>?_⟩
 ·have:=h.sep 1 2 g rfl (by simp[mkL,e]);omega
 ·have:=h.sep 1 3 g rfl (by simp[mkL,e]);omega
 have:=h.sep 0 1 g (by simp[mkL,e]) rfl;omega
theorem Mk.ne_q(h:Mk w g q ve vs vr ll rl F):ve.ownBlock≠some q/\vr.ownBlock≠some q/\g≠q:=by
 refine⟨fun e=>?_,fun e=>?_,fun e=>h.ne_g.2.2 e.symm⟩
 ·have:=h.sep 0 2 q rfl (by simp[mkL,e]);omega
 have:=h.sep 0 3 q rfl (by simp[mkL,e]);omega
theorem Mk.ne_er(h:Mk w g q ve vs vr ll rl F):∀k,ve.ownBlock=some k->vr.ownBlock≠some k:=fun k h1 h2=>by
 have:=h.sep 2 3 k (by simp[mkL,h1]) (by simp[mkL,h2]);omega
theorem Mk.ne_row(h:Mk w g q ve vs vr ll rl F){i k:Nat}(hi:i<ll.length)(hk:(vs.getD i undef).ownBlock=some k):k≠q/\k≠g/\ve.ownBlock≠some k/\vr.ownBlock≠some k/\(∀j,j<ll.length->j≠i->(vs.getD j undef).ownBlock≠some k):=by
 have hr:=nX q g ve vr vs i (by rw[h.len];exact hi);rw[hk]at hr;refine⟨fun e=>?_,fun e=>?_,fun e=>?_,fun e=>?_,fun j hj hji e=>?_⟩
 ·have:=h.sep 0 (i+4) k (by rw[e];rfl) hr;omega
 ·have:=h.sep 1 (i+4) k (by rw[e];rfl) hr;omega
 ·have:=h.sep 2 (i+4) k (by simp[mkL,e]) hr;omega
 ·have:=h.sep 3 (i+4) k (by simp[mkL,e]) hr;omega
 have h2:=nX q g ve vr vs j (by rw[h.len];exact hj);rw[e]at h2;have:=h.sep (j+4) (i+4) k h2 hr;omega
theorem Mk.pushE(h:Mk w g q ve vs vr ll rl F){v':Value}(ho:Own w1 0 224 v' (vs++[.slice none 0 0]))(hg:w.grownBy w1 ve.ownBlock)(hk:∀k,v'.ownBlock=some k->ve.ownBlock=some k\/w.heap.size<=k):
  Mk (w1.setCell ⟨g,0,none⟩ v') g q v' (vs++[.slice none 0 0]) vr (ll++[[]]) rl F/\Gw (MkS g ve vr vs) w (MkS g v' vr (vs++[.slice none 0 0])) (w1.setCell ⟨g,0,none⟩ v'):=by
 have hlt:=h.lt;have hng:=h.ne_g;have hb1:=h.box.keep hg (.inr (fun e=>hng.1 e.symm));obtain⟨hb2,hg2⟩:=hb1.store 0 v';have qfa:v'.ownBlock≠some g:=fun e=>(hk g e).elim hng.1 (fun z=>by omega);have hgg:w.grownBy w1 ve.ownBlock:=hg;have qcW:∀i,i<ll.length->∀k,(vs.getD i undef).ownBlock=some k->some g≠some k:=fun i hi k hk' e=>(h.ne_row hi hk').2.1 (qo e).symm
 have qbf:∀k,MkS g v' vr (vs++[.slice none 0 0]) k->MkS g ve vr vs k\/w.heap.size<=k:=by
  rintro k (rfl|h1|h1|⟨i,hi,h1⟩)
  ·exact .inl (.inl rfl)
  ·exact(hk k h1).imp (fun z=>.inr (.inl z)) id
  ·exact .inl (.inr (.inr (.inl h1)))
  by_cases hil:i<vs.length
  ·rw[bS hil]at h1
   exact .inl (.inr (.inr (.inr ⟨i,hil,h1⟩)))
  have hie:i=vs.length:=by rw[qi,qB]at hi;omega
  subst hie;rw[cT]at h1;cases h1
 refine⟨⟨hb2,?_,qe h.hql (qc hg.size hg2.size),ho.keep hg2 (.inr qfa),by simp[h.len],fun i hi=>?_,(h.rules.keep hg (bR fun k hk' e=>h.ne_er k e hk')).keep hg2 (.inr (fun e=>hng.2.1 e)),?_⟩,?_⟩
 ·rw[<-h.hq]
  exact World.cell?_of_block (w:=w) (by rw[hg2.block q (qe h.hql hg.size) (fun e=>hng.2.2 (qo e)),hg.block q h.hql (fun e=>h.ne_q.1 e.symm)])
 ·by_cases hil:i<ll.length
  ·rw[bS (by rw[h.len];exact hil),bS hil]
   exact((h.rows i hil).keep hg (bR fun k hk' e=>(h.ne_row hil hk').2.2.1 e)).keep hg2 (bR (qcW i hil))
  have hie:i=ll.length:=by rw[qi,qB]at hi;omega
  subst hie;rw[cT,<-h.len,cT];exact cA.nil _ _ _ _
 ·have e:mkL q g v' vr (vs++[.slice none 0 0])=(mkL q g ve vr vs).set 2 v'.ownBlock++[none]:=by simp[mkL,Value.ownBlock]
  rw[e];refine(h.sep.set h.all fun k hk'=>?_).snoc;exact(hk k hk').imp (fun z=>by simp[mkL,z]) id
 exact(eM hg (fun k e=>.inr (.inl e)) qbf).trans (eM hg2 (fun k e=>.inl (qo e).symm) (fun k hk'=>.inl hk'))
theorem Mk.pushR(h:Mk w g q ve vs vr ll rl F){v':Value}{rl':List Int}(ho:Own w1 0 3 v' (ints rl'))(hg:w.grownBy w1 vr.ownBlock)(hk:∀k,v'.ownBlock=some k->vr.ownBlock=some k\/w.heap.size<=k):
  Mk (w1.setCell ⟨g,2,none⟩ v') g q ve vs v' ll rl' F/\Gw (MkS g ve vr vs) w (MkS g ve v' vs) (w1.setCell ⟨g,2,none⟩ v'):=by
 have hlt:=h.lt;have hng:=h.ne_g;have hb1:=h.box.keep hg (.inr (fun e=>hng.2.1 e.symm));obtain⟨hb2,hg2⟩:=hb1.store 2 v';have qfa:v'.ownBlock≠some g:=fun e=>(hk g e).elim hng.2.1 (fun z=>by omega);have qcW:∀i,i<ll.length->∀k,(vs.getD i undef).ownBlock=some k->some g≠some k:=fun i hi k hk' e=>(h.ne_row hi hk').2.1 (qo e).symm
 have qbf:∀k,MkS g ve v' vs k->MkS g ve vr vs k\/w.heap.size<=k:=by
  rintro k (rfl|h1|h1|⟨i,hi,h1⟩)
  ·exact .inl (.inl rfl)
  ·exact .inl (.inr (.inl h1))
  ·exact(hk k h1).imp (fun z=>.inr (.inr (.inl z))) id
  exact .inl (.inr (.inr (.inr ⟨i,hi,h1⟩)))
 refine⟨⟨hb2,?_,qe h.hql (qc hg.size hg2.size),(h.outer.keep hg (bR fun k hk' e=>h.ne_er k hk' e)).keep hg2 (.inr (fun e=>hng.1 e)),h.len,fun i hi=>?_,ho.keep hg2 (.inr qfa),?_⟩,?_⟩
 ·rw[<-h.hq]
  exact World.cell?_of_block (w:=w) (by rw[hg2.block q (qe h.hql hg.size) (fun e=>hng.2.2 (qo e)),hg.block q h.hql (fun e=>h.ne_q.2.1 e.symm)])
 ·exact((h.rows i hi).keep hg (bR fun k hk' e=>(h.ne_row hi hk').2.2.2.1 e)).keep hg2 (bR (qcW i hi))
 ·have e:mkL q g ve v' vs=(mkL q g ve vr vs).set 3 v'.ownBlock:=by simp[mkL]
  rw[e];refine h.sep.set h.all fun k hk'=>?_;exact(hk k hk').imp (fun z=>by simp[mkL,z]) id
 exact(eM hg (fun k e=>.inr (.inr (.inl e))) qbf).trans (eM hg2 (fun k e=>.inl (qo e).symm) (fun k hk'=>.inl hk'))
theorem Mk.setRow{ge n cap:Nat}(h:Mk w g q (.slice (some ⟨ge,0,none⟩) n cap) vs vr ll rl F){i:Nat}(hi:i<ll.length){r:Value}{xs:List Ed}(hr:cA 6 w1 0 226 r (xs.map edC))(hg:w.grownBy w1 (vs.getD i undef).ownBlock)(hk:∀k,r.ownBlock=some k->(vs.getD i undef).ownBlock=some k\/w.heap.size<=k):
  Mk (w1.setCell ⟨ge,i,none⟩ r) g q (.slice (some ⟨ge,0,none⟩) n cap) (vs.set i r) vr (ll.set i xs) rl F/\Gw (MkS g (.slice (some ⟨ge,0,none⟩) n cap) vr vs) w (MkS g (.slice (some ⟨ge,0,none⟩) n cap) vr (vs.set i r)) (w1.setCell ⟨ge,i,none⟩ r):=by
 have hvi:i<vs.length:=by rw[h.len];exact hi
 have hgb:=h.outer.blk.2;have hown:(Value.slice (some ⟨ge,0,none⟩) n cap).ownBlock=some ge:=rfl;have hnr:=fun k (hk':(vs.getD i undef).ownBlock=some k)=>h.ne_row hi hk';have hng:=h.ne_g;have hnq:=h.ne_q;have ho:=h.outer.keep hg (bR fun k hk' e=>(hnr k e).2.2.1 hk');obtain⟨ho2,hg2⟩:=ho.store i r;have hrg:∀k,r.ownBlock=some k->k≠ge:=fun k hk' e=>(hk k hk').elim (fun z=>(hnr k z).2.2.1 (by rw[e];rfl)) (fun z=>by omega);have qiV:ge≠g:=fun e=>hng.1 (by rw[<-e];rfl);have qiU:ge≠q:=fun e=>hnq.1 (by rw[<-e];rfl)
 have qbf:∀k,MkS g (.slice (some ⟨ge,0,none⟩) n cap) vr (vs.set i r) k->MkS g (.slice (some ⟨ge,0,none⟩) n cap) vr vs k\/w.heap.size<=k:=by
  rintro k (rfl|h1|h1|⟨j,hj,h1⟩)
  ·exact .inl (.inl rfl)
  ·exact .inl (.inr (.inl h1))
  ·exact .inl (.inr (.inr (.inl h1)))
  rw[j8]at hj;by_cases hij:i=j
  ·subst hij
   rw[d8 hvi]at h1;exact(hk k h1).imp (fun z=>.inr (.inr (.inr ⟨i,hvi,z⟩))) id
  rw[dC hij]at h1;exact .inl (.inr (.inr (.inr ⟨j,hj,h1⟩)))
 refine⟨⟨(h.box.keep hg (bR fun k hk' e=>(hnr k e).2.1 (qo hk').symm)).keep hg2 (.inr (fun e=>qiV (qo e).symm)),?_,qe h.hql (qc hg.size hg2.size),ho2,by simp[h.len],fun j hj=>?_,(h.rules.keep hg (bR fun k hk' e=>(hnr k e).2.2.2.1 hk')).keep hg2 (bR fun k hk' e=>h.ne_er k e hk'),?_⟩,?_⟩
 ·rw[<-h.hq]
  exact World.cell?_of_block (w:=w) (by rw[hg2.block q (qe h.hql hg.size) (fun e=>qiU (qo e).symm),hg.block q h.hql (fun e=>(hnr q e.symm).1 rfl)])
 ·rw[j8]at hj
  by_cases hij:i=j
  ·subst hij
   rw[d8 hvi,d8 hi];exact hr.keep hg2 (bR fun k hk' e=>hrg k hk' (qo e).symm)
  rw[dC hij,dC hij];exact((h.rows j hj).keep hg (bR fun k hk' e=>(h.ne_row hj hk').2.2.2.2 i hi hij e)).keep hg2 (bR fun k hk' e=>(h.ne_row hj hk').2.2.1 e)
 ·have e:mkL q g (.slice (some ⟨ge,0,none⟩) n cap) vr (vs.set i r)=(mkL q g (.slice (some ⟨ge,0,none⟩) n cap) vr vs).set (i+4) r.ownBlock:=by simp[mkL,a9]
  rw[e];refine h.sep.set h.all fun k hk'=>?_;exact(hk k hk').imp (fun z=>by rw[nX _ _ _ _ _ i hvi,z]) id
 exact(eM hg (fun k e=>.inr (.inr (.inr ⟨i,hvi,e⟩))) qbf).trans (eM hg2 (fun k e=>.inr (.inl (by rw[<-e];rfl))) (fun k hk'=>.inl hk'))
theorem Mk.setRule{gr n cap:Nat}(h:Mk w g q ve vs (.slice (some ⟨gr,0,none⟩) n cap) ll rl F)(i:Nat)(x:Int):
  Mk (w.setCell ⟨gr,i,none⟩ (.int .i64 x)) g q ve vs (.slice (some ⟨gr,0,none⟩) n cap) ll (rl.set i x) F/\Gw (MkS g ve (.slice (some ⟨gr,0,none⟩) n cap) vs) w (MkS g ve (.slice (some ⟨gr,0,none⟩) n cap) vs) (w.setCell ⟨gr,i,none⟩ (.int .i64 x)):=by
 obtain⟨ho2,hg2⟩:=h.rules.store i (.int .i64 x);have hng:=h.ne_g;have hnq:=h.ne_q;have hgg:gr≠g:=fun e=>hng.2.1 (by rw[<-e];rfl);have hgq:gr≠q:=fun e=>hnq.2.1 (by rw[<-e];rfl);refine⟨⟨h.box.keep hg2 (.inr (fun e=>hgg (qo e).symm)),?_,qe h.hql hg2.size,h.outer.keep hg2 (bR fun k hk' e=>h.ne_er k hk' e),h.len,fun j hj=>(h.rows j hj).keep hg2 (bR fun k hk' e=>(h.ne_row hj hk').2.2.2.1 e),?_,h.sep⟩,eM hg2 (fun k e=>.inr (.inr (.inl (by rw[<-e];rfl)))) (fun k hk'=>.inl hk')⟩
 ·rw[<-h.hq]
  exact World.cell?_of_block (w:=w) (hg2.block q h.hql (fun e=>hgq (qo e).symm))
 have e:(ints rl).set i (.int .i64 x)=ints (rl.set i x):=by simp[ints,a9]
 rw[e]at ho2;exact ho2
theorem Mk.setF(h:Mk w g q ve vs vr ll rl F)(x:Int):Mk (w.setCell ⟨g,1,none⟩ (.int .i64 x)) g q ve vs vr ll rl x/\Gw (MkS g ve vr vs) w (MkS g ve vr vs) (w.setCell ⟨g,1,none⟩ (.int .i64 x)):=by
 obtain⟨ho2,hg2⟩:=h.box.store 1 (.int .i64 x);have hng:=h.ne_g;refine⟨⟨ho2,?_,qe h.hql hg2.size,h.outer.keep hg2 (.inr (fun e=>hng.1 e)),h.len,fun j hj=>(h.rows j hj).keep hg2 (bR fun k hk' e=>(h.ne_row hj hk').2.1 (qo e).symm),h.rules.keep hg2 (.inr (fun e=>hng.2.1 e)),h.sep⟩,eM hg2 (fun k e=>.inl (qo e).symm) (fun k hk'=>.inl hk')⟩;rw[<-h.hq];exact World.cell?_of_block (w:=w) (hg2.block q h.hql (fun e=>hng.2.2 (qo e)))
end
end Go.Cm
namespace Go.Cm
open Go.RowKit Go.Proofs
def MkW(w:World)(S:Nat->Prop)(g q:Nat)(ll:List (List Ed))(rl:List Int)(F:Int):Prop:=∃ve vs vr,Mk w g q ve vs vr ll rl F/\S=MkS g ve vr vs
theorem MkW.up{w w':World}{S:Nat->Prop}{g q:Nat}{ll:List (List Ed)}{rl:List Int}{F:Int}(h:MkW w S g q ll rl F)(hb:Below w.heap.size w w'):MkW w' S g q ll rl F:=by
 obtain⟨ve,vs,vr,h1,h2⟩:=h;exact⟨ve,vs,vr,h1.up hb,h2⟩
theorem MkW.lt{w:World}{S:Nat->Prop}{g q:Nat}{ll:List (List Ed)}{rl:List Int}{F:Int}(h:MkW w S g q ll rl F){k:Nat}(hk:S k):k<w.heap.size:=by
 obtain⟨ve,vs,vr,h1,rfl⟩:=h;exact h1.mlt hk
theorem q2x {w : World} {S : Nat → Prop} {g q : Nat} {ll : List (List Ed)} {rl : List Int} {F : Int} (h : MkW w S g q ll rl F) (hl : ll.length ≤ 1000000) (hr : rl.length ≤ 1000000) :
    Calls prog 169 #[.pointer (some ⟨q, 0, none⟩)] w fun e w' => e = .returned (.int .i64 (ll.length : Nat)) ∧ ∃ S', MkW w' S' g q (ll ++ [[]]) (rl ++ [-1]) F ∧ Gw S w S' w' := by
  obtain ⟨ve, vs, vr, hm, rfl⟩ := h
  have HM := qa hm
  have hcq := hm.hq
  have hql := hm.hql
  have hc0 := hm.c0
  have hg := hm.lt
  have hf0 := hm.f 0
  have qcK : some g ≠ ve.ownBlock := fun e => hm.ne_g.1 e.symm
  have qco : some q ≠ ve.ownBlock := fun e => hm.ne_q.1 e.symm
  obtain ⟨n, hn⟩ : ∃ n, n = ll.length := ⟨_, rfl⟩
  rw [← hn]
  have HN := qa hn
  have HVL := qa (hm.len.trans hn.symm)
  have hlW : Below w.heap.size w (w.alloc (.cells #[.slice none 0 0] 224)).drew := aJ
  have HX : Hid (Sl (w.alloc (.cells #[.slice none 0 0] 224)).drew (.slice (some ⟨w.heap.size, 0, none⟩) 1 1) [.slice none 0 0]) := qa (by
        have h1 := (dY w #[.slice none 0 0] 224 (by simp)).up (aN _ 1)
        rw [← World.drew_is_drewN] at h1
        simpa using h1)
  have HT1 := qa (hm.outer.up hlW)
  have HMW := qa (hm.up hlW)
  have HLW := qa hlW
  have HT2 : Hid (∀ u ∈ [Value.slice none 0 0], u.oneCell' = true) := qa (by intro u hu; simp at hu; subst hu; rfl)
  have HT3 : Hid (vs.length + [Value.slice none 0 0].length ≤ 4294967296) := qa (by rw [HVL.o]; simp; omega)
  have hnB : n ≤ 1000000 := by omega
  clear hm hlW hn
  go_enter func169, ntmps169
  go_wp2
  refine cU (fun w' => ∃ x, w' = chg w ve.ownBlock x) [0,1,2,3,4,5] [6,7,8,9,10] [11] (by kernel_rfl) (by kernel_rfl) (bX (cJ _ _)) ?_
  simp only [pk]
  repeat (go_big_quiet_step (fail))
  refine wpQuiet_nil ?_
  (unfold aG; go_wp2; refine ⟨bX (aE aJ _), ?_⟩)
  unfold aG
  go_wp2_with (at_builtin; refine bM rfl (.tmp 7) (.tmp 8) 207 rfl 0 224 (.slice none 0 0) 24 underlying207 (by kernel_rfl) rfl (by decide) ve vs rfl HT1.o (.slice (some ⟨w.heap.size, 0, none⟩) 1 1) [.slice none 0 0] rfl HX.o HT2.o HT3.o (qd _) ?_; intro v' w5 hown1 hg1 hk1; have HO1 := qa hown1; have HG1 := qa hg1; have HK1 := qa hk1; clear hown1 hg1 hk1)
  refine ⟨bX (aC (aE aJ _) HG1.o), ?_⟩
  (unfold aG; go_wp2; refine ⟨bX (aC (aE aJ _) HG1.o), ?_⟩)
  (unfold aG; go_wp2; refine ⟨bX (aC (aE aJ _) HG1.o), ?_⟩)
  (unfold aG; go_wp2; refine ⟨bX (aC (aE aJ _) HG1.o), ?_⟩)
  have HPU := qa (HMW.o.pushE HO1.o HG1.o HK1.o)
  have hb5 := HMW.o.box.keep HG1.o (.inr qcK)
  have qeN : w5.cell? ⟨g, 0, none⟩ = some ve := hb5.cell (by simp)
  have qeK : w5.frozen? ⟨g, 0, none⟩ = false := hb5.free 0
  have hg5 : g < w5.heap.size := hb5.blk.2
  have HGW : Hid (Gw (MkS g ve vr vs) w (MkS g ve vr vs) (w.alloc (.cells #[.slice none 0 0] 224)).drew) := qa (dD _ HLW.o)
  obtain ⟨o5, c5, g5, hv5, -⟩ := HO1.o.cases
  subst hv5
  clear hb5 hcq hql hc0 hg hf0 qcK qco HM HX HT1 HMW HLW HT2 HT3 HO1 HG1 HK1
  have hlv : (vs ++ [Value.slice none 0 0]).length = n + 1 := by rw [qi, HVL.o]; rfl
  rw [hlv] at HPU ⊢
  clear hlv
  unfold aG
  unfold aG
  go_wp2
  refine ⟨trivial, ?_⟩
  unfold aG
  have hm2 := HPU.o.1
  have HG2 := qa (HGW.o.trans HPU.o.2)
  clear HPU HGW qeN qeK hg5
  generalize w5.setCell ⟨g, 0, none⟩ (.slice o5 (n + 1) c5) = w6 at *
  have hcq := hm2.hq
  have hql := hm2.hql
  have hc2 := hm2.c2
  have hg := hm2.lt
  have hf2 := hm2.f 2
  have qcK : some g ≠ vr.ownBlock := fun e => hm2.ne_g.2.1 e.symm
  have qco : some q ≠ vr.ownBlock := fun e => hm2.ne_q.2.1 e.symm
  have hlW : Below w6.heap.size w6 (w6.alloc (.cells #[.int .i64 (-1)] 3)).drew := aJ
  have HX : Hid (Sl (w6.alloc (.cells #[.int .i64 (-1)] 3)).drew (.slice (some ⟨w6.heap.size, 0, none⟩) 1 1) (ints [-1])) := qa (by
        have h1 := (dY w6 #[.int .i64 (-1)] 3 (by simp)).up (aN _ 1)
        rw [← World.drew_is_drewN] at h1
        simpa [ints] using h1)
  have HT1 := qa (hm2.rules.up hlW)
  have HMW := qa (hm2.up hlW)
  have HLW := qa hlW
  have HT2 : Hid (∀ u ∈ ints [-1], u.oneCell' = true) := qa (by intro u hu; simp [ints] at hu; subst hu; rfl)
  have HT3 : Hid ((ints rl).length + (ints [-1]).length ≤ 4294967296) := qa (by simp; omega)
  clear hm2 hlW
  go_wp2
  refine cU (fun w' => ∃ x, w' = chg w6 vr.ownBlock x) [0,1,2,3,4,5] [6,7,8,9,10] [11] (by kernel_rfl) (by kernel_rfl) (bX (cJ _ _)) ?_
  simp only [pk]
  repeat (go_big_quiet_step (fail))
  refine wpQuiet_nil ?_
  (unfold aG; go_wp2; refine ⟨bX (aE aJ _), ?_⟩)
  unfold aG
  go_wp2_with (at_builtin; refine bM rfl (.tmp 18) (.tmp 19) 39 rfl 0 3 (.int .i64 0) 8 underlying39 (by kernel_rfl) rfl (by decide) vr (ints rl) rfl HT1.o (.slice (some ⟨w6.heap.size, 0, none⟩) 1 1) (ints [-1]) rfl HX.o HT2.o HT3.o (qd _) ?_; intro v' w7 hown1 hg1 hk1; have HO1 := qa hown1; have HG1 := qa hg1; have HK1 := qa hk1; clear hown1 hg1 hk1)
  refine ⟨bX (aC (aE aJ _) HG1.o), ?_⟩
  (unfold aG; go_wp2; refine ⟨bX (aC (aE aJ _) HG1.o), ?_⟩)
  (unfold aG; go_wp2; refine ⟨bX (aC (aE aJ _) HG1.o), ?_⟩)
  (unfold aG; go_wp2; refine ⟨bX (aC (aE aJ _) HG1.o), ?_⟩)
  have HO2 : Hid (Own w7 0 3 v' (ints (rl ++ [-1]))) := qa (by have := HO1.o; simpa [ints] using this)
  have HPU := qa (HMW.o.pushR HO2.o HG1.o HK1.o)
  have hb5 := HMW.o.box.keep HG1.o (.inr qcK)
  have qeN : w7.cell? ⟨g, 2, none⟩ = some vr := hb5.cell (by simp)
  have qeK : w7.frozen? ⟨g, 2, none⟩ = false := hb5.free 2
  have hg5 : g < w7.heap.size := hb5.blk.2
  have HGW : Hid (Gw (MkS g (.slice o5 (n + 1) c5) vr (vs ++ [.slice none 0 0])) w6 (MkS g (.slice o5 (n + 1) c5) vr (vs ++ [.slice none 0 0])) (w6.alloc (.cells #[.int .i64 (-1)] 3)).drew) := qa (dD _ HLW.o)
  obtain ⟨o7, c7, g7, hv7, -⟩ := HO2.o.cases
  subst hv7
  clear hb5 hcq hql hc2 hg hf2 qcK qco HX HT1 HMW HLW HT2 HT3 HO1 HG1 HK1 HO2
  generalize (ints (rl ++ [-1])).length = l7 at *
  unfold aG
  unfold aG
  go_wp2
  refine ⟨trivial, ?_⟩
  unfold aG
  have hm3 := HPU.o.1
  have HG3 := qa (HG2.o.trans (HGW.o.trans HPU.o.2))
  clear HPU HGW qeN qeK hg5 HG2
  generalize w7.setCell ⟨g, 2, none⟩ (.slice o7 l7 c7) = w8 at *
  have hcq := hm3.hq
  have hql := hm3.hql
  have hc0 := hm3.c0
  have hg := hm3.lt
  have HM3 := qa hm3
  clear hm3
  go_wp2
  go_ret
  exact ⟨rfl, _, ⟨_, _, _, HM3.o, rfl⟩, HG3.o⟩
def qaM(ll:List (List Ed))(i:Nat)(e:Ed):List (List Ed):=ll.set i (ll.getD i []++[e])
def frE(tz:Int):Ed:=⟨tz,true,0,0,0,0⟩
theorem q9T {w : World} {S : Nat → Prop} {g q : Nat} {ll : List (List Ed)} {rl : List Int} {F : Int} (h : MkW w S g q ll rl F) (i : Nat) (tz : Int) (hi : i < ll.length) (hr : (ll.getD i []).length ≤ 1000000) (hl : ll.length ≤ 1000000) :
    Calls prog 170 #[.int .i64 i, .int .i64 tz, .pointer (some ⟨q, 0, none⟩)] w fun e w' => e = .returned (.tuple #[]) ∧ ∃ S', MkW w' S' g q (qaM ll i (frE tz)) rl F ∧ Gw S w S' w' := by
  obtain ⟨ve, vs, vr, hm, rfl⟩ := h
  have hvl := hm.len
  obtain ⟨oa, cap, ge, rfl, hdo, -, hco, hfo, -⟩ := hm.outer.cases
  have hoa := hdo.hat (by omega)
  subst hoa
  have hix := fun (W : World) => aU (P := prog) 207 224 underlying207 (by kernel_rfl) hdo W .i64 i (by omega) (by omega)
  simp only [qA, qE] at hix
  have hcr := hco i (by omega)
  have qdl := hdo.hblk (by omega)
  have HM := qa hm
  have hcq := hm.hq
  have hql := hm.hql
  have hc0 := hm.c0
  have hg := hm.lt
  obtain ⟨r, hrv⟩ : ∃ r, r = vs.getD i undef := ⟨_, rfl⟩
  have hnr := fun k (hk' : (vs.getD i undef).ownBlock = some k) => hm.ne_row hi hk'
  have hrow := hm.rows i hi
  rw [← hrv] at hnr hcr hrow
  have qcK : some g ≠ r.ownBlock := fun e => (hnr g e.symm).2.1 rfl
  have qco : some q ≠ r.ownBlock := fun e => (hnr q e.symm).1 rfl
  have qgP : some ge ≠ r.ownBlock := fun e => (hnr ge e.symm).2.2.1 rfl
  have hlW : Below w.heap.size w (w.alloc (.cells #[.int .i64 tz, .bool true, .int .u64 0, .int .u64 0, .int .u64 0, .int .u64 0] 226)).drew := aJ
  have HX : Hid (SlK 6 (w.alloc (.cells #[.int .i64 tz, .bool true, .int .u64 0, .int .u64 0, .int .u64 0, .int .u64 0] 226)).drew (.slice (some ⟨w.heap.size, 0, none⟩) 1 1) ([frE tz].map edC)) := qa (by
        have h1 := (xA 6 w #[.int .i64 tz, .bool true, .int .u64 0, .int .u64 0, .int .u64 0, .int .u64 0] 226 ([frE tz].map edC) (by simp [edC, frE]) (E6 _) (by simp)).up (aN _ 1)
        rw [← World.drew_is_drewN] at h1
        simpa using h1)
  have HT1 := qa (hrow.up hlW)
  have HMW := qa (hm.up hlW)
  have HLW := qa hlW
  have HT2 : Hid (∀ u ∈ ([frE tz].map edC).flatten, u.oneCell' = true) := qa (by intro u hu; simp [edC, frE] at hu; rcases hu with rfl | rfl | rfl <;> rfl)
  have HT3 : Hid (((ll.getD i []).map edC).length + ([frE tz].map edC).length ≤ 1000000000) := qa (by simp only [qy, qB]; omega)
  have HRV := qa hrv
  have HI := qa hi
  have qkk : vs.length ≤ 1000000 := by omega
  clear hm hlW hrv hnr hrow hdo hco hfo hi hr hl hvl
  go_enter func170, ntmps170
  go_wp2
  refine cU (fun w' => ∃ x, w' = chg w r.ownBlock x) [0,1,2,3,4,5,6,7,8,9,10,11,12,13,14,15] [16,17,18] [19] (by kernel_rfl) (by kernel_rfl) (bX (cJ _ _)) ?_
  simp only [pk]
  repeat (go_big_quiet_step (fail))
  refine wpQuiet_nil ?_
  (unfold aG; go_wp2; refine ⟨bX (aE aJ _), ?_⟩)
  unfold aG
  go_wp2_with (at_builtin; refine gV 6 rfl (.tmp 18) (.tmp 21) 224 rfl 0 226 (.agg #[.int .i64 0, .bool false, .int .u64 0, .int .u64 0, .int .u64 0, .int .u64 0]) 48 underlying224 (by kernel_rfl) rfl (by decide) (by decide) r ((ll.getD i []).map edC) rfl HT1.o (.slice (some ⟨w.heap.size, 0, none⟩) 1 1) ([frE tz].map edC) rfl HX.o (E6 _) HT2.o HT3.o (qd _) ?_; intro v' w5 hown1 hg1 hk1; have HO1 := qa hown1; have HG1 := qa hg1; have HK1 := qa hk1; clear hown1 hg1 hk1)
  refine ⟨bX (aC (aE aJ _) HG1.o), ?_⟩
  (unfold aG; go_wp2; refine ⟨bX (aC (aE aJ _) HG1.o), ?_⟩)
  have HO2 : Hid (cA 6 w5 0 226 v' ((ll.getD i [] ++ [frE tz]).map edC)) := qa (by have := HO1.o; rwa [← qD] at this)
  have HG2 := HG1
  have HK2 := HK1
  rw [HRV.o] at HG2 HK2
  have HPU := qa (HMW.o.setRow HI.o HO2.o HG2.o HK2.o)
  have HGW : Hid (Gw (MkS g (.slice (some ⟨ge, 0, none⟩) vs.length cap) vr vs) w (MkS g (.slice (some ⟨ge, 0, none⟩) vs.length cap) vr vs) (w.alloc (.cells #[.int .i64 tz, .bool true, .int .u64 0, .int .u64 0, .int .u64 0, .int .u64 0] 226)).drew) := qa (dD _ HLW.o)
  have hb5 := HMW.o.outer.keep HG1.o (.inr qgP)
  have hvi : i < vs.length := by have := HM.o.len; have := HI.o; omega
  have qeN : w5.cell? ⟨ge, i, none⟩ = some (vs.getD i undef) := hb5.cell hvi
  have qeK : w5.frozen? ⟨ge, i, none⟩ = false := hb5.free i
  have hg5 : ge < w5.heap.size := hb5.blk.2
  obtain ⟨o5, c5, b5, f5, hv5, -⟩ := HO1.o.sl
  subst hv5
  clear hb5 hcq hql hc0 hg qcK qco qgP hcr HX HT1 HMW HLW HT2 HT3 HO1 HG1 HK1 HO2 HG2 HK2
  generalize (List.map edC (ll.getD i []) ++ List.map edC [frE tz]).length = l5 at *
  unfold aG
  unfold aG
  go_wp2
  refine ⟨trivial, ?_⟩
  unfold aG
  go_wp2
  go_end0
  exact ⟨rfl, _, ⟨_, _, _, HPU.o.1, rfl⟩, HGW.o.trans HPU.o.2⟩
abbrev MkT(w:World)(S:Nat->Prop)(g q:Nat)(s:St)(F:Int):Prop:=MkW w S g q s.e s.r F
section
variable {w w' : World} {S : Nat → Prop} {g q : Nat} {s : St} {F : Int}
theorem MkW.f3{ll:List (List Ed)}{rl:List Int}(h:MkW w S g q ll rl F):w.cell? ⟨g,3,none⟩=some (.func (.func 169) #[] #[.pointer (some ⟨q,0,none⟩)]):=by
 obtain⟨ve,vs,vr,h1,rfl⟩:=h;exact h1.c3
theorem MkW.f4{ll:List (List Ed)}{rl:List Int}(h:MkW w S g q ll rl F):w.cell? ⟨g,4,none⟩=some (.func (.func 170) #[] #[.pointer (some ⟨q,0,none⟩)]):=by
 obtain⟨ve,vs,vr,h1,rfl⟩:=h;exact h1.c4
theorem MkW.glt{ll:List (List Ed)}{rl:List Int}(h:MkW w S g q ll rl F):g<w.heap.size:=by
 obtain⟨ve,vs,vr,h1,rfl⟩:=h;exact h1.lt
theorem MkW.no{ll:List (List Ed)}{rl:List Int}(h:MkW w S g q ll rl F){p:Nat}(hp:w.heap.size<=p):¬S p:=fun e=>by
 have:=h.lt e;omega
end
theorem MkW.gq{w:World}{S:Nat->Prop}{g q:Nat}{ll:List (List Ed)}{rl:List Int}{F:Int}(h:MkW w S g q ll rl F):q<w.heap.size/\¬S q:=by
 obtain⟨ve,vs,vr,h1,rfl⟩:=h;exact⟨h1.hql,h1.mq⟩
theorem MkW.keep{w w':World}{S:Nat->Prop}{g q:Nat}{ll:List (List Ed)}{rl:List Int}{F:Int}(h:MkW w S g q ll rl F){p:Nat}(hg:w.grownBy w' (some p))(hp:¬S p)(hq:p≠q):MkW w' S g q ll rl F:=by
 obtain⟨ve,vs,vr,h1,rfl⟩:=h;refine⟨ve,vs,vr,h1.keep hg (fun j k hj e=>?_),rfl⟩;obtain rfl:=qo e;rcases jD j with h0|h0
 ·subst h0;exact hq (qo (qo hj)).symm
 refine hp ?_;rcases j with _|_|_|_|j
 ·omega
 ·exact .inl (qo (qo hj)).symm
 ·exact .inr (.inl (by simpa[mkL]using hj))
 ·exact .inr (.inr (.inl (by simpa[mkL]using hj)))
 by_cases hjl:j<vs.length
 ·rw[nX _ _ _ _ _ j hjl]at hj
  exact .inr (.inr (.inr ⟨j,hjl,qo hj⟩))
 simp[mkL,qM (show vs.length<=j by omega)]at hj
theorem Gw.new {S S1 : Nat → Prop} {w w1 w2 : World} (h : Gw S w S1 w1) {p : Nat} (hg : w1.grownBy w2 (some p)) (hp : w.heap.size ≤ p) : Gw S w S1 w2 :=
  ⟨⟨hg.os.trans h.fx.os, hg.tape.trans h.fx.tape, hg.output.trans h.fx.output, qc h.fx.size hg.size, fun k hk h1 => by
    rw [hg.block k (qe hk h.fx.size) (fun e => by have := qo e; omega), h.fx.block k hk h1]⟩, h.sub⟩
theorem Own.of_blk_NfQ{w w':World}{B E:Nat}{v:Value}{xs:List Value}(h:Own w B E v xs)(hb:∀k,v.ownBlock=some k->w'.heap[k]? =w.heap[k]?):Own w' B E v xs:=by
 refine⟨⟨h.1.1,h.1.2.imp id ?_⟩,h.2⟩;rintro⟨g,cap,cur,rfl,h2,h3,h4⟩;exact⟨g,cap,cur,rfl,h2,by rw[hb g rfl];exact h3,h4⟩
theorem Gw.own{S S1:Nat->Prop}{w w1:World}(h:Gw S w S1 w1){B E:Nat}{v:Value}{xs:List Value}(ho:Own w B E v xs)(hv:∀k,v.ownBlock=some k->¬S k):Own w1 B E v xs:=
 ho.of_blk_NfQ fun k hk=>h.fx.block k (ho.lt k hk).2 (hv k hk)
structure PcB(w:World)(p:Nat)(f l:Int):Prop where
 own:Own w p 221 (.slice (some ⟨p,0,none⟩) 2 2) [.int .i64 f,.int .i64 l]
section
variable {w w' : World} {p : Nat} {f l : Int}
theorem PcB.c0(h:PcB w p f l):w.cell? ⟨p,0,none⟩=some (.int .i64 f):=h.own.cell (by simp)
theorem PcB.c1(h:PcB w p f l):w.cell? ⟨p,1,none⟩=some (.int .i64 l):=h.own.cell (by simp)
theorem PcB.free(h:PcB w p f l)(c:Nat):w.frozen? ⟨p,c,none⟩=false:=h.own.free c
theorem PcB.lt(h:PcB w p f l):p<w.heap.size:=h.own.blk.2
theorem PcB.up(h:PcB w p f l)(hb:Below w.heap.size w w'):PcB w' p f l:=⟨h.own.up hb⟩
theorem PcB.gw{S S1:Nat->Prop}(h:PcB w p f l)(hg:Gw S w S1 w')(hn:¬S p):PcB w' p f l:=⟨hg.own h.own (fun k hk=>by injection hk with hk;subst hk;exact hn)⟩
theorem PcB.keep(h:PcB w p f l){row:Option Nat}(hg:w.grownBy w' row)(hne:row≠some p):PcB w' p f l:=⟨h.own.keep hg (.inr (fun e=>hne e.symm))⟩
theorem PcB.set(h:PcB w p f l)(a b:Int):PcB ((w.setCell ⟨p,0,none⟩ (.int .i64 a)).setCell ⟨p,1,none⟩ (.int .i64 b)) p a b/\w.grownBy ((w.setCell ⟨p,0,none⟩ (.int .i64 a)).setCell ⟨p,1,none⟩ (.int .i64 b)) (some p):=by
 obtain⟨h1,h2⟩:=h.own.store 0 (.int .i64 a);obtain⟨h3,h4⟩:=h1.store 1 (.int .i64 b);exact⟨⟨h3⟩,aC h2 h4⟩
theorem fE(w:World)(f l:Int):PcB (w.alloc (.cells #[.int .i64 f,.int .i64 l] 221)) w.heap.size f l:=
 ⟨by have h:=bU w w.heap.size #[.int .i64 f,.int .i64 l] 221 (by simp) (qb _);simpa using h⟩
theorem PcB.load(h:PcB w p f l):(loadVar 221 ⟨p,0,none⟩).run prog w=.ok (.agg #[.int .i64 f,.int .i64 l]) w:=
 fZ w p 0 2 221 #[.int .i64 f,.int .i64 l] _ (fun c hc=>by
  rcases(show c=0\/c=1 by omega)with rfl|rfl
  ·exact h.c0
  exact h.c1) rfl underlying221 rfl (by kernel_rfl)
end
theorem vO{P:Program}{fn:Func}{tmps:Array Value}{w:World}{a t:Nat}{ad:Addr}{v:Value}(hf:fn.results=#[.cell a t])(ha:tmps.getD a undef=.pointer (some ad))(hl:(loadVar t ad).run P w=.ok v w):
  (results fn tmps).run P w=.ok v w:=by
 have ha':tmps[a]?.getD undef=.pointer (some ad):=by simpa using ha
 simp[results,hf,asAddr,ha',hl]
theorem cE{P:Program}{fn:Func}{tmps:Array Value}{w:World}{ds:List Deferred}{s t:Nat}{ad:Addr}{x:Value}{R:Ending->World->Prop}(hf:fn.results=#[.cell s t])(ha:tmps.getD s undef=.pointer (some ad))(hd:ds=[])
  (hl:(loadVar t ad).run P w=.ok x w) (h:R (.returned x) w):bodyPost P fn R .ret ⟨tmps,ds⟩ w:=
 bodyPost_ret (v:=x) (vO hf ha hl) hd h
theorem tY{w:World}{S:Nat->Prop}{g q:Nat}{s:St}{F:Int}(h:MkT w S g q s F)(hl:s.e.length<=10000)(hr:s.r.length<=10000)(n m:Nat)(hn:n=s.e.length)(hm:m=s.e.length+1):
  Calls prog 172 #[.pointer (some ⟨g,0,none⟩)] w fun e w'=>e=.returned (.agg #[.int .i64 n,.int .i64 m])/\∃S',MkT w' S' g q (two s) F/\Gw S w S' w':=by
 have HM:=qa h;have hg:=h.glt;have hc3:=h.f3;have hno:=h.no (qb _);have HM0:=qa (h.up (aA w (.cells #[.int .i64 0,.int .i64 0] 221)));have HN:=qa hn;have HMM:=qa hm;have hnb:n<=10000:=by omega
 clear h hn hm;go_enter func172,ntmps172;have HP0:=qa (fE w 0 0)
 go_wp2_with(with_reducible (go_at_call 169);first|(refine(q2x HM0.o (by omega) (by omega)).mono ?_;rintro en w1 ⟨rfl,S1,hm1,hg1⟩;have HM1:=qa hm1;have HG1:=qa hg1;have qlm:=hm1.f3;have qiT:=hm1.glt;clear hm1 hg1)|(refine(q2x HM1.o (by rw[qi];simp;omega) (by rw[qi];simp;omega)).mono ?_;rintro en w2 ⟨rfl,S2,hm2,hg2⟩;have HM2:=qa hm2;have HG2:=qa (HG1.o.trans hg2);(have HP2:=qa (HP0.o.gw (HG1.o.trans hg2) hno));(have hc0:=HP2.o.c0);(have hc1:=HP2.o.c1);(have hf0:=HP2.o.free 0);(have hf1:=HP2.o.free 1);(have hpl:=HP2.o.lt);clear hm2 hg2))
 have HST:=qa (HP2.o.set (s.e.length:Nat) ((s.e.length:Nat)+1));have hgq:=HM.o.gq;refine cE rfl rfl rfl HST.o.1.load ?_;refine⟨by rw[HN.o,HMM.o];rfl,S2,?_,((dD S (aA w _)).trans HG2.o).new HST.o.2 (qb _)⟩;exact HM2.o.keep HST.o.2 (HG2.o.out (by simp) hno) (by omega)
structure LB(w:World)(S:Nat->Prop)(p:Nat)(f l:Int):Prop where
 box:PcB w p f l
 no:¬S p
theorem LB.gw{S S1:Nat->Prop}{w w':World}{p:Nat}{f l:Int}(h:LB w S p f l)(hg:Gw S w S1 w'):LB w' S1 p f l:=⟨h.box.gw hg h.no,hg.out h.box.lt h.no⟩
theorem LB.up{S:Nat->Prop}{w w':World}{p:Nat}{f l:Int}(h:LB w S p f l)(hb:Below w.heap.size w w'):LB w' S p f l:=⟨h.box.up hb,h.no⟩
theorem nN{w:World}{S:Nat->Prop}{g q:Nat}{s:St}{F:Int}(h:MkT w S g q s F)(i tz:Nat)(hi:i<s.e.length)(ht:tot s.e<=900000)(hl:s.e.length<=10000):
  Calls prog 170 #[.int .i64 i,.int .i64 tz,.pointer (some ⟨q,0,none⟩)] w fun e w'=>e=.returned (.tuple #[])/\∃S',MkT w' S' g q (d6 i tz s) F/\Gw S w S' w':=
 q9T h i tz hi (qc (q1k s.e i) (by omega)) (by omega)
theorem aR(w:World):Below w.heap.size w w.drew:=gH (qk _ _)
theorem q6L{w:World}{S:Nat->Prop}{g q:Nat}{s:St}{F:Int}(h:MkT w S g q s F)(hl:s.e.length<=9000)(hr:s.r.length<=9000)(ht:tot s.e<=800000)(o a:Bool)(f l:Nat)(_hf:f<s.e.length)(hll:l<s.e.length)(n m:Nat)(hn:n=s.e.length)(hm:m=s.e.length+1):
  Calls prog 175 #[.pointer (some ⟨g,0,none⟩),.bool o,.bool a,.agg #[.int .i64 f,.int .i64 l]] w fun e w'=>e=.returned (.agg #[.int .i64 n,.int .i64 m])/\∃S',MkT w' S' g q (nY o a ⟨f,l⟩ s) F/\Gw S w S' w':=by
 have HM:=qa h;have hg:=h.glt;have hgq:=h.gq;have hno:=h.no (qb _);have qcJ:=h.no (ja _);have qhF:=qa (fE w f l);have HMA:=qa ((h.up (aA w (.cells #[.int .i64 f,.int .i64 l] 221))).up (aA _ (.cells #[.int .i64 0,.int .i64 0] 221)));have HQP:=qa (qhF.o.up (aA _ (.cells #[.int .i64 0,.int .i64 0] 221)))
 have HRP:Hid (PcB ((w.alloc (.cells #[.int .i64 f,.int .i64 l] 221)).alloc (.cells #[.int .i64 0,.int .i64 0] 221)) (w.heap.size+1) 0 0):=qa (by
  have h:=fE (w.alloc (.cells #[.int .i64 f,.int .i64 l] 221)) 0 0;simpa using h)
 have HAR:=qa (tY HMA.o (by omega) (by omega) n m hn hm);have HLS:Hid (nY o a ⟨f,l⟩ s=iff a (d6 l f) (iff o (d6 n m) (d6 l m (d6 n f (two s))))):=qa (by unfold nY;simp only[bJ];rw[<-hm,<-hn]);have T2:=nZ s;have L2:=lW s;have hGA:Gw S w S ((w.alloc (.cells #[.int .i64 f,.int .i64 l] 221)).alloc (.cells #[.int .i64 0,.int .i64 0] 221)):=dD S ((aA w _).trans ((aA _ _).mono (by simp)));have HGA:=qa hGA;have hsA:((w.alloc (.cells #[.int .i64 f,.int .i64 l] 221)).alloc (.cells #[.int .i64 0,.int .i64 0] 221)).heap.size=w.heap.size+2:=by simp
 clear h qhF hGA;obtain⟨s0,hs0⟩:∃s0,s0=two s:=⟨_,rfl⟩;rw[<-hs0]at T2 L2 HAR HLS;have HL0:Hid (s0.e.length=s.e.length+2/\tot s0.e=tot s.e):=qa ⟨L2,T2⟩;have hnb:n<=9000:=by omega
 have hmb:m<=9001:=by omega
 have HB:Hid (n<s0.e.length/\l<s0.e.length/\s0.e.length<=9002/\tot s0.e<=800000):=qa ⟨by omega,by omega,by omega,by omega⟩;clear hs0 T2 L2 hn hm _hf hll hl hr ht;go_enter func175,ntmps175
 go_wp2_with((with_reducible go_at_call 172);refine HAR.o.mono ?_;rintro en w1 ⟨rfl,S1,hm1,hg1⟩;have HM1:=qa hm1;have HG1:=qa hg1;clear hm1 hg1)
 have HM2:=qa (HM1.o.up (aA w1 (.cells #[.int .i64 n,.int .i64 m] 221)));have P92:Hid (LB (w1.alloc (.cells #[.int .i64 n,.int .i64 m] 221)) S1 w1.heap.size n m):=qa ⟨fE w1 n m,HM1.o.no (qb _)⟩;have P72:Hid (LB (w1.alloc (.cells #[.int .i64 n,.int .i64 m] 221)) S1 w.heap.size f l):=qa ((LB.mk HQP.o hno).gw HG1.o |>.up (aA w1 _));have P82:Hid (LB (w1.alloc (.cells #[.int .i64 n,.int .i64 m] 221)) S1 (w.heap.size+1) 0 0):=qa ((LB.mk HRP.o qcJ).gw HG1.o |>.up (aA w1 _));have HG2:Hid (Gw S w S1 (w1.alloc (.cells #[.int .i64 n,.int .i64 m] 221))):=qa ((HGA.o.trans HG1.o).up (aA w1 _));have hp9:w.heap.size+2<=w1.heap.size:=by have:=HG1.o.size;omega
 generalize w1.heap.size=p9 at*;generalize w1.alloc (.cells #[.int .i64 n,.int .i64 m] 221)=w2 at*;clear HM1 HG1 HGA HQP HRP HMA HAR hsA hno qcJ;obtain⟨hb1,hb2,hb3,hb4⟩:=HB.o;have hc4:=HM2.o.f4;have hgl:=HM2.o.glt;have P7a:=P72.o.box.c0;have P7b:=P72.o.box.c1;have P7l:=P72.o.box.lt;have P8a:=P82.o.box.c0;have P8b:=P82.o.box.c1;have P8l:=P82.o.box.lt;have P9a:=P92.o.box.c0;have P9b:=P92.o.box.c1;have P9l:=P92.o.box.lt;go_wp2;refine aT [0,1,2,3,4,5,6,7] [] [8] (by kernel_rfl) (by kernel_rfl) ?_;simp only[pk]
 repeat(go_big_quiet_step (fail))
 refine wpQuiet_nil ?_;unfold aG;unfold aG
 go_wp2_with((with_reducible go_at_call 170);refine(nN (HM2.o.up (aR _)) n f hb1 (by omega) (by omega)).mono ?_;rintro en w3 ⟨rfl,S3,hm,hg⟩;have HM3:=qa hm;have HG3:=qa ((HG2.o.up (aR _)).trans hg);have P73:=qa ((P72.o.up (aR _)).gw hg);have P83:=qa ((P82.o.up (aR _)).gw hg);have P93:=qa ((P92.o.up (aR _)).gw hg);clear hm hg)
 refine⟨trivial,?_⟩;unfold aG;clear hc4 hgl P7a P7b P7l P8a P8b P8l P9a P9b P9l HM2 HG2 P72 P82 P92;have t3:=e9 n f s0;have l3:=eT n f s0;obtain⟨s3,hs3⟩:∃s3,s3=d6 n f s0:=⟨_,rfl⟩;rw[<-hs3]at t3 l3 HM3 HLS;clear hs3;have hc4:=HM3.o.f4;have hgl:=HM3.o.glt;have P7a:=P73.o.box.c0;have P7b:=P73.o.box.c1;have P7l:=P73.o.box.lt;have P8a:=P83.o.box.c0;have P8b:=P83.o.box.c1;have P8l:=P83.o.box.lt;have P9a:=P93.o.box.c0;have P9b:=P93.o.box.c1;have P9l:=P93.o.box.lt;go_wp2;refine aT [0,1,2,3,4,5,6,7] [] [8] (by kernel_rfl) (by kernel_rfl) ?_;simp only[pk]
 repeat(go_big_quiet_step (fail))
 refine wpQuiet_nil ?_;unfold aG;unfold aG
 go_wp2_with((with_reducible go_at_call 170);refine(nN (HM3.o.up (aR _)) l m (by omega) (by omega) (by omega)).mono ?_;rintro en w4 ⟨rfl,S4,hm,hg⟩;have HM4:=qa hm;have HG4:=qa ((HG3.o.up (aR _)).trans hg);have P74:=qa ((P73.o.up (aR _)).gw hg);have P84:=qa ((P83.o.up (aR _)).gw hg);have P94:=qa ((P93.o.up (aR _)).gw hg);clear hm hg)
 refine⟨trivial,?_⟩;unfold aG;clear hc4 hgl P7a P7b P7l P8a P8b P8l P9a P9b P9l HM3 HG3 P73 P83 P93;have t4:=e9 l m s3;have l4:=eT l m s3;obtain⟨s4,hs4⟩:∃s4,s4=d6 l m s3:=⟨_,rfl⟩;rw[<-hs4]at t4 l4 HM4 HLS;clear hs4;cases o with
 |true=>
  simp only[iff,jG]at HLS;have hc4:=HM4.o.f4;have hgl:=HM4.o.glt;have P7a:=P74.o.box.c0;have P7b:=P74.o.box.c1;have P7l:=P74.o.box.lt;have P8a:=P84.o.box.c0;have P8b:=P84.o.box.c1;have P8l:=P84.o.box.lt;have P9a:=P94.o.box.c0;have P9b:=P94.o.box.c1;have P9l:=P94.o.box.lt;go_wp2;refine aT [0,1,2,3,4,5,6,7] [] [8] (by kernel_rfl) (by kernel_rfl) ?_;simp only[pk]
  repeat(go_big_quiet_step (fail))
  refine wpQuiet_nil ?_;unfold aG;unfold aG
  go_wp2_with((with_reducible go_at_call 170);refine(nN (HM4.o.up (aR _)) n m (by omega) (by omega) (by omega)).mono ?_;rintro en w5 ⟨rfl,S5,hm,hg⟩;have HM5:=qa hm;have HG5:=qa ((HG4.o.up (aR _)).trans hg);have P75:=qa ((P74.o.up (aR _)).gw hg);have P85:=qa ((P84.o.up (aR _)).gw hg);have P95:=qa ((P94.o.up (aR _)).gw hg);clear hm hg)
  refine⟨trivial,?_⟩;unfold aG;clear hc4 hgl P7a P7b P7l P8a P8b P8l P9a P9b P9l HM4 HG4 P74 P84 P94;have t5:=e9 n m s4;have l5:=eT n m s4;obtain⟨s5,hs5⟩:∃s5,s5=d6 n m s4:=⟨_,rfl⟩;rw[<-hs5]at t5 l5 HM5 HLS;clear hs5;cases a with
  |true=>
   simp only[jG]at HLS;have hc4:=HM5.o.f4;have hgl:=HM5.o.glt;have P7a:=P75.o.box.c0;have P7b:=P75.o.box.c1;have P7l:=P75.o.box.lt;have P8a:=P85.o.box.c0;have P8b:=P85.o.box.c1;have P8l:=P85.o.box.lt;have P9a:=P95.o.box.c0;have P9b:=P95.o.box.c1;have P9l:=P95.o.box.lt;go_wp2;refine aT [0,1,2,3,4,5,6,7] [] [8] (by kernel_rfl) (by kernel_rfl) ?_;simp only[pk]
   repeat(go_big_quiet_step (fail))
   refine wpQuiet_nil ?_;unfold aG;unfold aG
   go_wp2_with((with_reducible go_at_call 170);refine(nN (HM5.o.up (aR _)) l f (by omega) (by omega) (by omega)).mono ?_;rintro en w6 ⟨rfl,S6,hm,hg⟩;have HM6:=qa hm;have HG6:=qa ((HG5.o.up (aR _)).trans hg);have P76:=qa ((P75.o.up (aR _)).gw hg);have P86:=qa ((P85.o.up (aR _)).gw hg);have P96:=qa ((P95.o.up (aR _)).gw hg);clear hm hg)
   refine⟨trivial,?_⟩;unfold aG;clear hc4 hgl P7a P7b P7l P8a P8b P8l P9a P9b P9l HM5 HG5 P75 P85 P95;have P8a:=P86.o.box.c0;have P8b:=P86.o.box.c1;have P8l:=P86.o.box.lt;have P8f:=P86.o.box.free 0;have P8g:=P86.o.box.free 1;have P9a:=P96.o.box.c0;have P9b:=P96.o.box.c1;have P9l:=P96.o.box.lt;have HST:=qa (P86.o.box.set n m);go_wp2;refine cE rfl rfl rfl HST.o.1.load ?_;exact⟨rfl,S6,by rw[HLS.o];exact HM6.o.keep HST.o.2 P86.o.no (by omega),HG6.o.new HST.o.2 (by omega)⟩
  |false=>
   simp only[qP,jp]at HLS;have P8a:=P85.o.box.c0;have P8b:=P85.o.box.c1;have P8l:=P85.o.box.lt;have P8f:=P85.o.box.free 0;have P8g:=P85.o.box.free 1;have P9a:=P95.o.box.c0;have P9b:=P95.o.box.c1;have P9l:=P95.o.box.lt;have HST:=qa (P85.o.box.set n m);go_wp2;refine cE rfl rfl rfl HST.o.1.load ?_;exact⟨rfl,S5,by rw[HLS.o];exact HM5.o.keep HST.o.2 P85.o.no (by omega),HG5.o.new HST.o.2 (by omega)⟩
 |false=>
  simp only[iff,qP,jp]at HLS;cases a with
  |true=>
   simp only[jG]at HLS;have hc4:=HM4.o.f4;have hgl:=HM4.o.glt;have P7a:=P74.o.box.c0;have P7b:=P74.o.box.c1;have P7l:=P74.o.box.lt;have P8a:=P84.o.box.c0;have P8b:=P84.o.box.c1;have P8l:=P84.o.box.lt;have P9a:=P94.o.box.c0;have P9b:=P94.o.box.c1;have P9l:=P94.o.box.lt;go_wp2;refine aT [0,1,2,3,4,5,6,7] [] [8] (by kernel_rfl) (by kernel_rfl) ?_;simp only[pk]
   repeat(go_big_quiet_step (fail))
   refine wpQuiet_nil ?_;unfold aG;unfold aG
   go_wp2_with((with_reducible go_at_call 170);refine(nN (HM4.o.up (aR _)) l f (by omega) (by omega) (by omega)).mono ?_;rintro en w5 ⟨rfl,S5,hm,hg⟩;have HM5:=qa hm;have HG5:=qa ((HG4.o.up (aR _)).trans hg);have P75:=qa ((P74.o.up (aR _)).gw hg);have P85:=qa ((P84.o.up (aR _)).gw hg);have P95:=qa ((P94.o.up (aR _)).gw hg);clear hm hg)
   refine⟨trivial,?_⟩;unfold aG;clear hc4 hgl P7a P7b P7l P8a P8b P8l P9a P9b P9l HM4 HG4 P74 P84 P94;have P8a:=P85.o.box.c0;have P8b:=P85.o.box.c1;have P8l:=P85.o.box.lt;have P8f:=P85.o.box.free 0;have P8g:=P85.o.box.free 1;have P9a:=P95.o.box.c0;have P9b:=P95.o.box.c1;have P9l:=P95.o.box.lt;have HST:=qa (P85.o.box.set n m);go_wp2;refine cE rfl rfl rfl HST.o.1.load ?_;exact⟨rfl,S5,by rw[HLS.o];exact HM5.o.keep HST.o.2 P85.o.no (by omega),HG5.o.new HST.o.2 (by omega)⟩
  |false=>
   simp only[qP,jp]at HLS;have P8a:=P84.o.box.c0;have P8b:=P84.o.box.c1;have P8l:=P84.o.box.lt;have P8f:=P84.o.box.free 0;have P8g:=P84.o.box.free 1;have P9a:=P94.o.box.c0;have P9b:=P94.o.box.c1;have P9l:=P94.o.box.lt;have HST:=qa (P84.o.box.set n m);go_wp2;refine cE rfl rfl rfl HST.o.1.load ?_;exact⟨rfl,S4,by rw[HLS.o];exact HM4.o.keep HST.o.2 P84.o.no (by omega),HG4.o.new HST.o.2 (by omega)⟩
theorem SlK.midB{P:Program}{k:Nat}{w:World}{v:Value}{l:List (List Value)}(h:SlK k w v l)(t E:TypeId)(ht:P.underlying t=some (.slice E))(hE:(P.info? E).map (·.size)=some k)(n m:Nat)(hn:n<=m)(hm:m<=l.length):
  ∃u,(∀W:World,(Instr.sliceAt t v (some (.int .i64 (n:Int))) (some (.int .i64 (m:Int))) none).run P W=.ok u W)/\SlK k w u ((l.drop n).take (m-n))/\u.ownBlock=v.ownBlock/\u.oneCell'=true:=by
 obtain⟨oa,cap,b,off,rfl,hd,hc⟩:=h;obtain⟨h1,h2⟩:=oY t E ht hE;have hcap:=hd.hcap;have hl:((l.drop n).take (m-n)).length=m-n:=by rw[qT,qY];omega
 refine⟨sliced oa n m cap k,fun W=>?_,?_,?_,rfl⟩
 ·rw[run_sliceAt_slice (P:=P) (t:=t) (h:=h1),run_slice_lh (t:=t) (ht:=h1) (h0:=by omega) (h1:=by omega) (h2:=by omega),h2]
  simp[Result.andThen]
 ·refine⟨if cap=n then oa else oa.map (·.add (n*k)),cap-n,b,off+n*k,by rw[hl];simp[sliced],⟨fun h0=>?_,by omega,by have:=hd.hmax;omega,by have:=hd.hsml;omega,fun h0=>hd.hblk (by omega)⟩,fun i hi c hcl=>?_⟩
  ·rw[hl]at h0
   rw[qr (by omega),hd.hat (by omega)];simp[kF]
  rw[hl]at hi;have:=hc (n+i) (by omega) c hcl;rw[jK,<-jI]at this;rw[this];simp[List.getD,hi]
 cases oa with
 |none=>by_cases hcn:cap=n<;>simp[sliced,Value.ownBlock,hcn]
 |some a=>
  have:(a.add (n*k)).block=a.block:=by unfold Addr.add;split<;>rfl
  by_cases hcn:cap=n<;>simp[sliced,Value.ownBlock,hcn,this]
structure eO(w:World)(b:Nat)(v:Value)(l:List Nd):Prop where
 at_:cB w v l
 blk:v.ownBlock=some b
 pos:0<l.length
 one:v.oneCell'=true
theorem eO.lt{w:World}{b:Nat}{v:Value}{l:List Nd}(h:eO w b v l):b<w.heap.size:=by
 obtain⟨oa,cap,b',off,rfl,hd,-⟩:=h.at_.open;obtain rfl:=hd.hat h.pos;have:=h.blk;simp only[Value.ownBlock,jz]at this;subst this;exact hd.hblk h.pos
theorem eO.gw{S S1:Nat->Prop}{w w':World}{b:Nat}{v:Value}{l:List Nd}(h:eO w b v l)(hg:Gw S w S1 w')(hn:¬S b):eO w' b v l:=by
 refine⟨?_,h.blk,h.pos,h.one⟩;obtain⟨oa,cap,b',off,rfl,hd,hc⟩:=h.at_;have qbs:0<(l.map ndC).length:=by rw[qy];exact h.pos
 obtain rfl:=hd.hat qbs;have hb:=h.blk;simp only[Value.ownBlock,jz]at hb;subst hb;exact⟨_,cap,b',off,rfl,⟨hd.hat,hd.hcap,hd.hmax,hd.hsml,fun h0=>qe (hd.hblk h0) hg.size⟩,fun i hi c hcl=>(hg.cell (hd.hblk qbs) hn).trans (hc i hi c hcl)⟩
theorem eO.up{w w':World}{b:Nat}{v:Value}{l:List Nd}(h:eO w b v l)(hb:Below w.heap.size w w'):eO w' b v l:=⟨h.at_.up hb,h.blk,h.pos,h.one⟩
theorem eO.form{w:World}{b:Nat}{v:Value}{l:List Nd}(h:eO w b v l):∃o n c,v=.slice o n c:=by
 obtain⟨oa,cap,b',off,hv,-,-⟩:=h.at_.open;exact⟨_,_,_,hv⟩
theorem eO.mid{w:World}{b:Nat}{v:Value}{l:List Nd}(h:eO w b v l)(n m:Nat)(hn:n<m)(hm:m<=l.length):
  ∃u,(∀W:World,(Instr.sliceAt 31 v (some (.int .i64 (n:Int))) (some (.int .i64 (m:Int))) none).run prog W=.ok u W)/\eO w b u ((l.drop n).take (m-n)):=by
 obtain⟨u,h1,h2,h3,h4⟩:=SlK.midB (P:=prog) h.at_ 31 65 underlying31 (by kernel_rfl) n m (by omega) (by simpa using hm);exact⟨u,h1,by unfold cB;rw[List.map_take,List.map_drop];exact h2,h3.trans h.blk,by rw[qT,qY];omega,h4⟩
def cM:Fo->List (List Nd)
 |.nil=>[]
 |.cons x k r=>(x::cO k)::cM r
theorem d9:∀f,(cM f).length=cnt f
 |.nil=>rfl
 |.cons x k r=>by simp[cM,cnt,d9 r]
structure vP(w:World)(B b:Nat)(u:Value)(vs:List Value)(tl:List (List Nd)):Prop where
 own:Own w B 31 u vs
 len:vs.length=tl.length
 rows:∀i,i<tl.length->eO w b (vs.getD i undef) (tl.getD i [])
theorem q2y{w:World}{v:Value}{b:Nat}{x:Nd}{k:Fo}(h:eO w b v (x::cO k))(hl:(cO k).length<400)(hn:x.n=cnt k)(hk:wf k):
  Calls prog 171 #[v] w fun e w'=>∃u vs,e=.returned u/\vP w' w.heap.size b u vs (cM k)/\Below w.heap.size w w':=by
 have HB:=qa h;have qeX:=qa (fun w' hb j=>qau (cB.up h.at_ hb (w':=w')) (by simp;omega) j);obtain⟨oa,cap,b',off,rfl,hd,hc⟩:=h.at_.open
 have hix:∀W:World,(Instr.indexAt 31 (.slice oa (x::cO k).length cap) (.int .i64 0)).run prog W=.ok (.pointer (some ⟨b',off,none⟩)) W:=fun(W:World)=>by
  have:=gA hd W .i64 0 (by omega) (by simp);simpa using this
 have hcell:=hc 0 (by simp) 1 (by decide);change w.cell? ⟨b',off+0*8+1,none⟩=some (.int .i64 x.n)at hcell;have qe1:w.cell? ⟨b',off+1,none⟩=some (.int .i64 (cnt k:Nat)):=by rw[Nat.zero_mul,jC,hn]at hcell;exact hcell
 have hb:=hd.hblk (by simp);have hck:=vD k;have HK:=qa hk;obtain⟨l,hle⟩:∃l,l=x::cO k:=⟨_,rfl⟩;have hl1:l.length<=1+(cO k).length:=by rw[hle];simp;omega
 have hl2:1+(cO k).length<=l.length:=by rw[hle];simp;omega
 have HLD:Hid (l.drop 1=cO k):=qa (by rw[hle];rfl);rw[<-hle]at HB qeX hix⊢;clear h hd hc hcell hk hn hle;go_enter func171,ntmps171;go_wp2
 go_loopg [3,4,10] (cnt k) (fun gk ov av jv wr=>∃(j at_:Nat) (r:Fo) (vs:List Value) (dn:List (List Nd)),jv=.int .i64 j/\av=.int .i64 at_/\at_+(cO r).length=l.length/\j+cnt r=cnt k/\l.drop at_=cO r/\wf r/\dn++cM r=cM k/\dn.length=j/\vP wr w.heap.size b ov vs dn/\Below w.heap.size w wr/\gk=cnt k-j)
 case atStart=>exact⟨0,1,k,[],[],rfl,by push_cast;rfl,by omega,by omega,HLD.o,HK.o,rfl,rfl,⟨Own.nil _ _ _,rfl,fun i hi=>absurd hi (qz i)⟩,qk _ _,rfl⟩
 case round=>
  obtain⟨j,at_,r,vs,dn,rfl,rfl,qeO,hj,hdr,hwr,hls,qeH,hown,qbe,rfl⟩:=hrel;have HO:=qa hown;have HBL:=qa qbe;have HLS:=qa hls;clear hown qbe hls;have hcw:=(HBL.o.cell (p:=⟨b',off+1,none⟩) hb).trans qe1;have hbw:b'<wr.heap.size:=by have:=HBL.o.size;omega
  cases r with
  |nil=>
   have hje:j=cnt k:=by simpa[cnt]using hj
   have HE:Hid (dn=cM k):=qa (by rw[<-HLS.o];simp[cM]);go_wp2;go_ret;refine⟨u3,vs,rfl,?_,HBL.o⟩;rw[<-HE.o];exact HO.o
  |cons y ky r'=>
   simp only[cnt]at hj;simp only[cO]at hdr;simp only[cO,qx,qi]at qeO;obtain⟨hy1,hy2,hy3⟩:=hwr;have hend:=q2f l.length (cO r') y ky hy1 hy2 (by omega) at_;rw[<-hdr]at hend;obtain⟨-,-,qdZ⟩:=sH (d:=zN) hdr;have HDR:Hid (l.drop (at_+1+(cO ky).length)=cO r'):=qa (q04 qdZ);have hee:((at_:Int)+(1+(cO ky).length))=((at_+1+(cO ky).length:Nat):Int):=by push_cast;omega
   rw[hee]at hend;obtain⟨u,hsl,hnu⟩:=HB.o.mid at_ (at_+1+(cO ky).length) (by omega) (by omega)
   have htk:(l.drop at_).take (at_+1+(cO ky).length-at_)=y::cO ky:=by
    rw[hdr,show at_+1+(cO ky).length-at_=(cO ky).length+1 by omega,List.take_succ_cons,List.take_left]
   rw[htk]at hnu;obtain⟨ou,lu,cu,rfl⟩:=hnu.form;obtain⟨en,hen⟩:∃en,en=at_+1+(cO ky).length:=⟨_,rfl⟩;rw[<-hen]at hend hsl HDR;have HEN:=qa hend;have HW3:=qa hy3;have HNU:=qa hnu;have HVL:Hid (vs.length=j):=qa (HO.o.len.trans qeH);have hvb:vs.length+1<=4294967296:=by have:=HVL.o;omega
   have HE2:=qa hen;clear hdr qdZ hend hee hy1 hy2 hy3 htk hnu hen;have HEC:=qa (qeX.o wr HBL.o at_)
   go_wp2_with(first|((with_reducible go_at_call 123);refine HEC.o.mono ?_;rintro en' w' ⟨rfl,x6,rfl⟩;rw[HEN.o];have HWX:Hid (Below wr.heap.size wr ((ext wr x6).alloc (.cells #[.slice ou lu cu] 31))):=qa ((aD wr x6).trans ((aA (ext wr x6) (.cells #[.slice ou lu cu] 31)).mono (iT wr x6))))|(at_builtin;refine bM rfl (.tmp 15) (.tmp 20) 26 rfl w.heap.size 31 (.slice none 0 0) 24 underlying26 (by kernel_rfl) rfl (by decide) u3 vs rfl (HO.o.own.up HWX.o) (.slice (some ⟨(ext wr x6).heap.size,0,none⟩) 1 1) [.slice ou lu cu] rfl (by simpa using dY (ext wr x6) #[.slice ou lu cu] 31 (by simp)) (by intro z hz;rw[jd]at hz;rw[hz];exact HNU.o.one) (by simpa using hvb) (qc HBL.o.size HWX.o.size) ?_;intro v' w5 hown1 hg1 hk1;have HO1:=qa hown1;have HG1:=qa hg1;clear hown1 hg1 hk1))
   have HB5:=qa (dR (HBL.o.trans (HWX.o.mono HBL.o.size)) (qc HBL.o.size HWX.o.size) (HO.o.own.up HWX.o) HG1.o)
   go_roundg (cnt k-(j+1))
   case measure=>omega
   case rel=>
    have hlv:=HVL.o;have hen:=HE2.o;refine⟨j+1,en,r',vs++[.slice ou lu cu],dn++[y::cO ky],by go_num,rfl,by omega,by omega,HDR.o,HW3.o,?_,by simp[qeH],⟨HO1.o,by rw[qi,qi,hlv,qeH];rfl,fun i hi=>?_⟩,HB5.o,rfl⟩
    ·rw[<-HLS.o];simp[cM]
    rw[qi,qB]at hi;have hgx:Gw (fun k=>w.heap.size<=k) w (fun k=>w.heap.size<=k) w5:=⟨⟨HB5.o.os,HB5.o.tape,HB5.o.output,HB5.o.size,fun k hk _=>HB5.o.block k hk⟩,fun k h=>.inl h⟩;have hbb:=HB.o.lt;by_cases hil:i<dn.length
    ·rw[bS (by omega),bS hil]
     exact(HO.o.rows i hil).gw (S:=fun k=>w.heap.size<=k) (S1:=fun k=>w.heap.size<=k) ⟨⟨HWX.o.os.trans rfl |>.trans rfl |> fun e=>by have h1:=HB5.o.os;have h2:=HBL.o.os;rw[h1,h2],by have h1:=HB5.o.tape;have h2:=HBL.o.tape;rw[h1,h2],by have h1:=HB5.o.output;have h2:=HBL.o.output;rw[h1,h2],qc HWX.o.size HG1.o.size,fun k hk hn=>by rw[HB5.o.block k (by omega),HBL.o.block k (by omega)]⟩,fun k h=>.inl h⟩ (by omega)
    have hie:i=dn.length:=by omega
    subst hie;rw[cT,qeH,<-hlv,cT];exact HNU.o.gw hgx (by omega)
def pcC(p:Pc):List Value:=[.int .i64 (p.f:Nat),.int .i64 (p.l:Nat)]
theorem G0(l:List Pc):∀x∈l.map pcC,x.length=2:=by
 intro x hx;obtain⟨e,-,rfl⟩:=List.mem_map.1 hx
 rfl
structure q2z(w:World)(v:Value)(b off cap:Nat)(ps:List Pc):Prop where
 v:v=.slice (some ⟨b,off,none⟩) ps.length cap
 hd:Hd w (some ⟨b,off,none⟩) ps.length cap b off
 pos:0<ps.length
 c0:∀i,i<ps.length->w.cell? ⟨b,off+i*2,none⟩=some (.int .i64 ((ps.getD i zP).f:Nat))
 c1:∀i,i<ps.length->w.cell? ⟨b,off+i*2+1,none⟩=some (.int .i64 ((ps.getD i zP).l:Nat))
theorem q06{w:World}{B E:Nat}{v:Value}{ps:List Pc}(h:cA 2 w B E v (ps.map pcC))(hp:0<ps.length):∃b off cap,q2z w v b off cap ps/\v.ownBlock=some b:=by
 obtain⟨oa,cap,b,off,hv,hd,hc⟩:=h.sl;rw[qy]at hv hd hc;obtain rfl:=hd.hat hp;refine⟨b,off,cap,⟨hv,hd,hp,fun i hi=>?_,fun i hi=>?_⟩,by rw[hv];rfl⟩
 ·have:=hc i hi 0 (by decide)
  rw[jC]at this;rw[this];simp[List.getD,hi,pcC]
 rw[hc i hi 1 (by decide)];simp[List.getD,hi,pcC]
theorem q2z.gw{S S1:Nat->Prop}{w w':World}{v:Value}{b off cap:Nat}{ps:List Pc}(h:q2z w v b off cap ps)(hg:Gw S w S1 w')(hn:¬S b):q2z w' v b off cap ps:=by
 have hb:=h.hd.hblk h.pos;exact⟨h.v,⟨h.hd.hat,h.hd.hcap,h.hd.hmax,h.hd.hsml,fun h0=>qe (h.hd.hblk h0) hg.size⟩,h.pos,fun i hi=>(hg.cell hb hn).trans (h.c0 i hi),fun i hi=>(hg.cell hb hn).trans (h.c1 i hi)⟩
theorem q2z.up{w w':World}{v:Value}{b off cap:Nat}{ps:List Pc}(h:q2z w v b off cap ps)(hb:Below w.heap.size w w'):q2z w' v b off cap ps:=h.gw (dD (fun _=>False) hb) id
theorem xM{w:World}{v:Value}{b off cap:Nat}{ps:List Pc}(h:q2z w v b off cap ps):
  ∀(W:World) (i:Nat),i<ps.length->(Instr.indexAt 231 (.slice (some ⟨b,off,none⟩) ps.length cap) (.int .i64 i)).run prog W=.ok (.pointer (some ⟨b,off+i*2,none⟩)) W:=fun W i hi=>by
 have:=gY (P:=prog) 2 231 221 underlying231 (by kernel_rfl) h.hd W .i64 i (by omega) (by omega);simpa using this
theorem q8p{w:World}{S:Nat->Prop}{g q:Nat}{s:St}{F:Int}{v:Value}{b off cap:Nat}{ps:List Pc}(h:MkT w S g q s F)(hl:s.e.length<=9000)(ht:tot s.e+ps.length<=800000)(hps:q2z w v b off cap ps)(hbn:¬S b)(hrg:∀i,i<ps.length->(ps.getD i zP).f<s.e.length/\(ps.getD i zP).l<s.e.length)(n m:Nat)(hn:n=(xC ps).f)(hm:m=(xC ps).l):
  Calls prog 176 #[.pointer (some ⟨g,0,none⟩),v] w fun e w'=>e=.returned (.agg #[.int .i64 n,.int .i64 m])/\∃S',MkT w' S' g q (iB ps ps.length s) F/\Gw S w S' w':=by
 have hgq:=h.gq;have hno:=h.no (qb _);have qjk:=hps.hd.hblk hps.pos;have qbs:=hps.pos;obtain rfl:=hps.v;have hix:=xM hps;have hmx:=hps.hd.len;have HM:=qa h;have HPS:=qa hps;have HRG:=qa hrg;have HN:=qa hn;have HMM:=qa hm;have HL:=qa hl;have HTT:=qa ht;have HCL:=qa (o0 ps s);have HCT:=qa (xD ps s);clear h hps hrg hn hm hl ht;go_enter func176,ntmps176;go_wp2
 go_loopg [9] (ps.length) (fun gk iv wr=>∃(j:Nat) (Sr:Nat->Prop),iv=.int .i64 j/\j<=ps.length/\MkT wr Sr g q (iB ps j s) F/\Gw S w Sr wr/\q2z wr (.slice (some ⟨b,off,none⟩) ps.length cap) b off cap ps/\¬Sr b/\LB wr Sr w.heap.size 0 0/\gk=ps.length-j)
 case atStart=>exact⟨0,S,rfl,qd _,HM.o.up (aA _ _),dD S (aA _ _),HPS.o.up (aA _ _),hbn,⟨fE w 0 0,hno⟩,rfl⟩
 case round=>
  obtain⟨j,Sr,rfl,hj,hm,hgw,qdK,hnb,hlb,rfl⟩:=hrel;have HM1:=qa hm;have HG1:=qa hgw;have HP1:=qa qdK;have HB1:=qa hlb;have HNB:=qa hnb;clear hm hgw qdK hlb hnb HM HPS;by_cases hlt:j<ps.length
  ·obtain⟨pj,hpj⟩:∃p,p=ps.getD j zP:=⟨_,rfl⟩
   have HCE:Hid (∀c',c'<2->wr.cell? ⟨b,off+j*2+c',none⟩=some ((#[.int .i64 (pj.f:Nat),.int .i64 (pj.l:Nat)]:Array Value).getD c' undef)):=qa (fun c' h=>by
    rw[hpj];rcases(show c'=0\/c'=1 by omega)with rfl|rfl
    ·exact HP1.o.c0 j hlt
    exact HP1.o.c1 j hlt)
   have hrg:=HRG.o j hlt;rw[<-hpj]at hrg;have hcl:=HCL.o j;have hct:=HCT.o j;have hl:=HL.o;have htt:=HTT.o;have HPJ:=qa hpj;clear hpj;cases j with
   |zero=>
    have qeI:=fun W=>hix W 0 qbs;clear hix
    go_wp2_with(refine aH rfl 221 _ rfl b (off+0*2) 2 rfl _ _ HCE.o rfl underlying221 rfl (by kernel_rfl) ?_)
    go_roundg (ps.length-1)
    case measure=>omega
    case rel=>
     exact⟨1,Sr,rfl,by omega,HM1.o.up (aA _ _),HG1.o.up (aA _ _),HP1.o.up (aA _ _),HNB.o,HB1.o.up (aA _ _),rfl⟩
   |succ j=>
    have qcq:∀W,(Instr.indexAt 231 (.slice (some ⟨b,off,none⟩) ps.length cap) (.int .i64 ((j:Int)+1))).run prog W=.ok (.pointer (some ⟨b,off+(j+1)*2,none⟩)) W:=fun W=>by have:=hix W (j+1) hlt;simpa using this
    have qbi:=fun W=>hix W j (by omega);obtain⟨pi,hpi⟩:∃p,p=ps.getD j zP:=⟨_,rfl⟩;have qiA:=HRG.o j (by omega);rw[<-hpi]at qiA;have hci:=HP1.o.c1 j (by omega);rw[<-hpi]at hci;have hbr:=HP1.o.hd.hblk HP1.o.pos;have HPI:=qa hpi;have HCS:Hid (iB ps (j+2) s=d6 pi.l pj.f (iB ps (j+1) s)):=qa (by rw[HPI.o,HPJ.o];simp[iB,iff]);have hsr:=HG1.o.size;clear hix hpi
    go_wp2_with(refine aH rfl 221 _ rfl b (off+(j+1)*2) 2 rfl _ _ HCE.o rfl underlying221 rfl (by kernel_rfl) ?_)
    have HL6:Hid (LB (wr.alloc (.cells #[.int .i64 (pj.f:Nat),.int .i64 (pj.l:Nat)] 221)) Sr wr.heap.size pj.f pj.l):=qa ⟨fE wr _ _,HM1.o.no (qb _)⟩;have HM2:=qa (HM1.o.up (aA wr (.cells #[.int .i64 (pj.f:Nat),.int .i64 (pj.l:Nat)] 221)));have HG2:=qa (HG1.o.up (aA wr (.cells #[.int .i64 (pj.f:Nat),.int .i64 (pj.l:Nat)] 221)));have HP2:=qa (HP1.o.up (aA wr (.cells #[.int .i64 (pj.f:Nat),.int .i64 (pj.l:Nat)] 221)));have HB2:=qa (HB1.o.up (aA wr (.cells #[.int .i64 (pj.f:Nat),.int .i64 (pj.l:Nat)] 221)));have qj8:=HP2.o.c1 j (by omega);rw[<-HPI.o]at qj8;have hb2:=HP2.o.hd.hblk qbs;clear hci hbr HM1 HG1 HP1 HB1 HCE;generalize wr.heap.size=p6 at*;generalize wr.alloc (.cells #[.int .i64 (pj.f:Nat),.int .i64 (pj.l:Nat)] 221)=w2 at*;have hc4:=HM2.o.f4;have hgl:=HM2.o.glt;have h60:=HL6.o.box.c0;have h6l:=HL6.o.box.lt;refine aT [0,1,2,3,4,5,6,7,8,9,10,11] [] [12] (by kernel_rfl) (by kernel_rfl) ?_;simp only[pk]
    repeat(go_big_quiet_step (fail))
    refine wpQuiet_nil ?_;unfold aG;unfold aG
    go_wp2_with((with_reducible go_at_call 170);refine(nN (HM2.o.up (aR _)) pi.l pj.f (by omega) (by omega) (by omega)).mono ?_;rintro en w3 ⟨rfl,S3,hm,hg⟩;have HM3:=qa hm;have HG3:=qa ((HG2.o.up (aR _)).trans hg);have HP3:=qa ((HP2.o.up (aR _)).gw hg HNB.o);(have qjU:=qa (hg.out (qe hb2 (aR _).size) HNB.o));have HB3:=qa ((HB2.o.up (aR _)).gw hg);clear hm hg)
    refine⟨trivial,?_⟩;unfold aG;go_wp2
    go_roundg (ps.length-(j+2))
    case measure=>omega
    case rel=>
     exact⟨j+2,S3,by go_num,by omega,by rw[HCS.o];exact HM3.o,HG3.o,HP3.o,qjU.o,HB3.o,rfl⟩
  have hje:j=ps.length:=by omega
  subst hje;have qjc:=HP1.o.c0 0 qbs;have qjb:=HP1.o.c1 (ps.length-1) (by omega);have hnv:((ps.getD 0 zP).f:Int)=n:=by rw[HN.o];rfl
  have hmv:((ps.getD (ps.length-1) zP).l:Int)=m:=by rw[HMM.o];rfl
  rw[hnv,Nat.zero_mul,jC]at qjc;rw[hmv]at qjb;have hbr:=HP1.o.hd.hblk qbs;have qeI:∀W,(Instr.indexAt 231 (.slice (some ⟨b,off,none⟩) ps.length cap) (.int .i64 0)).run prog W=.ok (.pointer (some ⟨b,off,none⟩)) W:=fun W=>by have:=hix W 0 qbs;simpa using this
  have qkM:∀W,(Instr.indexAt 231 (.slice (some ⟨b,off,none⟩) ps.length cap) (.int .i64 ((ps.length:Int)-1))).run prog W=.ok (.pointer (some ⟨b,off+(ps.length-1)*2,none⟩)) W:=fun W=>by
   have:=hix W (ps.length-1) (by omega);rwa [show((ps.length-1:Nat):Int)=(ps.length:Int)-1 by omega]at this
  have P4a:=HB1.o.box.c0;have P4b:=HB1.o.box.c1;have P4l:=HB1.o.box.lt;have P4f:=HB1.o.box.free 0;have P4g:=HB1.o.box.free 1;have HST:=qa ((HB1.o.box.up (aR _)).set n m);clear hix hnv hmv;go_wp2;refine aT [0,1,2,3,4,5,6,7,8,9,10,11] [] [12] (by kernel_rfl) (by kernel_rfl) ?_;simp only[pk]
  repeat(go_big_quiet_step (fail))
  refine wpQuiet_nil ?_;unfold aG;unfold aG;go_wp2;refine⟨trivial,?_⟩;unfold aG;go_wp2;refine cE rfl rfl rfl HST.o.1.load ?_;exact⟨rfl,Sr,(HM1.o.up (aR _)).keep HST.o.2 HB1.o.no (by omega),(HG1.o.up (aR _)).new HST.o.2 (qb _)⟩
end Go.Cm
namespace Go.Cm
section
variable {s : cX} {alt : PS → List Nd × PS} (hA : ∀ z, z.p ≤ s.length → Stp s z (alt z).2)
include hA
theorem q3i{z:PS}{c:UInt8}(h:nxR s z=some c):Stp s z (yV s alt z).2/\((yV s alt z).2.e≠0\/z.p<(yV s alt z).2.p):=by
 have hz:=(dE h).2.1;have h1:=iF h;have hz1:=h1.len (jn hz);have e1:(bI z).p=z.p+1:=rfl;unfold yV;simp only;split
 ·exact⟨(uM h).1,.inr (uM h).2⟩
 split
 ·have h2:=h1.trans (hA _ hz1)
  have h3:=h2.trans (eR s 41 _);have hl:=((hA _ hz1).trans (eR s 41 _)).le;split
  ·exact⟨h3,.inr (by show z.p<(b7 s 41 (alt (bI z)).2).2.p;omega)⟩
  exact⟨h3.trans (fG s (by decide) (jn hz) _),.inr (by simp only[eC];omega)⟩
 split
 ·have h2:=q3h (s:=s) (frm:=z.p) (jn hz) hz1
  exact⟨h1.trans h2,.inr (by have:=h2.le;show z.p<(B1 s z.p (bI z)).2.p;omega)⟩
 split
 ·exact⟨h1,.inr (qR _)⟩
 split
 ·exact⟨fG s (by decide) (jn hz) z,.inl (cH z (by decide))⟩
 exact⟨h1,.inr (qR _)⟩
omit hA in
theorem sW:∀(f:Nat) (l:List Nd) (z:PS),Stp s z (rT s f l z).2
 |0,_,z=>Stp.refl s z
 |f+1,l,z=>by
  unfold rT;simp only;split
  ·rename_i h;exact(iF (r9 h (by decide))).trans (sW f _ _)
  split
  ·rename_i h;exact(iF (r9 h (by decide))).trans (sW f _ _)
  split
  ·rename_i h;exact(iF (r9 h (by decide))).trans (sW f _ _)
  split
  ·rename_i h;exact(X4 (r9 h (by decide))).trans (sW f _ _)
  exact Stp.refl s z
theorem yC{z:PS}{c:UInt8}(h:nxR s z=some c):Stp s z (vT s alt z).2/\((vT s alt z).2.e≠0\/z.p<(vT s alt z).2.p):=by
 obtain⟨h1,h2⟩:=q3i hA h;have h3:=sW (s:=s) (s.length+1) (yV s alt z).1 (yV s alt z).2;refine⟨h1.trans h3,?_⟩;rcases h2 with h2|h2
 ·left;show(rT s (s.length+1) (yV s alt z).1 (yV s alt z).2).2.e≠0;rw[h3.er h2];exact h2
 right;exact qe h2 h3.le
omit hA in
theorem X6{z:PS}(h:inR s z=true):∃c,nxR s z=some c/\c≠124/\c≠41:=by
 unfold inR at h;cases hn:nxR s z with
 |none=>rw[hn]at h;cases h
 |some c=>rw[hn]at h;simp only[qG,jk]at h;exact⟨c,rfl,h⟩
theorem I4:∀(f:Nat) (l:List (List Nd)) (z:PS),Stp s z (yB s alt f l z).2
 |0,_,z=>Stp.refl s z
 |f+1,l,z=>by
  unfold yB;split
  ·rename_i h
   obtain⟨c,hc,-⟩:=X6 h;exact(yC hA hc).1.trans (I4 f _ _)
  exact Stp.refl s z
theorem yD(z:PS):Stp s z (fJ s alt z).2:=I4 hA _ _ z
theorem I5:∀(f:Nat) (l:List (List Nd)) (z:PS),Stp s z (m7 s alt f l z).2
 |0,_,z=>Stp.refl s z
 |f+1,l,z=>by
  unfold m7;split
  ·exact((eR s 124 z).trans (yD hA _)).trans (I5 f _ _)
  exact Stp.refl s z
end
theorem nD(s:cX):∀(f:Nat) (z:PS),Stp s z (lB s f z).2
 |0,z=>Stp.refl s z
 |f+1,z=>(yD (fun z _=>nD s f z) z).trans (I5 (fun z _=>nD s f z) _ _ _)
def iJ(l:List (List Nd)):Nat:=l.flatten.length
theorem oI(l:List (List Nd))(x:List Nd):iJ (l++[x])=iJ l+x.length:=by simp[iJ]
theorem pH(x:Nd)(l:List (List Nd)):(dM x l).length=iJ l+1:=by simp[dM,iJ]
theorem q3j(kd:Int):∀l:List (List Nd),(m5 kd l).length<=iJ l+1
 |[]=>by simp[m5,dM,iJ]
 |[l]=>by simp[m5,iJ]
 |a::b::l=>by simp[m5,dM,iJ]
theorem q0E(kd:Int)(l:List Nd):(m5 kd [l]).length=l.length:=rfl
structure Sml(s:cX)(z:PS)(r:List Nd×PS):Prop where
 lt:r.1.length+2*z.p+1<=2*r.2.p\/(r.1.length=0/\r.2.e≠0)
section
variable {s : cX} {alt : PS → List Nd × PS} (hA : ∀ z, z.p ≤ s.length → Stp s z (alt z).2) (hL : ∀ z, z.p ≤ s.length → (alt z).1.length + 2 * z.p ≤ 2 * (alt z).2.p + 1)
include hA hL
omit hA in
theorem X7{z:PS}{c:UInt8}(h:nxR s z=some c):Sml s z (yV s alt z):=by
 have hz:=(dE h).2.1;have h1:=iF h;have hz1:=h1.len (jn hz);have e1:(bI z).p=z.p+1:=rfl;refine⟨?_⟩;unfold yV;simp only;split
 ·left;have:=(uM h).2;show 1+2*z.p+1<=2*(pG s z).2.p;omega
 split
 ·left
  have hl:=hL _ hz1;have ht:=(eR s 41 (alt (bI z)).2).le;split
  ·show(alt (bI z)).1.length+2*z.p+1<=2*(b7 s 41 (alt (bI z)).2).2.p;omega
  simp only[eC];omega
 split
 ·left
  have h2:=q3h (s:=s) (frm:=z.p) (jn hz) hz1;have:=h2.le;show 1+2*z.p+1<=2*(B1 s z.p (bI z)).2.p;omega
 split
 ·left;show 1+2*z.p+1<=2*(z.p+1);omega
 split
 ·right;exact⟨rfl,cH z (by decide)⟩
 left;show 1+2*z.p+1<=2*(z.p+1);omega
omit hA hL in
theorem q0F:∀(f:Nat) (l:List Nd) (z0 z:PS),(l.length+2*z0.p+1<=2*z.p\/(l.length=0/\z.e≠0))->Sml s z0 (rT s f l z)
 |0,_,_,_,h=>⟨h⟩
 |f+1,l,z0,z,h=>by
  have step:∀(x:Nd) (z1:PS) (c:UInt8),nxR s z=some c->z.p<z1.p->Sml s z0 (rT s f (dM x [l]) z1):=fun x z1 c hc hlt=>by
   refine q0F f _ z0 z1 (.inl ?_);rw[pH];have:iJ [l]=l.length:=by simp[iJ]
   rcases h with h|h
   ·omega
   exact absurd (dE hc).1 h.2
  unfold rT;simp only;split
  ·rename_i g;exact step _ _ _ (r9 g (by decide)) (qR _)
  split
  ·rename_i g;exact step _ _ _ (r9 g (by decide)) (qR _)
  split
  ·rename_i g;exact step _ _ _ (r9 g (by decide)) (qR _)
  split
  ·rename_i g;exact step _ _ _ (r9 g (by decide)) (q3g (r9 g (by decide)))
  exact⟨h⟩
omit hA in
theorem X8{z:PS}{c:UInt8}(h:nxR s z=some c):Sml s z (vT s alt z):=q0F _ _ _ _ (X7 hL h).lt
theorem I6:∀(f:Nat) (l:List (List Nd)) (z0 z:PS),(iJ l+l.length+2*z0.p<=2*z.p\/(iJ l+l.length+2*z0.p<=2*z.p+1/\z.e≠0))->
  iJ (yB s alt f l z).1+(yB s alt f l z).1.length+2*z0.p<=2*(yB s alt f l z).2.p+1
 |0,_,_,_,h=>by
  rcases h with h|h
  ·exact Nat.le_succ_of_le h
  exact h.1
 |f+1,l,z0,z,h=>by
  unfold yB;split
  ·rename_i g
   obtain⟨c,hc,-⟩:=X6 g;have hr:=(X8 hL hc).lt;have hs:=(yC hA hc).1.le;refine I6 f _ z0 _ ?_;rw[oI,qi,qB];rcases h with h|h
   ·rcases hr with hr|hr
    ·left;omega
    right;exact⟨by omega,hr.2⟩
   exact absurd (dE hc).1 h.2
  rcases h with h|h
  ·exact Nat.le_succ_of_le h
  exact h.1
theorem X9(z:PS):(fJ s alt z).1.length+2*z.p<=2*(fJ s alt z).2.p+1:=by
 have h:=I6 hA hL (s.length+1) [] z z (.inl (by simp[iJ]));have hle:=(yD hA z).le;have e:(fJ s alt z).2=(yB s alt (s.length+1) [] z).2:=rfl;have e1:(fJ s alt z).1=m5 3 (yB s alt (s.length+1) [] z).1:=rfl;rw[e]at hle;rw[e1,e];generalize yB s alt (s.length+1) [] z=r at*;obtain⟨l,z'⟩:=r
 dsimp only at*
 match l,h with
 |[],_=>simp only[m5,dM,qx,List.flatten_nil,qK];omega
 |[x],h=>rw[q0E];simp only[iJ,List.flatten_cons,List.flatten_nil,j4,qx,qK]at h;omega
 |a::b::l,h=>
  have:=q3j 3 (a::b::l);simp only[qx]at h;omega
theorem I7:∀(f:Nat) (l:List (List Nd)) (z0 z:PS),iJ l+l.length+2*z0.p<=2*z.p+2->
  iJ (m7 s alt f l z).1+(m7 s alt f l z).1.length+2*z0.p<=2*(m7 s alt f l z).2.p+2
 |0,_,_,_,h=>h
 |f+1,l,z0,z,h=>by
  unfold m7;split
  ·rename_i g
   obtain⟨hc,ha⟩:=sV g;refine I7 f _ z0 _ ?_;rw[oI,qi,qB,ha];have:=X9 hA hL (bI z);have e:(bI z).p=z.p+1:=rfl;omega
  exact h
end
theorem uN(s:cX):∀(f:Nat) (z:PS),(lB s f z).1.length+2*z.p<=2*(lB s f z).2.p+1
 |0,z=>by show 0+2*z.p<=2*z.p+1;omega
 |f+1,z=>by
  have hA:=fun z (_:z.p<=s.length)=>nD s f z;have hL:=fun z (_:z.p<=s.length)=>uN s f z;have hc:=X9 hA hL z;have h:=I7 hA hL (s.length+1) [(fJ s (lB s f) z).1] z (fJ s (lB s f) z).2 (by simp only[iJ,List.flatten_cons,List.flatten_nil,j4,qB];omega)
  have hn:(m7 s (lB s f) (s.length+1) [(fJ s (lB s f) z).1] (fJ s (lB s f) z).2).1≠[]:=by
   have:∀(g:Nat) (l:List (List Nd)) (z:PS),l≠[]->(m7 s (lB s f) g l z).1≠[]:=by
    intro g
    induction g with
    |zero=>intro l z h;exact h
    |succ g ih=>
     intro l z h;unfold m7;split
     ·exact ih _ _ (by simp)
     exact h
   exact this _ _ _ (by simp)
  show(m5 4 (m7 s (lB s f) (s.length+1) [(fJ s (lB s f) z).1] (fJ s (lB s f) z).2).1).length+2*z.p<=2*(m7 s (lB s f) (s.length+1) [(fJ s (lB s f) z).1] (fJ s (lB s f) z).2).2.p+1;generalize m7 s (lB s f) (s.length+1) [(fJ s (lB s f) z).1] (fJ s (lB s f) z).2=r at*;obtain⟨l,z'⟩:=r
  dsimp only at*
  match l,h,hn with
  |[x],h,_=>rw[q0E];simp only[iJ,List.flatten_cons,List.flatten_nil,j4,qx,qK]at h;omega
  |a::b::l,h,_=>
   have:=q3j 4 (a::b::l);simp only[qx]at h;omega
end Go.Cm
namespace Go.Cm
def rU:List Nd->List Bool
 |[]=>[]
 |x::r=>
  let k:=(rU r).take x.n.toNat
  (if x.kd=2\/x.kd=5\/x.kd=7 then true else if x.kd=3\/x.kd=6 then k.all id else if x.kd=4 then k.any id else if x.kd=8 then k.all id||decide (x.lo=0)else false)::(rU r).drop x.n.toNat
def q5f(l:List Nd):Bool:=decide (Chk l)&&(rU l).headD false
def q8F(c:UInt8):Bool:=decide (97<=c.toNat)&&decide (c.toNat<=122)
def B2(c:UInt8):Bool:=q8F c||(decide (48<=c.toNat)&&decide (c.toNat<=57))||c==95
def pI(c:UInt8):Bool:=c==32||c==9||c==13
def q1I(c:UInt8):Bool:=c != 10
def fK(p:UInt8->Bool)(s:cX):Nat:=(s.takeWhile p).length
def q1J(s:cX):Bool:= !s.isEmpty&&(q8F (s.headD 0)&&(decide (fK B2 s=s.length)&&decide (s.length<=16)))
def mM(s:cX):cX:=(s.reverse.dropWhile pI).reverse
abbrev Rul:=cX×cX
def uO(t:cX)(at_:Nat):List (Nat×Nat):=if(iY t).2.1≠0 then [(4,at_),((iY t).2.1,(iY t).2.2)]else if q5f (iY t).1 then [(27,at_)]else []
def pT(l:List Rul)(s:cX)(at_:Nat):List Rul×List (Nat×Nat):=
 let fr:=fK pI s
 let rest:=s.drop fr
 if rest=[]\/rest.headD 0=35 then(l,[])
 else
  let name:=rest.take (fK B2 rest)
  if q1J name=false then(l,[(20,at_+fr)])
  else
   let tq:=fr+name.length
   let to2:=tq+fK pI (s.drop tq)
   if to2=s.length\/s.getD to2 0≠61 then(l,[(4,at_+to2)])
   else if l.any (fun x=>x.1==name)then(l,[(19,at_+fr)])
   else if l.length=32 then(l,[(3,at_+fr)])
   else
    let to4:=to2+1+fK pI (s.drop (to2+1))
    let b:=uO (mM (s.drop to4)) (at_+to4)
    if b≠[]then(l,b)else(l++[(name,mM (s.drop to4))],[])
def uP(s:cX):Nat->Nat->List Rul->List Rul×List (Nat×Nat)
 |0,_,l=>(l,[])
 |f+1,at_,l=>
  if at_<s.length then
   let n:=fK q1I (s.drop at_)
   let r:=pT l ((s.drop at_).take n) at_
   if r.2≠[]then([],r.2)else uP s f (at_+n+1) r.1
  else if l=[]then([],[(17,s.length)])else(l,[])
def eI(s:cX):List Rul×List (Nat×Nat):=if 8192<s.length then([],[(3,8192)])else uP s (s.length+1) 0 []
end Go.Cm
namespace Go.Cm
open Go.RowKit Go.Proofs
theorem q8G(s:ByteArray)(i:Nat):s.get! i=(bys s).getD i 0:=by
 show s.data[i]! =_;simp[bys,List.getD];cases h:s.data[i]? <;>simp[h,getElem!_def]
 rfl
theorem q1K{s:ByteArray}{pos:Nat}(hp:((bys s).getD pos 0).toNat<128):Utf8.decode s pos=(((bys s).getD pos 0).toNat,1):=by
 simp only[Utf8.decode,jC,q8G,hp,jG]
theorem q3k{s:ByteArray}{pos:Nat}(h:pos<s.size)(hp:128<=((bys s).getD pos 0).toNat):128<=(Utf8.decode s pos).1/\1<=(Utf8.decode s pos).2/\∀j,j<(Utf8.decode s pos).2->pos+j<s.size/\128<=((bys s).getD (pos+j) 0).toNat:=by
 have hn:¬((bys s).getD pos 0).toNat<128:=by omega
 have k0:∀j,j<1->pos+j<s.size/\128<=((bys s).getD (pos+j) 0).toNat:=fun j hj=>by
  obtain rfl:j=0:=by omega
  exact⟨h,hp⟩
 have kc:∀k,(decide (pos+k<s.size)&&((bys s).getD (pos+k) 0).toNat/64==2)=true->pos+k<s.size/\128<=((bys s).getD (pos+k) 0).toNat:=fun k hk=>by
  simp only[qG,jk,jY]at hk;exact⟨hk.1,by omega⟩
 simp only[Utf8.decode,jC,q8G,hn,jp];split
 ·rename_i h1
  simp only[qG]at h1;have c1:=kc 1 (by simpa using h1.2);split
  ·rename_i h2
   refine⟨h2,(by show(1:Nat)<=2;decide),fun j hj=>?_⟩;obtain rfl|rfl:j=0\/j=1:=by simp only at hj;omega
   ·exact⟨h,hp⟩
   exact c1
  exact⟨by decide,by decide,k0⟩
 split
 ·rename_i h1
  simp only[qG]at h1;have c1:=kc 1 (by simpa using h1.1.2);have c2:=kc 2 (by simpa using h1.2);split
  ·rename_i h2
   simp only[qG,jk]at h2;refine⟨by have:=h2.1;simp only;omega,(by show(1:Nat)<=3;decide),fun j hj=>?_⟩;obtain rfl|rfl|rfl:j=0\/j=1\/j=2:=by simp only at hj;omega
   ·exact⟨h,hp⟩
   ·exact c1
   exact c2
  exact⟨by decide,by decide,k0⟩
 split
 ·rename_i h1
  simp only[qG]at h1;have c1:=kc 1 (by simpa using h1.1.1.2);have c2:=kc 2 (by simpa using h1.1.2);have c3:=kc 3 (by simpa using h1.2);split
  ·rename_i h2
   simp only[qG,jk]at h2;refine⟨by have:=h2.1;simp only;omega,(by show(1:Nat)<=4;decide),fun j hj=>?_⟩;obtain rfl|rfl|rfl|rfl:j=0\/j=1\/j=2\/j=3:=by simp only at hj;omega
   ·exact⟨h,hp⟩
   ·exact c1
   ·exact c2
   exact c3
  exact⟨by decide,by decide,k0⟩
 exact⟨by decide,by decide,k0⟩
theorem I8{p:UInt8->Bool}:∀{l:cX} {n:Nat},(∀j,j<n->p (l.getD j 0)=true)->n<=l.length->(n=l.length\/p (l.getD n 0)=false)->fK p l=n
 |[],n,_,h2,_=>by simp only[qK,Nat.le_zero]at h2;subst h2;rfl
 |a::l,0,_,_,h3=>by
  have h4:p a=false:=by
   rcases h3 with h3|h3
   ·simp at h3
   simpa using h3
  simp[fK,h4]
 |a::l,n+1,h1,h2,h3=>by
  have h4:p a=true:=by simpa using h1 0 (Nat.succ_pos _)
  have ih:=I8 (p:=p) (l:=l) (n:=n) (fun j hj=>by simpa using h1 (j+1) (by omega)) (by simpa using h2) (by simpa using h3);unfold fK at ih⊢;rw[List.takeWhile_cons,qt h4,qx,ih]
theorem q77(F:FuncId)(hF:∀args w,(callFunc F args).run prog w=.ok (.enter F args) w)(p:UInt8->Bool)(hi:Bool)(s:ByteArray)(w:World)
  (HF:∀c:Nat,c<=2147483647->∀W,Calls prog F #[.int .i32 c] W fun e w'=>e=.returned (.bool (if c<128 then p (UInt8.ofNat c)else hi))/\w'=W) (hp:∀b:UInt8,128<=b.toNat->p b=hi):
  Calls prog 53 #[.string s,.func (.func F) #[] #[]] w fun e w'=>e=.returned (.int .i64 (fK p (bys s):Nat))/\∃x,w'=ext w x:=by
 have HFF:=qa HF;have HP:=qa hp;obtain⟨R,hR⟩:∃R,R=fK p (bys s):=⟨_,rfl⟩;rw[<-hR];have HR:=qa hR;clear HF hp hR;go_enter func53,ntmps53;go_wp2
 go_loopg [9] s.size (fun gk _ wr=>∃pos:Nat,pos<=s.size/\wr=w.iter s pos/\Hid (∀j,j<pos->p ((bys s).getD j 0)=true)/\gk=s.size-pos)
 case atStart=>exact⟨0,qd _,rfl,qa (fun j hj=>absurd hj (qz j)),rfl⟩
 case round=>
  obtain⟨pos,qbs,hw,HJ,hgk⟩:=hrel;have HGK:=qa hgk;clear hgk;subst hw;by_cases hlt:pos<s.size
  ·have hnx:∀ty,(Instr.next (.pointer (some ⟨w.heap.size,0,none⟩)) true ty).run prog (w.iter s pos)=_:=fun ty=>run_next_any w s pos ty hlt
   have hle:=decode_le s pos;have HC:=qa (HFF.o (Utf8.decode s pos).1 hle);by_cases hb:((bys s).getD pos 0).toNat<128
   ·have HD:Hid (Utf8.decode s pos=(((bys s).getD pos 0).toNat,1)):=qa (q1K hb)
    have HB:Hid (UInt8.ofNat ((bys s).getD pos 0).toNat=(bys s).getD pos 0):=qa (by simp);rw[HD.o]at hnx HC;simp only[hb,jG,HB.o]at hnx HC;cases hpb:p ((bys s).getD pos 0)with
    |true=>
     rw[hpb]at HC
     have HN:Hid (∀j,j<pos+1->p ((bys s).getD j 0)=true):=qa (fun j hj=>by
      rcases Nat.lt_succ_iff_lt_or_eq.1 hj with h|h
      ·exact HJ.o j h
      rw[h];exact hpb)
     clear HJ hpb HD HB;generalize ((bys s).getD pos 0).toNat=c at*
     go_wp2_with((with_reducible refine(HC.o _).mono ?_);rintro e w2 ⟨rfl,rfl⟩)
     go_roundg (s.size-(pos+1))
     case measure=>rw[HGK.o];omega
     case rel=>exact⟨pos+1,by omega,rfl,HN,rfl⟩
    |false=>
     rw[hpb]at HC;have HE:Hid (R=pos):=qa (by rw[HR.o];exact I8 HJ.o (by rw[aP];exact qbs) (.inr hpb));clear HJ hpb HD HB;generalize ((bys s).getD pos 0).toNat=c at*
     exact ZmF4
   obtain⟨h1,h2,h3⟩:=q3k hlt (by omega);have hn1:¬(Utf8.decode s pos).1<128:=by omega
   simp only[hn1,jp]at HC;have H3:=qa h3;have HPB:=qa (HP.o ((bys s).getD pos 0) (by omega))
   have hwd:pos+(Utf8.decode s pos).2<=s.size:=by
    have:=(h3 ((Utf8.decode s pos).2-1) (by omega)).1;omega
   clear h3;cases hi with
   |true=>
    have HN:Hid (∀j,j<pos+(Utf8.decode s pos).2->p ((bys s).getD j 0)=true):=qa (fun j hj=>by
     by_cases h:j<pos
     ·exact HJ.o j h
     have:=(H3.o (j-pos) (by omega)).2;rw[show pos+(j-pos)=j by omega]at this;exact HP.o _ this)
    clear HJ H3 HPB hb;generalize (Utf8.decode s pos).1=c at*;generalize (Utf8.decode s pos).2=d at*
    go_wp2_with((with_reducible refine(HC.o _).mono ?_);rintro e w2 ⟨rfl,rfl⟩)
    go_roundg (s.size-(pos+d))
    case measure=>rw[HGK.o];omega
    case rel=>exact⟨pos+d,hwd,rfl,HN,rfl⟩
   |false=>
    have HE:Hid (R=pos):=qa (by rw[HR.o];exact I8 HJ.o (by rw[aP];exact qbs) (.inr HPB.o));clear HJ H3 HPB hb;generalize (Utf8.decode s pos).1=c at*;generalize (Utf8.decode s pos).2=d at*
    exact ZmF4
  obtain rfl:pos=s.size:=by omega
  have HE:Hid (R=s.size):=qa (by rw[HR.o];exact I8 HJ.o (by rw[aP];exact qb _) (.inl (by rw[aP])));have hnx:∀ty,(Instr.next (.pointer (some ⟨w.heap.size,0,none⟩)) true ty).run prog (w.iter s s.size)=_:=fun ty=>run_next_end w s s.size ty hlt;clear HJ;go_wp2;go_ret;rw[HE.o];exact⟨rfl,aI (aA _ _)⟩
theorem q3l(c:Nat)(w:World):Calls prog 90 #[.int .i32 c] w fun e w'=>e=.returned (.bool (decide (97<=c)&&decide (c<=122)))/\w'=w:=by
 by_cases h1:97<=c
 ·by_cases h2:c<=122
  ·have HE:Hid ((decide (97<=c)&&decide (c<=122))=true):=qa (by simp[h1,h2])
   rw[HE.o];go_enter func90,ntmps90;go_wp2;go_ret
   first|exact⟨rfl,rfl⟩|(refine⟨?_,rfl⟩;simp;omega)
  have HE:Hid ((decide (97<=c)&&decide (c<=122))=false):=qa (by simp[h2]);rw[HE.o];go_enter func90,ntmps90;go_wp2;go_ret
  first|exact⟨rfl,rfl⟩|(refine⟨?_,rfl⟩;simp;omega)
 have HE:Hid ((decide (97<=c)&&decide (c<=122))=false):=qa (by simp[h1]);rw[HE.o];go_enter func90,ntmps90;go_wp2;go_ret
 first|exact⟨rfl,rfl⟩|(refine⟨?_,rfl⟩;simp;omega)
def q8e(c:Nat):Bool:=(decide (97<=c)&&decide (c<=122))||((decide (48<=c)&&decide (c<=57))||decide (c=95))
theorem q8H(c:Nat)(w:World):Calls prog 71 #[.int .i32 c] w fun e w'=>e=.returned (.bool (q8e c))/\w'=w:=by
 have HL:=qa (q3l c);have HE:Hid (q8e c=((decide (97<=c)&&decide (c<=122))||((decide (48<=c)&&decide (c<=57))||decide (c=95)))):=qa rfl;rw[HE.o];cases hb:(decide (97<=c)&&decide (c<=122))
 ·rw[hb]at HL
  rw[Bool.false_or];by_cases h1:48<=c/\c<=57
  ·obtain⟨a1,a2⟩:=h1
   rw[show((decide (48<=c)&&decide (c<=57))||decide (c=95))=true by simp[a1,a2]];clear hb;go_enter func71,ntmps71
   exact ZmF0
  by_cases h2:c=95
  ·have h2b:((c:Int)==95)=true:=by rw[h2];rfl
   have h3:48<=c:=by omega
   have h4:¬c<=57:=by omega
   rw[show((decide (48<=c)&&decide (c<=57))||decide (c=95))=true by simp[h2]];clear hb h1 h2;go_enter func71,ntmps71
   exact ZmF0
  have h2b:((c:Int)==95)=false:=by simp;omega
  rw[show((decide (48<=c)&&decide (c<=57))||decide (c=95))=false by simp[h2];omega];by_cases h3:48<=c
  ·have h4:¬c<=57:=fun h=>h1 ⟨h3,h⟩
   clear hb h1 h2;go_enter func71,ntmps71
   exact ZmF0
  clear hb h1 h2;go_enter func71,ntmps71
  exact ZmF0
 rw[hb]at HL;rw[Bool.true_or];clear hb;go_enter func71,ntmps71
 exact ZmF0
theorem q78(c:Nat)(w:World):Calls prog 54 #[.int .i32 c] w fun e w'=>e=.returned (.bool (decide (c≠10)))/\w'=w:=by
 by_cases h:c=10
 ·subst h
  go_enter func54,ntmps54;go_wp2;go_ret
  first|exact⟨rfl,rfl⟩|(refine⟨?_,rfl⟩;simp;omega)
 have hb:((c:Int) != 10)=true:=by simp;omega
 rw[qw h];clear h;go_enter func54,ntmps54;go_wp2;go_ret
 first|exact⟨rfl,rfl⟩|(refine⟨?_,rfl⟩;simp;omega)
theorem q68(c:Nat)(w:World):Calls prog 70 #[.int .i32 c] w fun e w'=>e=.returned (.bool (decide (c=32\/c=9\/c=13)))/\w'=w:=by
 by_cases h1:c=32
 ·subst h1
  go_enter func70,ntmps70;go_wp2;go_ret
  first|exact⟨rfl,rfl⟩|(refine⟨?_,rfl⟩;simp;omega)
 by_cases h2:c=9
 ·subst h2
  clear h1;go_enter func70,ntmps70;go_wp2;go_ret
  first|exact⟨rfl,rfl⟩|(refine⟨?_,rfl⟩;simp;omega)
 by_cases h3:c=13
 ·subst h3
  clear h1 h2;go_enter func70,ntmps70;go_wp2;go_ret
  first|exact⟨rfl,rfl⟩|(refine⟨?_,rfl⟩;simp;omega)
 have b1:((c:Int)==32)=false:=by simp;omega
 have b2:((c:Int)==9)=false:=by simp;omega
 have b3:((c:Int)==13)=false:=by simp;omega
 rw[qu (by omega)];clear h1 h2 h3;go_enter func70,ntmps70;go_wp2;go_ret
 first|exact⟨rfl,rfl⟩|(refine⟨?_,rfl⟩;simp;omega)
theorem q79:∀b:Fin 256,(B2 (UInt8.ofFin b)=q8e b.val/\q1I (UInt8.ofFin b)=decide (b.val≠10)/\pI (UInt8.ofFin b)=decide (b.val=32\/b.val=9\/b.val=13))/\(128<=b.val->B2 (UInt8.ofFin b)=false/\q1I (UInt8.ofFin b)=true/\pI (UInt8.ofFin b)=false):=by decide+kernel
theorem yE(b:UInt8):(B2 b=q8e b.toNat/\q1I b=decide (b.toNat≠10)/\pI b=decide (b.toNat=32\/b.toNat=9\/b.toNat=13))/\(128<=b.toNat->B2 b=false/\q1I b=true/\pI b=false):=q79 b.toFin
theorem I9{c:Nat}(h:c<128):(UInt8.ofNat c).toNat=c:=by simp;omega
theorem q69(s:ByteArray)(w:World):Calls prog 53 #[.string s,.func (.func 71) #[] #[]] w fun e w'=>e=.returned (.int .i64 (fK B2 (bys s):Nat))/\∃x,w'=ext w x:=
 q77 71 (enters_of (P:=prog) func71 (by kernel_rfl) rfl) B2 false s w (fun c _ W=>by
  have:=q8H c W;by_cases h:c<128
  ·rw[qt h,(yE _).1.1,I9 h];exact this
  rw[qr h];rwa [show q8e c=false by unfold q8e;simp;omega]at this) (fun b hb=>((yE b).2 hb).1)
theorem q3m(s:ByteArray)(w:World):Calls prog 53 #[.string s,.func (.func 70) #[] #[]] w fun e w'=>e=.returned (.int .i64 (fK pI (bys s):Nat))/\∃x,w'=ext w x:=
 q77 70 (enters_of (P:=prog) func70 (by kernel_rfl) rfl) pI false s w (fun c _ W=>by
  have:=q68 c W;by_cases h:c<128
  ·rw[qt h,(yE _).1.2.2,I9 h];exact this
  rw[qr h];rwa [qu (by omega)]at this) (fun b hb=>((yE b).2 hb).2.2)
theorem q8I(s:ByteArray)(w:World):Calls prog 53 #[.string s,.func (.func 54) #[] #[]] w fun e w'=>e=.returned (.int .i64 (fK q1I (bys s):Nat))/\∃x,w'=ext w x:=
 q77 54 (enters_of (P:=prog) func54 (by kernel_rfl) rfl) q1I true s w (fun c _ W=>by
  have:=q78 c W;by_cases h:c<128
  ·rw[qt h,(yE _).1.2.1,I9 h];exact this
  rw[qr h];rwa [qw (by omega)]at this) (fun b hb=>((yE b).2 hb).2.1)
end Go.Cm
namespace Go.Cm
theorem uQ(p:UInt8->Bool)(s:cX):fK p s<=s.length:=(List.takeWhile_prefix p).length_le
theorem q6a{p:UInt8->Bool}{c:UInt8}:∀{s:cX},c∈s.takeWhile p->p c=true
 |[],h=>by simp at h
 |d::s,h=>by
  by_cases hd:p d=true
  ·rw[List.takeWhile_cons_of_pos hd]at h
   rcases List.mem_cons.1 h with rfl|h
   ·exact hd
   exact q6a h
  rw[List.takeWhile_cons_of_neg hd]at h;simp at h
theorem q3n{p:UInt8->Bool}{s:cX}{c:UInt8}(h:(s.drop (fK p s)).head?=some c):p c=false:=by
 unfold fK at h
 induction s with
 |nil=>simp at h
 |cons d s ih=>
  by_cases hd:p d=true
  ·rw[List.takeWhile_cons_of_pos hd,qx,List.drop_succ_cons]at h
   exact ih h
  rw[List.takeWhile_cons_of_neg hd]at h;simp only[qK,List.drop_zero,List.head?_cons,jz]at h;subst h;simpa using hd
theorem q5g(s:cX):∃k,mM s=s.take k:=by
 unfold mM;obtain⟨a,ha⟩:=List.dropWhile_suffix (l:=s.reverse) pI;refine⟨(s.reverse.dropWhile pI).length,?_⟩
 have:s=(s.reverse.dropWhile pI).reverse++a.reverse:=by
  have:=qW List.reverse ha;simpa using this.symm
 have hl:((s.reverse.dropWhile pI).reverse).length=(s.reverse.dropWhile pI).length:=by simp
 rw[<-hl];generalize (s.reverse.dropWhile pI).reverse=x at*;rw[this];simp
theorem z8(p:UInt8->Bool)(s:cX):(s.dropWhile p).dropWhile p=s.dropWhile p:=by
 induction s with
 |nil=>rfl
 |cons c s ih=>
  by_cases hc:p c=true
  ·rw[List.dropWhile_cons_of_pos hc];exact ih
  rw[List.dropWhile_cons_of_neg hc,List.dropWhile_cons_of_neg hc]
theorem q3o(s:cX):mM (mM s)=mM s:=by
 unfold mM;rw[List.reverse_reverse,z8]
structure q7a(x:Rul):Prop where
 nm:q1J x.1=true
 ex:∀a,uO x.2 a=[]
 nl:(10:UInt8)∉x.2
 hd:∀c,x.2.head?=some c->pI c=false
 tr:mM x.2=x.2
structure nL(l:List Rul):Prop where
 all:∀x∈l,q7a x
 nd:(l.map (·.1)).Nodup
 len:l.length<=32
theorem nL.nil:nL []:=⟨by simp,by simp,by simp⟩
theorem q5h{t:cX}{a:Nat}(h:uO t a=[])(b:Nat):uO t b=[]:=by
 unfold uO at h⊢;split at h
 ·cases h
 rename_i g;rw[qr g];split at h
 ·cases h
 rename_i g2;rw[qr g2]
theorem nL.snoc{l:List Rul}{x:Rul}(h:nL l)(hx:q7a x)(hn:x.1∉l.map (·.1))(h32:l.length≠32):nL (l++[x]):=by
 refine⟨fun y hy=>?_,?_,?_⟩
 ·rcases List.mem_append.1 hy with hy|hy
  ·exact h.all y hy
  rw[List.mem_singleton.1 hy];exact hx
 ·rw[qD,qF,jq,List.nodup_append]
  exact⟨h.nd,by simp,fun a ha b hb=>by rw[List.mem_singleton.1 hb];intro e;exact hn (e▸ha)⟩
 have:=h.len;rw[qi,qB];omega
theorem q7b{l:List Rul}{s:cX}{a:Nat}(hs:(10:UInt8)∉s)(h:nL l)(he:(pT l s a).2=[]):nL (pT l s a).1/\l.length<=(pT l s a).1.length:=by
 unfold pT at he⊢;simp only at he⊢;split
 ·exact⟨h,qb _⟩
 rename_i g1;rw[qr g1]at he;generalize hname:(s.drop (fK pI s)).take (fK B2 (s.drop (fK pI s)))=name at*;split
 ·rename_i g2;rw[qt g2]at he;cases he
 rename_i g2;rw[qr g2]at he;generalize fK pI s+name.length=tq at*;split
 ·rename_i g3;rw[qt g3]at he;cases he
 rename_i g3;rw[qr g3]at he;split
 ·rename_i g4;rw[qt g4]at he;cases he
 rename_i g4;rw[qr g4]at he;split
 ·rename_i g5;rw[qt g5]at he;cases he
 rename_i g5;rw[qr g5]at he;generalize hto:tq+fK pI (s.drop tq)+1=t3 at*;split
 ·rename_i g6;rw[qt g6]at he;exact absurd he g6
 rename_i g6;have hb:=Classical.not_not.1 g6;obtain⟨k,hk⟩:=q5g (s.drop (t3+fK pI (s.drop t3)))
 have qbf:∀c∈mM (s.drop (t3+fK pI (s.drop t3))),c∈s:=fun c hc=>by
  rw[hk]at hc;exact List.mem_of_mem_drop (List.mem_of_mem_take hc)
 refine⟨h.snoc ⟨by simpa using g2,fun b=>q5h hb b,fun hc=>hs (qbf _ hc),fun c hc=>?_,q3o _⟩ ?_ g5,by simp⟩
 ·dsimp only at hc
  rw[hk]at hc;refine q3n (p:=pI) (s:=s.drop t3) (c:=c) ?_;rw[List.drop_drop];cases k with
  |zero=>simp at hc
  |succ k=>
   rw[List.head?_take]at hc;simpa using hc
 intro hm;apply g4;rw[List.any_eq_true];obtain⟨y,hy,e⟩:=List.mem_map.1 hm;exact⟨y,hy,by simp[e]⟩
theorem q3p{s:cX}:∀(f a:Nat) (l:List Rul),0<f->s.length+1<=a+f->nL l->(uP s f a l).2=[]->nL (uP s f a l).1/\(uP s f a l).1≠[]
 |0,_,_,h0,_,_,_=>absurd h0 (jH 0)
 |f+1,a,l,_,hf,h,he=>by
  unfold uP at he⊢;simp only at he⊢;split
  ·rename_i g
   rw[qt g]at he;generalize hn:fK q1I (s.drop a)=n at*;split
   ·rename_i g2;rw[qt g2]at he;exact absurd he g2
   rename_i g2;rw[qr g2]at he
   have h10:(10:UInt8)∉(s.drop a).take n:=by
    intro hc
    have:(s.drop a).take n=(s.drop a).takeWhile q1I:=by
     rw[<-hn];exact(List.prefix_iff_eq_take.1 (List.takeWhile_prefix q1I)).symm
    rw[this]at hc;have:=q6a hc;simp[q1I]at this
   exact q3p f (a+n+1) _ (by omega) (by omega) (q7b h10 h (Classical.not_not.1 g2)).1 he
  rename_i g;rw[qr g]at he;split
  ·rename_i g2;rw[qt g2]at he;cases he
  exact⟨h,by assumption⟩
theorem q5i{s:cX}(h:(eI s).2=[]):nL (eI s).1/\(eI s).1≠[]:=by
 unfold eI at h⊢;split
 ·rename_i g;rw[qt g]at h;cases h
 rename_i g;rw[qr g]at h;exact q3p _ _ _ (by omega) (by omega) nL.nil h
end Go.Cm
namespace Go.Cm
open Go.RowKit Go.Proofs
structure dJ(w:World)(g:Nat)(s:ByteArray)(z:PS):Prop where
 own:Own w g 88 (.slice (some ⟨g,0,none⟩) 4 4) [.string s,.int .i64 z.p,.int .i64 z.e,.int .i64 z.b]
section
variable {w : World} {g : Nat} {s : ByteArray} {z : PS}
theorem dJ.up{w':World}(h:dJ w g s z)(hb:Below w.heap.size w w'):dJ w' g s z:=⟨h.own.up hb⟩
theorem dJ.lt(h:dJ w g s z):g<w.heap.size:=(h.own.lt g rfl).2
theorem dJ.c0(h:dJ w g s z):w.cell? ⟨g,0,none⟩=some (.string s):=h.own.cell (by simp)
theorem dJ.c1(h:dJ w g s z):w.cell? ⟨g,1,none⟩=some (.int .i64 z.p):=h.own.cell (by simp)
theorem dJ.c2(h:dJ w g s z):w.cell? ⟨g,2,none⟩=some (.int .i64 z.e):=h.own.cell (by simp)
theorem dJ.c3(h:dJ w g s z):w.cell? ⟨g,3,none⟩=some (.int .i64 z.b):=h.own.cell (by simp)
theorem dJ.free(h:dJ w g s z)(c:Nat):w.frozen? ⟨g,c,none⟩=false:=h.own.free c
theorem dJ.set1(h:dJ w g s z)(r:Nat):dJ (w.setCell ⟨g,1,none⟩ (.int .i64 r)) g s ⟨r,z.e,z.b⟩/\w.grownBy (w.setCell ⟨g,1,none⟩ (.int .i64 r)) (some g):=⟨⟨(h.own.store 1 _).1⟩,(h.own.store 1 _).2⟩
end
def nxV(o:Option UInt8):Value:=.tuple #[.int .u8 ((o.getD 0).toNat:Nat),.bool o.isSome]
theorem nxP{w:World}{g:Nat}{s:ByteArray}{z:PS}(h:dJ w g s z):
  Calls prog 40 #[.pointer (some ⟨g,0,none⟩)] w fun e w'=>e=.returned (nxV (nxR (bys s) z))/\∃x,w'=ext w x:=by
 have HB:=qa h;have c0:=h.c0;have c1:=h.c1;have c2:=h.c2;have hg:=h.lt;have hix:=@e6 prog 9 (by kernel_rfl) s z.p;have HX:=qa hix;have HN:Hid (nxR (bys s) z=if z.e=0/\z.p<s.size then some ((bys s).getD z.p 0)else none):=qa (by unfold nxR;rw[aP]);clear h hix;obtain⟨R,hR⟩:∃R,R=nxR (bys s) z:=⟨_,rfl⟩;rw[<-hR]at HN⊢;clear hR;by_cases he:z.e=0
 ·have he':((z.e:Int) != 0)=false:=by simp[he]
  by_cases hp:z.p<s.size
  ·have hix:=fun W=>HX.o hp W
   have hp':¬(z.p:Int)≥(s.size:Int):=by omega
   have HR:Hid (R=some ((bys s).getD z.p 0)):=qa (by rw[HN.o,qt ⟨he,hp⟩]);clear HN HX;generalize (bys s).getD z.p 0=c at*;go_enter func40,ntmps40;go_wp2
   go_quiet (fail)
   go_wp2
   exact ZmF9
  have hp':(z.p:Int)≥(s.size:Int):=by omega
  have HR:Hid (R=none):=qa (by rw[HN.o,qr (fun h=>hp h.2)]);clear HN HX;go_enter func40,ntmps40;go_wp2
  exact ZmF9
 have he':((z.e:Int) != 0)=true:=by
  have:z.e≠0:=he;simpa using this
 have HR:Hid (R=none):=qa (by rw[HN.o,qr (fun h=>he h.1)]);clear HN HX;go_enter func40,ntmps40;go_wp2
 go_quiet (fail)
 go_wp2
 go_ret2
 exact⟨by rw[HR.o];rfl,(aI aJ)⟩
theorem dJ.set23{w:World}{g:Nat}{s:ByteArray}{z:PS}(h:dJ w g s z)(e b:Nat):dJ ((w.setCell ⟨g,2,none⟩ (.int .i64 e)).setCell ⟨g,3,none⟩ (.int .i64 b)) g s ⟨z.p,e,b⟩/\w.grownBy ((w.setCell ⟨g,2,none⟩ (.int .i64 e)).setCell ⟨g,3,none⟩ (.int .i64 b)) (some g):=by
 have h1:=h.own.store 2 (.int .i64 e);have h2:=h1.1.store 3 (.int .i64 b);exact⟨⟨h2.1⟩,aC h1.2 h2.2⟩
theorem uR{w:World}{g:Nat}{s:ByteArray}{z:PS}(h:dJ w g s z)(e a:Nat):
  Calls prog 41 #[.pointer (some ⟨g,0,none⟩),.int .i64 e,.int .i64 a] w fun en w'=>en=.returned (.tuple #[])/\dJ w' g s (bB e a z)/\w.grownBy w' (some g):=by
 have HB:=qa h;have c2:=h.c2;have c3:=h.c3;have hg:=h.lt;have f2:=h.free 2;have f3:=h.free 3;have HS:=qa (h.set23 e a);clear h;by_cases he:z.e=0
 ·have he':((z.e:Int)==0)=true:=by simp[he]
  have HF:Hid (bB e a z=⟨z.p,e,a⟩):=qa (by unfold bB;rw[qt he]);go_enter func41,ntmps41;go_wp2
  go_end0
  rw[HF.o];exact⟨rfl,HS.o.1,HS.o.2⟩
 have he':((z.e:Int)==0)=false:=by
  have:z.e≠0:=he;simpa using this
 have HF:Hid (bB e a z=z):=qa (by unfold bB;rw[qr he]);go_enter func41,ntmps41;go_wp2
 go_end0
 rw[HF.o];exact⟨rfl,HB.o,cW _ _⟩
theorem Y0{w:World}{g:Nat}{s:ByteArray}{z:PS}(h:dJ w g s z)(hs:s.size<=1000000)(c:UInt8):
  Calls prog 64 #[.pointer (some ⟨g,0,none⟩),.int .u8 (c.toNat:Nat)] w fun en w'=>en=.returned (.bool (b7 (bys s) c z).1)/\dJ w' g s (b7 (bys s) c z).2/\w.grownBy w' (some g):=by
 have HB:=qa h;have HN:=qa (nxP h);have hg:=h.lt;clear h;cases hn:nxR (bys s) z with
 |none=>
  have HT:Hid (b7 (bys s) c z=(false,z)):=qa (by unfold b7;rw[hn];rfl);rw[hn]at HN;clear hn;go_enter func64,ntmps64
  exact ZmF1
 |some d=>
  obtain⟨hz0,hzp,-⟩:=dE hn;rw[aP]at hzp;rw[hn]at HN;by_cases hd:d=c
  ·subst hd
   have HT:Hid (b7 (bys s) d z=(true,bI z)):=qa (by unfold b7;rw[qt hn]);clear hn;go_enter func64,ntmps64
   go_wp2_with(go_at_call 40;refine HN.o.mono ?_;rintro e w1 ⟨rfl,hx⟩;(have HB1:=qa (HB.o.up (aB hx)));(have HG1:=qa (aE (aB hx) (some g)));(have c1:=HB1.o.c1);(have f1:=HB1.o.free 1);(have HS:=qa (HB1.o.set1 (z.p+1)));clear hx;unfold nxV)
   go_ret;rw[HT.o];exact⟨rfl,HS.o.1,aC HG1.o HS.o.2⟩
  have HT:Hid (b7 (bys s) c z=(false,z)):=qa (by unfold b7;rw[hn,qr (by simpa using hd)])
  have hne:((c.toNat:Int) != (d.toNat:Int))=true:=by
   rw[bne,kI (fun e=>hd e.symm)];rfl
  have hcd:¬c=d:=fun e=>hd e.symm;have hcn:¬c.toNat=d.toNat:=fun e=>hcd (UInt8.toNat_inj.1 e);clear hn;go_enter func64,ntmps64
  exact ZmF1
theorem Y1(x i:Nat):wdR x i<18446744073709551616:=jT _ (by decide)
theorem P8(x i j:Nat):(wdR x i).testBit j=(decide (j<64)&&x.testBit (64*i+j)):=by
 unfold wdR;rw[jP,Nat.testBit_div_two_pow,Nat.add_comm]
theorem q7c(x y i:Nat):wdR (x|||y) i=wdR x i|||wdR y i:=by
 refine jl fun j=>?_;rw[Nat.testBit_or,P8,P8,P8,Nat.testBit_or];cases decide (j<64)<;>simp
theorem q6b(c i:Nat):wdR (2^c) i=if c/64=i then 2^(c%64)else 0:=by
 refine jl fun j=>?_;rw[P8,a7];split
 ·rename_i h
  rw[a7];by_cases hj:j<64
  ·rw[qw hj,j3]
   by_cases h2:c=64*i+j
   ·rw[qw h2,qw (by omega)]
   rw[qu h2,qu (by omega)]
  rw[qu hj,jL,qu (by omega)]
 rename_i h;rw[Nat.zero_testBit];by_cases hj:j<64
 ·rw[qw hj,j3,qu (by omega)]
 rw[qu hj,jL]
theorem q8J{x:Nat}(hx:x<2^256){i:Nat}(hi:i<4):wdR (mP x) i=18446744073709551615-wdR x i:=by
 refine jl fun j=>?_;have hw:=Y1 x i;rw[P8,show 18446744073709551615-wdR x i=2^64-(wdR x i+1) by omega,jW hw,P8];unfold mP;rw[show 2^256-1-x=2^256-(x+1) by omega,jW hx];by_cases hj:j<64
 ·rw[qw hj,qw (show 64*i+j<256 by omega)];simp
 rw[qu hj];simp
theorem q6c{x y:Nat}(hx:x<2^256)(hy:y<2^256)(h:∀i,i<4->wdR x i=wdR y i):x=y:=by
 refine jl fun k=>?_;by_cases hk:k<256
 ·have:=qW (fun z=>z.testBit (k%64)) (h (k/64) (by omega))
  simp only[P8,qw (jT k (show 64>0 by decide)),j3]at this;rwa [show 64*(k/64)+k%64=k by omega]at this
 have h1:2^256<=2^k:=qg (by decide) (by omega);rw[Nat.testBit_lt_two_pow (qe hx h1),Nat.testBit_lt_two_pow (qe hy h1)]
theorem yF(i:Nat):wdR 0 i=0:=by simp[wdR]
theorem eP{x y:Nat}(hx:x<2^256)(hy:y<2^256):x|||y<2^256:=Nat.or_lt_two_pow hx hy
theorem oJ(x:Nat):mP x<2^256:=by
 unfold mP;have:0<2^256:=Nat.two_pow_pos 256;omega
def Y2(a b k:Nat):Nat:=(List.range k).foldl (fun x c=>if a<=c/\c<=b then x|||2^c else x) 0
theorem yG(a b k:Nat):Y2 a b (k+1)=if a<=k/\k<=b then Y2 a b k|||2^k else Y2 a b k:=by
 unfold Y2;rw[jw,qV];rfl
theorem J0(a b:Nat):∀k i,(Y2 a b k).testBit i=(decide (i<k)&&decide (a<=i/\i<=b))
 |0,i=>by simp[Y2]
 |k+1,i=>by
  rw[yG];have ih:=J0 a b k i;by_cases h:a<=k/\k<=b
  ·rw[qt h,Nat.testBit_or,ih,a7]
   by_cases hik:i=k
   ·subst hik;simp[h]
   by_cases h1:i<k
   ·rw[qw h1,qw (show i<k+1 by omega),qu (show¬k=i by omega)];simp
   rw[qu h1,qu (show¬i<k+1 by omega),qu (show¬k=i by omega)];simp
  rw[qr h,ih];by_cases hik:i=k
  ·subst hik;rw[qu h];simp
  by_cases h1:i<k
  ·rw[qw h1,qw (show i<k+1 by omega)]
  rw[qu h1,qu (show¬i<k+1 by omega)]
theorem q3q(a b i:Nat):(gS a b).testBit i=(decide (i<256)&&decide (a<=i/\i<=b)):=J0 a b 256 i
theorem yH(a b:Nat):gS a b<2^256:=by
 refine Nat.lt_pow_two_of_testBit _ fun i hi=>?_;rw[q3q,qu (by omega)];rfl
theorem q3r(c:UInt8):eZ c=2^c.toNat:=by
 refine jl fun i=>?_;have:=c.toNat_lt;unfold eZ;rw[q3q,a7];by_cases h:c.toNat=i
 ·subst h;simp;omega
 rw[qu (show¬(c.toNat<=i/\i<=c.toNat) by omega),qu h];simp
theorem mN(c:UInt8):eZ c<2^256:=yH _ _
def wsV(x:Nat):List Value:=[.int .u64 (wdR x 0:Nat),.int .u64 (wdR x 1:Nat),.int .u64 (wdR x 2:Nat),.int .u64 (wdR x 3:Nat)]
def cD(x:Nat):Value:=.agg (wsV x).toArray
theorem J1(x:Nat){i:Nat}(hi:i<4):(wsV x)[i]? =some (.int .u64 (wdR x i:Nat)):=by
 obtain rfl|rfl|rfl|rfl:i=0\/i=1\/i=2\/i=3:=by omega
 all_goals rfl
theorem yI(x:Nat):(wsV x).length=4:=rfl
theorem q3s{x y i:Nat}(hi:i<4)(h:∀j,j<4->j≠i->wdR y j=wdR x j):(wsV x).set i (.int .u64 (wdR y i:Nat))=wsV y:=by
 refine List.ext_getElem? fun j=>?_;rw[jN];by_cases hj:j<4
 ·rw[J1 y hj]
  split
  ·rename_i e;subst e;rw[qt (by rw[yI];exact hi)]
  rename_i e;rw[J1 x hj,h j hj (fun e2=>e e2.symm)]
 rw[qr (by omega),qM (by rw[yI];omega),qM (by rw[yI];omega)]
structure eX(w:World)(g x:Nat):Prop where
 own:Own w g 63 (.slice (some ⟨g,0,none⟩) 4 4) (wsV x)
section
variable {w w' : World} {g x : Nat}
theorem eX.up(h:eX w g x)(hb:Below w.heap.size w w'):eX w' g x:=⟨h.own.up hb⟩
theorem eX.keep{row:Option Nat}(h:eX w g x)(hg:w.grownBy w' row)(hne:row≠some g):eX w' g x:=⟨h.own.keep hg (.inr (fun e=>hne e.symm))⟩
theorem eX.lt(h:eX w g x):g<w.heap.size:=(h.own.lt g rfl).2
theorem eX.cell(h:eX w g x){c:Nat}(hc:c<4):w.cell? ⟨g,c,none⟩=some (.int .u64 (wdR x c:Nat)):=by
 rw[h.own.cell (by rw[yI];exact hc),qq,J1 x hc];rfl
theorem eX.free(h:eX w g x)(c:Nat):w.frozen? ⟨g,c,none⟩=false:=h.own.free c
theorem eX.set(h:eX w g x){y i:Nat}(hi:i<4)(hy:∀j,j<4->j≠i->wdR y j=wdR x j):eX (w.setCell ⟨g,i,none⟩ (.int .u64 (wdR y i:Nat))) g y/\w.grownBy (w.setCell ⟨g,i,none⟩ (.int .u64 (wdR y i:Nat))) (some g):=by
 obtain⟨h1,h2⟩:=h.own.store i (.int .u64 (wdR y i:Nat));rw[q3s hi hy]at h1;exact⟨⟨h1⟩,h2⟩
theorem eX.load(h:eX w g x):(loadVar 63 ⟨g,0,none⟩).run prog w=.ok (cD x) w:=pJ h.own _ underlying63 rfl (by kernel_rfl)
theorem gF(w:World)(x:Nat):eX (w.alloc (.cells (wsV x).toArray 63)) w.heap.size x:=by
 have h:=bU w w.heap.size (wsV x).toArray 63 (by simp[wsV]) (qb _);simp only[jA,yI]at h;exact⟨h⟩
end
def z4:Array Value:=(wsV 0).toArray
theorem gZ(W:World):(zeroValue 63).run prog W=.ok (.agg z4) W:=by kernel_rfl
theorem cL(w:World)(A:Array Value)(hA:A=z4):eX (w.alloc (.cells A 63)) w.heap.size 0:=by
 subst hA;exact gF w 0
theorem aF{ops:Array Oper}{rest:List Oper}{o:Oper}{a:Act}{w:World}{Q:Exit->Act->World->Prop}(hgd:o.guard=none)(x y:Operand)(ho:o.op=.store 63 x y)
  (g:Nat) (hx:a.eval x=.pointer (some ⟨g,0,none⟩)) (s t:Nat) (hy:a.eval y=cD t) (hown:eX w g s)
  (h:∀w',eX w' g t->w.grownBy w' (some g)->wpList prog ops Q rest (a.put o.dst undef) w'):wpList prog ops Q (o::rest) a w:=by
 refine bD hgd 63 x y ho g 63 g 4 4 hx (wsV t).toArray hy (by kernel_rfl) (wsV s) hown.own (by simp[wsV]) (fun u hu=>?_) fun w' hw hg=>h w' ⟨?_⟩ hg
 ·simp only[wsV,jJ,List.not_mem_nil,or_false]at hu
  rcases hu with rfl|rfl|rfl|rfl<;>rfl
 exact hw
theorem aQ{ops:Array Oper}{rest:List Oper}{o:Oper}{a:Act}{w:World}{Q:Exit->Act->World->Prop}(hgd:o.guard=none)(x:Operand)(ho:o.op=.load 63 x)
  (g:Nat) (hx:a.eval x=.pointer (some ⟨g,0,none⟩)) (s:Nat) (hown:eX w g s)
  (h:wpList prog ops Q rest (a.put o.dst (cD s)) w):wpList prog ops Q (o::rest) a w:=by
 obtain⟨A,hg,hs,hA⟩:=hown.own.whole;have hA2:A=(wsV s).toArray:=by rw[<-hA]
 refine oX hgd 63 4 x ho g hx A hs hg _ underlying63 rfl (by kernel_rfl) ?_;rw[hA2];exact h
theorem B3{x k:Nat}:∀j,j≠k/64->wdR (x|||2^k) j=wdR x j:=fun j hj=>by
 rw[q7c,q6b,qr (fun e=>hj e.symm),Nat.or_zero]
theorem q3t(x k:Nat):wdR (x|||2^k) (k/64)=wdR x (k/64)|||2^(k%64):=by
 rw[q7c,q6b,qt rfl]
def cI(x:Nat)(w:World)(e:Ending)(w':World):Prop:=e=.returned (cD x)/\∃y,w'=ext w y
theorem q6d(x k:Nat):bits .or .u64 ((wdR x (k/64):Nat):Int) (IntKind.u64.wrap ((2:Int)^(k%64)))=((wdR (x|||2^k) (k/64):Nat):Int):=by
 have h:2^(k%64)<2^64:=Nat.pow_lt_pow_right (by decide) (jT _ (by decide));have e:(2:Int)^(k%64)=((2^(k%64):Nat):Int):=by simp
 have hs:=q3t x k;have hw:=Y1 x (k/64);rw[e,hs];clear e hs;generalize 2^(k%64)=m at*;rw[IntKind.wrap_u64,Int.emod_eq_of_lt (by omega) (by omega),bits_or_u64_nat _ _ hw (by omega)]
theorem P9(a b:UInt8)(w:World):Calls prog 132 #[.int .u8 (a.toNat:Nat),.int .u8 (b.toNat:Nat)] w (cI (gS a.toNat b.toNat) w):=by
 have hz:=gZ;obtain⟨Z,hZ⟩:∃Z,Z=z4:=⟨_,rfl⟩;rw[<-hZ]at hz;have HA0:Hid (eX ((w.alloc (.cells Z 63)).alloc (.cells Z 63)) w.heap.size 0):=qa ((cL w Z hZ).up (aA _ _))
 have HB0:Hid (eX ((w.alloc (.cells Z 63)).alloc (.cells Z 63)) (w.heap.size+1) 0):=qa (by
  have:=cL (w.alloc (.cells Z 63)) Z hZ;rwa [show(w.alloc (.cells Z 63)).heap.size=w.heap.size+1 by simp]at this)
 have HBL:Hid (Below w.heap.size w ((w.alloc (.cells Z 63)).alloc (.cells Z 63))):=qa aJ;have hE:gS a.toNat b.toNat=Y2 a.toNat b.toNat 256:=rfl;rw[hE];clear hE;have ha:=a.toNat_lt;have hb:=b.toNat_lt;generalize a.toNat=a at*;generalize b.toNat=b at*;clear hZ;go_enter func132,ntmps132;go_wp2
 go_loopg [7] 257 (fun gk i wr=>∃k:Nat,k<=256/\i=.int .i64 k/\eX wr (w.heap.size+1) (Y2 a b k)/\eX wr w.heap.size 0/\Below w.heap.size w wr/\gk=257-k)
 case atStart=>exact⟨0,by omega,rfl,HB0.o,HA0.o,HBL.o,rfl⟩
 case round=>
  clear HA0 HB0 HBL;obtain⟨k,hk,rfl,hB,hA,qbe,rfl⟩:=hrel;have HB:=qa hB;have HA:=qa hA;have HBL:=qa qbe;have hsz:=qbe.size;have hlB:=hB.lt;clear hA qbe;by_cases hlt:k<256
  ·have HK:=qa (yG a b k)
   have hki:k/64<4:=by omega
   have hcell:=hB.cell hki;have hfr:=hB.free (k/64);have HS:=qa (hB.set (y:=Y2 a b k|||2^k) hki (fun j _=>B3 j));have HW:=qa (q6d (Y2 a b k) k);clear hB;by_cases hin:a<=k/\k<=b
   ·obtain⟨h1,h2⟩:=hin
    rw[qt ⟨h1,h2⟩]at HK;go_wp2
    go_roundg (256-k)
    case rel=>exact⟨k+1,by omega,by go_num,by rw[HK.o,HW.o];exact HS.o.1,by rw[HW.o];exact HA.o.keep HS.o.2 (by simp),by rw[HW.o];exact HBL.o.grown HS.o.2 HBL.o.size (fun k hk=>by cases hk;exact ja _),by omega⟩
    case measure=>omega
   rw[qr hin]at HK;by_cases h1:a<=k
   ·have h2:¬k<=b:=fun h=>hin ⟨h1,h⟩
    exact ZmF3
   exact ZmF3
  obtain rfl:k=256:=by omega
  go_wp2_with(first|(refine aQ rfl _ rfl (w.heap.size+1) rfl _ HB.o ?_)|(refine aF rfl _ _ rfl w.heap.size rfl _ _ rfl HA.o ?_;intro w2 hB2 hg2;have HB2:=qa hB2;have HG2:=qa hg2;clear hB2 hg2))
  refine bG (s:=4) (ad:=⟨w.heap.size,0,none⟩) (x:=cD (Y2 a b 256)) rfl rfl rfl HB2.o.load ?_;exact⟨rfl,aI (HBL.o.grown HG2.o HBL.o.size (fun k hk=>by cases hk;exact qb _))⟩
def q5j(z x k:Nat):List Value:=[.int .u64 ((if 0<k then wdR z 0 else wdR x 0:Nat):Int),.int .u64 ((if 1<k then wdR z 1 else wdR x 1:Nat):Int),.int .u64 ((if 2<k then wdR z 2 else wdR x 2:Nat):Int),.int .u64 ((if 3<k then wdR z 3 else wdR x 3:Nat):Int)]
theorem q5k(z x:Nat){k:Nat}(hk:k<4):(q5j z x k).set k (.int .u64 (wdR z k:Nat))=q5j z x (k+1):=by
 exact ZmF8
theorem q3u(z x:Nat){k:Nat}(hk:k<4):(q5j z x k).getD k undef=.int .u64 (wdR x k:Nat):=by
 exact ZmF8
theorem q8K(F:FuncId)(hF:∀args w,(callFunc F args).run prog w=.ok (.enter F args) w){x y z:Nat}(_hx:x<2^256)(_hy:y<2^256)(w:World)
  (hG:∀i,i<4->∀W,Calls prog F #[.int .u64 (wdR x i:Nat),.int .u64 (wdR y i:Nat)] W fun e w'=>e=.returned (.int .u64 (wdR z i:Nat))/\∃y,w'=ext W y):
  Calls prog 130 #[cD x,cD y,.func (.func F) #[] #[]] w (cI z w):=by
 have hz:=gZ;obtain⟨Z,hZ⟩:∃Z,Z=z4:=⟨_,rfl⟩;rw[<-hZ]at hz;obtain⟨X,hX⟩:∃X,X=(wsV x).toArray:=⟨_,rfl⟩;obtain⟨Y,hY⟩:∃Y,Y=(wsV y).toArray:=⟨_,rfl⟩;have hb0:eX (w.alloc (.cells X 63)) w.heap.size x:=by rw[hX];exact gF w x
 have hb1:eX ((w.alloc (.cells X 63)).alloc (.cells Y 63)) (w.heap.size+1) y:=by
  exact ZmF5
 have hb2:eX (((w.alloc (.cells X 63)).alloc (.cells Y 63)).alloc (.cells Z 63)) (w.heap.size+2) 0:=by
  exact ZmF2
 have H0:=qa ((hb0.up (aA _ (.cells Y 63))).up (aA _ (.cells Z 63)));have H1:=qa (hb1.up (aA _ (.cells Z 63)));have H2:=qa hb2;have HBL:Hid (Below w.heap.size w (((w.alloc (.cells X 63)).alloc (.cells Y 63)).alloc (.cells Z 63))):=qa aJ;have HG:=qa hG;rw[show cD x=.agg X by rw[hX];rfl,show cD y=.agg Y by rw[hY];rfl];clear hb0 hb1 hb2 hX hY hZ hG;go_enter func130,ntmps130;go_wp2
 go_loopg [8] 5 (fun gk i wr=>∃k:Nat,k<=4/\i=.int .i64 k/\Own wr w.heap.size 63 (.slice (some ⟨w.heap.size,0,none⟩) 4 4) (q5j z x k)/\eX wr (w.heap.size+1) y/\eX wr (w.heap.size+2) 0/\Below w.heap.size w wr/\gk=5-k)
 case atStart=>exact⟨0,by omega,rfl,H0.o.own,H1.o,H2.o,HBL.o,rfl⟩
 case round=>
  clear H0 H1 H2 HBL;obtain⟨k,hk,rfl,h0,h1,h2,qbe,rfl⟩:=hrel;have H0:=qa h0;have H1:=qa h1;have H2:=qa h2;have HBL:=qa qbe;have hsz:=qbe.size;have hl0:=(h0.blk).2;have hl1:=h1.lt;clear h2 qbe;by_cases hlt:k<4
  ·have c0:=h0.cell (i:=k) (by rw[show(q5j z x k).length=4 from rfl];exact hlt)
   rw[q3u z x hlt]at c0;have c1:=h1.cell hlt;have HC:=qa (HG.o k hlt)
   have HST:Hid (∀W,Own W w.heap.size 63 (.slice (some ⟨w.heap.size,0,none⟩) 4 4) (q5j z x k)->Own (W.setCell ⟨w.heap.size,k,none⟩ (.int .u64 (wdR z k:Nat))) w.heap.size 63 (.slice (some ⟨w.heap.size,0,none⟩) 4 4) (q5j z x (k+1))/\W.grownBy (W.setCell ⟨w.heap.size,k,none⟩ (.int .u64 (wdR z k:Nat))) (some w.heap.size)):=qa (fun W h=>by
    have:=h.store k (.int .u64 (wdR z k:Nat));rwa [q5k z x hlt]at this)
   have HCE:Hid (∀W,Own W w.heap.size 63 (.slice (some ⟨w.heap.size,0,none⟩) 4 4) (q5j z x k)->W.cell? ⟨w.heap.size,k,none⟩=some (.int .u64 (wdR x k:Nat))/\W.frozen? ⟨w.heap.size,k,none⟩=false):=qa (fun W h=>⟨by
    have:=h.cell (i:=k) (by rw[show(q5j z x k).length=4 from rfl];exact hlt);rwa [q3u z x hlt]at this,h.free k⟩)
   clear HG h0 h1;generalize wdR x k=a at*;generalize wdR y k=b at*;generalize wdR z k=c at*;go_wp2;refine aT [0,1,2,5,3,6,4,7] [8,9] [10] (by kernel_rfl) (by kernel_rfl) ?_;simp only[pk]
   repeat(go_big_quiet_step (fail))
   refine wpQuiet_nil ?_;unfold aG
   go_wp2_with((with_reducible refine(HC.o _).mono ?_);rintro e w3 ⟨rfl,hx⟩;have hb3:=cP (aN wr 1) (aB hx);have HB3:=qa hb3;(have H03:=qa (H0.o.up hb3));obtain⟨c3,f3⟩:=HCE.o _ H03.o;have hl3:=(H03.o.blk).2;clear hx hb3 c0 c1)
   refine⟨aI HB3.o,?_⟩;unfold aG;go_wp2;refine⟨aI HB3.o,?_⟩;unfold aG;unfold aG;go_wp2;refine⟨trivial,?_⟩;unfold aG;obtain⟨hs,hgr⟩:=HST.o _ H03.o;have HS:=qa hs;have HGR:=qa hgr;have HB4:=qa ((HBL.o.trans (HB3.o.mono hsz)).grown hgr (by have:=HB3.o.size;omega) (fun k hk=>by cases hk;exact qb _));have H14:=qa ((H1.o.up HB3.o).keep hgr (by simp));have H24:=qa ((H2.o.up HB3.o).keep hgr (by simp));clear hs hgr;generalize w3.setCell ⟨w.heap.size,k,none⟩ (.int .u64 (c:Nat))=w4 at*;go_wp2
   go_roundg (4-k)
   case rel=>exact⟨k+1,by omega,by go_num,HS.o,H14.o,H24.o,HB4.o,by omega⟩
   case measure=>omega
  obtain rfl:k=4:=by omega
  have H0:Hid (eX wr w.heap.size z):=qa ⟨h0⟩
  go_wp2_with(first|(refine aQ rfl _ rfl w.heap.size rfl _ H0.o ?_)|(refine aF rfl _ _ rfl (w.heap.size+2) rfl _ _ rfl H2.o ?_;intro w2 hB2 hg2;have HB2:=qa hB2;have HG2:=qa hg2;clear hB2 hg2))
  refine bG (s:=6) (ad:=⟨w.heap.size+2,0,none⟩) (x:=cD z) rfl rfl rfl HB2.o.load ?_;exact⟨rfl,aI (HBL.o.grown HG2.o HBL.o.size (fun k hk=>by cases hk;omega))⟩
theorem qaO{a b:Nat}(ha:a<18446744073709551616)(hb:b<18446744073709551616)(w:World):Calls prog 140 #[.int .u64 a,.int .u64 b] w fun e w'=>e=.returned (.int .u64 ((a|||b:Nat):Int))/\∃y,w'=ext w y:=by
 have h:=bits_or_u64_nat a b ha hb;have HR:Hid (Ending.returned (.int .u64 (bits .or .u64 (a:Int) (b:Int)))=Ending.returned (.int .u64 ((a|||b:Nat):Int))):=qa (by rw[h]);clear h;go_enter func140,ntmps140;go_wp2;go_ret;exact⟨HR.o,(aI aJ)⟩
theorem q7d{a:Nat}(ha:a<18446744073709551616):bits .xor .u64 IntKind.u64.max (a:Int)=((18446744073709551615-a:Nat):Int):=by
 rw[show IntKind.u64.max=((18446744073709551615:Nat):Int)from rfl,bits_xor_u64_nat _ _ (by decide) ha]
 congr 1
 refine jl fun j=>?_;rw[Nat.testBit_xor,show 18446744073709551615-a=2^64-(a+1) by omega,jW ha,show 18446744073709551615=2^64-1 by decide,Nat.testBit_two_pow_sub_one];by_cases hj:j<64
 ·rw[qw hj];simp
 have h1:2^64<=2^j:=qg (by decide) (by omega);rw[qu hj,Nat.testBit_lt_two_pow (qe ha h1)];simp
theorem qa1{a b:Nat}(ha:a<18446744073709551616)(w:World):Calls prog 131 #[.int .u64 a,.int .u64 b] w fun e w'=>e=.returned (.int .u64 ((18446744073709551615-a:Nat):Int))/\∃y,w'=ext w y:=by
 have h:=q7d ha;have HR:Hid (Ending.returned (.int .u64 (bits .xor .u64 IntKind.u64.max (a:Int)))=Ending.returned (.int .u64 ((18446744073709551615-a:Nat):Int))):=qa (by rw[h]);clear h;go_enter func131,ntmps131;go_wp2;go_ret;exact⟨HR.o,(aI aJ)⟩
theorem orP{x y:Nat}(hx:x<2^256)(hy:y<2^256)(w:World):Calls prog 128 #[cD x,cD y] w (cI (x|||y) w):=by
 have hz:=gZ;obtain⟨Z,hZ⟩:∃Z,Z=z4:=⟨_,rfl⟩;rw[<-hZ]at hz;obtain⟨X,hX⟩:∃X,X=(wsV x).toArray:=⟨_,rfl⟩;obtain⟨Y,hY⟩:∃Y,Y=(wsV y).toArray:=⟨_,rfl⟩;have hb0:eX (w.alloc (.cells X 63)) w.heap.size x:=by rw[hX];exact gF w x
 have hb1:eX ((w.alloc (.cells X 63)).alloc (.cells Y 63)) (w.heap.size+1) y:=by
  exact ZmF5
 have hb2:eX (((w.alloc (.cells X 63)).alloc (.cells Y 63)).alloc (.cells Z 63)) (w.heap.size+2) 0:=by
  exact ZmF2
 have H0:=qa ((hb0.up (aA _ (.cells Y 63))).up (aA _ (.cells Z 63)));have H1:=qa (hb1.up (aA _ (.cells Z 63)));have H2:=qa hb2;have HBL:Hid (Below w.heap.size w (((w.alloc (.cells X 63)).alloc (.cells Y 63)).alloc (.cells Z 63))):=qa aJ
 have HE:Hid (∀W,Calls prog 130 #[cD x,cD y,.func (.func 140) #[] #[]] W (cI (x|||y) W)):=qa (fun W=>q8K 140 (enters_of (P:=prog) func140 (by kernel_rfl) rfl) hx hy W (fun i hi W=>by
  have:=qaO (Y1 x i) (Y1 y i) W;rwa [<-q7c]at this))
 rw[show cD x=.agg X by rw[hX];rfl,show cD y=.agg Y by rw[hY];rfl];clear hb0 hb1 hb2 hX hY hZ;go_enter func128,ntmps128
 go_wp2_with(first
  |(refine aQ rfl _ rfl w.heap.size rfl _ H0.o ?_)
  |(refine aQ rfl _ rfl (w.heap.size+1) rfl _ H1.o ?_)
  |(refine aF rfl _ _ rfl (w.heap.size+2) rfl _ _ rfl H3.o ?_;intro w2 hB2 hg2;have HB2:=qa hB2;have HG2:=qa hg2;clear hB2 hg2)
  |((with_reducible refine(HE.o _).mono ?_);rintro e w3 ⟨rfl,hx3⟩;have hb3:=aB hx3;have H3:=qa (H2.o.up hb3);have qbt:=qa (HBL.o.trans (hb3.mono HBL.o.size));clear hx3 hb3))
 refine bG (s:=4) (ad:=⟨w.heap.size+2,0,none⟩) (x:=cD (x|||y)) rfl rfl rfl HB2.o.load ?_;exact⟨rfl,aI (qbt.o.grown HG2.o qbt.o.size (fun k hk=>by cases hk;omega))⟩
theorem q9H{x:Nat}(hx:x<2^256)(w:World):Calls prog 112 #[cD x] w (cI (mP x) w):=by
 have hz:=gZ;obtain⟨Z,hZ⟩:∃Z,Z=z4:=⟨_,rfl⟩;rw[<-hZ]at hz;obtain⟨X,hX⟩:∃X,X=(wsV x).toArray:=⟨_,rfl⟩;have hb0:eX (w.alloc (.cells X 63)) w.heap.size x:=by rw[hX];exact gF w x
 have hb2:eX ((w.alloc (.cells X 63)).alloc (.cells Z 63)) (w.heap.size+1) 0:=by
  have:=cL (w.alloc (.cells X 63)) Z hZ;rwa [show(w.alloc (.cells X 63)).heap.size=w.heap.size+1 by simp]at this
 have H0:=qa (hb0.up (aA _ (.cells Z 63)));have H2:=qa hb2;have HBL:Hid (Below w.heap.size w ((w.alloc (.cells X 63)).alloc (.cells Z 63))):=qa aJ
 have HE:Hid (∀W,Calls prog 130 #[cD x,cD x,.func (.func 131) #[] #[]] W (cI (mP x) W)):=qa (fun W=>q8K 131 (enters_of (P:=prog) func131 (by kernel_rfl) rfl) hx hx W (fun i hi W=>by
  have:=qa1 (b:=wdR x i) (Y1 x i) W;rwa [<-q8J hx hi]at this))
 rw[show cD x=.agg X by rw[hX];rfl];clear hb0 hb2 hX hZ;go_enter func112,ntmps112
 go_wp2_with(first
  |(refine aQ rfl _ rfl w.heap.size rfl _ H0.o ?_)
  |(refine aF rfl _ _ rfl (w.heap.size+1) rfl _ _ rfl H3.o ?_;intro w2 hB2 hg2;have HB2:=qa hB2;have HG2:=qa hg2;clear hB2 hg2)
  |((with_reducible refine(HE.o _).mono ?_);rintro e w3 ⟨rfl,hx3⟩;have hb3:=aB hx3;have H3:=qa (H2.o.up hb3);have qbt:=qa (HBL.o.trans (hb3.mono HBL.o.size));clear hx3 hb3))
 refine bG (s:=2) (ad:=⟨w.heap.size+1,0,none⟩) (x:=cD (mP x)) rfl rfl rfl HB2.o.load ?_;exact⟨rfl,aI (qbt.o.grown HG2.o qbt.o.size (fun k hk=>by cases hk;omega))⟩
theorem uS(c:UInt8)(w:World):Calls prog 113 #[.int .u8 (c.toNat:Nat)] w (cI (eZ c) w):=by
 have hz:=gZ;obtain⟨Z,hZ⟩:∃Z,Z=z4:=⟨_,rfl⟩;rw[<-hZ]at hz;have H2:=qa (cL w Z hZ);have HBL:Hid (Below w.heap.size w (w.alloc (.cells Z 63))):=qa aJ;have HE:Hid (∀W,Calls prog 132 #[.int .u8 (c.toNat:Nat),.int .u8 (c.toNat:Nat)] W (cI (eZ c) W)):=qa (fun W=>P9 c c W);clear hZ;go_enter func113,ntmps113
 go_wp2_with(first
  |(refine aF rfl _ _ rfl w.heap.size rfl _ _ rfl H3.o ?_;intro w2 hB2 hg2;have HB2:=qa hB2;have HG2:=qa hg2;clear hB2 hg2)
  |((with_reducible refine(HE.o _).mono ?_);rintro e w3 ⟨rfl,hx3⟩;have hb3:=aB hx3;have H3:=qa (H2.o.up hb3);have qbt:=qa (HBL.o.trans (hb3.mono HBL.o.size));clear hx3 hb3))
 refine bG (s:=2) (ad:=⟨w.heap.size,0,none⟩) (x:=cD (eZ c)) rfl rfl rfl HB2.o.load ?_;exact⟨rfl,aI (qbt.o.grown HG2.o qbt.o.size (fun k hk=>by cases hk;exact qb _))⟩
theorem q3v(l:cX)(hl:l.length<=100)(c:UInt8)(w:World):Calls prog 110 #[.string ⟨l.toArray⟩,.int .u8 (c.toNat:Nat)] w fun e w'=>e=.returned (.bool (decide (c∈l)))/\∃x,w'=ext w x:=by
 obtain⟨s,hs⟩:∃s:ByteArray,s=⟨l.toArray⟩:=⟨_,rfl⟩;have hsz:s.size=l.length:=by rw[hs];rfl
 have hby:bys s=l:=by rw[hs];rfl
 have hix:=fun(i:Nat) (h:i<s.size) (W:World)=>e6 (P:=prog) 9 underlying9 h W;rw[hby,hsz]at hix;have HIX:=qa hix;have HSZ:=qa hsz;rw[<-hs];clear hix hby hs;clear hsz;obtain⟨r,hr⟩:∃r,r=decide (c∈l):=⟨_,rfl⟩;have HR:=qa hr;rw[<-hr];clear hr;go_enter func110,ntmps110;go_wp2;rw[HSZ.o]
 go_loop [8] (fun i=>∃k:Nat,k<=l.length/\i=.int .i64 k/\c∉l.take k) (fun i=>l.length+1-(intOf i).toNat)
 case atStart=>exact⟨0,qd _,rfl,by simp⟩
 case round=>
  obtain⟨k,hk,rfl,hn⟩:=hrel;have HN:=qa hn;clear hn;by_cases hlt:k<l.length
  ·have qbJ:=HIX.o k hlt
   have HT:=qa (aY l k 0 hlt);have HM:Hid (l.getD k 0∈l):=qa (by rw[qq,qv hlt];exact ji hlt);generalize l.getD k 0=d at*;by_cases hd:d=c
   ·subst hd
    go_wp2;go_ret;exact⟨by rw[HR.o,qw HM.o];rfl,fD _⟩
   have hne:=kI hd;go_wp2
   go_round
   case rel=>exact⟨k+1,by omega,by go_num,by rw[HT.o];intro h;rcases List.mem_append.1 h with h|h;exact HN.o h;exact hd (List.mem_singleton.1 h).symm⟩
   case measure=>simp[intOf];omega
  obtain rfl:k=l.length:=by omega
  go_wp2;go_ret;rw[qX]at HN;exact⟨by rw[HR.o,qu HN.o];rfl,fD _⟩
def dgV(c:UInt8)(b:Int):Value:=.tuple #[.int .i64 (dgR c),.bool (okD c b)]
theorem q6e(c:UInt8)(b:Int)(w:World):Calls prog 127 #[.int .u8 (c.toNat:Nat),.int .i64 b] w fun e w'=>e=.returned (dgV c b)/\∃x,w'=ext w x:=by
 have hc:=c.toNat_lt;have HD:Hid (dgR c=if 48<=c.toNat/\c.toNat<=57 then(c.toNat:Int)-48 else if 97<=c.toNat/\c.toNat<=102 then(c.toNat:Int)-97+10 else -1):=qa (by unfold dgR;rfl);have HV:Hid (dgV c b=.tuple #[.int .i64 (dgR c),.bool (decide (0<=dgR c)&&decide (dgR c<b))]):=qa rfl;rw[HV.o];generalize dgR c=D at*;generalize c.toNat=n at*;by_cases h1:48<=n/\n<=57
 ·obtain⟨a1,a2⟩:=h1
  have HE:Hid (D=(n:Int)-48):=qa (by rw[HD.o,qt ⟨a1,a2⟩]);clear HD HV;go_enter func127,ntmps127;go_wp2
  go_ret2
  refine⟨?_,(aI aJ)⟩;rw[HE.o,qw (show(0:Int)<=(n:Int)-48 by omega),j3];rfl
 by_cases h2:97<=n/\n<=102
 ·obtain⟨a1,a2⟩:=h2
  have HE:Hid (D=(n:Int)-97+10):=qa (by rw[HD.o,qr h1,qt ⟨a1,a2⟩]);have a3:¬n<=57:=by omega
  have a4:48<=n:=by omega
  clear HD HV h1;go_enter func127,ntmps127;go_wp2
  go_ret2
  refine⟨?_,(aI aJ)⟩;rw[HE.o,qw (show(0:Int)<=(n:Int)-97+10 by omega),j3];rfl
 have HE:Hid (D= -1):=qa (by rw[HD.o,qr h1,qr h2]);have HE2:Hid (Ending.returned (Value.tuple #[.int .i64 (-1),.bool false])=Ending.returned (.tuple #[.int .i64 D,.bool (decide (0<=D)&&decide (D<b))])):=qa (by rw[HE.o];rfl);clear HD HV HE;by_cases a1:48<=n
 ·have a2:¬n<=57:=fun h=>h1 ⟨a1,h⟩
  clear h1;by_cases a3:97<=n
  ·have a4:¬n<=102:=fun h=>h2 ⟨a3,h⟩
   exact ZmF7
  exact ZmF7
 have a3:¬97<=n:=by omega
 clear h1 h2;go_enter func127,ntmps127;go_wp2
 go_ret2
 exact⟨HE2.o,(aI aJ)⟩
theorem q8L{c:UInt8}(h:okD c 10=true):∃n:Nat,n<=9/\dgR c=(n:Int):=by
 simp only[okD,qG,jk]at h;exact⟨(dgR c).toNat,by omega,by omega⟩
theorem dJ.keep{w w':World}{g:Nat}{s:ByteArray}{z:PS}{row:Option Nat}(h:dJ w g s z)(hg:w.grownBy w' row)(hne:row≠some g):dJ w' g s z:=⟨h.own.keep hg (.inr (fun e=>hne e.symm))⟩
theorem dJ.inc{w:World}{g:Nat}{s:ByteArray}{z:PS}(h:dJ w g s z):dJ (w.setCell ⟨g,1,none⟩ (.int .i64 ((z.p:Int)+1))) g s (bI z)/\w.grownBy (w.setCell ⟨g,1,none⟩ (.int .i64 ((z.p:Int)+1))) (some g):=h.set1 (z.p+1)
theorem dJ.inc2{w:World}{g:Nat}{s:ByteArray}{z:PS}(h:dJ w g s (bI z)):dJ (w.setCell ⟨g,1,none⟩ (.int .i64 ((z.p:Int)+1+1))) g s (bI (bI z))/\w.grownBy (w.setCell ⟨g,1,none⟩ (.int .i64 ((z.p:Int)+1+1))) (some g):=h.set1 (z.p+1+1)
theorem dJ.c11{w:World}{g:Nat}{s:ByteArray}{z:PS}(h:dJ w g s (bI z)):w.cell? ⟨g,1,none⟩=some (.int .i64 ((z.p:Int)+1)):=h.c1
def mR(v:Value)(g:Nat)(s:ByteArray)(z:PS)(w:World)(e:Ending)(w':World):Prop:=e=.returned v/\dJ w' g s z/\w.grownBy w' (some g)
theorem qaw{w:World}{g:Nat}{s:ByteArray}{z:PS}(h:dJ w g s z)(hs:s.size<=1000000):
  Calls prog 114 #[.pointer (some ⟨g,0,none⟩)] w (mR (.int .i64 ((m6 (bys s) z).1:Nat)) g s (m6 (bys s) z).2 w):=by
 have HB:=qa h;have HN:=qa (nxP h);have HG:Hid (w.grownBy w (some g)):=qa (cW _ _);obtain⟨R,hR⟩:∃R,R=m6 (bys s) z:=⟨_,rfl⟩;rw[<-hR]
 have HR:Hid (R=(let c:=(nxR (bys s) z).getD 0
  if okD c 10 then
   let d:=(nxR (bys s) (bI z)).getD 0
   if okD d 10 then(10*(dgR c).toNat+(dgR d).toNat,bI (bI z))else((dgR c).toNat,bI z)
  else(0,bB 15 z.p z))):=qa (by rw[hR];rfl)
 have HD:Hid (∀(c:UInt8) W,Calls prog 127 #[.int .u8 (c.toNat:Nat),.int .i64 10] W fun e w'=>e=.returned (dgV c 10)/\∃x,w'=ext W x):=qa (fun c W=>q6e c 10 W);clear h hR;by_cases hk:okD ((nxR (bys s) z).getD 0) 10=true
 ·obtain⟨c0,hc0,-⟩:=q5e hk
  obtain⟨hz0,hzp,-⟩:=dE hc0;rw[aP]at hzp;have HDG:=qa (q8L hk);have HN2:Hid (∀W,dJ W g s (bI z)->Calls prog 40 #[.pointer (some ⟨g,0,none⟩)] W fun e w'=>e=.returned (nxV (nxR (bys s) (bI z)))/\∃x,w'=ext W x):=qa (fun W h=>nxP h);clear hc0;by_cases hk2:okD ((nxR (bys s) (bI z)).getD 0) 10=true
  ·have HR2:Hid (R=(10*(dgR ((nxR (bys s) z).getD 0)).toNat+(dgR ((nxR (bys s) (bI z)).getD 0)).toNat,bI (bI z))):=qa (by rw[HR.o];simp only[hk,hk2,jG])
   obtain⟨c1,hc1,-⟩:=q5e hk2;obtain⟨hz1,qdv,-⟩:=dE hc1;rw[aP]at qdv;have qi2:=qa (q8L hk2);clear HR hc1;unfold nxV dgV at*;generalize (nxR (bys s) z).getD 0=c at*;generalize (nxR (bys s) z).isSome=b at*;generalize (nxR (bys s) (bI z)).getD 0=d at*;generalize (nxR (bys s) (bI z)).isSome=b2 at*;obtain⟨n,hn9,hn⟩:=HDG.o;obtain⟨m,hm9,hm⟩:=qi2.o;have HNN:=qa hn;have HMM:=qa hm;clear HDG qi2 hn hm;go_enter func114,ntmps114;go_wp2;refine wp_loop_rounds 3 ?_;rw[rounds_succ]
   go_wp2_with(first
    |((with_reducible refine(HN.o).mono ?_);rintro e w1 ⟨rfl,hx⟩;have hb1:=aB hx;have HB1:=qa (HB.o.up hb1);have HG1:=qa (aE hb1 (some g));have c1:=HB1.o.c1;clear hx hb1)
    |((with_reducible refine(HD.o c _).mono ?_);rintro e w2 ⟨rfl,hx⟩;have hb1:=aB hx;have HB2:=qa (HB1.o.up hb1);have HG2:=qa (aC HG1.o (aE hb1 (some g)));have c12:=HB2.o.c1;have f12:=HB2.o.free 1;have HS:=qa HB2.o.inc;rw[hk,HNN.o];clear hx hb1)
    |((with_reducible refine(HN2.o _ HS.o.1).mono ?_);rintro e w3 ⟨rfl,hx⟩;have hb1:=aB hx;have HB3:=qa (HS.o.1.up hb1);have HG3:=qa (aC (aC HG2.o HS.o.2) (aE hb1 (some g)));have c13:=HB3.o.c11;clear hx hb1)
    |((with_reducible refine(HD.o d _).mono ?_);rintro e w4 ⟨rfl,hx⟩;have hb1:=aB hx;have HB4:=qa (HB3.o.up hb1);have HG4:=qa (aC HG3.o (aE hb1 (some g)));have c14:=HB4.o.c11;have f14:=HB4.o.free 1;have HS2:=qa HB4.o.inc2;rw[hk2,HMM.o];clear hx hb1))
   rw[rounds_succ]
   go_wp2_with(first
    |((with_reducible refine(HN.o).mono ?_);rintro e w1 ⟨rfl,hx⟩;have hb1:=aB hx;have HB1:=qa (HB.o.up hb1);have HG1:=qa (aE hb1 (some g));have c1:=HB1.o.c1;clear hx hb1)
    |((with_reducible refine(HD.o c _).mono ?_);rintro e w2 ⟨rfl,hx⟩;have hb1:=aB hx;have HB2:=qa (HB1.o.up hb1);have HG2:=qa (aC HG1.o (aE hb1 (some g)));have c12:=HB2.o.c1;have f12:=HB2.o.free 1;have HS:=qa HB2.o.inc;rw[hk,HNN.o];clear hx hb1)
    |((with_reducible refine(HN2.o _ HS.o.1).mono ?_);rintro e w3 ⟨rfl,hx⟩;have hb1:=aB hx;have HB3:=qa (HS.o.1.up hb1);have HG3:=qa (aC (aC HG2.o HS.o.2) (aE hb1 (some g)));have c13:=HB3.o.c11;clear hx hb1)
    |((with_reducible refine(HD.o d _).mono ?_);rintro e w4 ⟨rfl,hx⟩;have hb1:=aB hx;have HB4:=qa (HB3.o.up hb1);have HG4:=qa (aC HG3.o (aE hb1 (some g)));have c14:=HB4.o.c11;have f14:=HB4.o.free 1;have HS2:=qa HB4.o.inc2;rw[hk2,HMM.o];clear hx hb1))
   rw[rounds_succ];go_wp2;go_ret;rw[HR2.o];refine⟨?_,HS2.o.1,aC HG4.o HS2.o.2⟩;rw[HNN.o,HMM.o];simp
  have qfq:okD ((nxR (bys s) (bI z)).getD 0) 10=false:=by simpa using hk2
  have HR2:Hid (R=((dgR ((nxR (bys s) z).getD 0)).toNat,bI z)):=qa (by rw[HR.o];simp only[hk,qfq,jG];rfl);clear HR hk2;unfold nxV dgV at*;generalize (nxR (bys s) z).getD 0=c at*;generalize (nxR (bys s) z).isSome=b at*;generalize (nxR (bys s) (bI z)).getD 0=d at*;generalize (nxR (bys s) (bI z)).isSome=b2 at*;obtain⟨n,hn9,hn⟩:=HDG.o;have HNN:=qa hn;clear HDG hn;go_enter func114,ntmps114;go_wp2;refine wp_loop_rounds 2 ?_;rw[rounds_succ]
  go_wp2_with(first
   |((with_reducible refine(HN.o).mono ?_);rintro e w1 ⟨rfl,hx⟩;have hb1:=aB hx;have HB1:=qa (HB.o.up hb1);have HG1:=qa (aE hb1 (some g));have c1:=HB1.o.c1;clear hx hb1)
   |((with_reducible refine(HD.o c _).mono ?_);rintro e w2 ⟨rfl,hx⟩;have hb1:=aB hx;have HB2:=qa (HB1.o.up hb1);have HG2:=qa (aC HG1.o (aE hb1 (some g)));have c12:=HB2.o.c1;have f12:=HB2.o.free 1;have HS:=qa HB2.o.inc;rw[hk,HNN.o];clear hx hb1)
   |((with_reducible refine(HN2.o _ HS.o.1).mono ?_);rintro e w3 ⟨rfl,hx⟩;have hb1:=aB hx;have HB3:=qa (HS.o.1.up hb1);have HG3:=qa (aC (aC HG2.o HS.o.2) (aE hb1 (some g)));have c13:=HB3.o.c11;clear hx hb1)
   |((with_reducible refine(HD.o d _).mono ?_);rintro e w4 ⟨rfl,hx⟩;have hb1:=aB hx;have HB4:=qa (HB3.o.up hb1);have HG4:=qa (aC HG3.o (aE hb1 (some g)));have c14:=HB4.o.c11;rw[qfq];clear hx hb1))
  rw[rounds_succ]
  go_wp2_with(first
   |((with_reducible refine(HN.o).mono ?_);rintro e w1 ⟨rfl,hx⟩;have hb1:=aB hx;have HB1:=qa (HB.o.up hb1);have HG1:=qa (aE hb1 (some g));have c1:=HB1.o.c1;clear hx hb1)
   |((with_reducible refine(HD.o c _).mono ?_);rintro e w2 ⟨rfl,hx⟩;have hb1:=aB hx;have HB2:=qa (HB1.o.up hb1);have HG2:=qa (aC HG1.o (aE hb1 (some g)));have c12:=HB2.o.c1;have f12:=HB2.o.free 1;have HS:=qa HB2.o.inc;rw[hk,HNN.o];clear hx hb1)
   |((with_reducible refine(HN2.o _ HS.o.1).mono ?_);rintro e w3 ⟨rfl,hx⟩;have hb1:=aB hx;have HB3:=qa (HS.o.1.up hb1);have HG3:=qa (aC (aC HG2.o HS.o.2) (aE hb1 (some g)));have c13:=HB3.o.c11;clear hx hb1)
   |((with_reducible refine(HD.o d _).mono ?_);rintro e w4 ⟨rfl,hx⟩;have hb1:=aB hx;have HB4:=qa (HB3.o.up hb1);have HG4:=qa (aC HG3.o (aE hb1 (some g)));have c14:=HB4.o.c11;rw[qfq];clear hx hb1))
  go_ret;rw[HR2.o];refine⟨?_,HB4.o,HG4.o⟩;rw[HNN.o];simp
 have hk':okD ((nxR (bys s) z).getD 0) 10=false:=by simpa using hk
 have HR2:Hid (R=(0,bB 15 z.p z)):=qa (by rw[HR.o];simp only[hk'];rfl);have HF:Hid (∀W,dJ W g s z->Calls prog 41 #[.pointer (some ⟨g,0,none⟩),.int .i64 15,.int .i64 z.p] W fun en w'=>en=.returned (.tuple #[])/\dJ w' g s (bB 15 z.p z)/\W.grownBy w' (some g)):=qa (fun W h=>uR h 15 z.p);clear HR hk;unfold nxV dgV at*;generalize (nxR (bys s) z).getD 0=c at*;generalize (nxR (bys s) z).isSome=b at*;go_enter func114,ntmps114;go_wp2;refine wp_loop_rounds 2 ?_;rw[rounds_succ]
 go_wp2_with(first
  |((with_reducible refine(HN.o).mono ?_);rintro e w1 ⟨rfl,hx⟩;have hb1:=aB hx;have HB1:=qa (HB.o.up hb1);have HG1:=qa (aE hb1 (some g));have c1:=HB1.o.c1;clear hx hb1)
  |((with_reducible refine(HD.o _ _).mono ?_);rintro e w2 ⟨rfl,hx⟩;have hb1:=aB hx;have HB2:=qa (HB1.o.up hb1);have HG2:=qa (aC HG1.o (aE hb1 (some g)));have c12:=HB2.o.c1;rw[hk'];clear hx hb1)
  |((with_reducible refine(HF.o _ HB2.o).mono ?_);rintro e w3 ⟨rfl,hB3,hg3⟩;have HB3:=qa hB3;have HG3:=qa (aC HG2.o hg3);clear hB3 hg3))
 go_ret;rw[HR2.o];exact⟨rfl,HB3.o,HG3.o⟩
theorem fV{w w1 w2:World}{row row':Option Nat}(h:w.grownBy w1 row)(hg:w1.grownBy w2 row')(hr:∀k,row'=some k->w.heap.size<=k):w.grownBy w2 row:=
 ⟨hg.os.trans h.os,hg.tape.trans h.tape,hg.output.trans h.output,qc h.size hg.size,fun k hk h1=>by
  rw[hg.block k (qe hk h.size) (fun e=>by have:=hr k e.symm;omega),h.block k hk h1]⟩
structure nM(w:World)(b:Nat)(x:Nd):Prop where
 own:Own w b 65 (.slice (some ⟨b,0,none⟩) 8 8) (ndC x)
theorem nM.up{w w':World}{b:Nat}{x:Nd}(h:nM w b x)(hb:Below w.heap.size w w'):nM w' b x:=⟨h.own.up hb⟩
theorem nM.keep{w w':World}{b:Nat}{x:Nd}{row:Option Nat}(h:nM w b x)(hg:w.grownBy w' row)(hne:row≠some b):nM w' b x:=⟨h.own.keep hg (.inr (fun e=>hne e.symm))⟩
theorem q0G(x:Nd):(ndA x).toList=ndC x:=rfl
theorem nE(w:World)(x:Nd)(A:Array Value)(hA:A=ndA x):nM (w.alloc (.cells A 65)) w.heap.size x:=by
 subst hA;exact⟨bU w w.heap.size (ndA x) 65 (by simp[ndA]) (qb _)⟩
theorem nM.load{w:World}{b:Nat}{x:Nd}(h:nM w b x):(loadVar 65 ⟨b,0,none⟩).run prog w=.ok (.agg (ndA x)) w:=pJ h.own _ underlying65 rfl (by kernel_rfl)
theorem hJ{ops:Array Oper}{rest:List Oper}{o:Oper}{a:Act}{w:World}{Q:Exit->Act->World->Prop}(hgd:o.guard=none)(x y:Operand)(ho:o.op=.store 65 x y)
  (b:Nat) (hx:a.eval x=.pointer (some ⟨b,0,none⟩)) (s t:Nd) (hy:a.eval y=.agg (ndA t)) (hown:nM w b s)
  (h:∀w',nM w' b t->w.grownBy w' (some b)->wpList prog ops Q rest (a.put o.dst undef) w'):wpList prog ops Q (o::rest) a w:=by
 refine bD hgd 65 x y ho b 65 b 8 8 hx (ndA t) hy (by kernel_rfl) (ndC s) hown.own (by simp[ndA,ndC]) (fun u hu=>?_) fun w' hw hg=>h w' ⟨?_⟩ hg
 ·simp only[ndA,jJ,List.not_mem_nil,or_false]at hu
  rcases hu with rfl|rfl|rfl|rfl|rfl|rfl|rfl|rfl<;>rfl
 exact hw
theorem q8M(lo hi:Int):decide (0<=lo/\lo<=30/\(hi= -1\/(lo<=hi/\hi<=30)))=q20 lo hi:=by
 rw[jh];unfold q20;simp[qG]
theorem qaP{w:World}{g:Nat}{s:ByteArray}{z:PS}{c:UInt8}(h:dJ w g s z)(hs:s.size<=1000000)(hc:nxR (bys s) z=some c):
  Calls prog 102 #[.pointer (some ⟨g,0,none⟩)] w (mR (.agg (ndA (pF (bys s) z).1)) g s (pF (bys s) z).2 w):=by
 obtain⟨hz0,hzp,-⟩:=dE hc;rw[aP]at hzp;have c1:=h.c1;have f1:=h.free 1;have hgl:=h.lt;obtain⟨hi1,hi2⟩:=h.inc;have hbA:=aA (w.setCell ⟨g,1,none⟩ (.int .i64 ((z.p:Int)+1))) (.cells #[.int .i64 0,.int .i64 0,.int .u64 0,.int .u64 0,.int .u64 0,.int .u64 0,.int .i64 0,.int .i64 0] 65);have HS:=qa (hi1.up hbA);have HGA:=qa (aC hi2 (aE hbA (some g)))
 have qjV:Hid (nM ((w.setCell ⟨g,1,none⟩ (.int .i64 ((z.p:Int)+1))).alloc (.cells #[.int .i64 0,.int .i64 0,.int .u64 0,.int .u64 0,.int .u64 0,.int .u64 0,.int .i64 0,.int .i64 0] 65)) w.heap.size zN):=qa (by
  have:=nE (w.setCell ⟨g,1,none⟩ (.int .i64 ((z.p:Int)+1))) zN _ rfl;rwa [show(w.setCell ⟨g,1,none⟩ (.int .i64 ((z.p:Int)+1))).heap.size=w.heap.size by simp]at this)
 clear hi1 hi2;have HN1:Hid (∀W,dJ W g s (bI z)->Calls prog 114 #[.pointer (some ⟨g,0,none⟩)] W (mR (.int .i64 ((m6 (bys s) (bI z)).1:Nat)) g s (m6 (bys s) (bI z)).2 W)):=qa (fun W h=>qaw h hs);obtain⟨R,hR⟩:∃R,R=pF (bys s) z:=⟨_,rfl⟩;rw[<-hR];unfold pF uJ at hR;simp only at hR;generalize m6 (bys s) (bI z)=N1 at*;obtain⟨n,z1⟩:=N1;have HT1:Hid (∀W,dJ W g s z1->Calls prog 64 #[.pointer (some ⟨g,0,none⟩),.int .u8 44] W (mR (.bool (b7 (bys s) 44 z1).1) g s (b7 (bys s) 44 z1).2 W)):=qa (fun W h=>Y0 h hs 44);simp only at hR HN1;generalize b7 (bys s) 44 z1=T1 at*;obtain⟨bt,zt⟩:=T1;have HX1:Hid (∀W,dJ W g s zt->Calls prog 40 #[.pointer (some ⟨g,0,none⟩)] W fun e w'=>e=.returned (nxV (nxR (bys s) zt))/\∃x,w'=ext W x):=qa (fun W h=>nxP h);have HN2:Hid (∀W,dJ W g s zt->Calls prog 114 #[.pointer (some ⟨g,0,none⟩)] W (mR (.int .i64 ((m6 (bys s) zt).1:Nat)) g s (m6 (bys s) zt).2 W)):=qa (fun W h=>qaw h hs);simp only at hR HT1;unfold nxV at HX1;generalize (nxR (bys s) zt).getD 0=ch at*;generalize (nxR (bys s) zt).isSome=cs at*;generalize m6 (bys s) zt=N2 at*;obtain⟨m,zm⟩:=N2;simp only at hR HN2;clear hz0 hc h hbA
 obtain⟨hi,zh,qeC,hRw⟩:∃(hi:Int) (zh:PS),((bt=false/\hi=n/\zh=zt)\/(bt=true/\ch=125/\hi= -1/\zh=zt)\/(bt=true/\ch≠125/\hi=m/\zh=zm))/\
   R=(⟨8,0,0,0,0,0,n,hi⟩,if q20 n hi then(if(b7 (bys s) 125 zh).1 then(b7 (bys s) 125 zh).2 else bB 15 (b7 (bys s) 125 zh).2.p (b7 (bys s) 125 zh).2)else bB 18 z.p (if(b7 (bys s) 125 zh).1 then(b7 (bys s) 125 zh).2 else bB 15 (b7 (bys s) 125 zh).2.p (b7 (bys s) 125 zh).2)):=by
  cases bt
  ·exact⟨n,zt,.inl ⟨rfl,rfl,rfl⟩,hR⟩
  by_cases hch:ch=125
  ·rw[qt rfl,qt hch]at hR
   exact⟨-1,zt,.inr (.inl ⟨rfl,hch,rfl,rfl⟩),hR⟩
  rw[qt rfl,qr hch]at hR;exact⟨m,zm,.inr (.inr ⟨rfl,hch,rfl,rfl⟩),hR⟩
 clear hR;have HT2:Hid (∀W,dJ W g s zh->Calls prog 64 #[.pointer (some ⟨g,0,none⟩),.int .u8 125] W (mR (.bool (b7 (bys s) 125 zh).1) g s (b7 (bys s) 125 zh).2 W)):=qa (fun W h=>Y0 h hs 125);generalize b7 (bys s) 125 zh=T2 at*;obtain⟨b2,z4⟩:=T2;simp only at hRw HT2;have HF1:Hid (∀W,dJ W g s z4->Calls prog 41 #[.pointer (some ⟨g,0,none⟩),.int .i64 15,.int .i64 z4.p] W (mR (.tuple #[]) g s (bB 15 z4.p z4) W)):=qa (fun W h=>uR h 15 z4.p);have HC:Hid (∀W,Calls prog 115 #[.int .i64 n,.int .i64 hi] W fun e w'=>e=.returned (.bool (q20 n hi))/\∃x,w'=ext W x):=qa (fun W=>by have:=xG (w:=W) n hi;rwa [q8M]at this);have HF2:Hid (∀W y,dJ W g s y->Calls prog 41 #[.pointer (some ⟨g,0,none⟩),.int .i64 18,.int .i64 z.p] W (mR (.tuple #[]) g s (bB 18 z.p y) W)):=qa (fun W y h=>uR h 18 z.p);generalize q20 n hi=cn at*;have HR:=qa hRw;clear hRw;have qh9:ch≠125->¬ch.toNat=125:=fun h e=>h (UInt8.toNat_inj.1 e);rcases qeC with⟨rfl,rfl,rfl⟩|⟨rfl,rfl,rfl,rfl⟩|⟨rfl,hch,rfl,rfl⟩;rotate_left 2;have qlh:=qh9 hch;clear hch
 all_goals clear qh9
 all_goals
  cases b2
  all_goals
   cases cn
   all_goals
    go_enter func102,ntmps102
    go_wp2_with(first
     |((with_reducible refine(HN1.o _ HS.o).mono ?_);rintro e w1 ⟨rfl,hB,hg⟩;have HB1:=qa hB;have HG1:=qa (aC HGA.o hg);have HM1:=qa (qjV.o.keep hg (fun e=>by injection e with e;omega));clear hB hg)
     |((with_reducible refine(HT1.o _ HB1.o).mono ?_);rintro e w2 ⟨rfl,hB,hg⟩;have HB2:=qa hB;have HG2:=qa (aC HG1.o hg);have HM2:=qa (HM1.o.keep hg (fun e=>by injection e with e;omega));clear hB hg)
     |((with_reducible refine(HX1.o _ HB2.o).mono ?_);rintro e w5 ⟨rfl,hx⟩;have hb:=aB hx;have qeA:=qa (HB2.o.up hb);have qhX:=qa (aC HG2.o (aE hb (some g)));have qhL:=qa (HM2.o.up hb);clear hx hb)
     |((with_reducible refine(HN2.o _ qeA.o).mono ?_);rintro e w2 ⟨rfl,hB,hg⟩;have qdu:=qa hB;have qjY:=qa (aC qhX.o hg);have qjW:=qa (qhL.o.keep hg (fun e=>by injection e with e;omega));clear hB hg)
     |((with_reducible refine(HT2.o _ qdu.o).mono ?_);rintro e w3 ⟨rfl,hB,hg⟩;have HB3:=qa hB;have HG3:=qa (aC qjY.o hg);have HM3:=qa (qjW.o.keep hg (fun e=>by injection e with e;omega));have c13:=HB3.o.c1;clear hB hg)
     |((with_reducible refine(HT2.o _ qeA.o).mono ?_);rintro e w3 ⟨rfl,hB,hg⟩;have HB3:=qa hB;have HG3:=qa (aC qhX.o hg);have HM3:=qa (qhL.o.keep hg (fun e=>by injection e with e;omega));have c13:=HB3.o.c1;clear hB hg)
     |((with_reducible refine(HT2.o _ HB2.o).mono ?_);rintro e w3 ⟨rfl,hB,hg⟩;have HB3:=qa hB;have HG3:=qa (aC HG2.o hg);have HM3:=qa (HM2.o.keep hg (fun e=>by injection e with e;omega));have c13:=HB3.o.c1;clear hB hg)
     |((with_reducible refine(HF1.o _ HB3.o).mono ?_);rintro e w3 ⟨rfl,hB,hg⟩;have HB4:=qa hB;have HG4:=qa (aC HG3.o hg);have HM4:=qa (HM3.o.keep hg (fun e=>by injection e with e;omega));clear hB hg)
     |((with_reducible refine(HC.o _).mono ?_);rintro e w5 ⟨rfl,hx⟩;have hb:=aB hx;first|(have HB5:=qa (HB4.o.up hb);have HG5:=qa (aC HG4.o (aE hb (some g)));have HM5:=qa (HM4.o.up hb))|(have HB5:=qa (HB3.o.up hb);have HG5:=qa (aC HG3.o (aE hb (some g)));have HM5:=qa (HM3.o.up hb));clear hx hb)
     |((with_reducible refine(HF2.o _ _ HB5.o).mono ?_);rintro e w3 ⟨rfl,hB,hg⟩;have HB6:=qa hB;have HG6:=qa (aC HG5.o hg);have HM6:=qa (HM5.o.keep hg (fun e=>by injection e with e;omega));clear hB hg)
     |(refine hJ rfl _ _ rfl w.heap.size rfl _ ⟨8,0,0,0,0,0,n,_⟩ rfl (by first|exact HM6.o|exact HM5.o) ?_;intro w7 hB2 hg2;have HM7:=qa hB2;have HG7:=qa hg2;clear hB2 hg2))
    refine bG (s:=2) (ad:=⟨w.heap.size,0,none⟩) (x:=.agg (ndA ⟨8,0,0,0,0,0,n,_⟩)) rfl rfl rfl HM7.o.load ?_;rw[HR.o]
    first
     |exact⟨rfl,HB6.o.keep HG7.o (fun e=>by injection e with e;omega),fV HG6.o HG7.o (fun k e=>by injection e with e;omega)⟩
     |exact⟨rfl,HB5.o.keep HG7.o (fun e=>by injection e with e;omega),fV HG5.o HG7.o (fun k e=>by injection e with e;omega)⟩
def iZ(w:World):Prop:=∀j,j<64->w.cell? ⟨6,j,none⟩=some (.int .u8 (Lib.deBruijn64tab.getD j 0))
theorem iZ.lt{w:World}(h:iZ w):6<w.heap.size:=by
 rcases jO 6 w.heap.size with h1|h1
 ·exact h1
 have:=h 0 (by decide);simp[World.cell?,jr h1]at this
theorem iZ.up{w w':World}(h:iZ w)(hb:Below w.heap.size w w'):iZ w':=fun j hj=>by
 rw[hb.cell (p:=⟨6,j,none⟩) h.lt];exact h j hj
theorem iZ.fx{w w':World}{row:Option Nat}(h:iZ w)(hg:w.grownBy w' row)(hr:row≠some 6):iZ w':=fun j hj=>by
 have:=h j hj;rw[World.cell?_of_block (w:=w) (hg.block _ h.lt (fun e=>hr e.symm))];exact this
theorem q7e(x a:Nat)(hx:x<18446744073709551616)(hx0:x≠0)(qcZ:x&&&(18446744073709551616-x)=a):
  IntKind.u64.wrap (bits .and .u64 (x:Int) (IntKind.u64.wrap (-(x:Int)))*285870213051353865)/288230376151711744=((a*285870213051353865%18446744073709551616/288230376151711744:Nat):Int):=by
 have e1:IntKind.u64.wrap (-(x:Int))=((18446744073709551616-x:Nat):Int):=by rw[IntKind.wrap_u64];omega
 rw[e1,bits_and_u64_nat x _ hx (by omega),qcZ,IntKind.wrap_u64];omega
theorem q7f(x k idx:Nat)(w:World)(hx0:((x:Int)==0)=false)
  (key:IntKind.u64.wrap (bits .and .u64 (x:Int) (IntKind.u64.wrap (-(x:Int)))*285870213051353865)/288230376151711744=(idx:Int))
  (hi:idx<64) (hk:k<64) (hcell:w.cell? ⟨6,idx,none⟩=some (.int .u8 k)):
  Calls prog 143 #[.int .u64 x] w fun e w'=>e=.returned (.int .i64 k)/\∃y,w'=ext w y:=by
 go_enter func143,ntmps143
 go_wp2_with(simp only[key])
 go_ret;exact⟨rfl,(aI aJ)⟩
theorem tzP{x:Nat}(hx:x<18446744073709551616)(hx0:x≠0){w:World}(hT:iZ w):Calls prog 143 #[.int .u64 x] w fun e w'=>e=.returned (.int .i64 (Lib.ctz 64 x:Nat))/\∃y,w'=ext w y:=by
 obtain⟨qcZ,hk⟩:=Lib.lowest_bit 64 x hx0 hx;obtain⟨hi,qiq⟩:=Lib.deBruijn64_at _ hk;have hcell:=hT _ hi;rw[qiq]at hcell;exact q7f x _ _ w (by simp;omega) (q7e x _ hx hx0 qcZ) hi hk hcell
def wbL(i y:Nat):cX:=((List.range 64).filter y.testBit).map fun j=>UInt8.ofNat (64*i+j)
def q21(x:Nat):cX:=(List.range 4).flatMap fun i=>wbL i (wdR x i)
def q5l(x k:Nat):cX:=(List.range k).flatMap fun i=>wbL i (wdR x i)
theorem Q3(x k:Nat):q5l x (k+1)=q5l x k++wbL k (wdR x k):=by
 unfold q5l;rw[jw,a8];simp
theorem q0H(i:Nat):wbL i 0=[]:=by
 unfold wbL;rw[List.filter_eq_nil_iff.2 (fun j _=>by simp)];rfl
theorem q6g(i y:Nat):(wbL i y).length<=64:=by
 unfold wbL;rw[qy];exact qc (jX _ _) (by simp)
theorem q0I(x:Nat):∀k,(q5l x k).length<=64*k
 |0=>by simp[q5l]
 |k+1=>by
  rw[Q3,qi];have:=q0I x k;have:=q6g k (wdR x k);omega
theorem q0J{y:Nat}(h0:y≠0)(hy:y<2^64):Lib.ctz 64 y<64/\y.testBit (Lib.ctz 64 y)=true/\(∀j,j<Lib.ctz 64 y->y.testBit j=false)/\(∀j,(y&&&(y-1)).testBit j=(y.testBit j&&decide (j≠Lib.ctz 64 y)))/\y&&&(y-1)<y:=by
 obtain⟨m,hm,hk⟩:=Lib.ctzFrom_spec 64 y (by omega) hy;have e:Lib.ctz 64 y=Lib.ctzFrom 64 y:=by simp[Lib.ctz,h0]
 rw[e];generalize Lib.ctzFrom 64 y=k at*;subst hm
 have tb:∀j,(2^k*(2*m+1)).testBit j=(decide (k<=j)&&(2*m+1).testBit (j-k)):=fun j=>by
  rw[Nat.mul_comm,Nat.testBit_mul_two_pow]
 have hp:=Nat.two_pow_pos k
 have tb2:∀j,(2^k*(2*m+1)-1).testBit j=if j<k then true else(2*m).testBit (j-k):=fun j=>by
  have e2:2^k*(2*m+1)-1=2^k*(2*m)+(2^k-1):=by rw[Nat.mul_add];omega
  rw[e2,Nat.testBit_two_pow_mul_add _ (by omega)];split
  ·rename_i h;rw[Nat.testBit_two_pow_sub_one];simpa using h
  rfl
 refine⟨hk,by rw[tb];simp,fun j hj=>by rw[tb,qu (by omega)];rfl,fun j=>?_,Nat.lt_of_le_of_lt Nat.and_le_right (by omega)⟩;rw[Nat.testBit_and,tb,tb2];by_cases h1:j<k
 ·rw[qu (by omega)];simp
 rw[qr h1,qw (show k<=j by omega)];by_cases h2:j=k
 ·subst h2;simp
 obtain⟨n,rfl⟩:∃n,j=k+(n+1):=⟨j-k-1,by omega⟩;rw[show k+(n+1)-k=n+1 by omega,Nat.testBit_succ,Nat.testBit_succ,qw h2,show(2*m+1)/2=m by omega,show 2*m/2=m by omega];simp
theorem B8{p q:Nat->Bool}:∀(n s k:Nat),s<=k->k<s+n->p k=true->(∀j,j<k->p j=false)->(∀j,q j=(p j&&decide (j≠k)))->(List.range' s n).filter p=k::(List.range' s n).filter q
 |0,s,k,h1,h2,_,_,_=>absurd h2 (by omega)
 |n+1,s,k,h1,h2,hp,hl,hq=>by
  rw[List.range'_succ];by_cases h:s=k
  ·subst h
   rw[List.filter_cons_of_pos hp,List.filter_cons_of_neg (by rw[hq];simp)]
   congr 1
   refine List.filter_congr fun j hj=>?_;rw[hq,qw (by have:=(List.mem_range'_1.1 hj).1;omega),Bool.and_true]
  rw[List.filter_cons_of_neg (by rw[hl s (by omega)];simp),List.filter_cons_of_neg (by rw[hq,hl s (by omega)];simp)];exact B8 n (s+1) k (by omega) (by omega) hp hl hq
theorem q5m{i y:Nat}(h0:y≠0)(hy:y<2^64):wbL i y=UInt8.ofNat (64*i+Lib.ctz 64 y)::wbL i (y&&&(y-1)):=by
 obtain⟨h1,h2,h3,h4,-⟩:=q0J h0 hy;unfold wbL;rw[List.range_eq_range',B8 64 0 _ (qd _) (by omega) h2 h3 h4,qF]
theorem q7g:∀c:Fin 256,q21 (eZ (UInt8.ofFin c))=[UInt8.ofFin c]:=by decide+kernel
theorem q0K(c:UInt8):q21 (eZ c)=[c]:=q7g c.toFin
theorem q0L(n:Nat)(h:n<256):[Value.int .u8 (n:Int)]=cK [UInt8.ofNat n]:=by
 simp[cK];omega
theorem q5n{y:Nat}(h0:y≠0)(hy:y<18446744073709551616):bits .and .u64 (y:Int) ((y:Int)-1)=((y&&&(y-1):Nat):Int):=by
 rw[show((y:Int)-1)=((y-1:Nat):Int) by omega,bits_and_u64_nat _ _ hy (by omega)]
theorem J2{B:Array Value}{i:Nat}{y:Int}(hi:i<4)(h:B[i]? =some (.int .u64 y))(W:World):(Instr.index 63 (.agg B) (.int .i64 (i:Int))).run prog W=.ok (.int .u64 y) W:=by
 have h1:(sizeOf 61).run prog W=.ok 1 W:=by kernel_rfl
 have h2:(isAgg 61).run prog W=.ok false W:=by kernel_rfl
 have h3:(0:Int)<=i/\(i:Int)<4:=by omega
 simp[Instr.index,asIntOf,run_underlying underlying63,h3,part,h1,h2,Result.andThen,h,show¬4<=i from by omega]
theorem q6h {x : Nat} (hx : x < 2 ^ 256) {w : World} (hT : iZ w) : Calls prog 142 #[cD x] w fun e w' => e = .returned (.string ⟨(q21 x).toArray⟩) ∧ ∃ y, w' = ext w y := by
  obtain ⟨X, hX⟩ : ∃ X, X = (wsV x).toArray := ⟨_, rfl⟩
  have hb0 : eX (w.alloc (.cells X 63)) w.heap.size x := by rw [hX]; exact gF w x
  have HB0 := qa hb0
  have HT := qa hT
  have hc : ∀ W, (binOp .eql 63 (.agg X) (.agg #[.int .u64 0, .int .u64 0, .int .u64 0, .int .u64 0])).run prog W = .ok (.bool (decide (x = 0))) W := fun W => by
    have := q2q W (wdR x 0 : Nat) (wdR x 1 : Nat) (wdR x 2 : Nat) (wdR x 3 : Nat) 0 0 0 0
    rw [hX]
    refine Eq.trans this ?_
    congr 2
    refine decide_eq_decide.2 ⟨fun h => ?_, fun h => by subst h; simp [yF]⟩
    refine q6c hx (by decide) fun i hi => ?_
    rw [yF]
    obtain rfl | rfl | rfl | rfl : i = 0 ∨ i = 1 ∨ i = 2 ∨ i = 3 := by omega
    all_goals omega
  have hg := mW
  have qgg : Hid (∀ k, k < 4 → X[k]? = some (.int .u64 (wdR x k : Nat))) := qa (fun k hk => by
    rw [hX]; simpa using J1 x hk)
  have HS : Hid (cD x = .agg X) := qa (by rw [hX]; rfl)
  rw [HS.o]
  clear hb0 hT hX
  by_cases h0 : x = 0
  · subst h0
    simp only [decide_true] at hc
    have HE : Hid (q21 0 = []) := qa (by unfold q21; simp [yF, q0H])
    go_enter func142, ntmps142
    go_wp2_with (refine aQ rfl _ rfl w.heap.size rfl _ HB0.o ?_; rw [HS.o])
    go_ret
    exact ⟨by rw [HE.o]; rfl, (aI aJ)⟩
  · simp only [h0, decide_false] at hc
    have HB1 : Hid (Below w.heap.size w (w.alloc (.cells X 63))) := qa (aA _ _)
    go_enter func142, ntmps142
    go_wp2_with (refine aQ rfl _ rfl w.heap.size rfl _ HB0.o ?_; rw [HS.o])
    go_loopg [3, 10] 5 (fun gk vb iv wr => ∃ k : Nat, k ≤ 4 ∧ iv = .int .i64 k ∧ Own wr w.heap.size 5 vb (cK (q5l x k)) ∧ Below w.heap.size w wr ∧ gk = 5 - k)
    case atStart => exact ⟨0, by omega, rfl, Own.nil _ _ _, HB1.o, rfl⟩
    case round =>
      obtain ⟨k, hk, rfl, hown, qbe, rfl⟩ := hrel
      have HO := qa hown
      have HB := qa qbe
      clear hown qbe
      by_cases hlt : k < 4
      · have hcell := qgg.o k hlt
        have hix := J2 hlt hcell
        have HBK := qa (Q3 x k)
        have HPL := qa (q0I x k)
        have HWL := qa (Y1 x k)
        have qim := Y1 x k
        generalize wdR x k = y0 at *
        generalize q5l x k = pre at *
        clear hcell qim
        go_wp2
        rw [show decide ((k : Int) < 4) = true from qw (by omega)]
        generalize wr = wo at *
        go_loopg [3, 5] (y0 + 1) (fun gk vb iv wr => ∃ (y : Nat) (q : cX), y < 18446744073709551616 ∧ iv = .int .u64 y ∧ Own wr w.heap.size 5 vb (cK (pre ++ q)) ∧ Hid (q ++ wbL k y = wbL k y0) ∧ Below w.heap.size w wr ∧ gk = y + 1)
        case atStart => exact ⟨y0, [], HWL.o, rfl, by rw [j4]; exact HO.o, qa rfl, HB.o, rfl⟩
        case round =>
          clear HO HB
          obtain ⟨y, q, hy, rfl, hown, HQ, qbe, rfl⟩ := hrel
          have HO := qa hown
          have HB := qa qbe
          clear hown qbe
          by_cases hy0 : y = 0
          · subst hy0
            have HE2 : Hid (pre ++ q = q5l x (k + 1)) := qa (by
              have := HQ.o
              rw [q0H, j4] at this
              rw [HBK.o, this])
            rw [HE2.o] at HO
            clear HE2 HQ
            go_wp2
            go_roundg (4 - k)
            case measure => omega
            case rel => exact ⟨k + 1, by omega, by go_num, HO.o, HB.o, by omega⟩
          · have hne : ((y : Int) != 0) = true := by simp; omega
            obtain ⟨qkI, -, -, -, qkD⟩ := q0J hy0 hy
            have HTZ := qa (tzP hy hy0 (HT.o.up (HB.o)))
            have HST := qa (q5m (i := k) hy0 hy)
            have HAP := qa (q5n hy0 hy)
            have HQ2 : Hid ((q ++ [UInt8.ofNat (64 * k + Lib.ctz 64 y)]) ++ wbL k (y &&& (y - 1)) = wbL k y0) := qa (by rw [← HQ.o, HST.o, qj]; rfl)
            have HQL : Hid ((cK (pre ++ q)).length ≤ 1000) := qa (by
              have h1 := qW List.length HQ.o
              have h2 := q6g k y0
              have h3 := HPL.o
              rw [qi] at h1
              rw [dA, qi]; omega)
            generalize Lib.ctz 64 y = c at *
            generalize y &&& (y - 1) = y2 at *
            have HBV : Hid (cK (pre ++ (q ++ [UInt8.ofNat (64 * k + c)])) = cK (pre ++ q) ++ [Value.int .u8 ((k : Int) * 64 + (c : Int))]) := qa (by
              rw [← qj, mZ, ← q0L _ (by omega)]
              congr 2
              rw [show ((64 * k + c : Nat) : Int) = (k : Int) * 64 + (c : Int) by omega])
            generalize cK (pre ++ q) = bs at *
            clear HST hc
            go_wp2_with (first
              | ((with_reducible refine HTZ.o.mono ?_); rintro e w3 ⟨rfl, hx3⟩; have hb3 := aB hx3; have HO3 := qa (HO.o.up hb3); have HB3 := qa (HB.o.trans (hb3.mono HB.o.size)); clear hx3 hb3
                 have hlW := qa (aA w3 (.cells #[.int .u8 ((k : Int) * 64 + (c : Int))] 5))
                 have HX : Hid (Sl (w3.alloc (.cells #[.int .u8 ((k : Int) * 64 + (c : Int))] 5)) (.slice (some ⟨w3.heap.size, 0, none⟩) 1 1) [.int .u8 ((k : Int) * 64 + (c : Int))]) := qa (by simpa using dY w3 #[.int .u8 ((k : Int) * 64 + (c : Int))] 5 (by simp))
                 have HT1 := qa (HO3.o.up hlW.out)
                 have HT3 : Hid (bs.length + [Value.int .u8 ((k : Int) * 64 + (c : Int))].length ≤ 4294967296) := qa (by have := HQL.o; simp; omega)
                 have HT4 : Hid (w.heap.size ≤ (w3.alloc (.cells #[.int .u8 ((k : Int) * 64 + (c : Int))] 5)).heap.size) := qa (qc HB3.o.size hlW.out.size))
              | (at_builtin; refine bM rfl (.tmp 20) (.tmp 27) 143 rfl w.heap.size 5 (.int .u8 0) 1 underlying143 (by kernel_rfl) rfl (by decide) u3 bs rfl HT1.o (.slice (some ⟨w3.heap.size, 0, none⟩) 1 1) [.int .u8 ((k : Int) * 64 + (c : Int))] rfl HX.o (by intro u hu; simp only [jd] at hu; subst hu; rfl) HT3.o HT4.o ?_; intro v' w5 hown1 hg1 hk1; have HO5 := qa hown1; have HG1 := qa hg1; clear hown1 hg1 hk1; have HB5 := qa (dR (HB3.o.trans (hlW.out.mono HB3.o.size)) HT4.o HT1.o HG1.o)))
            go_roundg (y2 + 1)
            case measure => omega
            case rel => exact ⟨y2, q ++ [UInt8.ofNat (64 * k + c)], by omega, by rw [HAP.o], by rw [HBV.o]; exact HO5.o, HQ2, HB5.o, rfl⟩
      · obtain rfl : k = 4 := by omega
        have hcv := fI (P := prog) wr 143 9 5 underlying143 underlying5 underlying9 u3 _ HO.o.sl
        have HE : Hid (q21 x = q5l x 4) := qa rfl
        go_wp2
        go_ret
        rw [HE.o]
        exact ⟨rfl, aI HB.o⟩
end Go.Cm
namespace Go.Cm
open Go.RowKit Go.Proofs Go.Proofs.YtdffpnabpoogbaaGreatDoor
def K7:List (String×DataW Unit):=("math/bits.deBruijn64tab",Rows.laid_math_bits_deBruijn64tab)::q5W
theorem q86:K7.filter (fun x=>x.1 != "math/bits.deBruijn64tab")=q5W:=by
 unfold K7 q5W;simp[List.filter]
theorem gJ.ofR{W:World}(h:laidMetH prog K7 W):gJ W:=gJ.of (by
 have:=laidMetH.filter (fun x=>x.1 != "math/bits.deBruijn64tab") h;rwa [q86]at this)
theorem q87:∃rest,K7.filter (fun x=>x.2.handleName?.isNone)=("math/bits.deBruijn64tab",Lib.tabData .u8 (Lib.deBruijn64tab.map Int.ofNat))::rest:=⟨_,rfl⟩
theorem iZ.ofR{W:World}(h:laidMetH prog K7 W):iZ W:=by
 obtain⟨h1,-⟩:=laidMetH_iff.1 h;obtain⟨rest,e⟩:=q87;rw[e]at h1;have h2:=Lib.tabIs_of_head (g:=6) (by kernel_rfl) (by kernel_rfl) underlying191 underlying5 (by kernel_rfl) (by kernel_rfl) h1;intro j hj;have:=h2.cell (g:=6) (by kernel_rfl) j (qe hj (by decide));rw[this]
 congr 2
 rw[qq,qq,qQ];cases Lib.deBruijn64tab[j]? <;>rfl
noncomputable def q1f(os:Os):World:=
 let w0:=q85 os
 {w0 with heap:=w0.heap.modify 6 fun
   |.cells _ t frozen=>.cells (Lib.deBruijn64tab.map fun k=>Value.int .u8 (Int.ofNat k)).toArray t frozen
   |o=>o}
theorem T7(os:Os)(args:Array Value):laidMetH prog K7 ((q1f os).forCall (fun _ _=>0) ⟨#[],args,[]⟩).memory:=
 laidMetH_of_parts (laidMet_of_run' 8 (by kernel_rfl) (by kernel_rfl)) (by kernel_rfl)
end Go.Cm
