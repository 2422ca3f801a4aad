/- Walks of functions and plain facts, joined and squeezed by a program. Conditions: as each says. -/
import Derived.Test.YtnelgjehpbjloaaGreatDoorGXE
set_option maxHeartbeats 8000000
set_option maxRecDepth 100000
set_option linter.unusedSimpArgs false
namespace Go.Cm
open Go.RowKit Go.Proofs
theorem q52{m:Nat}(h:m<4294967296):bits .and .u32 (m:Int) 1=((m%2:Nat):Int):=by
 have:=u32_and_nat m 1 h (by decide)
 rw[Nat.and_one_is_mod]at this
 exact this
theorem q6H{n:Nat}(hn:n<4294967296)(w:World):Calls Tryz.prog 146 #[.int .u32 n] w fun e w'=>e=.returned (.int .u32 (sQ 8 n:Nat))/\∃x,w'=ext w x:=by
 obtain⟨R,hR⟩:∃R,R=sQ 8 n:=⟨_,rfl⟩;rw[<-hR];have HR:=q7 hR;clear hR
 go_enter Tryz.func146,Tryz.ntmps146
 go_wp2
 go_loopg [0,4] 8 (fun gk nv iv wr=>∃(i m:Nat),i<=8/\iv=.int .i64 i/\nv=.int .u32 m/\m<4294967296/\Hid (R=sQ (8-i) m)/\gk=8-i/\Below w.heap.size w wr)
 case atStart=>exact⟨0,n,by omega,rfl,rfl,hn,HR,rfl,qj _ _⟩
 case round=>
  obtain⟨i,m,hi,rfl,rfl,hm,hr,rfl,q8Z⟩:=hrel
  by_cases h1:i<8
  ·have h1i:(i:Int)<8:=by omega
   have hst:R=sQ (8-(i+1)) (kH m):=by rw[hr.out,show 8-i=(8-(i+1))+1 by omega];rfl
   have hlt:=wP hm;have hx:=q5X (m/2) 3988292384 (by omega) (by decide)
   have ha:=q52 hm
   by_cases h2:m%2=1
   ·have hs:kH m=(m/2)^^^3988292384:=by unfold kH;rw[if_pos h2]
    have hx2:bits .xor .u32 ((m:Int)/2) 3988292384=(kH m:Nat):=by rw[hs];simpa using hx
    rw[h2]at ha;have HST:=q7 hst;generalize kH m=q at*;clear hx hs hst;go_wp2
    go_roundg (8-(i+1))
    case measure=>omega
    case rel=>exact⟨i+1,q,by omega,by congr 1,rfl,hlt,HST,rfl,q8Z⟩
   ·have hs:kH m=m/2:=by unfold kH;rw[if_neg h2]
    rw[show m%2=0 by omega]at ha
    rw[hs]at hst hlt;have HST:=q7 hst;clear hx hs hst;go_wp2
    go_roundg (8-(i+1))
    case measure=>omega
    case rel=>exact⟨i+1,m/2,by omega,by congr 1,by congr 1,hlt,HST,rfl,q8Z⟩
  ·have h1i:decide ((i:Int)<8)=false:=by rw[qm];omega
   have hz:Hid (R=m):=q7 (by rw[hr.out,show 8-i=0 by omega];rfl)
   go_wp2;go_ret
   exact⟨by rw[hz.out];rfl,qt q8Z⟩
def V0(k:Nat):List Value:=(List.range k).map fun i=>.int .u32 (sQ 8 i:Nat)
theorem eS(k:Nat):(V0 k).length=k:=by simp[V0]
theorem q10{k i:Nat}(h:i<k):(V0 k).getD i undef=.int .u32 (sQ 8 i:Nat):=by simp[V0,List.getD,h]
def tT(k:Nat):List Value:=V0 k++List.replicate (256-k) (.int .u32 0)
theorem nT{k:Nat}(h:k<=256):(tT k).length=256:=by simp[tT,eS];omega
theorem q2U{k:Nat}(h:k<256):(tT k).set k (.int .u32 (sQ 8 k:Nat))=tT (k+1):=by
 unfold tT;rw[List.set_append_right _ _ (by rw[eS];exact q9 _),eS,Nat.sub_self,show 256-k=(256-(k+1))+1 by omega,List.replicate_succ,List.set_cons_zero]
 unfold V0;rw[List.range_succ,List.map_append,qh];rfl
def uW:Array Value:=(V0 256).toArray
theorem wT:(Tryz.zeroCells174).toList=tT 0:=by
 have h:(Tryz.zeroCells174).toList=List.replicate 256 (.int .u32 0):=by kernel_rfl
 rw[h];rfl
theorem q2V:tT 256=V0 256:=by simp[tT]
theorem O9(k:Nat):∀u∈V0 k,u.oneCell'=true:=by
 intro u hu;simp only[V0,List.mem_map]at hu;obtain⟨b,-,rfl⟩:=hu;rfl
theorem q53{k i:Nat}(hk:k<=256)(hi:i<256):∃y:Nat,(tT k).getD i undef=.int .u32 y:=by
 unfold tT
 by_cases h:i<k
 ·exact⟨sQ 8 i,by rw[List.getD_eq_getElem?_getD,List.getElem?_append_left (by rw[eS];exact h)];rw[<-List.getD_eq_getElem?_getD];exact q10 h⟩
 ·exact⟨0,by rw[List.getD_eq_getElem?_getD,List.getElem?_append_right (by rw[eS];omega),eS,List.getElem?_replicate,if_pos (by omega)];rfl⟩
theorem q11(w:World):∃w1,(w.alloc (.cells Tryz.zeroCells174 174)).alloc (.cells Tryz.zeroCells174 174)=w1/\Own w1 w.heap.size 174 (.slice (some ⟨w.heap.size,0,none⟩) 256 256) (tT 0)/\Own w1 w.heap.size 174 (.slice (some ⟨w.heap.size+1,0,none⟩) 256 256) (tT 0)/\Below w.heap.size w w1:=by
 have hs:(Tryz.zeroCells174).size=256:=by kernel_rfl
 refine⟨_,rfl,?_,?_,qs (qn w _) _⟩
 ·have h:=(qE w w.heap.size Tryz.zeroCells174 174 (by rw[hs];decide) (q9 _)).up (qn _ (.cells Tryz.zeroCells174 174))
  rwa [hs,wT]at h
 ·have h:=qE (w.alloc (.cells Tryz.zeroCells174 174)) w.heap.size Tryz.zeroCells174 174 (by rw[hs];decide) (by simp)
  rw[hs,wT]at h
  simpa using h
theorem q6I(w:World):Calls Tryz.prog 105 #[] w fun e w'=>e=.returned (.agg uW)/\∃x,w'=ext w x:=by
 go_enter Tryz.func105,Tryz.ntmps105
 go_upto_region 4 with(fail)
 obtain⟨w1,he,h0,h2,hb1⟩:=q11 w;rw[he];have H0:=q7 h0;have H2:=q7 h2;have HB1:=q7 hb1;clear he h0 h2 hb1
 go_loopg [4] 256 (fun gk iv wr=>∃(i:Nat),i<=256/\iv=.int .i64 i/\gk=256-i/\Hid (Own wr w.heap.size 174 (.slice (some ⟨w.heap.size,0,none⟩) 256 256) (tT 0))/\Hid (Own wr w.heap.size 174 (.slice (some ⟨w.heap.size+1,0,none⟩) 256 256) (tT i))/\Hid (Below w.heap.size w wr))
 case atStart=>exact⟨0,by omega,rfl,rfl,H0,H2,HB1⟩
 case round=>
  obtain⟨i,hi,rfl,rfl,H0r,H2r,HBr⟩:=hrel
  by_cases h1:i<256
  ·have h1i:(i:Int)<256:=by omega
   have HE:=q7 (fun W=>q6H (n:=i) (by omega) W)
   have qa1:=q7 (q2U h1);obtain⟨y,hy⟩:=q53 (Nat.le_of_lt h1) h1;have HY:=q7 hy;generalize sQ 8 i=E at*;clear hy
   go_wp2_with((with_reducible go_at_call 146);refine(HE.out _).mono ?_;rintro en w2 ⟨rfl,hx⟩;have hb2:=qr hx;have K2:=H2r.out.up hb2;have H0s:=q7 (H0r.out.up hb2);have HBs:=q7 (qq HBr.out hb2);have c2:w2.cell? ⟨w.heap.size+1,i,none⟩=some (.int .u32 (y:Nat)):=(by rw[K2.cell (by rw[nT hi];exact h1),HY.out]);have f2:=K2.free i;have q9x:=K2.blk.2;have H2s:=q7 K2;clear hx hb2 K2)
   obtain⟨ho,hgr⟩:=H2s.out.store i (.int .u32 (E:Nat));rw[qa1.out]at ho;have ho0:=H0s.out.keep hgr (.inr (by simp[Value.ownBlock]))
   have hbz:=HBs.out.setCell (p:=⟨w.heap.size+1,i,none⟩) (Nat.le_succ _) (.int .u32 (E:Nat))
   go_roundg (256-(i+1))
   case measure=>omega
   case rel=>exact⟨i+1,by omega,by congr 1,rfl,q7 ho0,q7 ho,q7 hbz⟩
  ·have h1i:decide ((i:Int)<256)=false:=by rw[qm];omega
   obtain rfl:i=256:=by omega
   obtain⟨A,hgA,hsA,hA⟩:=H2r.out.whole;rw[q2V]at hA;have hAt:A=uW:=by unfold uW;rw[<-hA]
   subst hAt;have hsT:uW.size=256:=by simp[uW,eS]
   have hiT:(Tryz.prog.info? 174).map (·.size)=some uW.size:=by rw[hsT];kernel_rfl
   have qaU:Hid (∀u∈uW.toList,u.oneCell'=true):=q7 (by simpa[uW]using O9 256)
   have HLE:Hid (uW.size<=(tT 0).length):=q7 (by rw[hsT,nT (by omega)];exact q9 _)
   have HI:=q7 hiT;have HG:=q7 hgA;have HS:=q7 hsT;clear hA hgA hsT hiT hsA h1i;generalize hTA:uW=A at*;have HTA:=q7 hTA;clear hTA
   go_wp2_with(first
    |(refine qI rfl 174 256 _ rfl (w.heap.size+1) rfl A HS.out HG.out _ Tryz.underlying174 rfl (by kernel_rfl) ?_)
    |(refine qo rfl 174 _ _ rfl w.heap.size 174 w.heap.size 256 256 rfl A rfl HI.out (tT 0) H0r.out HLE.out qaU.out ?_;intro w5 ho5 hg5;have HO5:=q7 ho5;have HB5:=q7 (HBr.out.grown hg5 HBr.out.size (by intro k hk;cases hk;exact q9 _));clear ho5 hg5))
   have hxs:A.toList++(tT 0).drop A.size=A.toList:=by rw[List.drop_eq_nil_of_le (by rw[nT (by omega),HS.out];exact q9 _),List.append_nil]
   have ho6:=HO5.out;rw[hxs]at ho6;refine bC rfl rfl rfl (bD (P:=Tryz.prog) ho6 _ Tryz.underlying174 rfl (by kernel_rfl)) ⟨by rw[HTA.out],qt HB5.out⟩
theorem q54{w:World}{g c:Nat}{b:UInt8}{B:Nat}(hc:c<4294967296)(ho:Own w B 174 (.slice (some ⟨g,0,none⟩) 256 256) (V0 256)):Calls Tryz.prog 106 #[.pointer (some ⟨g,0,none⟩),.int .u32 c,.int .u8 (b.toNat:Nat)] w fun e w'=>e=.returned (.int .u32 (q0Z c b:Nat))/\w'=w:=by
 have hb:=UInt8.toNat_lt b;have hx:(c%256)^^^b.toNat<256:=Nat.xor_lt_two_pow (n:=8) (by omega) hb
 have h1:=u8_xor_nat (c%256) b.toNat (by omega) hb
 rw[show((c%256:Nat):Int)=(c:Int)%256 by omega]at h1
 have h2:=q5X (sQ 8 ((c%256)^^^b.toNat)) (c/256) (wQ 8 (by omega)) (by omega)
 rw[show((c/256:Nat):Int)=(c:Int)/256 by omega]at h2
 have hR:q0Z c b=sQ 8 ((c%256)^^^b.toNat)^^^(c/256):=rfl;rw[<-hR]at h2;have hcell:w.cell? ⟨g,(c%256)^^^b.toNat,none⟩=some (.int .u32 (sQ 8 ((c%256)^^^b.toNat):Nat)):=by rw[ho.cell (by rw[eS];exact hx),q10 hx]
 generalize q0Z c b=R at*;generalize sQ 8 ((c%256)^^^b.toNat)=E at*;generalize (c%256)^^^b.toNat=X at*;generalize b.toNat=y at*;have hXi:(X:Int)<256:=by omega
 clear hR ho
 go_enter Tryz.func106,Tryz.ntmps106
 go_wp2;go_ret
 exact⟨rfl,rfl⟩
theorem onP{c:Nat}{s:ByteArray}(hc:c<4294967296)(hs:s.size<=4611686018427387904)(w:World):Calls Tryz.prog 58 #[.int .u32 c,.string s] w fun e w'=>e=.returned (.int .u32 (4294967295-pM (4294967295-c) (bys s):Nat))/\∃x,w'=ext w x:=by
 have HIX:=q7 (fun(i:Nat) (h:i<s.size) (W:World)=>jS (P:=Tryz.prog) 9 Tryz.underlying9 h W)
 have HL:=q7 (qF s);have e0:=wS hc;obtain⟨c0,hc0⟩:∃c0,c0=4294967295-c:=⟨_,rfl⟩;rw[<-hc0]at e0⊢;have hcb:c0<4294967296:=by omega
 obtain⟨R,hR⟩:∃R,R=4294967295-pM c0 (bys s):=⟨_,rfl⟩;rw[<-hR];have HR:=q7 hR;clear hR;generalize bys s=t at*;clear hc0
 go_enter Tryz.func58,Tryz.ntmps58
 have hsT:uW.size=256:=by simp[uW,eS]
 have hiT:(Tryz.prog.info? 174).map (·.size)=some uW.size:=by rw[hsT];kernel_rfl
 have qaU:Hid (∀u∈uW.toList,u.oneCell'=true):=q7 (by simpa[uW]using O9 256)
 have HLE:Hid (uW.size<=(tT 0).length):=q7 (by rw[hsT,nT (by omega)];exact q9 _)
 have HI:=q7 hiT;have HTT:Hid (uW.toList++(tT 0).drop uW.size=V0 256):=q7 (by rw[List.drop_eq_nil_of_le (by rw[nT (by omega),hsT];exact q9 _),List.append_nil];simp[uW])
 clear hsT hiT;have HTP:=q7 q6I;generalize uW=A at*
 have HZ:Hid (∀W:World,Own (W.alloc (.cells Tryz.zeroCells174 174)) W.heap.size 174 (.slice (some ⟨W.heap.size,0,none⟩) 256 256) (tT 0)):=q7 (fun W=>by
  have hs:(Tryz.zeroCells174).size=256:=by kernel_rfl
  have h:=qE W W.heap.size Tryz.zeroCells174 174 (by rw[hs];decide) (q9 _)
  rwa [hs,wT]at h)
 go_wp2_with(first
  |((with_reducible go_at_call 105);refine(HTP.out _).mono ?_;rintro en w1 ⟨rfl,hx⟩;have HB1:=q7 (qr hx);have HZ1:=q7 (HZ.out w1);clear hx)
  |(refine qo rfl 174 _ _ rfl w1.heap.size 174 w1.heap.size 256 256 rfl A rfl HI.out (tT 0) HZ1.out HLE.out qaU.out ?_;intro w2 ho2 hg2;rw[HTT.out]at ho2;have HO2:=q7 ho2;have HB2:=q7 (((qs HB1.out _).grown hg2 (qa HB1.out.size (by simp)) (by intro k hk;cases hk;exact HB1.out.size)):Below w.heap.size w w2);clear ho2 hg2))
 obtain⟨g,hg⟩:∃g,g=w1.heap.size:=⟨_,rfl⟩;have HO3:Hid (Own w2 w1.heap.size 174 (.slice (some ⟨g,0,none⟩) 256 256) (V0 256)):=q7 (by rw[hg];exact HO2.out)
 rw[<-hg];clear HO2 hg
 go_loopg [0,12] s.size (fun gk nv iv wr=>∃(i:Nat),i<=s.size/\iv=.int .i64 i/\nv=.int .u32 (pM c0 (t.take i):Nat)/\gk=s.size-i/\wr=w2)
 case atStart=>exact⟨0,qc _,rfl,rfl,rfl,rfl⟩
 case round=>
  obtain⟨i,hi,rfl,rfl,rfl,rfl⟩:=hrel;have hlt:=I3 (t.take i) hcb
  by_cases h1:i<s.size
  ·have h1i:(i:Int)<(s.size:Nat):=by omega
   have hix:=HIX.out i h1;have hbt:=q54 (b:=t.getD i 0) hlt HO3.out;have hst:pM c0 (t.take (i+1))=q0Z (pM c0 (t.take i)) (t.getD i 0):=by rw[wR (by rw[HL.out];exact h1),zQ]
   rw[<-hst]at hbt;have HBT:=q7 hbt;generalize pM c0 (t.take i)=x at*;generalize hx2:pM c0 (t.take (i+1))=x2 at*;have HX2:=q7 hx2;generalize (t.getD i 0).toNat=y at*;clear hst hbt HIX hx2
   go_wp2_with((with_reducible go_at_call 106);refine HBT.out.mono ?_;rintro en w3 ⟨rfl,hx⟩;rw[hx];clear hx)
   go_roundg (s.size-(i+1))
   case measure=>omega
   case rel=>exact⟨i+1,by omega,by congr 1,by rw[HX2.out],rfl,rfl⟩
  ·have h1i:decide ((i:Int)<(s.size:Nat))=false:=by rw[qm];omega
   have e1:=wS hlt;rw[List.take_of_length_le (by rw[HL.out];omega)]at e1 hlt⊢
   rw[<-HR.out]at e1;generalize pM c0 t=x at*;go_wp2;go_ret
   exact⟨rfl,qt HB2.out⟩
theorem q55{s:ByteArray}(hs:s.size<=4611686018427387904)(w:World):Calls Tryz.prog 27 #[.string s] w fun e w'=>e=.returned (.int .u32 (bL (bys s):Nat))/\∃x,w'=ext w x:=by
 have H:=q7 (fun W=>onP (c:=0) (s:=s) (by decide) hs W)
 have e:bL (bys s)=4294967295-pM (4294967295-0) (bys s):=rfl;rw[e];generalize 4294967295-pM (4294967295-0) (bys s)=R at*
 go_enter Tryz.func27,Tryz.ntmps27
 go_wp2_with((with_reducible go_at_call 58);refine(H.out _).mono ?_;rintro en w3 ⟨rfl,x3,rfl⟩)
 go_ret
 exact⟨rfl,(qt (by repeat(first|exact qj _ _|assumption|refine qw ?_ _|refine qk ?_|refine qA ?_ _|refine qs ?_ _)))⟩
structure GH where
 time:Int
 extra:ByteArray
 name:ByteArray
 note:ByteArray
 level:Int
 os:Int
 text:Bool
 sum:Bool
 flags:Int
def ghC(h:GH):Array Value:=#[.int .i64 h.time,.string h.extra,.string h.name,.string h.note,.int .i64 h.level,.int .i64 h.os,.bool h.text,.bool h.sum,.int .i64 h.flags]
structure X9(h:GH):Prop where
 time: -9223372036854775808<=h.time/\h.time<9223372036854775808
 level: -9223372036854775808<=h.level/\h.level<9223372036854775808
 os: -9223372036854775808<=h.os/\h.os<9223372036854775808
 flags: -9223372036854775808<=h.flags/\h.flags<9223372036854775808
def jF(f b:Int):Bool:=f/b%2==1
def no0(l:qK):Bool:=l.all (· != 0)
def fC(f:Int):Bool:=decide (0<=f)&&decide (f<=28)&&(f%4==0)
def iU(n k:Int):Bool:=decide (0<=n)&&decide (n<=k)
def jG(h:GH):Bool:=fC h.flags&&iU h.time 4294967295&&iU h.level 255&&iU h.os 255&&(jF h.flags 4||h.extra.toList.isEmpty)&&(jF h.flags 8||h.name.toList.isEmpty)&&(jF h.flags 16||h.note.toList.isEmpty)&&decide (h.extra.size<=65535)&&no0 (bys h.name)&&no0 (bys h.note)
theorem gS{f:Int}(h:fC f=true):f=0\/f=4\/f=8\/f=12\/f=16\/f=20\/f=24\/f=28:=by
 simp only[fC,Bool.and_eq_true,decide_eq_true_eq,beq_iff_eq]at h;omega
theorem q12{f:Int}(h:fC f=true):(bits .and .i64 f 4==0)= !jF f 4/\(bits .and .i64 f 8==0)= !jF f 8/\(bits .and .i64 f 16==0)= !jF f 16:=by
 rcases gS h with rfl|rfl|rfl|rfl|rfl|rfl|rfl|rfl<;>decide+kernel
theorem q2X{n:Nat}(hn:n<2^64):n&&&18446744073709551587=0↔n<32/\n%4=0:=by
 constructor
 ·intro h
  have hb:∀i,(18446744073709551587:Nat).testBit i=true->n.testBit i=false:=fun i hi=>by
   have:=congrArg (fun m=>Nat.testBit m i) h
   simp only[Nat.testBit_and,hi,Bool.and_true,Nat.zero_testBit]at this
   exact this
  have hall:∀i,i<64->(i<2\/5<=i)->(18446744073709551587:Nat).testBit i=true:=by decide
  have h0:n.testBit 0=false:=hb 0 (hall 0 (by decide) (.inl (by decide)))
  have h1:n.testBit 1=false:=hb 1 (hall 1 (by decide) (.inl (by decide)))
  refine⟨?_,?_⟩
  ·refine Nat.lt_pow_two_of_testBit n (n:=5) fun i hi=>?_
   by_cases h64:i<64
   ·exact hb i (hall i h64 (.inr hi))
   ·exact Nat.testBit_lt_two_pow (qd hn (qe (by decide) (by omega)))
  ·simp only[Nat.testBit_eq_decide_div_mod_eq,qm]at h0 h1
   omega
 ·rintro⟨h1,h2⟩
  have:∀m,m<32->m%4=0->m&&&18446744073709551587=0:=by decide
  exact this n h1 h2
theorem zS{f:Int}(hf: -9223372036854775808<=f/\f<9223372036854775808):(bits .andNot .i64 f 28==0)=fC f:=by
 obtain⟨n,hn⟩:∃n,n=(f%18446744073709551616).toNat:=⟨_,rfl⟩;have hn2:n<2^64:=by omega
 have h1:(BitVec.ofInt 64 f).toNat=n:=by rw[BitVec.toNat_ofInt,hn];rfl
 have h2:(BitVec.ofInt 64 (28:Int)).toNat=28:=by decide
 have key:bits .andNot .i64 f 28=IntKind.i64.wrap ((n&&&18446744073709551587:Nat):Int):=by
  show IntKind.i64.wrap ((BitVec.ofInt 64 f&&& ~~~BitVec.ofInt 64 (28:Int)).toNat:Int)=_
  rw[BitVec.toNat_and,BitVec.toNat_not,h1,h2]
 have hx:n&&&18446744073709551587<2^64:=Nat.and_lt_two_pow _ (by decide)
 have hm:=q2X hn2;rw[key,IntKind.wrap_i64];generalize n&&&18446744073709551587=x at*
 have hl:(((x:Int)+9223372036854775808)%18446744073709551616-9223372036854775808==0)=decide (x=0):=by
  rw[Bool.eq_iff_iff];simp only[beq_iff_eq,decide_eq_true_eq];omega
 rw[hl]
 have hr:fC f=decide (n<32/\n%4=0):=by
  rw[Bool.eq_iff_iff];simp only[fC,Bool.and_eq_true,decide_eq_true_eq,beq_iff_eq];omega
 rw[hr,Bool.eq_iff_iff];simp only[decide_eq_true_eq];exact hm
theorem wU(n k:Int)(w:World):Calls Tryz.prog 94 #[.int .i64 n,.int .i64 k] w fun e w'=>e=.returned (.bool (iU n k))/\w'=w:=by
 by_cases h:0<=n
 ·have hb:iU n k=decide (n<=k):=by unfold iU;rw[decide_eq_true h,Bool.true_and]
  have hd:decide (n≥0)=true:=decide_eq_true h;rw[hb];generalize hq:decide (n<=k)=q
  go_enter Tryz.func94,Tryz.ntmps94
  go_wp2;go_ret
  exact⟨by simp,rfl⟩
 ·have hb:iU n k=false:=by unfold iU;rw[decide_eq_false h,Bool.false_and]
  have hd:decide (n≥0)=false:=decide_eq_false h;rw[hb]
  go_enter Tryz.func94,Tryz.ntmps94
  go_wp2;go_ret
  exact⟨rfl,rfl⟩
theorem P0{l:qK}{i:Nat}(h:i<l.length):no0 (l.take (i+1))=(no0 (l.take i)&&(l.getD i 0 != 0)):=by
 unfold no0;rw[wR h,List.all_append]
 simp
theorem zT{l:qK}{i:Nat}(h:i<l.length)(h0:l.getD i 0=0):no0 l=false:=by
 unfold no0;rw[List.all_eq_false];refine⟨l[i],List.getElem_mem h,?_⟩;have:l[i]=0:=by rw[<-h0];simp[List.getD,h]
 simp[this]
theorem q6J{s:ByteArray}(hs:s.size<=4611686018427387904)(w:World):Calls Tryz.prog 95 #[.string s] w fun e w'=>e=.returned (.bool (no0 (bys s)))/\w'=w:=by
 have HIX:=q7 (fun(i:Nat) (h:i<s.size) (W:World)=>jS (P:=Tryz.prog) 9 Tryz.underlying9 h W)
 have HL:=q7 (qF s);obtain⟨R,hR⟩:∃R,R=no0 (bys s):=⟨_,rfl⟩;rw[<-hR];have HR:=q7 hR;clear hR;generalize bys s=t at*
 go_enter Tryz.func95,Tryz.ntmps95
 go_wp2
 go_loopg [6] s.size (fun gk iv wr=>∃(i:Nat),i<=s.size/\iv=.int .i64 i/\Hid (no0 (t.take i)=true)/\gk=s.size-i/\wr=w)
 case atStart=>exact⟨0,qc _,rfl,q7 rfl,rfl,rfl⟩
 case round=>
  obtain⟨i,hi,rfl,hn,rfl,rfl⟩:=hrel
  by_cases h1:i<s.size
  ·have h1i:(i:Int)<(s.size:Nat):=by omega
   have hix:=HIX.out i h1;have htk:=P0 (l:=t) (i:=i) (by rw[HL.out];exact h1)
   rw[hn.out,Bool.true_and]at htk
   by_cases h2:t.getD i 0=0
   ·have hz:R=false:=by rw[HR.out];exact zT (by rw[HL.out];exact h1) h2
    rw[h2]at hix;simp only[show((UInt8.toNat 0:Nat):Int)=0 from rfl]at hix
    have HZ:=q7 hz;clear htk HIX hz;go_wp2;go_ret
    exact⟨by rw[HZ.out];rfl,rfl⟩
   ·have hne:=rQ h2
    simp only[show((UInt8.toNat 0:Nat):Int)=0 from rfl]at hne
    have HT:Hid (no0 (t.take (i+1))=true):=q7 (by rw[htk];simpa using h2)
    generalize (t.getD i 0).toNat=y at*;clear htk HIX h2;go_wp2
    go_roundg (s.size-(i+1))
    case measure=>omega
    case rel=>exact⟨i+1,by omega,by congr 1,HT,rfl,rfl⟩
  ·have h1i:decide ((i:Int)<(s.size:Nat))=false:=by rw[qm];omega
   have HZ:Hid (R=true):=q7 (by rw[HR.out,<-hn.out,List.take_of_length_le (by rw[HL.out];omega)])
   go_wp2;go_ret
   exact⟨by rw[HZ.out];rfl,rfl⟩
end Go.Cm
