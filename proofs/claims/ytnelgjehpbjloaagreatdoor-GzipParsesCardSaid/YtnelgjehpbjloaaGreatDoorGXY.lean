/- Walks of functions and plain facts, joined and squeezed by a program. Conditions: as each says. -/
import Derived.Test.YtnelgjehpbjloaaGreatDoorGXT
import Derived.Test.YtnelgjehpbjloaaGreatDoorGXQ
import Derived.Test.YtnelgjehpbjloaaGreatDoorGXS
set_option maxHeartbeats 8000000
set_option maxRecDepth 100000
set_option linter.unusedSimpArgs false
namespace Go.Cm
open Go.RowKit Go.Proofs
theorem iO{P:Program}{C:World->Prop}{o:Oper}{a:Act}{K:Act->Prop}(T n:Nat)(x:Operand)(ho:o.op=.load T x)(g off:Nat)(hx:a.eval x=.pointer (some ⟨g,off,none⟩))(A:Array Value)(hs:A.size=n)
  (hg:∀w',C w'->∀c,c<n->w'.cell? ⟨g,off+c,none⟩=some (A.getD c undef)) (d:TypeDesc) (hu:P.underlying T=some d) (hd:(match d with|.struct _|.array _ _=>true|_=>false)=true) (hi:(P.info? T).map (·.size)=some n) (h:K (a.put o.dst (.agg A))):o.quiet P a C K:=by
 refine⟨.agg A,fun w' hw'=>?_,h⟩
 have hl:=gH (P:=P) w' g off n T A d (hg w' hw') hs hu hd hi;unfold Oper.quietAt execOp;simp only[ho,hx,Instr.loadAt,Instr.sureAddr,Sem.run_bind,Sem.run_pure,Result.andThen_ok,hl,Oper.quietUpon]
 exact⟨trivial,trivial⟩
section
variable {w : World} {g : Nat} {s : ByteArray} {p : Nat}
end
theorem q8C(s:ByteArray)(p:Nat)(hs:s.size<=4294967296)(hp:p<=8*s.size)(w:World):Calls Tryz.prog 86 #[.string s,.int .i64 p] w fun e w'=>∃g,e=.returned (.tuple #[.pointer (some ⟨g,0,none⟩),.int .i64 0])/\aS w' g s p/\w.heap.size<=g/\Below w.heap.size w w':=by
 have h1:¬(p:Int)<0:=by omega
 have h2:¬(p:Int)>8*(s.size:Int):=by omega
 have ho:=qE w w.heap.size #[Value.string s,Value.int .i64 p] 154 (by simp) (q9 _)
 have HO:=q7 ho;clear ho
 go_enter Tryz.func86,Tryz.ntmps86
 go_wp2
 go_ret2
 exact⟨w.heap.size,rfl,⟨HO.out⟩,q9 _,qn _ _⟩
theorem q4p{w:World}{g:Nat}{s:ByteArray}{p:Nat}(h:aS w g s p)(hs:s.size<=4294967296)(hp:p<=8*s.size):Calls Tryz.prog 166 #[.pointer (some ⟨g,0,none⟩)] w fun e w'=>e=.returned (.int .i64 ((8*s.size-p:Nat):Int))/\∃x,w'=ext w x:=by
 have c0:=h.c0;have c1:=h.c1;have hg:=h.lt;clear h;have e:((8*s.size-p:Nat):Int)=8*(s.size:Int)-(p:Int):=by omega
 go_enter Tryz.func166,Tryz.ntmps166
 go_wp2
 go_quiet (fail)
 go_wp2;go_ret;refine⟨?_,(qt (by repeat(first|exact qj _ _|assumption|refine qw ?_ _|refine qk ?_|refine qA ?_ _|refine qs ?_ _)))⟩
 show Ending.returned (Value.int .i64 (8*(s.size:Int)-(p:Int)))=_
 rw[e]
theorem pK(N i:Nat):N.testBit i=(N/256^(i/8)%256).testBit (i%8):=by
 rw[dW,show(256:Nat)=2^8 by decide,Nat.testBit_mod_two_pow,Nat.testBit_div_two_pow,decide_eq_true (show i%8<8 by omega),Bool.true_and,Nat.mod_add_div]
theorem q2o(s:ByteArray)(i:Nat)(h:i/8<s.size):((qH s).testBit i).toNat=(s[i/8]).toNat/2^(i%8)%2:=by
 rw[pK,yL s _ h,Nat.testBit_eq_decide_div_mod_eq]
 by_cases h2:(s[i/8]).toNat/2^(i%8)%2=1
 ·simp[h2]
 ·have h3:(s[i/8]).toNat/2^(i%8)%2=0:=by omega
  simp[h3]
theorem yN(s:ByteArray)(i:Nat)(h:8*s.size<=i):((qH s).testBit i).toNat=0:=by
 rw[pK,yM s _ (by omega)]
 simp
theorem q8n(s:ByteArray)(i:Nat)(hs:s.size<=4294967296)(w:World):Calls Tryz.prog 167 #[.string s,.int .i64 i] w fun e w'=>e=.returned (.int .i64 (((qH s).testBit i).toNat:Nat))/\∃x,w'=ext w x:=by
 by_cases h:i<8*s.size
 ·have h1:¬(i:Int)≥8*(s.size:Int):=by omega
  have hi8:i/8<s.size:=by omega
  have HB:=q7 (q2o s i hi8);have e8:(i:Int)/8=((i/8:Nat):Int):=by omega
  have em:(i:Int)%8=((i%8:Nat):Int):=by omega
  have hm8:i%8<8:=by omega
  generalize hq:i/8=q at*;generalize hm:i%8=m at*;have hby:(s[q]).toNat<256:=UInt8.toNat_lt _
  go_enter Tryz.func167,Tryz.ntmps167
  go_wp2;go_ret;rw[HB.out];generalize (s[q]).toNat=y at*;have e:((y:Int)/2^m).tmod 2=((y/2^m%2:Nat):Int):=by norm_cast
  refine⟨?_,(qt (by repeat(first|exact qj _ _|assumption|refine qw ?_ _|refine qk ?_|refine qA ?_ _|refine qs ?_ _)))⟩
  rw[<-e];rfl
 ·have h1:(i:Int)≥8*(s.size:Int):=by omega
  have HB:=q7 (yN s i (by omega))
  go_enter Tryz.func167,Tryz.ntmps167
  go_wp2;go_ret
  exact⟨by rw[HB.out];rfl,(qt (by repeat(first|exact qj _ _|assumption|refine qw ?_ _|refine qk ?_|refine qA ?_ _|refine qs ?_ _)))⟩
theorem q0b{w0 w:World}{g p:Nat}{s:ByteArray}(v:Value)(L:List Nat)(h0:qT w0 v (nls L))(hb0:Below w0.heap.size w0 w)(h:aS w g s p)
  (hlen:L.length<=320) (h15:∀x∈L,x<=15) (hk:jp L<=32768) (hs:s.size<=4294967296) (hp:p<=8*s.size):
  Calls Tryz.prog 135 #[.pointer (some ⟨g,0,none⟩),v] w (eY aS L s p g w):=by
 have HCO:Hid (∀w',Below w0.heap.size w w'->Calls Tryz.prog 116 #[v] w' fun e w''=>∃vc,e=.returned (.tuple #[vc,.int .i64 0])/\Own w'' w'.heap.size 3 vc (ints (nls (bA L)))/\Below w'.heap.size w' w''):=q7 (fun w' hb=>by
  have h1:=Z5 v (nls L) w' (h0.up (hb0.trans hb));unfold aN at h1;rw[mZ hlen h15,if_neg (by omega),if_pos rfl,jm]at h1
  exact h1)
 obtain⟨oa,cap,b,off,rfl,hd,hc⟩:=h0.open;rw[qB]at hd hc;rw[qB]at HCO⊢;have hix:=qQ (P:=Tryz.prog) 66 3 Tryz.underlying66 (by kernel_rfl) hd
 have hm:=hd.len;have hbk:=hd.hblk;have qiY:=hb0.size;have HBW:=q7 hb0;have HB:=q7 h;have HC:Hid (∀i,i<L.length->w0.cell? ⟨b,off+i,none⟩=some (.int .i64 (L.getD i 0:Nat))):=q7 (fun i hi=>by rw[hc i hi,jb])
 have H15:Hid (∀i,i<L.length->L.getD i 0<=15):=q7 (fun i hi=>h15 _ (jT L i 0 hi))
 clear hc h0 hb0 h hd h15 hk
 go_enter Tryz.func135,Tryz.ntmps135
 go_wp2_with(go_at_call 116;refine(HCO.out _ (qj _ _)).mono ?_;rintro e w2 ⟨vc,rfl,hq3,hq4⟩;have HQ3:=q7 hq3;have HQ4:=q7 hq4;clear hq3 hq4)
 have HB2:=q7 (HB.out.up HQ4.out);have HC2:Hid (∀i,i<L.length->w2.cell? ⟨b,off+i,none⟩=some (.int .i64 (L.getD i 0:Nat))):=q7 (fun i hi=>((HBW.out.trans (HQ4.out.mono qiY)).cell (p:=⟨b,off+i,none⟩) (hbk (by omega))).trans (HC.out i hi))
 have qlh:=HQ4.out.size;obtain⟨oc,cc,bc,fc,rfl,hdc,hcc⟩:=(show qT w2 vc (nls (bA L))from HQ3.out.sl).open
 rw[show(nls (bA L)).length=L.length by rw[qB,aO]]at hdc hcc⊢
 have qb7:=qQ (P:=Tryz.prog) 66 3 Tryz.underlying66 (by kernel_rfl) hdc
 have HCC:Hid (∀i,i<L.length->w2.cell? ⟨bc,fc+i,none⟩=some (.int .i64 (jB L i:Nat))):=q7 (fun i hi=>by rw[hcc i hi,jb,eX L i hi])
 have qci:=hdc.hblk;have qg4:Hid (∀(i:Nat) (W:World),Calls Tryz.prog 167 #[.string s,.int .i64 i] W fun e w'=>e=.returned (.int .i64 (((qH s).testBit i).toNat:Nat))/\∃x,w'=ext W x):=q7 (fun i W=>q8n s i hs W)
 have HLF:Hid (∀W,aS W g s p->Calls Tryz.prog 166 #[.pointer (some ⟨g,0,none⟩)] W fun e w'=>e=.returned (.int .i64 ((8*s.size-p:Nat):Int))/\∃x,w'=ext W x):=q7 (fun W h=>q4p h hs hp)
 clear hdc hcc HQ3 HCO HC;have HQW:Hid (Below w.heap.size w w2):=HQ4;have HGR:Hid (w.grownBy w2 (some g)):=q7 (qv HQ4.out _);have qcj:0<L.length->b<w2.heap.size:=fun h=>by have:=hbk h;omega
 clear HQ4 hbk HBW HB HQW;obtain⟨left,hl⟩:∃left,left=8*s.size-p:=⟨_,rfl⟩;have qbB:left+p=8*s.size:=by omega
 rw[<-hl]at HLF;clear hl
 go_loopg [8,9] 15 (fun gk c n wr=>∃k:Nat,1<=k/\k<=16/\k<=left+1/\n=.int .i64 k/\c=.int .i64 (jj (qH s/2^p) (k-1):Nat)/\Hid (∀i,i<L.length->lQ L (qH s/2^p) i->k<=L.getD i 0)/\(∃x,wr=ext w2 x)/\gk=16-k)
 case atStart=>exact⟨1,by omega,by omega,by omega,rfl,rfl,q7 (fun i _ h=>by have:=h.1;omega),mS _,rfl⟩
 case round=>
  obtain⟨k,hk1,qjk,hkl,rfl,rfl,HIT,⟨x,rfl⟩,rfl⟩:=hrel;have HB3:=q7 (HB2.out.up (qu w2 x));have HL3:=q7 (HLF.out _ HB3.out);have qiS:=mT w2 x;have hc0:=HB3.out.c0;have hc1:=HB3.out.c1;have hgx:=HB3.out.lt
  by_cases qlK:k<=15
  ·by_cases qlG:k<=left
   ·have hki:(k:Int)<=(left:Int):=by omega
    have qeE:(k:Int)<=15:=by omega
    have heq:(p:Int)+(k:Int)-1=((p+(k-1):Nat):Int):=by omega
    have hTS:=dD (qH s/2^p) (k-1);rw[show k-1+1=k by omega,Nat.testBit_div_two_pow,Nat.add_comm (k-1) p]at hTS
    have HTS:=q7 hTS;have HBT:=q7 (qg4.out (p+(k-1)));have hqb:p+(k-1)<=68719476736:=by omega
    have htl:=aF (qH s/2^p) (k-1);have qen:2^(k-1)<=2^15:=qe (by decide) (by omega)
    have hbb:((qH s).testBit (p+(k-1))).toNat<=1:=by cases(qH s).testBit (p+(k-1))<;>simp
    clear hTS;generalize ((qH s).testBit (p+(k-1))).toNat=y at*;generalize p+(k-1)=q at*;generalize jj (qH s/2^p) (k-1)=c at*;have qdR:c<=32768:=by omega
    clear htl qen
    go_wp2_with(go_at_call 166;refine HL3.out.mono ?_;rintro e w4 ⟨rfl,z,rfl⟩;have hg4:g<(ext (ext w2 x) z).heap.size:=(HB3.out.up (qu _ z)).lt)
    refine qY (by kernel_rfl) (by kernel_rfl) ?_
    repeat(go_big_quiet_step ((go_at_call 167;exact jx (HBT.out _))))
    refine wpQuiet_nil ?_;rintro w' ⟨x2,rfl⟩;obtain⟨wo,hwo⟩:∃wo,ext (ext (ext w2 x) z) x2=ext w2 wo:=qt (qA (qA (qu w2 x) z) x2);rw[hwo];clear hwo HB3 HL3 qiS hc0 hc1 hgx hg4;go_wp2;obtain⟨t,ht⟩:∃t,t=jj (qH s/2^p) k:=⟨_,rfl⟩;have hti:2*(c:Int)+(y:Int)=(t:Int):=by rw[ht,HTS.out];norm_cast
    have HT:=q7 ht;have qgk:t<=65537:=by rw[ht,HTS.out];omega
    rw[hti];clear ht HTS HBT hti heq;have HB5:=q7 (HB2.out.up (qu w2 wo));have qiV:=mT w2 wo;have hcw:∀q o,q<w2.heap.size->(ext w2 wo).cell? ⟨q,o,none⟩=w2.cell? ⟨q,o,none⟩:=fun q o hq=>cell?_ext w2 wo q o hq
    have HCW:=q7 hcw;have qkN:Hid (w.grownBy (ext w2 wo) (some g)):=q7 (qp HGR.out (qv (qu _ _) _));have HXT:Hid (∃x,ext w2 wo=ext w2 x):=q7 ⟨wo,rfl⟩;clear hcw;generalize ext w2 wo=w5 at*;have hc1:=HB5.out.c1;have hf1:=HB5.out.free 1;have hg5:=HB5.out.lt
    go_loopg [10] L.length (fun gk i wr=>∃j:Nat,j<=L.length/\i=.int .i64 j/\Hid (∀q,q<j->lQ L (qH s/2^p) q->L.getD q 0≠k)/\wr=w5/\gk=L.length-j)
    case atStart=>exact⟨0,qc _,rfl,q7 (fun q hq=>absurd hq (Nat.not_lt_zero q)),rfl,rfl⟩
    case round=>
     obtain⟨j,hj,rfl,HNO,rfl,rfl⟩:=hrel
     by_cases hlt:j<L.length
     ·have hcell:=(HCW.out b (off+j) (qcj (by omega))).trans (HC2.out j hlt)
      have qad:=(HCW.out bc (fc+j) (qci (by omega))).trans (HCC.out j hlt)
      have hb5:b<wr.heap.size:=by have:=qcj (by omega);omega
      have qmo:bc<wr.heap.size:=by have:=qci (by omega);omega
      have qgO:=HIT.out j hlt;have HHD:Hid (lQ L (qH s/2^p) j↔L.getD j 0≠0/\jB L j=jj (qH s/2^p) (L.getD j 0)):=q7 Iff.rfl;have HLX:Hid (L.getD j 0=L.getD j 0):=q7 rfl;generalize hx:L.getD j 0=xx at*;generalize hcd:jB L j=cd at*;have HX:=q7 hx;have qmy:=q7 qgO;clear hx hcd qgO
      have q9h:Hid (¬(xx=k/\cd=t)->∀q,q<j+1->lQ L (qH s/2^p) q->L.getD q 0≠k):=q7 (fun hn q hq hh=>by
       rcases Nat.lt_succ_iff_lt_or_eq.1 hq with h1|rfl
       ·exact HNO.out q h1 hh
       ·intro he
        have hxk:xx=k:=by rw[<-HX.out];exact he
        refine hn ⟨hxk,?_⟩;rw[HT.out,<-hxk]
        exact(HHD.out.1 hh).2)
      by_cases hxk:xx=k
      ·have e1:((xx:Int)==(k:Int))=true:=by rw[hxk];exact beq_self_eq_true _
       by_cases hct:cd=t
       ·have e2:((cd:Int)==(t:Int))=true:=by rw[hct];exact beq_self_eq_true _
        have HH:Hid (lQ L (qH s/2^p) j):=q7 (HHD.out.2 ⟨by omega,by rw[hxk,<-HT.out];exact hct⟩)
        have HXK:=q7 hxk;clear hxk hct;have HST:=q7 (HB5.out.set1 (p+k));go_wp2
        go_ret2
        have hst:=HST.out;rw[Int.natCast_add]at hst;unfold eY;rw[show 8*s.size-p=left by omega]
        exact⟨j,0,k,rfl,.inl ⟨hlt,HH.out,by rw[HX.out,HXK.out];omega,rfl,by rw[HX.out,HXK.out]⟩,hst.1,qp qkN.out hst.2⟩
       ·have e2:((cd:Int)==(t:Int))=false:=by simp;omega
        have HH:=q7 (q9h.out (fun h=>hct h.2))
        clear hct hxk;go_wp2
        go_roundg (L.length-(j+1))
        case measure=>omega
        case rel=>exact⟨j+1,by omega,by go_num,HH,rfl,rfl⟩
      ·have e1:((xx:Int)==(k:Int))=false:=by simp;omega
       have HH:=q7 (q9h.out (fun h=>hxk h.1))
       clear hxk;go_wp2
       go_roundg (L.length-(j+1))
       case measure=>omega
       case rel=>exact⟨j+1,by omega,by go_num,HH,rfl,rfl⟩
     ·obtain rfl:j=L.length:=by omega
      have qkG:Hid (∀i,i<L.length->lQ L (qH s/2^p) i->k+1<=L.getD i 0):=q7 (fun i hi hh=>by
       have h1:=HIT.out i hi hh;have h2:=HNO.out i hi hh;omega)
      have HT1:=HT;go_wp2
      go_roundg (16-(k+1))
      case measure=>omega
      case rel=>exact⟨k+1,by omega,by omega,by omega,by go_num,by rw[Nat.add_sub_cancel,<-HT1.out],qkG,HXT.out,rfl⟩
   ·have hki:¬(k:Int)<=(left:Int):=by omega
    have qeE:(k:Int)<=15:=by omega
    have qdJ:(left:Int)<15:=by omega
    have hN:pR L (qH s/2^p) left 0 2 0:=.inr ⟨fun i hi hh=>by have:=HIT.out i hi hh;omega,rfl,rfl,by rw[if_pos (by omega)]⟩
    have HN:=q7 hN;clear hN
    go_wp2_with(first|(go_at_call 166;refine HL3.out.mono ?_;rintro e w4 ⟨rfl,z,rfl⟩;have HB4:=q7 (HB3.out.up (qu _ z));have HL4:=q7 (HLF.out _ HB4.out))|(go_at_call 166;refine HL4.out.mono ?_;rintro e w5 ⟨rfl,z2,rfl⟩))
    go_ret2
    unfold eY;rw[show 8*s.size-p=left by omega]
    have hbz:Below w2.heap.size w2 (ext (ext (ext w2 x) z) z2):=(by repeat(first|exact qj _ _|assumption|refine qw ?_ _|refine qk ?_|refine qA ?_ _|refine qs ?_ _))
    exact⟨0,2,0,rfl,HN.out,HB4.out.up (qu _ _),qp HGR.out (qv hbz _)⟩
  ·obtain rfl:k=16:=by omega
   have qdJ:¬(left:Int)<15:=by omega
   have hN:pR L (qH s/2^p) left 0 9 0:=.inr ⟨fun i hi hh=>by have:=HIT.out i hi hh;have:=H15.out i hi;omega,rfl,rfl,by rw[if_neg (by omega)]⟩
   have HN:=q7 hN;clear hN
   go_wp2_with(first|(go_at_call 166;refine HL3.out.mono ?_;rintro e w4 ⟨rfl,z,rfl⟩;have HB4:=q7 (HB3.out.up (qu _ z))))
   go_ret2
   unfold eY;rw[show 8*s.size-p=left by omega]
   have hbz:Below w2.heap.size w2 (ext (ext w2 x) z):=(by repeat(first|exact qj _ _|assumption|refine qw ?_ _|refine qk ?_|refine qA ?_ _|refine qs ?_ _))
   exact⟨0,9,0,rfl,HN.out,HB4.out,qp HGR.out (qv hbz _)⟩
theorem q0l(N q m:Nat):dF N q (m+1)=2*dF N (q+1) m+(N.testBit q).toNat:=by
 unfold dF;rw[Nat.pow_succ,Nat.mul_comm (2^m) 2,Nat.mod_mul,Nat.div_div_eq_div_mul,<-Nat.pow_succ,Nat.testBit_eq_decide_div_mod_eq]
 by_cases h:N/2^q%2=1
 ·simp[h];omega
 ·have:N/2^q%2=0:=by omega
  simp[this]
theorem q7z{w:World}{g:Nat}{s:ByteArray}{p:Nat}(h:aS w g s p)(hs:s.size<=4294967296)(hp:p<=8*s.size)(n:Nat)(hn:n<=32):
  Calls Tryz.prog 164 #[.pointer (some ⟨g,0,none⟩),.int .i64 n] w fun e w'=>e=.returned (.int .i64 (dF (qH s) p n:Nat))/\∃x,w'=ext w x:=by
 have hn1:¬(n:Int)<0:=by omega
 have hn2:¬(n:Int)>32:=by omega
 have HB:=q7 h;have qg4:Hid (∀(i:Nat) (W:World),Calls Tryz.prog 167 #[.string s,.int .i64 i] W fun e w'=>e=.returned (.int .i64 (((qH s).testBit i).toNat:Nat))/\∃x,w'=ext W x):=q7 (fun i W=>q8n s i hs W)
 have hV0:dF (qH s) (p+n) 0=0:=by unfold dF;rw[Nat.pow_zero,Nat.mod_one]
 have HV0:=q7 hV0;clear h hV0
 go_enter Tryz.func164,Tryz.ntmps164
 go_wp2
 go_loopg [5,6] n (fun gk out i wr=>∃j:Nat,j<=n/\i=.int .i64 ((j:Int)-1)/\out=.int .i64 (dF (qH s) (p+j) (n-j):Nat)/\(∃x,wr=ext w x)/\gk=j)
 case atStart=>exact⟨n,q9 _,rfl,by rw[Nat.sub_self,HV0.out];rfl,mS _,rfl⟩
 case round=>
  obtain⟨j,hj,rfl,rfl,⟨x,rfl⟩,hgk⟩:=hrel;have HB3:=q7 (HB.out.up (qu w x));have hc0:=HB3.out.c0;have hc1:=HB3.out.c1;have hgx:=HB3.out.lt
  cases j with
  |zero=>
   have hc:¬((0:Nat):Int)-1≥0:=by omega
   clear HV0;go_wp2;go_ret
   exact⟨rfl,(qt (by repeat(first|exact qj _ _|assumption|refine qw ?_ _|refine qk ?_|refine qA ?_ _|refine qs ?_ _)))⟩
  |succ i=>
   have hc:((i+1:Nat):Int)-1≥0:=by omega
   have hi1:((i+1:Nat):Int)-1=(i:Int):=by omega
   have heq:(p:Int)+(i:Int)=((p+i:Nat):Int):=by omega
   have hTS:=q0l (qH s) (p+i) (n-(i+1));rw[show n-(i+1)+1=n-i by omega,show p+i+1=p+(i+1) by omega]at hTS
   have HTS:=q7 hTS;have HBT:=q7 (qg4.out (p+i));have hqb:p+i<=68719476736:=by omega
   have htl:dF (qH s) (p+(i+1)) (n-(i+1))<2^(n-(i+1)):=Nat.mod_lt _ (Nat.two_pow_pos _);have qen:2^(n-(i+1))<=2^32:=qe (by decide) (by omega)
   have hbb:((qH s).testBit (p+i)).toNat<=1:=by cases(qH s).testBit (p+i)<;>simp
   clear hTS;rw[hi1]at hc⊢;generalize ((qH s).testBit (p+i)).toNat=y at*;have HPQ:Hid (∃q,q=p+i):=q7 ⟨_,rfl⟩;obtain⟨q,hpq⟩:=HPQ.out;rw[<-hpq]at heq HTS HBT hqb;have HPQ:=q7 hpq;clear hpq;generalize dF (qH s) (p+(i+1)) (n-(i+1))=c at*;have qdR:c<=4294967296:=by omega
   clear htl qen;go_wp2;refine qY (by kernel_rfl) (by kernel_rfl) ?_
   repeat(go_big_quiet_step ((go_at_call 167;exact jx (HBT.out _))))
   refine wpQuiet_nil ?_;rintro w' ⟨x2,rfl⟩;have hti:2*(c:Int)+(y:Int)=((dF (qH s) q (n-i):Nat):Int):=by rw[HTS.out];norm_cast
   go_wp2
   go_roundg i
   case measure=>omega
   case rel=>exact⟨i,by omega,rfl,by rw[hti,HPQ.out],qt (qA (qu w x) x2),rfl⟩
theorem q7A{w:World}{g:Nat}{s:ByteArray}{p:Nat}(h:aS w g s p)(hs:s.size<=4294967296)(n:Nat)(hn:n<=32)(hp:p+n<=8*s.size):Calls Tryz.prog 165 #[.pointer (some ⟨g,0,none⟩),.int .i64 n] w fun e w'=>e=.returned (.int .i64 0)/\aS w' g s (p+n)/\w.grownBy w' (some g):=by
 have hn1:¬(n:Int)<0:=by omega
 have hn2:¬(n:Int)>32:=by omega
 have HB:=q7 h;have HL:=q7 (q4p h hs (by omega))
 have hl:¬(n:Int)>((8*s.size-p:Nat):Int):=by omega
 obtain⟨q,hq⟩:∃q:Nat,q=8*s.size-p:=⟨_,rfl⟩;rw[<-hq]at HL hl;clear hq h
 go_enter Tryz.func165,Tryz.ntmps165
 go_wp2_with(go_at_call 166;refine HL.out.mono ?_;rintro e w' ⟨rfl,x,rfl⟩;have HB2:=q7 (HB.out.up (qu w x));have c1:=HB2.out.c1;have f1:=HB2.out.free 1;have hg:=HB2.out.lt;have HST:=q7 (HB2.out.set1 (p+n)))
 go_ret;have hst:=HST.out;rw[Int.natCast_add]at hst
 exact⟨rfl,hst.1,qp (qv (qu w _) _) hst.2⟩
theorem U0{w:World}{g:Nat}{s:ByteArray}{p:Nat}(h:aS w g s p)(hs:s.size<=4294967296)(n:Nat)(hn:n<=32)(hp:p<=8*s.size)(hlt:8*s.size<p+n):Calls Tryz.prog 165 #[.pointer (some ⟨g,0,none⟩),.int .i64 n] w fun e w'=>e=.returned (.int .i64 2)/\∃x,w'=ext w x:=by
 have hn1:¬(n:Int)<0:=by omega
 have hn2:¬(n:Int)>32:=by omega
 have HB:=q7 h;have HL:=q7 (q4p h hs (by omega))
 have hl:(n:Int)>((8*s.size-p:Nat):Int):=by omega
 obtain⟨q,hq⟩:∃q:Nat,q=8*s.size-p:=⟨_,rfl⟩;rw[<-hq]at HL hl;clear hq h
 go_enter Tryz.func165,Tryz.ntmps165
 go_wp2_with(go_at_call 166;refine HL.out.mono ?_;rintro e w' ⟨rfl,x,rfl⟩)
 go_ret
 exact⟨rfl,(qt (by repeat(first|exact qj _ _|assumption|refine qw ?_ _|refine qk ?_|refine qA ?_ _|refine qs ?_ _)))⟩
theorem U1{w:World}{g:Nat}{s:ByteArray}{p:Nat}(h:aS w g s p)(hs:s.size<=4294967296)(n:Nat)(hn:n<=32)(hp:p<=8*s.size):
  Calls Tryz.prog 133 #[.pointer (some ⟨g,0,none⟩),.int .i64 n] w (aH aS s p n g w):=by
 have HPK:=q7 (q7z h hs hp n hn);have HB:=q7 h;unfold aH jl
 by_cases hl:p+n<=8*s.size
 ·rw[if_pos hl]
  have HSK:=q7 (fun x=>q7A (h.up (qu w x)) hs n hn hl)
  generalize dF (qH s) p n=v at*
  go_enter Tryz.func133,Tryz.ntmps133
  go_wp2_with(first|(go_at_call 164;(with_reducible refine HPK.out.mono ?_);rintro e w' ⟨rfl,x,rfl⟩)|(go_at_call 165;(with_reducible refine(HSK.out x).mono ?_);rintro e w2 ⟨rfl,hq1,hq2⟩;have HQ1:=q7 hq1;have HQ2:=q7 hq2;clear hq1 hq2))
  go_ret2
  exact⟨rfl,HQ1.out,qp (qv (qu w _) _) HQ2.out⟩
 ·rw[if_neg hl]
  have HSK:=q7 (fun x=>U0 (h.up (qu w x)) hs n hn hp (by omega))
  generalize dF (qH s) p n=v at*
  go_enter Tryz.func133,Tryz.ntmps133
  go_wp2_with(first|(go_at_call 164;(with_reducible refine HPK.out.mono ?_);rintro e w' ⟨rfl,x,rfl⟩)|(go_at_call 165;(with_reducible refine(HSK.out x).mono ?_);rintro e w2 ⟨rfl,y,rfl⟩))
  go_ret2
  exact⟨rfl,(HB.out.up (qu _ _)).up (qu _ _),qp (qv (qu w _) _) (qv (qu _ _) _)⟩
theorem q68{w:World}{g:Nat}{s:ByteArray}{p:Nat}(h:aS w g s p)(hs:s.size<=4294967296)(hp:p<=8*s.size):
  Calls Tryz.prog 187 #[.pointer (some ⟨g,0,none⟩)] w fun e w'=>e=.returned (.tuple #[])/\aS w' g s (qO p)/\w.grownBy w' (some g):=by
 have HB:=q7 h;clear h
 go_enter Tryz.func187,Tryz.ntmps187
 go_wp2
 go_loopg [] (qO p-p) (fun gk wr=>∃q:Nat,p<=q/\q<=qO p/\aS wr g s q/\w.grownBy wr (some g)/\gk=qO p-q)
 case atStart=>exact⟨p,q9 _,by unfold qO;omega,HB.out,eU _ _,rfl⟩
 case round=>
  obtain⟨q,hq1,hq2,hb,hgr,hgk⟩:=hrel;have HB2:=q7 hb;have HGR:=q7 hgr;have c1:=hb.c1;have f1:=hb.free 1;have hg:=hb.lt;have HST:=q7 (hb.set1 (q+1));clear hb hgr;have hqb:q<=68719476736:=by unfold qO at hq2;omega
  have hqi:(q:Int)%8=((q%8:Nat):Int):=by omega
  have HPT:Hid (∀m,q%8=m->(m=0->q=qO p)/\(m≠0->q+1<=qO p)):=q7 (fun m hm=>by unfold qO at hq2⊢;omega)
  have HQ1:=q7 hq1;have HQ2:=q7 hq2;have HGK:=q7 hgk;have hm8:q%8<8:=Nat.mod_lt _ (by decide)
  clear hq1 hq2 hgk;generalize hm:q%8=m at*;have HP:=HPT.out m rfl;clear hm HPT;have HP:=q7 HP
  cases m with
  |zero=>
   go_wp2
   go_end0
   have hqe:=HP.out.1 trivial;have hb:=HB2.out;rw[hqe]at hb
   exact⟨rfl,hb,HGR.out⟩
  |succ m=>
   have hcc:¬((m+1:Nat):Int)=0:=by omega
   go_wp2;have hp2:=HP.out.2 (Nat.succ_ne_zero m);have hgk:=HGK.out;have hq1:=HQ1.out;have hst:=HST.out;rw[Int.natCast_add]at hst
   go_roundg (qO p-(q+1))
   case measure=>omega
   case rel=>exact⟨q+1,by omega,hp2,hst.1,qp HGR.out hst.2,rfl⟩
theorem q0z{w w1 w2:World}{row row':Option Nat}(h:w.grownBy w1 row)(hg:w1.grownBy w2 row')(hr:∀k,row'=some k->w.heap.size<=k):w.grownBy w2 row:=
 ⟨hg.os.trans h.os,hg.tape.trans h.tape,hg.output.trans h.output,qa h.size hg.size,fun k hk hne=>by rw[hg.block k (qd hk h.size) (fun e=>by have:=hr k e.symm;omega),h.block k hk hne]⟩
def q0A(a:Nat):Nat:=if a=16 then 2 else if a=17 then 3 else 7
def q5V(a:Nat):Nat:=if a=18 then 11 else 3
def q7n(a:Nat)(l:List Nat):Nat:=if a=16 then l.getD (l.length-1) 0 else 0
theorem q4y(a:Nat):q0A a<=7:=by
 unfold q0A;split
 ·omega
 ·split<;>omega
theorem q4z(a:Nat):3<=q5V a/\q5V a<=11:=by
 unfold q5V;split<;>omega
theorem q4A{N T a:Nat}{l:List Nat}{p:Nat}(ha:a=16\/a=17\/a=18)(h:¬(a=16/\l=[])):
  cN N T a l (0,p)=(q5V a+(jl N T p (q0A a)).1,q7n a l,(jl N T p (q0A a)).2.1,(jl N T p (q0A a)).2.2):=by
 rcases ha with rfl|rfl|rfl
 ·have hl:l≠[]:=fun e=>h ⟨rfl,e⟩
  unfold cN;rw[if_neg (by decide),if_pos rfl,if_neg hl];rfl
 ·rfl
 ·rfl
theorem fS{N T p n:Nat}:(jl N T p n).1<2^n:=by
 unfold jl;split
 ·exact Nat.mod_lt _ (Nat.two_pow_pos n)
 ·exact Nat.two_pow_pos n
def wD(R:List Nat×(Nat×Nat))(s:ByteArray)(g:Nat)(w:World)(e:Ending)(w':World):Prop:=
 ∃v' p',e=.returned (.tuple #[v',.int .i64 (R.2.1:Nat)])/\(R.2.1=0->Own w' w.heap.size 3 v' (ints (nls R.1))/\p'=R.2.2)/\aS w' g s p'/\p'<=8*s.size/\w.grownBy w' (some g)
theorem q6j{w:World}{B g p n:Nat}{s:ByteArray}{v:Value}{L:List Nat}(h:aS w g s p)(hv:Own w B 3 v (ints (nls L)))(hB:g<B)(hL:bE (nls L)=0)(qlE:L.length<=19)(hn:n<=1000)(hs:s.size<=4294967296)(hp:p<=8*s.size):
  Calls Tryz.prog 188 #[.pointer (some ⟨g,0,none⟩),v,.int .i64 n] w (wD (bM (qH s) (8*s.size) L n (n+1) [] (0,p)) s g w):=by
 obtain⟨L',hL',hlen,h15,hk⟩:=gM hL
 have qfb:L'=L:=by
  have:=congrArg (List.map Int.toNat) hL';rw[jm,jm]at this
  exact this.symm
 subst qfb;clear hL' hL;have HH:=q7 h;have hgw:=h.lt
 have HRD:Hid (∀W p,w.grownBy W (some g)->aS W g s p->p<=8*s.size->Calls Tryz.prog 135 #[.pointer (some ⟨g,0,none⟩),v] W fun e w'=>e=.returned (.tuple #[.int .i64 ((j9 L' (qH s/2^p) (8*s.size-p)).1:Nat),.int .i64 ((j9 L' (qH s/2^p) (8*s.size-p)).2.1:Nat)])/\aS w' g s (p+(j9 L' (qH s/2^p) (8*s.size-p)).2.2)/\W.grownBy w' (some g)):=q7 (fun W p hg hb hp=>(q0b v L' (show qT W v (nls L')from(hv.keep hg (qM (fun k hk e=>by have:=(hv.lt k hk).1;injection e with e;omega))).sl) (qj _ _) hb hlen h15 hk hs hp).mono fun e w' ⟨a,er,d,he,hr,hb,hg⟩=>by
  have:=iC hr;rw[this]
  exact⟨he,hb,hg⟩)
 have HBT:Hid (∀(W:World) (p n:Nat),n<=32->aS W g s p->p<=8*s.size->Calls Tryz.prog 133 #[.pointer (some ⟨g,0,none⟩),.int .i64 n] W (aH aS s p n g W)):=q7 (fun W p n hn hb hp=>U1 hb hs n hn hp)
 obtain⟨R,hR⟩:∃R,R=bM (qH s) (8*s.size) L' n (n+1) [] (0,p):=⟨_,rfl⟩;rw[<-hR];have HR:=q7 hR.symm;have q9b:=q7 (dY (qH s) (8*s.size) L' n);have q9h:=q7 (nG (qH s) (8*s.size) L' n);obtain⟨oc,cc,gc,hvc,-⟩:=hv.cases;generalize (ints (nls L')).length=nL at hvc;subst hvc;clear hR h hv h15 hk hlen;unfold wD
 go_enter Tryz.func188,Tryz.ntmps188
 go_wp2
 go_loopg [8] (n+1) (fun gk r wr=>∃l p,Own wr w.heap.size 3 r (ints (nls l))/\aS wr g s p/\p<=8*s.size/\w.grownBy wr (some g)/\Hid (bM (qH s) (8*s.size) L' n gk l (0,p)=R)/\l.length<=n/\n-l.length<gk)
 case atStart=>exact⟨[],p,Own.nil _ _ _,HH.out,hp,eU _ _,HR,qc _,by simp⟩
 case round=>
  obtain⟨l,p,ho,hbx,q9Q,hgr,HRN,hll,hf⟩:=hrel;have HO:=q7 ho;have HX:=q7 hbx;have HG:=q7 hgr;have hsz:=hgr.size;have hlen:(ints (nls l)).length=l.length:=by simp[ints,nls]
  obtain⟨oa,cap,b,hv,hd,-,hc,-,-⟩:=ho.cases;rw[hlen]at hv hd hc;subst hv;have HLEN:=q7 hlen;have HC:=q7 hc;have HD:=q7 hd;clear ho hbx hgr hlen hc hd
  by_cases hlt:l.length<n
  ·have q9w:(l.length:Int)<(n:Int):=by omega
   obtain⟨f,rfl⟩:∃f,gk=f+1:=⟨gk-1,by omega⟩
   have HE:=q7 (q9h.out f l p hlt);rw[HRN.out]at HE;have q9L:=HRD.out wr p HG.out HX.out q9Q;have hfa:=iE L' (qH s/2^p) (8*s.size-p);generalize j9 L' (qH s/2^p) (8*s.size-p)=rd at*;obtain⟨a,er,d⟩:=rd;obtain⟨hf1,hf2,hf3,hf4⟩:=hfa;have q9H:=q7 q9L;have hpd:p+d<=8*s.size:=by simp at hf2 q9Q;omega
   clear q9L HRN q9h q9b hf2
   by_cases hz:er=0
   ·subst hz
    have haL:=hf4 rfl
    simp at haL
    clear hf1 hf3 hf4
    by_cases ha:a<16
    ·have hai:(a:Int)<16:=by omega
     have q95:Hid (R=bM (qH s) (8*s.size) L' n f (l++[a]) (0,p+d)):=q7 (by rw[HE.out];unfold iF;rw[if_neg (by simp),if_pos ha])
     have qg7:Hid (ints (nls (l++[a]))=ints (nls l)++ints (nls [a])):=q7 (by simp[ints,nls])
     clear ha HE;have HLL:Hid ((ints (nls l)).length+1<=4294967296):=q7 (by rw[HLEN.out];omega)
     go_wp2_with(first|(go_at_call 135;(with_reducible refine q9H.out.mono ?_);rintro e w4 ⟨rfl,hb1,hb2⟩;(have HX4:=q7 hb1;have HG4:=q7 (qp HG.out hb2);have hs4:=hb2.size;have HO4:=q7 (HO.out.keep hb2 (qM (fun k hk e=>by have:=(HO.out.lt k hk).1;injection e with e;omega)));clear hb1 hb2))|(at_builtin;refine jt rfl (.tmp 31) (.tmp 33) 66 rfl w.heap.size 3 (.int .i64 0) 8 Tryz.underlying66 (by kernel_rfl) rfl (by decide) (.slice oa l.length cap) (ints (nls l)) rfl (HO4.out.up (qn _ _)) (.slice (some ⟨w4.heap.size,0,none⟩) 1 1) (ints (nls [a])) rfl (by simpa[ints,nls]using eJ w4 #[.int .i64 (a:Int)] 3 (by simp)) (cQ _) (by have:=HLL.out;simpa[ints,nls]using this) (qa hsz (qa hs4 (by simp))) ?_;intro v' w5 hown1 hg1 hk1;(have HO5:=q7 hown1;have HG5:=q7 hg1;clear hown1 hg1 hk1)))
     go_roundg f
     case measure=>omega
     case rel=>
      have hr2:(Value.slice oa l.length cap).ownBlock≠some g:=fun e=>by have:=(HO4.out.lt g e).1;omega
      exact⟨l++[a],p+d,by rw[qg7.out];exact HO5.out,(HX4.out.up (qn w4 _)).stay HG5.out hr2,hpd,q0z (qp HG4.out (qv (qn w4 _) _)) HG5.out (fun k hk=>(HO4.out.lt k hk).1),q7 q95.out.symm,by simp;omega,by simp;omega⟩
    ·have hai:¬(a:Int)<16:=by omega
     have qaD:a=16\/a=17\/a=18:=by omega
     have q95:Hid (R=if n<l.length+(cN (qH s) (8*s.size) a l (0,p+d)).1 then([],xf 3 (cN (qH s) (8*s.size) a l (0,p+d)).2.2)else bM (qH s) (8*s.size) L' n f (l++List.replicate (cN (qH s) (8*s.size) a l (0,p+d)).1 (cN (qH s) (8*s.size) a l (0,p+d)).2.1) (cN (qH s) (8*s.size) a l (0,p+d)).2.2):=q7 (by rw[HE.out];unfold iF;rw[if_neg (by simp),if_neg ha])
     clear ha HE haL
     by_cases hsp:a=16/\l=[]
     ·obtain⟨rfl,rfl⟩:=hsp
      have hr:cN (qH s) (8*s.size) 16 [] (0,p+d)=(0,0,4,p+d):=rfl;have qbb:Hid (R.2.1=4):=q7 (by rw[q95.out,hr,if_neg (by simp),dY _ _ _ _ _ _ _ (fun h=>by cases h.1)])
      clear hr q95
      go_wp2_with(go_at_call 135;(with_reducible refine q9H.out.mono ?_);rintro e w4 ⟨rfl,hb1,hb2⟩;(have HX4:=q7 hb1;have HG4:=q7 (qp HG.out hb2);have hs4:=hb2.size;have HO4:=q7 (HO.out.keep hb2 (qM (fun k hk e=>by have:=(HO.out.lt k hk).1;injection e with e;omega)));clear hb1 hb2))
      go_ret2
      exact⟨_,p+d,(by rw[qbb.out];rfl),fun h=>absurd (qbb.out.symm.trans h) (by decide),HX4.out,hpd,HG4.out⟩
     ·have qab:=q4A (N:=qH s) (T:=8*s.size) (p:=p+d) qaD hsp
      rw[qab]at q95;have hml:=fS (N:=qH s) (T:=8*s.size) (p:=p+d) (n:=q0A a);have hp2:=(bF (N:=qH s) (n:=q0A a) hpd).1;have hbo:=q4y a;have hlo:=q4z a;have qcz:=q7 (fun W h=>HBT.out W (p+d) (q0A a) (by omega) h hpd)
      unfold aH at qcz;clear qab HBT HRD;generalize jl (qH s) (8*s.size) (p+d) (q0A a)=r2 at*;obtain⟨m,e2,p2⟩:=r2
      go_upto_block 2 with(go_at_call 135;(with_reducible refine q9H.out.mono ?_);rintro e w4 ⟨rfl,hb1,hb2⟩;(have HX4:=q7 hb1;have HG4:=q7 (qp HG.out hb2);have hs4:=hb2.size;have HO4:=q7 (HO.out.keep hb2 (qM (fun k hk e=>by have:=(HO.out.lt k hk).1;injection e with e;omega)));clear hb1 hb2))
      go_cut [11,12,13]from 16 to 77 (fun x11 x12 x13 wx=>x11=.int .i64 (q0A a:Nat)/\x12=.int .i64 (q5V a:Nat)/\x13=.int .i64 (q7n a l:Nat)/\wx=w4)
      case first=>
       rcases qaD with rfl|rfl|rfl
       ·have qeA:l≠[]:=fun e=>hsp ⟨rfl,e⟩
        have hln:0<l.length:=List.length_pos_iff.2 qeA;obtain⟨oa2,cap2,b2,hv2,hd2,-,hc2,-,-⟩:=HO4.out.cases;rw[HLEN.out]at hv2 hd2 hc2;injection hv2 with q1 q2 q3
        subst q1 q3;have hix:=qQ (P:=Tryz.prog) 66 3 Tryz.underlying66 (by kernel_rfl) hd2
        have hbb:=hd2.hblk hln;have hcell:=hc2 (l.length-1) (by omega)
        rw[yU l qeA]at hcell;have hm:=hd2.len;have HVO:Hid (q7n 16 l=l.getD (l.length-1) 0):=q7 rfl;have qer:(l.length:Int)-1=((l.length-1:Nat):Int):=by omega
        have qj3:l.length-1<l.length:=by omega
        have hl0:((l.length:Int)==0)=false:=by simp;omega
        clear hd2 hc2 qeA hsp q95 qcz HC HD;generalize hyy:l.getD (l.length-1) 0=y at*;generalize l.length-1=j at*;generalize l.length=nl at*;go_wp2
        go_meet
        case rel=>exact⟨rfl,rfl,by rw[HVO.out],rfl⟩
       ·clear q95 qcz hsp
        go_wp2
        go_meet
        case rel=>exact⟨rfl,rfl,rfl,rfl⟩
       ·clear q95 qcz hsp
        go_wp2
        go_meet
        case rel=>exact⟨rfl,rfl,rfl,rfl⟩
      case rest=>
       obtain⟨rfl,rfl,rfl,hwc⟩:=hcut;subst hwc;have HC5:=q7 (qcz.out _ HX4.out);have qlg:=HG4.out.size;clear qcz hsp qaD HC HD;generalize q0A a=bo at*;generalize q5V a=lo at*;generalize q7n a l=vo at*;have hb7:2^bo<=2^7:=qe (by decide) hbo
       try simp only at hml
       have hm:m<=128:=by omega
       clear hml hb7;have qlw:=hlo.1;have qlv:=hlo.2
       try simp only at hp2 q95
       by_cases he2:e2=0
       ·subst he2
        by_cases q90:n<l.length+(lo+m)
        ·have hbi:(l.length:Int)+(lo:Int)+(m:Int)>(n:Int):=by omega
         have qbb:Hid (R=([],(3,p2))):=q7 (by rw[q95.out];exact if_pos q90)
         clear q90 q95
         go_wp2_with(go_at_call 133;(with_reducible refine HC5.out.mono ?_);rintro e w5 ⟨rfl,hb1,hb2⟩;(have HX5:=q7 hb1;have HG5:=q7 (qp HG4.out hb2);clear hb1 hb2))
         go_ret2
         rw[qbb.out]
         exact⟨_,p2,rfl,(fun h=>by cases h),HX5.out,hp2,HG5.out⟩
        ·have hbi:¬(l.length:Int)+(lo:Int)+(m:Int)>(n:Int):=by omega
         have qbb:Hid (R=bM (qH s) (8*s.size) L' n f (l++List.replicate (lo+m) vo) (0,p2)):=q7 (by rw[q95.out];exact if_neg q90)
         have HTM:Hid (∀W,Own W w.heap.size 3 (.slice oa l.length cap) (ints (nls l))->w.heap.size<=W.heap.size->Calls Tryz.prog 113 #[.slice oa l.length cap,.int .i64 ((lo:Int)+(m:Int)),.int .i64 (vo:Nat)] W fun e w'=>∃v',e=.returned v'/\Own w' w.heap.size 3 v' (ints (nls (l++List.replicate (lo+m) vo)))/\Below w.heap.size W w'):=q7 (fun W ho hB=>by
          have:=uP (.slice oa l.length cap) l (lo+m) vo W w.heap.size ho hB (by omega)
          rw[Int.natCast_add]at this
          exact this)
         clear q95
         go_wp2_with(first|(go_at_call 133;(with_reducible refine HC5.out.mono ?_);rintro e w5 ⟨rfl,hb1,hb2⟩;(have HX5:=q7 hb1;have HG5:=q7 (qp HG4.out hb2);have HO5:=q7 (HO4.out.keep hb2 (qM (fun k hk e=>by have:=(HO4.out.lt k hk).1;injection e with e;omega)));clear hb1 hb2))|(go_at_call 113;(with_reducible refine(HTM.out _ HO5.out HG5.out.size).mono ?_);rintro e w6 ⟨v6,rfl,hb1,hb2⟩;(have HO6:=q7 hb1;have HB6:=q7 hb2;clear hb1 hb2)))
         go_roundg f
         case measure=>omega
         case rel=>
          have qd1:w.grownBy w6 (some g):=⟨HB6.out.os.trans HG5.out.os,HB6.out.tape.trans HG5.out.tape,HB6.out.output.trans HG5.out.output,qa HG5.out.size HB6.out.size,fun k hk hne=>by rw[HB6.out.block k hk,HG5.out.block k hk hne]⟩
          have hbx:aS w6 g s p2:=⟨HX5.out.own.of_blk (fun k hk=>HB6.out.block k (by have e2:some g=some k:=hk;injection e2 with e2;omega))⟩
          exact⟨l++List.replicate (lo+m) vo,p2,HO6.out,hbx,hp2,qd1,q7 qbb.out.symm,by simp;omega,by simp;omega⟩
       ·have qme:((e2:Int) != 0)=true:=by simpa using he2
        have qbb:Hid (R.2.1=e2):=q7 (by
         rw[q95.out]
         by_cases q90:n<l.length+(lo+m)
         ·rw[if_pos q90];show(xf 3 (e2,p2)).1=e2;rw[U3 (by exact he2)]
         ·rw[if_neg q90,dY _ _ _ _ _ _ _ (fun h=>he2 h.1)])
        have HNE:=q7 he2;clear q95 he2
        go_wp2_with(go_at_call 133;(with_reducible refine HC5.out.mono ?_);rintro e w5 ⟨rfl,hb1,hb2⟩;(have HX5:=q7 hb1;have HG5:=q7 (qp HG4.out hb2);clear hb1 hb2))
        go_ret2
        rw[qbb.out]
        exact⟨_,p2,rfl,fun h=>absurd h HNE.out,HX5.out,hp2,HG5.out⟩
   ·have hz':((er:Int) != 0)=true:=by simpa using hz
    have hd0:=hf3 hz;have q95:Hid (R=(l,er,p)):=q7 (by rw[HE.out];unfold iF;exact if_pos hz)
    simp at hd0
    subst hd0;have HNE:=q7 hz;clear hf3 hf4 HE hz HC HD
    go_wp2_with(go_at_call 135;(with_reducible refine q9H.out.mono ?_);rintro e w4 ⟨rfl,hb1,hb2⟩;(have HX4:=q7 hb1;have HG4:=q7 (qp HG.out hb2);have hs4:=hb2.size;have HO4:=q7 (HO.out.keep hb2 (qM (fun k hk e=>by have:=(HO.out.lt k hk).1;injection e with e;omega)));clear hb1 hb2))
    go_ret2
    rw[q95.out]
    exact⟨_,p+0,rfl,fun h=>absurd h HNE.out,HX4.out,hpd,HG4.out⟩
  ·have q9w:¬(l.length:Int)<(n:Int):=by omega
   have HE:=q7 (q9b.out gk l (0,p) (fun h=>hlt h.2))
   rw[HRN.out]at HE;clear hlt hf HC HD;go_wp2
   go_ret2
   rw[HE.out]
   first|exact⟨_,p,rfl,fun _=>⟨HO.out,rfl⟩,HX.out,q9Q,HG.out⟩|exact⟨_,rfl,p,fun _=>⟨HO.out,rfl⟩,HX.out,q9Q,HG.out⟩
theorem Own.keepN{w w':World}{B E b n cap:Nat}{xs:List Value}{row:Option Nat}(h:Own w B E (.slice (some ⟨b,0,none⟩) n cap) xs)(hg:w.grownBy w' row)(hne:row≠some b):Own w' B E (.slice (some ⟨b,0,none⟩) n cap) xs:=h.keep hg (.inr (fun e=>hne e.symm))
def wE(H:aI)(er pf:Nat)(s:ByteArray)(g:Nat)(w:World)(e:Ending)(w':World):Prop:=
 ∃v1 v2 p',e=.returned (.tuple #[.agg #[.bool H.fin,.int .i64 (H.kind:Nat),.int .i64 (H.size:Nat),v1,v2],.int .i64 (er:Nat)])/\Own w' w.heap.size 3 v1 (ints (nls H.lits))/\Own w' w.heap.size 3 v2 (ints (nls H.dists))/\aS w' g s p'/\p'<=8*s.size/\(er=0->p'=pf)/\w.grownBy w' (some g)
theorem q2B{w:World}{g p k:Nat}{s:ByteArray}{fin:Bool}(h:aS w g s p)(hs:s.size<=4294967296)(hp:p<=8*s.size):
  Calls Tryz.prog 162 #[.pointer (some ⟨g,0,none⟩),.agg #[.bool fin,.int .i64 (k:Nat),.int .i64 0,.slice none 0 0,.slice none 0 0]] w
   (wE (if(je (qH s) (8*s.size) (0,p)).2.1=0 then⟨fin,k,(je (qH s) (8*s.size) (0,p)).1,[],[]⟩else aI.zero) (je (qH s) (8*s.size) (0,p)).2.1 (je (qH s) (8*s.size) (0,p)).2.2 s g w):=by
 have HB:=q7 h;have hgw:=h.lt;have hp8:qO p<=8*s.size:=by unfold qO;omega
 have HAL:=q7 (fun(W:World) (h:aS W g s p)=>q68 h hs hp)
 have HBT:Hid (∀(W:World) (p:Nat),aS W g s p->p<=8*s.size->Calls Tryz.prog 133 #[.pointer (some ⟨g,0,none⟩),.int .i64 16] W (aH aS s p 16 g W)):=q7 (fun W p hb hp=>U1 hb hs 16 (by omega) hp)
 have HP1:=q7 (bF (N:=qH s) (n:=16) hp8).1;have HB1:=q7 (fun W h=>HBT.out W (qO p) h hp8)
 have ht1:=fB (N:=qH s) (T:=8*s.size) (p:=qO p) (n:=16);have hl1:=fS (N:=qH s) (T:=8*s.size) (p:=qO p) (n:=16);obtain⟨D,hD⟩:∃D,D=je (qH s) (8*s.size) (0,p):=⟨_,rfl⟩;rw[<-hD];obtain⟨H,hH⟩:∃H,H=if D.2.1=0 then(⟨fin,k,D.1,[],[]⟩:aI)else aI.zero:=⟨_,rfl⟩
 rw[<-hH];have HHD:=q7 hH;clear hH;unfold je at hD
 dsimp only at hD
 rw[iI]at hD;unfold aH at HB1;obtain⟨r1,h1⟩:∃r1,r1=jl (qH s) (8*s.size) (qO p) 16:=⟨_,rfl⟩;rw[<-h1]at hD HB1 HP1 ht1 hl1;clear h1;obtain⟨n,e1,p1⟩:=r1;have qfx:=HP1.out;have HB2:=q7 (fun W h=>HBT.out W p1 h qfx)
 have HP2:=q7 (bF (N:=qH s) (n:=16) qfx).1;have ht2:=fB (N:=qH s) (T:=8*s.size) (p:=p1) (n:=16);have hl2:=fS (N:=qH s) (T:=8*s.size) (p:=p1) (n:=16);have HX2:Hid (e1=0->xb (qH s) (8*s.size) 16 (e1,p1)=jl (qH s) (8*s.size) p1 16):=q7 (fun h=>by rw[h];rfl)
 unfold aH at HB2;generalize jl (qH s) (8*s.size) p1 16=r2 at*;obtain⟨m,e2,p2⟩:=r2;simp only at hl1 hl2 ht1 ht2 hD;have HD:=q7 hD
 have HR0:Hid (∀w1:World,(w.alloc (.cells #[Value.bool fin,.int .i64 (k:Nat),.int .i64 0,.slice none 0 0,.slice none 0 0] 124)).alloc (.cells #[Value.bool false,.int .i64 0,.int .i64 0,.slice none 0 0,.slice none 0 0] 124)=w1->Own w1 (w.heap.size+1) 124 (.slice (some ⟨w.heap.size+1,0,none⟩) 5 5) zH.toList/\Own w1 w.heap.size 124 (.slice (some ⟨w.heap.size,0,none⟩) 5 5) [Value.bool fin,.int .i64 (k:Nat),.int .i64 (0:Nat),.slice none 0 0,.slice none 0 0]/\aS w1 g s p/\Below w.heap.size w w1):=q7 (fun w1 e=>by
  subst e;have h1:=qE (w.alloc (.cells #[Value.bool fin,.int .i64 (k:Nat),.int .i64 0,.slice none 0 0,.slice none 0 0] 124)) (w.heap.size+1) zH 124 (by simp[zH]) (by simp)
  have h2:=(qE w w.heap.size #[Value.bool fin,.int .i64 (k:Nat),.int .i64 0,.slice none 0 0,.slice none 0 0] 124 (by simp) (q9 _)).up (qn _ (.cells zH 124))
  refine⟨by simpa[zH]using h1,by simpa[zH]using h2,HB.out.up (by repeat(first|exact qj _ _|assumption|refine qw ?_ _|refine qk ?_|refine qA ?_ _|refine qs ?_ _)),(by repeat(first|exact qj _ _|assumption|refine qw ?_ _|refine qk ?_|refine qA ?_ _|refine qs ?_ _))⟩)
 clear hD h HBT hp8 qfx;unfold wE
 go_enter Tryz.func162,Tryz.ntmps162
 go_upto_region 4 with(first|(go_at_call 187;(obtain⟨hr0,hh0,hx0,q9f⟩:=HR0.out _ rfl);(with_reducible refine(HAL.out _ hx0).mono ?_);rintro e w2 ⟨rfl,hb1,hg1⟩;(have qb2:=q9f.size;have HR2:=q7 (hr0.keepN hg1 (fun e=>by injection e with e;omega));have HH2:=q7 (hh0.keepN hg1 (fun e=>by injection e with e;omega));have HG2:=q7 (qp (qv q9f (some g)) hg1);have qmt:=q7 hb1;have HC2:=q7 (HB1.out w2 hb1);clear hr0 hh0 hx0 q9f hb1 hg1 HR0 HAL HB1))|(go_at_call 133;first|((with_reducible refine HC2.out.mono ?_);rintro e w3 ⟨rfl,hb1,hg1⟩;(have HR3:=q7 (HR2.out.keepN hg1 (fun e=>by injection e with e;omega));have HH3:=q7 (HH2.out.keepN hg1 (fun e=>by injection e with e;omega));have HG3:=q7 (qp HG2.out hg1);have HC3:=q7 (HB2.out w3 hb1);clear hb1 hg1 HC2 HB2 HR2 HH2 HG2))|((with_reducible refine HC3.out.mono ?_);rintro e w4 ⟨rfl,hb1,hg1⟩;(have HR4:=q7 (HR3.out.keepN hg1 (fun e=>by injection e with e;omega));have HH4:=q7 (HH3.out.keepN hg1 (fun e=>by injection e with e;omega));have HG4:=q7 (qp HG3.out hg1);have HX4:=q7 hb1;clear hb1 hg1 HC3 HR3 HH3 HG3))))
 by_cases h1:e1=0
 ·subst h1
  have HDB:=q7 HD.out;rw[HX2.out rfl]at HDB
  by_cases h2:e2=0
  ·subst h2
   by_cases hc:m+n=65535
   ·have hci:((n:Int)+(m:Int) != 65535)=false:=by simp;omega
    have HDE:Hid (D=(n,(0,p2))):=q7 (by rw[HDB.out];exact congrArg (Prod.mk n) (if_pos hc))
    have hhz:H=⟨fin,k,n,[],[]⟩:=by rw[HHD.out,HDE.out];rfl
    have HHZ:=q7 hhz;clear hc hhz HD HDB HHD HX2;have hf4:=HH4.out.free 2;have hc4:=HH4.out.cell (i:=2) (by simp)
    have hb4:=HH4.out.blk.2;have hst:=HH4.out.store 2 (.int .i64 (n:Nat));have HST:=q7 hst.1;have HSG:=q7 hst.2;have HR5:=q7 (HR4.out.keepN hst.2 (fun e=>by injection e with e;omega))
    obtain⟨A,hA,hAs,hAl⟩:=hst.1.whole
    have hA1:∀u∈A.toList,u.oneCell'=true:=by
     rw[hAl];exact fR fin k n none none 0 0 0 0
    have HAL:=q7 hAl;clear hst hAl
    go_wp2_with(first|(refine qI rfl 124 5 _ rfl w.heap.size rfl A hAs hA _ Tryz.underlying124 rfl (by kernel_rfl) ?_)|(refine qo rfl 124 _ _ rfl (w.heap.size+1) 124 (w.heap.size+1) 5 5 rfl A rfl (by rw[hAs];kernel_rfl) _ HR5.out (by rw[hAs];simp[zH]) hA1 ?_;intro w9 q9c hg9;(have HG9:=q7 hg9;have HR9:=q7 q9c;clear q9c hg9)))
    have hr9:=HR9.out;rw[hAs,List.drop_of_length_le (by simp[zH]),List.append_nil]at hr9
    refine qR (s:=4) (b:=5) (ad:=⟨w.heap.size+1,0,none⟩) (x:=.agg A) (y:=.int .i64 0) rfl rfl rfl rfl (jd (n:=5) hr9 _ Tryz.underlying124 rfl (by kernel_rfl)) ?_
    have hAe:A=#[.bool fin,.int .i64 (k:Nat),.int .i64 (n:Nat),.slice none 0 0,.slice none 0 0]:=by
     rw[<-Array.toArray_toList (xs:=A),HAL.out];rfl
    rw[HHZ.out,HDE.out,hAe]
    exact⟨_,_,p2,rfl,Own.nil _ _ _,Own.nil _ _ _,(HX4.out.stay HSG.out (fun e=>by injection e with e;omega)).stay HG9.out (fun e=>by injection e with e;omega),HP2.out,fun _=>rfl,ji (ji HG4.out HSG.out (q9 _)) HG9.out (by omega)⟩
   ·have hci:((n:Int)+(m:Int) != 65535)=true:=by simp;omega
    have HDE:Hid (D=(n,(6,p2))):=q7 (by rw[HDB.out];exact congrArg (Prod.mk n) (if_neg hc))
    clear hc HD HDB HX2
    go_wp2_with(refine qo rfl 124 _ _ rfl (w.heap.size+1) 124 (w.heap.size+1) 5 5 rfl zH rfl (by kernel_rfl) _ HR4.out (by simp[zH]) eM ?_;intro w9 q9c hg9;(have HG9:=q7 hg9;have HR9:Hid (Own w9 (w.heap.size+1) 124 (.slice (some ⟨w.heap.size+1,0,none⟩) 5 5) zH.toList):=q7 q9c;clear q9c hg9))
    refine qR (s:=4) (b:=5) (ad:=⟨w.heap.size+1,0,none⟩) (x:=.agg zH) (y:=.int .i64 6) rfl rfl rfl rfl (jd (n:=5) HR9.out _ Tryz.underlying124 rfl (by kernel_rfl)) ?_
    have hhz:H=aI.zero:=by rw[HHD.out,HDE.out];rfl
    rw[hhz,HDE.out]
    exact⟨_,_,p2,rfl,Own.nil _ _ _,Own.nil _ _ _,HX4.out.stay HG9.out (fun e=>by injection e with e;omega),HP2.out,(fun h=>by cases h),ji HG4.out HG9.out (by omega)⟩
  ·have h2i:((e2:Int) != 0)=true:=by simpa using h2
   have HDE:Hid (D=(n,(2,p2))):=q7 (by
    rw[HDB.out];refine congrArg (Prod.mk n) ?_;have e:=ht2 h2
    show(if m+n=65535 then(e2,p2)else xf 6 (e2,p2))=_
    rw[U3 (by exact h2),e]
    split<;>rfl)
   clear h2 HD HDB HX2 ht2
   go_wp2_with(refine qo rfl 124 _ _ rfl (w.heap.size+1) 124 (w.heap.size+1) 5 5 rfl zH rfl (by kernel_rfl) _ HR4.out (by simp[zH]) eM ?_;intro w9 q9c hg9;(have HG9:=q7 hg9;have HR9:Hid (Own w9 (w.heap.size+1) 124 (.slice (some ⟨w.heap.size+1,0,none⟩) 5 5) zH.toList):=q7 q9c;clear q9c hg9))
   refine qR (s:=4) (b:=5) (ad:=⟨w.heap.size+1,0,none⟩) (x:=.agg zH) (y:=.int .i64 2) rfl rfl rfl rfl (jd (n:=5) HR9.out _ Tryz.underlying124 rfl (by kernel_rfl)) ?_
   have hhz:H=aI.zero:=by rw[HHD.out,HDE.out];rfl
   rw[hhz,HDE.out]
   exact⟨_,_,p2,rfl,Own.nil _ _ _,Own.nil _ _ _,HX4.out.stay HG9.out (fun e=>by injection e with e;omega),HP2.out,(fun h=>by cases h),ji HG4.out HG9.out (by omega)⟩
 ·have h1i:((e1:Int) != 0)=true:=by simpa using h1
  have HDE:Hid (D=(n,(2,p1))):=q7 (by
   rw[HD.out];refine congrArg (Prod.mk n) ?_;have e:=ht1 h1;rw[M9 h1,U3 (by exact h1),e]
   split<;>rfl)
  clear h1 HD HX2 ht1
  go_wp2_with(refine qo rfl 124 _ _ rfl (w.heap.size+1) 124 (w.heap.size+1) 5 5 rfl zH rfl (by kernel_rfl) _ HR4.out (by simp[zH]) eM ?_;intro w9 q9c hg9;(have HG9:=q7 hg9;have HR9:Hid (Own w9 (w.heap.size+1) 124 (.slice (some ⟨w.heap.size+1,0,none⟩) 5 5) zH.toList):=q7 q9c;clear q9c hg9))
  refine qR (s:=4) (b:=5) (ad:=⟨w.heap.size+1,0,none⟩) (x:=.agg zH) (y:=.int .i64 2) rfl rfl rfl rfl (jd (n:=5) HR9.out _ Tryz.underlying124 rfl (by kernel_rfl)) ?_
  have hhz:H=aI.zero:=by rw[HHD.out,HDE.out];rfl
  rw[hhz,HDE.out]
  exact⟨_,_,p2,rfl,Own.nil _ _ _,Own.nil _ _ _,HX4.out.stay HG9.out (fun e=>by injection e with e;omega),HP2.out,(fun h=>by cases h),ji HG4.out HG9.out (by omega)⟩
theorem wF{N T a b c:Nat}{st:Nat×Nat}(h:st.1≠0):dynM N T a b c st=([],[],st):=by
 have h4:(if 286<257+a\/30<1+b then xf 3 st else st)=st:=by
  split
  ·exact U3 h
  ·rfl
 unfold dynM dynL;rw[h4,nH N T c 19 (List.replicate 19 0,st) h]
 exact if_pos h
theorem q2C{N T a b c p:Nat}(h:286<257+a\/30<1+b):dynM N T a b c (0,p)=([],[],(3,p)):=by
 unfold dynM dynL;rw[if_pos h,nH N T c 19 (List.replicate 19 0,xf 3 (0,p)) (by show(3:Nat)≠0;decide)]
 exact if_pos (by show(3:Nat)≠0;decide)
theorem q2D{N T p:Nat}{a b c p1 p2 p3:Nat}(h1:jl N T p 5=(a,0,p1))(h2:jl N T p1 5=(b,0,p2))(h3:jl N T p2 4=(c,0,p3)):dynN N T (0,p)=dynM N T a b c (0,p3):=by
 unfold dynN;simp only[iI,h1,h2,h3]
theorem q4B{N T p:Nat}{a b c e1 e2 e3 p1 p2 p3:Nat}(h1:jl N T p 5=(a,e1,p1))(h2:jl N T p1 5=(b,e2,p2))(h3:jl N T p2 4=(c,e3,p3))(h:e1≠0\/e2≠0\/e3≠0):(dynN N T (0,p)).2.2.1=2:=by
 have t1:=fB (N:=N) (T:=T) (p:=p) (n:=5);have t2:=fB (N:=N) (T:=T) (p:=p1) (n:=5);have t3:=fB (N:=N) (T:=T) (p:=p2) (n:=4);rw[h1]at t1;rw[h2]at t2;rw[h3]at t3;unfold dynN
 by_cases he1:e1=0
 ·subst he1
  by_cases he2:e2=0
  ·subst he2
   have he3:e3≠0:=by omega
   simp only[iI,h1,h2,h3];rw[wF (by exact he3)]
   exact t3 he3
  ·simp only[iI,h1,h2,M9 he2]
   rw[wF (by exact he2)]
   exact t2 he2
 ·simp only[iI,h1,M9 he1]
  rw[wF (by exact he1)]
  exact t1 he1
theorem yY(N T c:Nat)(x:List Nat×(Nat×Nat))(j:Nat)(h:(jO N T c j x).2.1≠0):∀d,jO N T c (j+d) x=jO N T c j x
 |0=>rfl
 |d+1=>by
  rw[<-Nat.add_assoc,gN,yY N T c x j h d,if_neg (fun z=>h z.2)]
theorem uR(N T c:Nat)(x:List Nat×(Nat×Nat)):∀d,jO N T c (4+c+d) x=jO N T c (4+c) x
 |0=>rfl
 |d+1=>by
  rw[<-Nat.add_assoc,gN,uR N T c x d,if_neg (fun z=>by have:=z.1;omega)]
theorem q0B{w:World}{g p k:Nat}{s:ByteArray}{fin:Bool}(h:aS w g s p)(hs:s.size<=4294967296)(hp:p<=8*s.size):
  Calls Tryz.prog 163 #[.pointer (some ⟨g,0,none⟩),.agg #[.bool fin,.int .i64 (k:Nat),.int .i64 0,.slice none 0 0,.slice none 0 0]] w
   (wE (if(dynN (qH s) (8*s.size) (0,p)).2.2.1=0 then⟨fin,k,0,(dynN (qH s) (8*s.size) (0,p)).1,(dynN (qH s) (8*s.size) (0,p)).2.1⟩else aI.zero) (dynN (qH s) (8*s.size) (0,p)).2.2.1 (dynN (qH s) (8*s.size) (0,p)).2.2.2 s g w):=by
 have HB:=q7 h;have hgw:=h.lt;have HBT:=q7 (fun(W:World) (p n:Nat) (hn:n<=32) (hb:aS W g s p) (hp:p<=8*s.size)=>U1 hb hs n hn hp)
 have HRW:=q7 (fun(W:World) (p n:Nat) (L:List Nat) (v:Value) (hb:aS W g s p) (hv:Own W w.heap.size 3 v (ints (nls L))) (hL:bE (nls L)=0) (hl:L.length<=19) (hn:n<=1000) (hp:p<=8*s.size)=>q6j hb hv hgw hL hl hn hs hp)
 obtain⟨D,hD⟩:∃D,D=dynN (qH s) (8*s.size) (0,p):=⟨_,rfl⟩;rw[<-hD];obtain⟨H,hH⟩:∃H,H=if D.2.2.1=0 then(⟨fin,k,0,D.1,D.2.1⟩:aI)else aI.zero:=⟨_,rfl⟩
 rw[<-hH];have HHD:=q7 hH;clear hH;obtain⟨r1,h1⟩:∃r1,r1=jl (qH s) (8*s.size) p 5:=⟨_,rfl⟩;obtain⟨a,e1,p1⟩:=r1;obtain⟨r2,h2⟩:∃r2,r2=jl (qH s) (8*s.size) p1 5:=⟨_,rfl⟩;obtain⟨b,e2,p2⟩:=r2;obtain⟨r3,h3⟩:∃r3,r3=jl (qH s) (8*s.size) p2 4:=⟨_,rfl⟩;obtain⟨c,e3,p3⟩:=r3;have HP1:Hid (p1<=8*s.size):=q7 (by have:=(bF (N:=qH s) (n:=5) hp).1;rw[<-h1]at this;exact this)
 have HP2:Hid (p2<=8*s.size):=q7 (by have:=(bF (N:=qH s) (n:=5) HP1.out).1;rw[<-h2]at this;exact this)
 have HP3:Hid (p3<=8*s.size):=q7 (by have:=(bF (N:=qH s) (n:=4) HP2.out).1;rw[<-h3]at this;exact this)
 have ha:a<32:=by have:=fS (N:=qH s) (T:=8*s.size) (p:=p) (n:=5);rw[<-h1]at this;exact this
 have hb:b<32:=by have:=fS (N:=qH s) (T:=8*s.size) (p:=p1) (n:=5);rw[<-h2]at this;exact this
 have hc:c<16:=by have:=fS (N:=qH s) (T:=8*s.size) (p:=p2) (n:=4);rw[<-h3]at this;exact this
 have HB1:Hid (∀W,aS W g s p->Calls Tryz.prog 133 #[.pointer (some ⟨g,0,none⟩),.int .i64 5] W fun e w'=>e=.returned (.tuple #[.int .i64 (a:Nat),.int .i64 (e1:Nat)])/\aS w' g s p1/\W.grownBy w' (some g)):=q7 (fun W h=>by
  have:=HBT.out W p 5 (by omega) h hp
  unfold aH at this;rw[<-h1]at this
  exact this)
 have HB2:Hid (∀W,aS W g s p1->Calls Tryz.prog 133 #[.pointer (some ⟨g,0,none⟩),.int .i64 5] W fun e w'=>e=.returned (.tuple #[.int .i64 (b:Nat),.int .i64 (e2:Nat)])/\aS w' g s p2/\W.grownBy w' (some g)):=q7 (fun W h=>by
  have:=HBT.out W p1 5 (by omega) h HP1.out
  unfold aH at this;rw[<-h2]at this
  exact this)
 have HB3:Hid (∀W,aS W g s p2->Calls Tryz.prog 133 #[.pointer (some ⟨g,0,none⟩),.int .i64 4] W fun e w'=>e=.returned (.tuple #[.int .i64 (c:Nat),.int .i64 (e3:Nat)])/\aS w' g s p3/\W.grownBy w' (some g)):=q7 (fun W h=>by
  have:=HBT.out W p2 4 (by omega) h HP2.out
  unfold aH at this;rw[<-h3]at this
  exact this)
 have q9O:Hid (e1≠0\/e2≠0\/e3≠0->D.2.2.1=2):=q7 (fun h=>by rw[hD];exact q4B h1.symm h2.symm h3.symm h)
 have qa6:Hid (e1=0->e2=0->e3=0->D=dynM (qH s) (8*s.size) a b c (0,p3)):=q7 (fun q1 q2 q3=>by subst q1 q2 q3;rw[hD];exact q2D h1.symm h2.symm h3.symm)
 have HR0:Hid (∀w1:World,(w.alloc (.cells #[Value.bool fin,.int .i64 (k:Nat),.int .i64 0,.slice none 0 0,.slice none 0 0] 124)).alloc (.cells #[Value.bool false,.int .i64 0,.int .i64 0,.slice none 0 0,.slice none 0 0] 124)=w1->Own w1 (w.heap.size+1) 124 (.slice (some ⟨w.heap.size+1,0,none⟩) 5 5) zH.toList/\Own w1 w.heap.size 124 (.slice (some ⟨w.heap.size,0,none⟩) 5 5) [Value.bool fin,.int .i64 (k:Nat),.int .i64 (0:Nat),.slice none 0 0,.slice none 0 0]/\aS w1 g s p/\Below w.heap.size w w1):=q7 (fun w1 e=>by
  subst e;have h1:=qE (w.alloc (.cells #[Value.bool fin,.int .i64 (k:Nat),.int .i64 0,.slice none 0 0,.slice none 0 0] 124)) (w.heap.size+1) zH 124 (by simp[zH]) (by simp)
  have h2:=(qE w w.heap.size #[Value.bool fin,.int .i64 (k:Nat),.int .i64 0,.slice none 0 0,.slice none 0 0] 124 (by simp) (q9 _)).up (qn _ (.cells zH 124))
  refine⟨by simpa[zH]using h1,by simpa[zH]using h2,HB.out.up (by repeat(first|exact qj _ _|assumption|refine qw ?_ _|refine qk ?_|refine qA ?_ _|refine qs ?_ _)),(by repeat(first|exact qj _ _|assumption|refine qw ?_ _|refine qk ?_|refine qA ?_ _|refine qs ?_ _))⟩)
 clear hD h h1 h2 h3;unfold wE
 go_enter Tryz.func163,Tryz.ntmps163
 go_upto_region 4 with(go_at_call 133;first|((obtain⟨hr0,hh0,hx0,q9f⟩:=HR0.out _ rfl);(with_reducible refine(HB1.out _ hx0).mono ?_);rintro e w1 ⟨rfl,hb1,hg1⟩;(have qb2:=q9f.size;have qaw:=q7 (hr0.keepN hg1 (fun e=>by injection e with e;omega));have qdn:=q7 (hh0.keepN hg1 (fun e=>by injection e with e;omega));have qaB:=q7 (qp (qv q9f (some g)) hg1);have qbK:=q7 hb1;have HC2:=q7 (HB2.out w1 hb1);clear hr0 hh0 hx0 q9f hb1 hg1 HR0 HB1))|((with_reducible refine HC2.out.mono ?_);rintro e w2 ⟨rfl,hb1,hg1⟩;(have qdd:=q7 (qaw.out.keepN hg1 (fun e=>by injection e with e;omega));have qdm:=q7 (qdn.out.keepN hg1 (fun e=>by injection e with e;omega));have qdo:=q7 (qp qaB.out hg1);have qfi:=q7 hb1;have HC3:=q7 (HB3.out w2 hb1);clear hb1 hg1 HC2))|((with_reducible refine HC3.out.mono ?_);rintro e w3 ⟨rfl,hb1,hg1⟩;(have q9k:=q7 (qdd.out.keepN hg1 (fun e=>by injection e with e;omega));have qdl:=q7 (qdm.out.keepN hg1 (fun e=>by injection e with e;omega));have q9l:=q7 (qp qdo.out hg1);have q9r:=q7 hb1;clear hb1 hg1 HC3)))
 clear qaw qdn qaB qbK qdd qdm qdo qfi HB2 HB3;have hs3:=q9l.out.size
 by_cases he:e1≠0\/e2≠0\/e3≠0
 ·have HDE:=q7 (q9O.out he)
  have HNE:Hid (¬(2:Nat)=0):=q7 (by decide)
  clear q9O qa6 HRW HBT
  by_cases q1:e1=0
  ·subst q1
   by_cases q2:e2=0
   ·subst q2
    have q3:((e3:Int) != 0)=true:=by
     have:e3≠0:=by omega
     simpa using this
    clear he
    go_wp2_with(refine qo rfl 124 _ _ rfl (w.heap.size+1) 124 (w.heap.size+1) 5 5 rfl zH rfl (by kernel_rfl) _ q9k.out (by simp[zH]) eM ?_;intro wz q8Y hgz;(have HGZ:=q7 hgz;have HRZ:Hid (Own wz (w.heap.size+1) 124 (.slice (some ⟨w.heap.size+1,0,none⟩) 5 5) zH.toList):=q7 q8Y;clear q8Y hgz))
    refine qR (s:=4) (b:=5) (ad:=⟨w.heap.size+1,0,none⟩) (x:=.agg zH) (y:=.int .i64 2) rfl rfl rfl rfl (jd (n:=5) HRZ.out _ Tryz.underlying124 rfl (by kernel_rfl)) ?_
    have hhz:H=aI.zero:=by rw[HHD.out,HDE.out];exact if_neg HNE.out
    rw[hhz,HDE.out];have hxz:=q9r.out.stay HGZ.out (fun e=>by injection e with e;omega)
    have hgz:=ji q9l.out HGZ.out (by omega)
    exact⟨_,_,p3,rfl,Own.nil _ _ _,Own.nil _ _ _,hxz,HP3.out,(fun h=>absurd h HNE.out),hgz⟩
   ·have q2':((e2:Int) != 0)=true:=by simpa using q2
    clear he q2
    go_wp2_with(refine qo rfl 124 _ _ rfl (w.heap.size+1) 124 (w.heap.size+1) 5 5 rfl zH rfl (by kernel_rfl) _ q9k.out (by simp[zH]) eM ?_;intro wz q8Y hgz;(have HGZ:=q7 hgz;have HRZ:Hid (Own wz (w.heap.size+1) 124 (.slice (some ⟨w.heap.size+1,0,none⟩) 5 5) zH.toList):=q7 q8Y;clear q8Y hgz))
    refine qR (s:=4) (b:=5) (ad:=⟨w.heap.size+1,0,none⟩) (x:=.agg zH) (y:=.int .i64 2) rfl rfl rfl rfl (jd (n:=5) HRZ.out _ Tryz.underlying124 rfl (by kernel_rfl)) ?_
    have hhz:H=aI.zero:=by rw[HHD.out,HDE.out];exact if_neg HNE.out
    rw[hhz,HDE.out];have hxz:=q9r.out.stay HGZ.out (fun e=>by injection e with e;omega)
    have hgz:=ji q9l.out HGZ.out (by omega)
    exact⟨_,_,p3,rfl,Own.nil _ _ _,Own.nil _ _ _,hxz,HP3.out,(fun h=>absurd h HNE.out),hgz⟩
  ·have q1':((e1:Int) != 0)=true:=by simpa using q1
   clear he q1
   go_wp2_with(refine qo rfl 124 _ _ rfl (w.heap.size+1) 124 (w.heap.size+1) 5 5 rfl zH rfl (by kernel_rfl) _ q9k.out (by simp[zH]) eM ?_;intro wz q8Y hgz;(have HGZ:=q7 hgz;have HRZ:Hid (Own wz (w.heap.size+1) 124 (.slice (some ⟨w.heap.size+1,0,none⟩) 5 5) zH.toList):=q7 q8Y;clear q8Y hgz))
   refine qR (s:=4) (b:=5) (ad:=⟨w.heap.size+1,0,none⟩) (x:=.agg zH) (y:=.int .i64 2) rfl rfl rfl rfl (jd (n:=5) HRZ.out _ Tryz.underlying124 rfl (by kernel_rfl)) ?_
   have hhz:H=aI.zero:=by rw[HHD.out,HDE.out];exact if_neg HNE.out
   rw[hhz,HDE.out];have hxz:=q9r.out.stay HGZ.out (fun e=>by injection e with e;omega)
   have hgz:=ji q9l.out HGZ.out (by omega)
   exact⟨_,_,p3,rfl,Own.nil _ _ _,Own.nil _ _ _,hxz,HP3.out,(fun h=>absurd h HNE.out),hgz⟩
 ·obtain⟨q1,q2,q3⟩:e1=0/\e2=0/\e3=0:=by omega
  subst q1 q2 q3;have HDM:=q7 (qa6.out rfl rfl rfl);clear q9O qa6 he
  by_cases q90:286<257+a\/30<1+b
  ·have HDE:Hid (D.2.2.1=3):=q7 (by rw[HDM.out,q2C q90])
   have HNE:Hid (¬(3:Nat)=0):=q7 (by decide)
   clear HDM HRW HBT
   by_cases hb1:286<257+a
   ·have hi:(a:Int)+257>286:=by omega
    clear q90
    go_wp2_with(refine qo rfl 124 _ _ rfl (w.heap.size+1) 124 (w.heap.size+1) 5 5 rfl zH rfl (by kernel_rfl) _ q9k.out (by simp[zH]) eM ?_;intro wz q8Y hgz;(have HGZ:=q7 hgz;have HRZ:Hid (Own wz (w.heap.size+1) 124 (.slice (some ⟨w.heap.size+1,0,none⟩) 5 5) zH.toList):=q7 q8Y;clear q8Y hgz))
    refine qR (s:=4) (b:=5) (ad:=⟨w.heap.size+1,0,none⟩) (x:=.agg zH) (y:=.int .i64 3) rfl rfl rfl rfl (jd (n:=5) HRZ.out _ Tryz.underlying124 rfl (by kernel_rfl)) ?_
    have hhz:H=aI.zero:=by rw[HHD.out,HDE.out];exact if_neg HNE.out
    rw[hhz,HDE.out];have hxz:=q9r.out.stay HGZ.out (fun e=>by injection e with e;omega)
    have hgz:=ji q9l.out HGZ.out (by omega)
    exact⟨_,_,p3,rfl,Own.nil _ _ _,Own.nil _ _ _,hxz,HP3.out,(fun h=>absurd h HNE.out),hgz⟩
   ·have hi:¬(a:Int)+257>286:=by omega
    have hi2:(b:Int)+1>30:=by omega
    clear q90
    go_wp2_with(refine qo rfl 124 _ _ rfl (w.heap.size+1) 124 (w.heap.size+1) 5 5 rfl zH rfl (by kernel_rfl) _ q9k.out (by simp[zH]) eM ?_;intro wz q8Y hgz;(have HGZ:=q7 hgz;have HRZ:Hid (Own wz (w.heap.size+1) 124 (.slice (some ⟨w.heap.size+1,0,none⟩) 5 5) zH.toList):=q7 q8Y;clear q8Y hgz))
    refine qR (s:=4) (b:=5) (ad:=⟨w.heap.size+1,0,none⟩) (x:=.agg zH) (y:=.int .i64 3) rfl rfl rfl rfl (jd (n:=5) HRZ.out _ Tryz.underlying124 rfl (by kernel_rfl)) ?_
    have hhz:H=aI.zero:=by rw[HHD.out,HDE.out];exact if_neg HNE.out
    rw[hhz,HDE.out];have hxz:=q9r.out.stay HGZ.out (fun e=>by injection e with e;omega)
    have hgz:=ji q9l.out HGZ.out (by omega)
    first|exact⟨_,_,rfl,Own.nil _ _ _,Own.nil _ _ _,p3,hxz,HP3.out,(fun h=>absurd h HNE.out),hgz⟩|exact⟨_,rfl,Own.nil _ _ _,_,Own.nil _ _ _,p3,hxz,HP3.out,(fun h=>absurd h HNE.out),hgz⟩
  ·have hla:257+a<=286:=by omega
   have hlb:1+b<=30:=by omega
   have hi:¬(a:Int)+257>286:=by omega
   have hi2:¬(b:Int)+1>30:=by omega
   have HDL:Hid (D=dynL (qH s) (8*s.size) a b (jO (qH s) (8*s.size) c 19 (List.replicate 19 0,(0,p3)))):=q7 (by rw[HDM.out];unfold dynM;rw[if_neg q90])
   clear HDM q90;have hmk:∀W:World,(Instr.makeSlice 66 (.int .i64 19) (.int .i64 19)).run Tryz.prog W=.ok (.slice (some ⟨W.heap.size,0,none⟩) 19 19) (W.alloc (.cells (madeCells #[Value.int .i64 0] 19) 3)):=rP (P:=Tryz.prog) 66 3 (.int .i64 0) 8 19 Tryz.underlying66 (by kernel_rfl) rfl (by decide) (by omega)
   have hom:=rD w3 w.heap.size 3 (.int .i64 0) 19 hs3 (by decide)
   have hzl:List.replicate 19 (Value.int .i64 0)=ints (nls (List.replicate 19 0)):=rfl;rw[hzl]at hom;clear hzl;obtain⟨Z,hZ⟩:∃Z,Z=List.replicate 19 0:=⟨_,rfl⟩;rw[<-hZ]at hom HDL;have HZ:Hid (Z.length=19):=q7 (by rw[hZ];rfl)
   have HOM:=q7 hom;have HB4:=q7 (qn w3 (.cells (madeCells #[Value.int .i64 0] 19) 3));clear hZ hom;generalize madeCells #[Value.int .i64 0] 19=MC at*;have q9h:=q7 (fun j=>gN (qH s) (8*s.size) c j (Z,(0,p3)))
   have HCL:=q7 (fun j=>nI (qH s) (8*s.size) c (Z,(0,p3)) j)
   have qfT:=q7 (fun j h d=>yY (qH s) (8*s.size) c (Z,(0,p3)) j h d)
   have qbO:=q7 (fun d=>uR (qH s) (8*s.size) c (Z,(0,p3)) d)
   have HK0:Hid (jO (qH s) (8*s.size) c 0 (Z,(0,p3))=(Z,(0,p3))):=q7 rfl;have HBS:Hid (∀(W:World) (p:Nat),aS W g s p->p<=8*s.size->Calls Tryz.prog 133 #[.pointer (some ⟨g,0,none⟩),.int .i64 3] W (aH aS s p 3 g W)):=q7 (fun W p hb hp=>HBT.out W p 3 (by omega) hb hp)
   clear HBT
   go_wp2_with(go_at_call 111;(with_reducible refine(q7D _).mono ?_);rintro e w5 ⟨vo,rfl,ho5,hb5⟩;(have HOX:=q7 ho5;have HOO:=q7 (ho5.mono (B':=w.heap.size) (qa hs3 HB4.out.size));have HB5:=q7 hb5;clear ho5 hb5))
   have hol:(ints (nls eZ)).length=19:=rfl;obtain⟨oo,co,go,hvo,hdo,-⟩:=HOO.out.cases;rw[hol]at hvo hdo;obtain rfl:=hdo.hat (by omega)
   subst hvo;have HO5:=q7 (HOM.out.up HB5.out);have HGO:Hid (∀j,j<19->(ints (nls eZ)).getD j undef=.int .i64 (eZ.getD j 0:Nat)):=q7 (fun j hj=>by have hl:j<eZ.length:=hj;simp[ints,nls,List.getD,hl])
   have HOL:=q7 hol;have qaN:=fun(W:World) (j:Nat) (hj:j<19)=>qQ (P:=Tryz.prog) 66 3 Tryz.underlying66 (by kernel_rfl) hdo W .i64 (j:Int) (by omega) (by omega)
   simp only[Nat.zero_add,Int.toNat_natCast]at qaN;have hdc:Hd w5 (some ⟨w3.heap.size,0,none⟩) 19 19 w3.heap.size 0:=⟨fun _=>rfl,q9 _,by decide,by decide,fun _=>qd (by simp) HB5.out.size⟩
   have qb7:=fun(W:World) (j:Nat) (hj:j<19)=>qQ (P:=Tryz.prog) 66 3 Tryz.underlying66 (by kernel_rfl) hdc W .i64 (j:Int) (by omega) (by omega)
   simp only[Nat.zero_add,Int.toNat_natCast]at qb7;have qaW:=q7 qaN;have qfG:=q7 qb7
   have qkw:Hid (go≠w3.heap.size):=q7 (by
    have h1:w3.heap.size<(w3.alloc (.cells MC 3)).heap.size:=by simp
    have h2:=(HOX.out.lt go rfl).1;omega)
   clear HOX;have HR5:=q7 ((q9k.out.up HB4.out).up HB5.out);have HH5:=q7 ((qdl.out.up HB4.out).up HB5.out);have HX5:=q7 ((q9r.out.up HB4.out).up HB5.out);have HG5:Hid (w.grownBy w5 (some g)):=q7 (qp (qp q9l.out (qv HB4.out _)) (qv HB5.out _));have qlP:w.heap.size+1<w3.heap.size:=(q9k.out.lt _ rfl).2;clear HOM HB4 HB5 hmk q9k qdl q9r q9l qaN qb7 hdc hdo hol;have qjo:w.heap.size<=w3.heap.size:=hs3;clear hs3;generalize w3.heap.size=gc at*
   go_loopg [14] 20 (fun gk i wr=>∃j pj L,j<=4+c/\i=.int .i64 (j:Nat)/\Hid (jO (qH s) (8*s.size) c j (Z,(0,p3))=(L,(0,pj)))/\Own wr w.heap.size 3 (.slice (some ⟨gc,0,none⟩) 19 19) (ints (nls L))/\Own wr w.heap.size 3 (.slice (some ⟨go,0,none⟩) 19 co) (ints (nls eZ))/\aS wr g s pj/\pj<=8*s.size/\w.grownBy wr (some g)/\Own wr (w.heap.size+1) 124 (.slice (some ⟨w.heap.size+1,0,none⟩) 5 5) zH.toList/\Own wr w.heap.size 124 (.slice (some ⟨w.heap.size,0,none⟩) 5 5) [Value.bool fin,.int .i64 (k:Nat),.int .i64 (0:Nat),.slice none 0 0,.slice none 0 0]/\gk=20-j)
   case atStart=>exact⟨0,p3,Z,qc _,rfl,HK0,HO5.out,HOO.out,HX5.out,HP3.out,HG5.out,HR5.out,HH5.out,rfl⟩
   case round=>
    clear HO5 HOO HX5 HG5 HR5 HH5 HK0;obtain⟨j,pj,L,hj,rfl,HK,ho,hoo,hx,hpj,hgr,hr,hh,hgk⟩:=hrel;have HO:=q7 ho;have HOO:=q7 hoo;have HX:=q7 hx;have HG:=q7 hgr;have HR:=q7 hr;have HH:=q7 hh;have hst:=q9h.out j;have hcl:=HCL.out j;rw[HK.out]at hst hcl;have HLL:Hid (L.length=19):=q7 (by rw[<-HZ.out];exact hcl)
    clear ho hoo hx hgr hr hh hcl q9h HCL HZ
    by_cases hlt:j<4+c
    ·have hji:(j:Int)<(c:Int)+4:=by omega
     have qeG:j<19:=by omega
     rw[if_pos ⟨hlt,rfl⟩,iI]at hst;have hy:=sL j;have HC:=q7 (HBS.out _ pj HX.out hpj);have HPJ:=q7 (bF (N:=qH s) (n:=3) hpj).1;have hGO:=HGO.out j qeG;have qlL:=fun W=>qaW.out W j qeG
     have qgL:=fun W=>qfG.out W (eZ.getD j 0) hy
     unfold aH at HC;clear HBS HGO qaW qfG;generalize jl (qH s) (8*s.size) pj 3=r at*;obtain⟨n,e4,p4⟩:=r;have HST:=q7 hst
     dsimp only at HST HPJ
     clear hst;generalize eZ.getD j 0=y at*
     by_cases h4:e4=0
     ·subst h4
      have HSL:Hid ((ints (nls L)).set y (.int .i64 (n:Nat))=ints (nls (L.set y n))):=q7 (by rw[mY,i7])
      go_wp2_with(go_at_call 133;(with_reducible refine HC.out.mono ?_);rintro e w6 ⟨rfl,hb1,hg1⟩;(have HX6:=q7 hb1;have HG6:=q7 (qp HG.out hg1);have HO6:=q7 (HO.out.keepN hg1 (fun e=>by injection e with e;omega));have qdY:=q7 (HOO.out.keepN hg1 (fun e=>by have:=(HOO.out.lt go rfl).1;injection e with e;omega));have HR6:=q7 (HR.out.keepN hg1 (fun e=>by injection e with e;omega));have HH6:=q7 (HH.out.keepN hg1 (fun e=>by injection e with e;omega));have hcj:=qdY.out.cell (i:=j) qeG;rw[hGO]at hcj;have qlR:=(qdY.out.lt go rfl).2;have qjx:=(HO6.out.lt gc rfl).2;have hf6:=HO6.out.free y;have hcy:=HO6.out.cell (i:=y) (by rw[cB,HLL.out];exact hy);have qa1:=q7 (HO6.out.store y (.int .i64 (n:Nat)));clear hb1 hg1))
      have hwg:=HG6.out.size;have qlQ:=(qdY.out.lt go rfl).1;have qj8:=qkw.out
      go_roundg (20-(j+1))
      case measure=>omega
      case rel=>
       have q9C:=qa1.out;rw[HSL.out]at q9C;have qdQ:∀(b':Nat),b'≠gc->some gc≠some b':=fun b' h e=>h (by injection e with e;exact e.symm)
       exact⟨j+1,p4,L.set y n,by omega,by go_num,HST,q9C.1,qdY.out.keepN q9C.2 (qdQ _ qj8),HX6.out.stay q9C.2 (qdQ _ (by omega)),HPJ.out,ji HG6.out q9C.2 qjo,HR6.out.keepN q9C.2 (qdQ _ (by omega)),HH6.out.keepN q9C.2 (qdQ _ (by omega)),rfl⟩
     ·have h4':((e4:Int) != 0)=true:=by simpa using h4
      have HDE:Hid (D.2.2.1=e4):=q7 (by
       have hk:=HST.out;have hf:=qfT.out (j+1) (by rw[hk];exact h4) (19-(j+1))
       rw[show j+1+(19-(j+1))=19 by omega,hk]at hf
       rw[HDL.out,hf];unfold dynL;rw[if_pos (by exact h4)])
      have HNE:=q7 h4;clear h4 HST HDL qfT qbO HRW HOO
      go_wp2_with(first|(go_at_call 133;(with_reducible refine HC.out.mono ?_);rintro e w6 ⟨rfl,hb1,hg1⟩;(have HX6:=q7 hb1;have HG6:=q7 (qp HG.out hg1);have HR6:=q7 (HR.out.keepN hg1 (fun e=>by injection e with e;omega));clear hb1 hg1))|(refine qo rfl 124 _ _ rfl (w.heap.size+1) 124 (w.heap.size+1) 5 5 rfl zH rfl (by kernel_rfl) _ HR6.out (by simp[zH]) eM ?_;intro wz q8Y hgz;(have HGZ:=q7 hgz;have HRZ:Hid (Own wz (w.heap.size+1) 124 (.slice (some ⟨w.heap.size+1,0,none⟩) 5 5) zH.toList):=q7 q8Y;clear q8Y hgz)))
      refine qR (s:=4) (b:=5) (ad:=⟨w.heap.size+1,0,none⟩) (x:=.agg zH) (y:=.int .i64 (e4:Nat)) rfl rfl rfl rfl (jd (n:=5) HRZ.out _ Tryz.underlying124 rfl (by kernel_rfl)) ?_
      have hhz:H=aI.zero:=by rw[HHD.out,HDE.out];exact if_neg HNE.out
      rw[hhz,HDE.out];have hxz:=HX6.out.stay HGZ.out (fun e=>by injection e with e;omega)
      have hgz:=ji HG6.out HGZ.out (by omega)
      exact⟨_,_,p4,rfl,Own.nil _ _ _,Own.nil _ _ _,hxz,HPJ.out,(fun h=>absurd h HNE.out),hgz⟩
    ·obtain rfl:j=4+c:=by omega
     have hji:¬((4+c:Nat):Int)<(c:Int)+4:=by omega
     have hjj:((4+c:Nat):Int)=4+(c:Int):=by omega
     have HDK:Hid (D=dynL (qH s) (8*s.size) a b (L,(0,pj))):=q7 (by
      have h:=qbO.out (15-c);rw[show 4+c+(15-c)=19 by omega,HK.out]at h
      rw[HDL.out,h])
     clear HDL qbO qfT HK hst HBS HGO qaW qfG HOO hlt;have HFC:=q7 (q0o (.slice (some ⟨gc,0,none⟩) 19 19) (nls L) false wr (show qT wr _ (nls L)from HO.out.sl))
     have HFE:=q7 (fun h=>kD (l:=nls L) false h)
     have hhd:=HDK.out;unfold dynL at hhd
     dsimp only at hhd
     have qcW:¬((0:Nat)≠0):=fun h=>h rfl
     rw[if_neg qcW]at hhd;have HD2:=q7 hhd;clear HDK hhd qcW;generalize hFF:bJ (nls L) false=F at*
     by_cases hF:F=0
     ·have hE:bE (nls L)=0:=by
       apply qf;intro hn
       have:=HFE.out hn;omega
      subst hF;have HD3:Hid (D=if(bM (qH s) (8*s.size) L (257+a+(1+b)) (257+a+(1+b)+1) [] (0,pj)).2.1≠0 then([],[],(bM (qH s) (8*s.size) L (257+a+(1+b)) (257+a+(1+b)+1) [] (0,pj)).2)else((bM (qH s) (8*s.size) L (257+a+(1+b)) (257+a+(1+b)+1) [] (0,pj)).1.take (257+a),(bM (qH s) (8*s.size) L (257+a+(1+b)) (257+a+(1+b)+1) [] (0,pj)).1.drop (257+a),cY ((bM (qH s) (8*s.size) L (257+a+(1+b)) (257+a+(1+b)+1) [] (0,pj)).1.take (257+a)) ((bM (qH s) (8*s.size) L (257+a+(1+b)) (257+a+(1+b)+1) [] (0,pj)).1.drop (257+a)),(bM (qH s) (8*s.size) L (257+a+(1+b)) (257+a+(1+b)+1) [] (0,pj)).2.2)):=q7 (by rw[HD2.out,if_neg (fun h=>h rfl)])
      clear HD2 HFE hFF;obtain⟨r,hr⟩:∃r,r=bM (qH s) (8*s.size) L (257+a+(1+b)) (257+a+(1+b)+1) [] (0,pj):=⟨_,rfl⟩;have HRL:Hid (r.2.1=0->r.1.length=257+a+(1+b)):=q7 (fun h=>by rw[hr]at h⊢;exact wA _ _ _ _ _ _ _ (qc _) (by simp) h)
      have hnn:((257+a:Nat):Int)+(b:Int)+1=((257+a+(1+b):Nat):Int):=by omega
      have qlC:(a:Int)+257=((257+a:Nat):Int):=by omega
      have q97:Hid (∀W,aS W g s pj->Own W w.heap.size 3 (.slice (some ⟨gc,0,none⟩) 19 19) (ints (nls L))->w.heap.size<=W.heap.size->Calls Tryz.prog 188 #[.pointer (some ⟨g,0,none⟩),.slice (some ⟨gc,0,none⟩) 19 19,.int .i64 ((257+a+(1+b):Nat):Int)] W (wD r s g W)):=q7 (fun W hb hv hB=>by rw[hr];exact q6j hb hv hgw hE (by rw[HLL.out];decide) (by omega) hs hpj)
      rw[<-hr]at HD3;unfold wD at q97;clear hr hE HRW;obtain⟨R,en6,p6⟩:=r
      dsimp only at HD3 HRL q97
      have hnr:257+a<=257+a+(1+b):=by omega
      have qjf:256<257+a:=by omega
      have hnb:257+a+(1+b)<=400:=by omega
      generalize 257+a+(1+b)=nr at*;generalize 257+a=la at*
      by_cases h6:en6=0
      ·subst h6
       have HD4:Hid (D=(R.take la,R.drop la,cY (R.take la) (R.drop la),p6)):=q7 (by rw[HD3.out];exact if_neg (fun h=>h rfl))
       have qbR:Hid (R.length=nr):=q7 (HRL.out rfl);clear HD3 HRL
       go_wp2_with(first|(go_at_call 147;(with_reducible refine HFC.out.mono ?_);rintro e w7 ⟨rfl,hb7⟩;(have HB7:=q7 hb7;have HR7:=q7 (HR.out.up hb7);have HH7:=q7 (HH.out.up hb7);have HX7:=q7 (HX.out.up hb7);have HO7:=q7 (HO.out.up hb7);have HG7:=q7 (qp HG.out (qv hb7 _));clear hb7))|(go_at_call 188;(with_reducible refine(q97.out w7 HX7.out HO7.out HG7.out.size).mono ?_);rintro e w8 ⟨v8,p8,rfl,ho8,hx8,hp8,hg8⟩;(have HV8:=q7 ho8;have HR8:=q7 (HR7.out.keepN hg8 (fun e=>by injection e with e;omega));have HH8:=q7 (HH7.out.keepN hg8 (fun e=>by injection e with e;omega));have HX8:=q7 hx8;have HP8:=q7 hp8;have HG8:=q7 (qp HG7.out hg8);have qiU:=HG7.out.size;clear ho8 hx8 hp8 hg8)))
       obtain⟨hv8,rfl⟩:=HV8.out (by trivial)
       have HW8:=q7 hv8;have hrl:=qbR.out;obtain⟨u1,hu1,qan⟩:=hv8.sl.low (P:=Tryz.prog) 66 3 Tryz.underlying66 (by kernel_rfl) la (by rw[cB];omega)
       rw[yW]at qan;have HL1:=q7 qan;have HN1:Hid ((ints (nls (R.take la))).length<=4294967296/\(ints (nls (R.drop la))).length<=4294967296):=q7 (by simp[ints,nls];omega)
       have HLT:Hid (256<(R.take la).length):=q7 (by rw[List.length_take];omega)
       have hs8:=HG8.out.size;have hz7:w.heap.size+1<w7.heap.size:=HR7.out.blk.2;have hz8:w.heap.size+1<w8.heap.size:=HR8.out.blk.2;have hc3:=HH8.out.cell (i:=3) (by simp)
       have hb8:=HH8.out.blk.2;clear hv8 qan hrl HV8 HR7 HH7 HX7 HO7 HG7 HB7 HFC q97 HR HH HX HO HG;refine qZ [0,1,2,3,4,5] [6,7] [8] (by kernel_rfl) (by kernel_rfl) ?_
       simp only[pk]
       repeat(go_big_quiet_step (fail))
       refine wpQuiet_nil ?_;have HB9:Hid (Below w8.heap.size w8 w8.drew):=q7 (qS (qj _ _));generalize w8.drew=w9 at*;unfold qy
       go_wp2_with(at_builtin;refine jt rfl (.tmp 100) (.tmp 104) 66 rfl w.heap.size 3 (.int .i64 0) 8 Tryz.underlying66 (by kernel_rfl) rfl (by decide) (.slice none 0 0) [] rfl (Own.nil _ _ _) u1 (ints (nls (R.take la))) rfl (HL1.out.up HB9.out) (cQ _) (by have:=HN1.out.1;simpa using this) (qa hs8 HB9.out.size) ?_;intro v1 w10 hown1 hg1 hk1;(have qa3:=q7 hown1;have q9i:Hid (Below w8.heap.size w8 w10):=q7 (HB9.out.grown hg1 HB9.out.size (fun k hk=>by cases hk));have HK1:=q7 hk1;clear hown1 hg1 hk1))
       refine⟨qt q9i.out,?_⟩
       (unfold qy;go_wp2;refine⟨qt q9i.out,?_⟩)
       unfold qy;rw[List.nil_append]at qa3;obtain⟨o1,c1',g1,hv1,-⟩:=qa3.out.cases;subst hv1;generalize (ints (nls (R.take la))).length=n1 at*;have qbS:=q7 (HR8.out.up q9i.out);have qal:=q7 (HH8.out.up q9i.out);have qcl:=q7 (HX8.out.up q9i.out);have qfS:Hid (w.grownBy w10 (some g)):=q7 (qp HG8.out (qv q9i.out _));have qfj:=q7 (HW8.out.up q9i.out)
       have qgY:∀q,(Value.slice o1 n1 c1').ownBlock=some q->w8.heap.size<=q:=fun q hq=>by
        rcases HK1.out q hq with h|h
        ·cases h
        ·exact qa HB9.out.size h
       have qfz:=q7 qgY;clear hc3 hb8 HR8 HH8 HX8 HG8 HL1 HB9 q9i HK1 HW8 qgY hu1;have qck:=qal.out.blk.2;have qjP:=qal.out.cell (i:=3) (by simp)
       have qjG:=qal.out.free 3;have hst:=qal.out.store 3 (.slice o1 n1 c1');have HST:=q7 hst;clear hst;have qlk:=qfS.out.size;unfold qy;go_wp2;refine⟨trivial,?_⟩;unfold qy;have qfv:=q7 (qbS.out.keepN HST.out.2 (fun e=>by injection e with e;omega))
       have qaz:=q7 HST.out.1;have qdT:=q7 (qcl.out.stay HST.out.2 (fun e=>by injection e with e;omega))
       have qbj:=q7 (ji qfS.out HST.out.2 (q9 _));have qak:=q7 (qa3.out.keep HST.out.2 (qM (fun q hq e=>by have:=qfz.out q hq;injection e with e;omega)))
       have qhu:=q7 (qfj.out.keep HST.out.2 (qM (fun q hq e=>by have:=(qfj.out.lt q hq).1;injection e with e;omega)))
       clear HST qbS qal qcl qfS qa3 qfj qck qjP qjG;generalize w10.setCell ⟨w.heap.size,3,none⟩ (.slice o1 n1 c1')=w11 at*;have hrl:=qbR.out;obtain⟨u2,hu2,q9v⟩:=qhu.out.sl.high (P:=Tryz.prog) 66 3 Tryz.underlying66 (by kernel_rfl) la (by rw[cB];omega)
       rw[yX]at q9v;have HL2:=q7 q9v;have qld:w.heap.size+1<w11.heap.size:=qfv.out.blk.2;have hc4:=qaz.out.cell (i:=4) (by simp)
       have qmp:=qaz.out.blk.2;have qdE:=qbj.out.size;clear q9v qhu hrl;go_wp2;refine qZ [0,1,2,3,4,5] [6,7] [8] (by kernel_rfl) (by kernel_rfl) ?_
       simp only[pk]
       repeat(go_big_quiet_step (fail))
       refine wpQuiet_nil ?_;have q99:Hid (Below w11.heap.size w11 w11.drew):=q7 (qS (qj _ _));generalize w11.drew=w12 at*;unfold qy
       go_wp2_with(at_builtin;refine jt rfl (.tmp 108) (.tmp 112) 66 rfl w.heap.size 3 (.int .i64 0) 8 Tryz.underlying66 (by kernel_rfl) rfl (by decide) (.slice none 0 0) [] rfl (Own.nil _ _ _) u2 (ints (nls (R.drop la))) rfl (HL2.out.up q99.out) (cQ _) (by have:=HN1.out.2;simpa using this) (qa qdE q99.out.size) ?_;intro v2 w13 hown1 hg1 hk1;(have qdX:=q7 hown1;have q9d:Hid (Below w11.heap.size w11 w13):=q7 (q99.out.grown hg1 q99.out.size (fun k hk=>by cases hk));have HK2:=q7 hk1;clear hown1 hg1 hk1))
       refine⟨qt q9d.out,?_⟩
       (unfold qy;go_wp2;refine⟨qt q9d.out,?_⟩)
       unfold qy;rw[List.nil_append]at qdX;obtain⟨o2,c2',g2,hv2,-⟩:=qdX.out.cases;subst hv2;generalize (ints (nls (R.drop la))).length=n2 at*;have qhG:=q7 (qfv.out.up q9d.out);have q9G:=q7 (qaz.out.up q9d.out);have qht:=q7 (qdT.out.up q9d.out);have q9n:=q7 (qak.out.up q9d.out);have qaY:Hid (w.grownBy w13 (some g)):=q7 (qp qbj.out (qv q9d.out _))
       have qgX:∀q,(Value.slice o2 n2 c2').ownBlock=some q->w11.heap.size<=q:=fun q hq=>by
        rcases HK2.out q hq with h|h
        ·cases h
        ·exact qa q99.out.size h
       have qhI:=q7 qgX;clear hc4 qfv qaz qdT qbj HL2 q99 q9d HK2 qgX hu2 qak;have qat:=q9G.out.blk.2;have qeY:=q9G.out.cell (i:=4) (by simp)
       have qeP:=q9G.out.free 4;have HST:=q7 (q9G.out.store 4 (.slice o2 n2 c2'));have qlj:=qaY.out.size;unfold qy;go_wp2;refine⟨trivial,?_⟩;unfold qy;have qhF:=q7 (qhG.out.keepN HST.out.2 (fun e=>by injection e with e;omega))
       have qaX:=q7 HST.out.1;have qhs:=q7 (qht.out.stay HST.out.2 (fun e=>by injection e with e;omega))
       have qc1:=q7 (ji qaY.out HST.out.2 (q9 _));have qcp:=q7 (q9n.out.keep HST.out.2 (qM (fun q hq e=>by have:=qfz.out q hq;injection e with e;omega)))
       have qco:=q7 (qdX.out.keep HST.out.2 (qM (fun q hq e=>by have:=qhI.out q hq;injection e with e;omega)))
       clear HST qhG q9G qht qaY q9n qdX qat qeY qeP;generalize w13.setCell ⟨w.heap.size,4,none⟩ (.slice o2 n2 c2')=w14 at*;have hc3:=qaX.out.cell (i:=3) (by simp)
       have hc4:=qaX.out.cell (i:=4) (by simp)
       have qjV:=qaX.out.blk.2;have HFT:=q7 (q0u _ _ _ _ w14 (show qT w14 _ _ from qcp.out.sl) (show qT w14 _ _ from qco.out.sl) HLT.out)
       have qfr:=q7 qc1.out.size;generalize cY (R.take la) (R.drop la)=fe at*;clear HLT HN1 qbR
       by_cases hfe:fe=0
       ·subst hfe
        have HDE:Hid (D=(R.take la,R.drop la,0,p8)):=HD4;have hhz:H=⟨fin,k,0,R.take la,R.drop la⟩:=by rw[HHD.out,HDE.out];rfl
        have HHZ:=q7 hhz;clear hhz
        go_wp2_with(first|(go_at_call 108;(with_reducible refine HFT.out.mono ?_);rintro e w15 ⟨rfl,qaQ⟩;(have qbq:=q7 qaQ;have qfu:=q7 (qhF.out.up qaQ);have qkM:=q7 (qaX.out.up qaQ);obtain⟨A,hA,hAs,hAl⟩:=qkM.out.whole;have hA1:∀u∈A.toList,u.oneCell'=true:=(by rw[hAl];exact fR fin k 0 o1 o2 n1 n2 c1' c2');have HAL:=q7 hAl;clear qaQ hAl))|(refine qI rfl 124 5 _ rfl w.heap.size rfl A hAs hA _ Tryz.underlying124 rfl (by kernel_rfl) ?_)|(refine qo rfl 124 _ _ rfl (w.heap.size+1) 124 (w.heap.size+1) 5 5 rfl A rfl (by rw[hAs];kernel_rfl) _ qfu.out (by rw[hAs];simp[zH]) hA1 ?_;intro wz q8Y hgz;(have HGZ:=q7 hgz;have HRZ:=q7 q8Y;clear q8Y hgz)))
        have hr9:=HRZ.out;rw[hAs,List.drop_of_length_le (by simp[zH]),List.append_nil]at hr9
        refine qR (s:=4) (b:=5) (ad:=⟨w.heap.size+1,0,none⟩) (x:=.agg A) (y:=.int .i64 0) rfl rfl rfl rfl (jd (n:=5) hr9 _ Tryz.underlying124 rfl (by kernel_rfl)) ?_
        have hAe:A=#[.bool fin,.int .i64 (k:Nat),.int .i64 (0:Nat),.slice o1 n1 c1',.slice o2 n2 c2']:=by
         rw[<-Array.toArray_toList (xs:=A),HAL.out];rfl
        rw[HHZ.out,HDE.out,hAe];have hxz:=(qhs.out.up qbq.out).stay HGZ.out (fun e=>by injection e with e;omega)
        have hgz:=ji (qp qc1.out (qv qbq.out _)) HGZ.out (by omega)
        have qli:=qfr.out;have hoz:=(qcp.out.up qbq.out).keep HGZ.out (qM (fun q hq e=>by have:=qfz.out q hq;injection e with e;omega))
        have hpz:=(qco.out.up qbq.out).keep HGZ.out (qM (fun q hq e=>by have:=qhI.out q hq;injection e with e;omega))
        first|exact⟨_,_,p8,rfl,hoz,hpz,hxz,HP8.out,fun _=>rfl,hgz⟩|exact⟨_,_,rfl,hoz,hpz,p8,hxz,HP8.out,fun _=>rfl,hgz⟩
       ·have qm7:((fe:Int) != 0)=true:=by simpa using hfe
        have HDE:Hid (D.2.2.1=fe):=q7 (by rw[HD4.out])
        have HNE:=q7 hfe;clear hfe HD4
        go_wp2_with(first|(go_at_call 108;(with_reducible refine HFT.out.mono ?_);rintro e w15 ⟨rfl,qaQ⟩;(have qfu:=q7 (qhF.out.up qaQ);have qkb:=q7 (qhs.out.up qaQ);have qkQ:=q7 (qp qc1.out (qv qaQ _));clear qaQ))|(refine qo rfl 124 _ _ rfl (w.heap.size+1) 124 (w.heap.size+1) 5 5 rfl zH rfl (by kernel_rfl) _ qfu.out (by simp[zH]) eM ?_;intro wz q8Y hgz;(have HGZ:=q7 hgz;have HRZ:Hid (Own wz (w.heap.size+1) 124 (.slice (some ⟨w.heap.size+1,0,none⟩) 5 5) zH.toList):=q7 q8Y;clear q8Y hgz)))
        refine qR (s:=4) (b:=5) (ad:=⟨w.heap.size+1,0,none⟩) (x:=.agg zH) (y:=.int .i64 (fe:Nat)) rfl rfl rfl rfl (jd (n:=5) HRZ.out _ Tryz.underlying124 rfl (by kernel_rfl)) ?_
        have hhz:H=aI.zero:=by rw[HHD.out,HDE.out];exact if_neg HNE.out
        rw[hhz,HDE.out];have hxz:=qkb.out.stay HGZ.out (fun e=>by injection e with e;omega)
        have hgz:=ji qkQ.out HGZ.out (by omega)
        exact⟨_,_,p8,rfl,Own.nil _ _ _,Own.nil _ _ _,hxz,HP8.out,(fun h=>absurd h HNE.out),hgz⟩
      ·have h6':((en6:Int) != 0)=true:=by simpa using h6
       have HDE:Hid (D.2.2.1=en6):=q7 (by rw[HD3.out,if_pos h6])
       have HNE:=q7 h6;clear h6 HD3 HRL
       go_wp2_with(first|(go_at_call 147;(with_reducible refine HFC.out.mono ?_);rintro e w7 ⟨rfl,hb7⟩;(have HB7:=q7 hb7;have HR7:=q7 (HR.out.up hb7);have HH7:=q7 (HH.out.up hb7);have HX7:=q7 (HX.out.up hb7);have HO7:=q7 (HO.out.up hb7);have HG7:=q7 (qp HG.out (qv hb7 _));clear hb7))|(go_at_call 188;(with_reducible refine(q97.out w7 HX7.out HO7.out HG7.out.size).mono ?_);rintro e w8 ⟨v8,p8,rfl,ho8,hx8,hp8,hg8⟩;(have HV8:=q7 ho8;have HR8:=q7 (HR7.out.keepN hg8 (fun e=>by injection e with e;omega));have HH8:=q7 (HH7.out.keepN hg8 (fun e=>by injection e with e;omega));have HX8:=q7 hx8;have HP8:=q7 hp8;have HG8:=q7 (qp HG7.out hg8);have qiU:=HG7.out.size;clear ho8 hx8 hp8 hg8))|(refine qo rfl 124 _ _ rfl (w.heap.size+1) 124 (w.heap.size+1) 5 5 rfl zH rfl (by kernel_rfl) _ HR8.out (by simp[zH]) eM ?_;intro wz q8Y hgz;(have HGZ:=q7 hgz;have HRZ:Hid (Own wz (w.heap.size+1) 124 (.slice (some ⟨w.heap.size+1,0,none⟩) 5 5) zH.toList):=q7 q8Y;clear q8Y hgz)))
       refine qR (s:=4) (b:=5) (ad:=⟨w.heap.size+1,0,none⟩) (x:=.agg zH) (y:=.int .i64 (en6:Nat)) rfl rfl rfl rfl (jd (n:=5) HRZ.out _ Tryz.underlying124 rfl (by kernel_rfl)) ?_
       have hhz:H=aI.zero:=by rw[HHD.out,HDE.out];exact if_neg HNE.out
       rw[hhz,HDE.out];have hxz:=HX8.out.stay HGZ.out (fun e=>by injection e with e;omega)
       have hgz:=ji HG8.out HGZ.out (by omega)
       exact⟨_,_,p8,rfl,Own.nil _ _ _,Own.nil _ _ _,hxz,HP8.out,(fun h=>absurd h HNE.out),hgz⟩
     ·have hF':((F:Int) != 0)=true:=by simpa using hF
      have HDE:Hid (D.2.2.1=F):=q7 (by rw[HD2.out,if_pos hF])
      have HNE:=q7 hF;clear hF HD2 HRW HFE hFF
      go_wp2_with(first|(go_at_call 147;(with_reducible refine HFC.out.mono ?_);rintro e w7 ⟨rfl,hb7⟩;(have HB7:=q7 hb7;have HR7:=q7 (HR.out.up hb7);have HH7:=q7 (HH.out.up hb7);have HX7:=q7 (HX.out.up hb7);have HO7:=q7 (HO.out.up hb7);have HG7:=q7 (qp HG.out (qv hb7 _));clear hb7))|(refine qo rfl 124 _ _ rfl (w.heap.size+1) 124 (w.heap.size+1) 5 5 rfl zH rfl (by kernel_rfl) _ HR7.out (by simp[zH]) eM ?_;intro wz q8Y hgz;(have HGZ:=q7 hgz;have HRZ:Hid (Own wz (w.heap.size+1) 124 (.slice (some ⟨w.heap.size+1,0,none⟩) 5 5) zH.toList):=q7 q8Y;clear q8Y hgz)))
      refine qR (s:=4) (b:=5) (ad:=⟨w.heap.size+1,0,none⟩) (x:=.agg zH) (y:=.int .i64 (F:Nat)) rfl rfl rfl rfl (jd (n:=5) HRZ.out _ Tryz.underlying124 rfl (by kernel_rfl)) ?_
      have hhz:H=aI.zero:=by rw[HHD.out,HDE.out];exact if_neg HNE.out
      rw[hhz,HDE.out];have hxz:=HX7.out.stay HGZ.out (fun e=>by injection e with e;omega)
      have hgz:=ji HG7.out HGZ.out (by omega)
      exact⟨_,_,pj,rfl,Own.nil _ _ _,Own.nil _ _ _,hxz,hpj,(fun h=>absurd h HNE.out),hgz⟩
theorem q6k{w:World}{g p:Nat}{s:ByteArray}(h:aS w g s p)(hs:s.size<=4294967296)(hp:p<=8*s.size):
  Calls Tryz.prog 132 #[.pointer (some ⟨g,0,none⟩)] w (wE (jk (qH s) (8*s.size) p).1 (jk (qH s) (8*s.size) p).2.1 (jk (qH s) (8*s.size) p).2.2 s g w):=by
 have HB:=q7 h;have hgw:=h.lt;have HBT:=q7 (fun(W:World) (p n:Nat) (hn:n<=32) (hb:aS W g s p) (hp:p<=8*s.size)=>U1 hb hs n hn hp)
 have qcm:=q7 (fun(W:World) (p k:Nat) (fin:Bool) (hb:aS W g s p) (hp:p<=8*s.size)=>q2B (k:=k) (fin:=fin) hb hs hp)
 have qcv:=q7 (fun(W:World) (p k:Nat) (fin:Bool) (hb:aS W g s p) (hp:p<=8*s.size)=>q0B (k:=k) (fin:=fin) hb hs hp)
 obtain⟨D,hD⟩:∃D,D=jk (qH s) (8*s.size) p:=⟨_,rfl⟩;rw[<-hD];obtain⟨r1,h1⟩:∃r1,r1=jl (qH s) (8*s.size) p 1:=⟨_,rfl⟩;obtain⟨a,e1,p1⟩:=r1;obtain⟨r2,h2⟩:∃r2,r2=jl (qH s) (8*s.size) p1 2:=⟨_,rfl⟩;obtain⟨k,e2,p2⟩:=r2;have HP1:Hid (p1<=8*s.size):=q7 (by have:=(bF (N:=qH s) (n:=1) hp).1;rw[<-h1]at this;exact this)
 have HP2:Hid (p2<=8*s.size):=q7 (by have:=(bF (N:=qH s) (n:=2) HP1.out).1;rw[<-h2]at this;exact this)
 have ha:a<2:=by have:=fS (N:=qH s) (T:=8*s.size) (p:=p) (n:=1);rw[<-h1]at this;exact this
 have hk:k<4:=by have:=fS (N:=qH s) (T:=8*s.size) (p:=p1) (n:=2);rw[<-h2]at this;exact this
 have HB1:Hid (∀W,aS W g s p->Calls Tryz.prog 133 #[.pointer (some ⟨g,0,none⟩),.int .i64 1] W fun e w'=>e=.returned (.tuple #[.int .i64 (a:Nat),.int .i64 (e1:Nat)])/\aS w' g s p1/\W.grownBy w' (some g)):=q7 (fun W h=>by
  have:=HBT.out W p 1 (by omega) h hp
  unfold aH at this;rw[<-h1]at this
  exact this)
 have HB2:Hid (∀W,aS W g s p1->Calls Tryz.prog 133 #[.pointer (some ⟨g,0,none⟩),.int .i64 2] W fun e w'=>e=.returned (.tuple #[.int .i64 (k:Nat),.int .i64 (e2:Nat)])/\aS w' g s p2/\W.grownBy w' (some g)):=q7 (fun W h=>by
  have:=HBT.out W p1 2 (by omega) h HP1.out
  unfold aH at this;rw[<-h2]at this
  exact this)
 have q9O:Hid (e1≠0\/e2≠0->D=(aI.zero,2,p)):=q7 (fun h=>by rw[hD];exact wG h1.symm h2.symm h)
 have qa6:Hid (e1=0->e2=0->D=dG (qH s) (8*s.size) p (decide (a=1)) k (0,p2)):=q7 (fun q1 q2=>by subst q1 q2;rw[hD];exact gO h1.symm h2.symm)
 have HR0:Hid (∀w1:World,w.alloc (.cells #[Value.bool false,.int .i64 0,.int .i64 0,.slice none 0 0,.slice none 0 0] 124)=w1->Own w1 w.heap.size 124 (.slice (some ⟨w.heap.size,0,none⟩) 5 5) zH.toList/\aS w1 g s p/\Below w.heap.size w w1):=q7 (fun w1 e=>by
  subst e;have h1:=qE w w.heap.size zH 124 (by simp[zH]) (q9 _)
  exact⟨by simpa[zH]using h1,HB.out.up (by repeat(first|exact qj _ _|assumption|refine qw ?_ _|refine qk ?_|refine qA ?_ _|refine qs ?_ _)),(by repeat(first|exact qj _ _|assumption|refine qw ?_ _|refine qk ?_|refine qA ?_ _|refine qs ?_ _))⟩)
 have hfe:((a:Int)==1)=decide (a=1):=by
  by_cases h:a=1
  ·subst h;rfl
  ·rw[decide_eq_false h];simp;omega
 clear hD h h1 h2 HBT;generalize decide (a=1)=fn at*;unfold wE
 go_enter Tryz.func132,Tryz.ntmps132
 go_upto_region 3 with(go_at_call 133;first|((obtain⟨hr0,hx0,q9f⟩:=HR0.out _ rfl);(with_reducible refine(HB1.out _ hx0).mono ?_);rintro e w1 ⟨rfl,hb1,hg1⟩;(have qb2:=q9f.size;have qaw:=q7 (hr0.keepN hg1 (fun e=>by injection e with e;omega));have qaB:=q7 (qp (qv q9f (some g)) hg1);have qbK:=q7 hb1;have HC2:=q7 (HB2.out w1 hb1);clear hr0 hx0 q9f hb1 hg1 HR0 HB1))|((with_reducible refine HC2.out.mono ?_);rintro e w3 ⟨rfl,hb1,hg1⟩;(have q9k:=q7 (qaw.out.keepN hg1 (fun e=>by injection e with e;omega));have q9l:=q7 (qp qaB.out hg1);have q9r:=q7 hb1;clear hb1 hg1 HC2)))
 clear qaw qaB qbK HB2;have hs3:=q9l.out.size
 by_cases he:e1≠0\/e2≠0
 ·have HDE:=q7 (q9O.out he)
  clear q9O qa6 qcm qcv
  by_cases q1:e1=0
  ·subst q1
   have q2:((e2:Int) != 0)=true:=by
    have:e2≠0:=by omega
    simpa using this
   clear he
   go_wp2_with(refine qo rfl 124 _ _ rfl w.heap.size 124 w.heap.size 5 5 rfl zH rfl (by kernel_rfl) _ q9k.out (by simp[zH]) (eM) ?_;intro wz q8Y hgz;(have HGZ:=q7 hgz;have HRZ:=q7 q8Y;clear q8Y hgz))
   have HRY:Hid (Own wz w.heap.size 124 (.slice (some ⟨w.heap.size,0,none⟩) 5 5) zH.toList):=HRZ;refine qR (s:=2) (b:=3) (ad:=⟨w.heap.size,0,none⟩) (x:=.agg zH) (y:=.int .i64 2) rfl rfl rfl rfl (jd (n:=5) HRY.out _ Tryz.underlying124 rfl (by kernel_rfl)) ?_
   rw[HDE.out];have hxz:=q9r.out.stay HGZ.out (fun e=>by injection e with e;omega)
   have hgz:=ji q9l.out HGZ.out (q9 _)
   first|exact⟨_,_,p2,rfl,Own.nil _ _ _,Own.nil _ _ _,hxz,HP2.out,(fun h=>by cases h),hgz⟩|exact⟨_,_,rfl,Own.nil _ _ _,Own.nil _ _ _,p2,hxz,HP2.out,(fun h=>by cases h),hgz⟩
  ·have q1':((e1:Int) != 0)=true:=by simpa using q1
   clear he q1
   go_wp2_with(refine qo rfl 124 _ _ rfl w.heap.size 124 w.heap.size 5 5 rfl zH rfl (by kernel_rfl) _ q9k.out (by simp[zH]) (eM) ?_;intro wz q8Y hgz;(have HGZ:=q7 hgz;have HRZ:=q7 q8Y;clear q8Y hgz))
   have HRY:Hid (Own wz w.heap.size 124 (.slice (some ⟨w.heap.size,0,none⟩) 5 5) zH.toList):=HRZ;refine qR (s:=2) (b:=3) (ad:=⟨w.heap.size,0,none⟩) (x:=.agg zH) (y:=.int .i64 2) rfl rfl rfl rfl (jd (n:=5) HRY.out _ Tryz.underlying124 rfl (by kernel_rfl)) ?_
   rw[HDE.out];have hxz:=q9r.out.stay HGZ.out (fun e=>by injection e with e;omega)
   have hgz:=ji q9l.out HGZ.out (q9 _)
   first|exact⟨_,_,p2,rfl,Own.nil _ _ _,Own.nil _ _ _,hxz,HP2.out,(fun h=>by cases h),hgz⟩|exact⟨_,_,rfl,Own.nil _ _ _,Own.nil _ _ _,p2,hxz,HP2.out,(fun h=>by cases h),hgz⟩
 ·obtain⟨q1,q2⟩:e1=0/\e2=0:=by omega
  subst q1 q2;have HDM:=q7 (qa6.out rfl rfl);clear q9O qa6 he;have hz3:=q9k.out.blk.2
  have HA4:Hid (∀w1:World,w3.alloc (.cells #[Value.bool fn,.int .i64 (k:Nat),.int .i64 0,.slice none 0 0,.slice none 0 0] 124)=w1->Own w1 w3.heap.size 124 (.slice (some ⟨w3.heap.size,0,none⟩) 5 5) [Value.bool fn,.int .i64 (k:Nat),.int .i64 (0:Nat),.slice none 0 0,.slice none 0 0]/\aS w1 g s p2/\Own w1 w.heap.size 124 (.slice (some ⟨w.heap.size,0,none⟩) 5 5) zH.toList/\w.grownBy w1 (some g)):=q7 (fun w1 e=>by
   subst e;have h1:=qE w3 w3.heap.size #[Value.bool fn,.int .i64 (k:Nat),.int .i64 0,.slice none 0 0,.slice none 0 0] 124 (by simp) (q9 _)
   exact⟨by simpa using h1,q9r.out.up (qn _ _),q9k.out.up (qn _ _),qp q9l.out (qv (qn _ _) _)⟩)
  have hd:=HDM.out;unfold dG at hd;rw[if_neg (fun h=>h rfl)]at hd
  clear HDM
  by_cases hk0:k=0
  ·subst hk0
   rw[if_pos rfl]at hd;have HST:Hid (∀W,aS W g s p2->Calls Tryz.prog 162 #[.pointer (some ⟨g,0,none⟩),.agg #[.bool fn,.int .i64 0,.int .i64 0,.slice none 0 0,.slice none 0 0]] W (wE (if(je (qH s) (8*s.size) (0,p2)).2.1=0 then⟨fn,0,(je (qH s) (8*s.size) (0,p2)).1,[],[]⟩else aI.zero) (je (qH s) (8*s.size) (0,p2)).2.1 (je (qH s) (8*s.size) (0,p2)).2.2 s g W)):=q7 (fun W hb=>qcm.out W p2 0 fn hb HP2.out)
   generalize je (qH s) (8*s.size) (0,p2)=sn at*;obtain⟨sz,er,pf⟩:=sn
   dsimp only at hd HST
   obtain⟨H',hH'⟩:∃H',H'=if er=0 then(⟨fn,0,sz,[],[]⟩:aI)else aI.zero:=⟨_,rfl⟩
   rw[<-hH']at HST
   have HE1:Hid (D.1=H'):=q7 (by
    rw[hd,hH']
    by_cases h:er=0
    ·rw[if_neg (fun z=>z h),if_pos h]
    ·rw[if_pos h,if_neg h])
   have HE2:Hid (D.2.1=er):=q7 (by
    rw[hd]
    by_cases h:er=0
    ·rw[if_neg (fun z=>z h),h]
    ·rw[if_pos h])
   have HE3:Hid (er=0->D.2.2=pf):=q7 (fun h=>by rw[hd,if_neg (fun z=>z h)])
   clear hd hH' qcm qcv
   go_wp2_with(first|(go_at_call 162;(obtain⟨hh0,hx0,hr0,hg0⟩:=HA4.out _ rfl);(refine(HST.out _ hx0).mono ?_);rintro e w5 ⟨v1,v2,p5,rfl,ho1,ho2,hx5,hp5,hpe,hg5⟩;(have hl4:=hr0.blk.2;have HR5:=q7 (hr0.keepN hg5 (fun e=>by injection e with e;omega));have HG5:=q7 (qp hg0 hg5);have HX5:=q7 hx5;have HP5:=q7 hp5;have HPE:=q7 hpe;have HO1:=q7 ho1;have HO2:=q7 ho2;obtain⟨o1,c1,g1,hv1,-⟩:=ho1.cases;obtain⟨o2,c2,g2,hv2,-⟩:=ho2.cases;subst hv1 hv2;generalize (ints (nls H'.lits)).length=n1 at*;generalize (ints (nls H'.dists)).length=n2 at*;clear hh0 hx0 hr0 hg0 ho1 ho2 hx5 hp5 hpe hg5))|(refine qo rfl 124 _ _ rfl w.heap.size 124 w.heap.size 5 5 rfl #[.bool H'.fin,.int .i64 (H'.kind:Nat),.int .i64 (H'.size:Nat),.slice o1 n1 c1,.slice o2 n2 c2] rfl (by kernel_rfl) _ HR5.out (by simp[zH]) (fR _ _ _ _ _ _ _ _ _) ?_;intro wz q8Y hgz;(have HGZ:=q7 hgz;have HRZ:=q7 q8Y;clear q8Y hgz)))
   have hrz:=HRZ.out;rw[List.drop_of_length_le (by simp[zH]),List.append_nil]at hrz
   refine qR (s:=2) (b:=3) (ad:=⟨w.heap.size,0,none⟩) (x:=.agg #[.bool H'.fin,.int .i64 (H'.kind:Nat),.int .i64 (H'.size:Nat),.slice o1 n1 c1,.slice o2 n2 c2]) (y:=.int .i64 (er:Nat)) rfl rfl rfl rfl (jd (n:=5) hrz _ Tryz.underlying124 rfl (by kernel_rfl)) ?_
   rw[HE1.out,HE2.out];have hxz:=HX5.out.stay HGZ.out (fun e=>by injection e with e;omega)
   have hgz:=ji HG5.out HGZ.out (q9 _);have hoz:=(HO1.out.keep HGZ.out (qM (fun q hq e=>by have:=(HO1.out.lt q hq).1;injection e with e;omega))).mono (B':=w.heap.size) (by omega)
   have hpz:=(HO2.out.keep HGZ.out (qM (fun q hq e=>by have:=(HO2.out.lt q hq).1;injection e with e;omega))).mono (B':=w.heap.size) (by omega)
   first|exact⟨_,_,p5,rfl,hoz,hpz,hxz,HP5.out,fun h=>(HPE.out h).trans (HE3.out h).symm,hgz⟩|exact⟨_,_,rfl,hoz,hpz,p5,hxz,HP5.out,fun h=>(HPE.out h).trans (HE3.out h).symm,hgz⟩
  ·rw[if_neg hk0]at hd
   have hki:((k:Int)==0)=false:=by simpa using hk0
   by_cases hk1:k=1
   ·subst hk1
    rw[if_pos rfl]at hd;have HD2:=q7 hd;clear hd qcm qcv;have HFL:=q7 (fun W=>q6f W)
    have HFD:=q7 (fun W=>q6g W)
    unfold uQ at HFL HFD;generalize lM=L1 at*;generalize oH=L2 at*
    go_wp2_with(first|(go_at_call 64;(obtain⟨hh0,hx0,hr0,hg0⟩:=HA4.out _ rfl);(with_reducible refine(HFL.out _).mono ?_);rintro e w5 ⟨v1,rfl,ho1,hb5⟩;(have HO1:=q7 (ho1.mono (B':=w3.heap.size+1) (by simp));have HH5:=q7 (hh0.up hb5);have HR5:=q7 (hr0.up hb5);have HX5:=q7 (hx0.up hb5);have HG5:=q7 (qp hg0 (qv hb5 _));obtain⟨o1,c1,g1,hv1,-⟩:=ho1.cases;subst hv1;generalize (ints (nls L1)).length=n1 at*;have hl5:=HH5.out.blk.2;have hf5:=HH5.out.free 3;have hc5:=HH5.out.cell (i:=3) (by simp);have HS5:=q7 (HH5.out.store 3 (.slice o1 n1 c1));clear hh0 hx0 hr0 hg0 ho1 hb5))|(go_at_call 65;(with_reducible refine(HFD.out _).mono ?_);rintro e w6 ⟨v2,rfl,ho2,hb6⟩;(have hl6:=HS5.out.1.blk.2;have HO2:=q7 (ho2.mono (B':=w3.heap.size+1) (by omega));have q9R:=q7 ((HO1.out.keep HS5.out.2 (qM (fun q hq e=>by have:=(HO1.out.lt q hq).1;injection e with e;omega))).up hb6);have HH6:=q7 (HS5.out.1.up hb6);have HR6:=q7 ((HR5.out.keepN HS5.out.2 (fun e=>by injection e with e;omega)).up hb6);have HX6:=q7 ((HX5.out.stay HS5.out.2 (fun e=>by injection e with e;omega)).up hb6);have HG6:=q7 (qp (ji HG5.out HS5.out.2 hs3) (qv hb6 _));obtain⟨o2,c2,g2,hv2,-⟩:=ho2.cases;subst hv2;generalize (ints (nls L2)).length=n2 at*;have hl7:=HH6.out.blk.2;have hf6:=HH6.out.free 4;have hc6:=HH6.out.cell (i:=4) (by simp);have HS6:=q7 (HH6.out.store 4 (.slice o2 n2 c2));obtain⟨A,hA,hAs,hAl⟩:=HS6.out.1.whole;have hA1:∀u∈A.toList,u.oneCell'=true:=(by rw[hAl];exact fR fn 1 0 o1 o2 n1 n2 c1 c2);have HAL:=q7 hAl;have HR7:=q7 (HR6.out.keepN HS6.out.2 (fun e=>by injection e with e;omega));clear ho2 hb6 hAl))|(refine qI rfl 124 5 _ rfl w3.heap.size rfl A hAs hA _ Tryz.underlying124 rfl (by kernel_rfl) ?_)|(refine qo rfl 124 _ _ rfl w.heap.size 124 w.heap.size 5 5 rfl A rfl (by rw[hAs];kernel_rfl) _ HR7.out (by rw[hAs];simp[zH]) hA1 ?_;intro wz q8Y hgz;(have HGZ:=q7 hgz;have HRZ:=q7 q8Y;clear q8Y hgz)))
    have hr9:=HRZ.out;rw[hAs,List.drop_of_length_le (by simp[zH]),List.append_nil]at hr9
    refine qR (s:=2) (b:=3) (ad:=⟨w.heap.size,0,none⟩) (x:=.agg A) (y:=.int .i64 0) rfl rfl rfl rfl (jd (n:=5) hr9 _ Tryz.underlying124 rfl (by kernel_rfl)) ?_
    have hAe:A=#[.bool fn,.int .i64 (1:Nat),.int .i64 (0:Nat),.slice o1 n1 c1,.slice o2 n2 c2]:=by
     rw[<-Array.toArray_toList (xs:=A),HAL.out];rfl
    rw[HD2.out,hAe];have hxz:=(HX6.out.stay HS6.out.2 (fun e=>by injection e with e;omega)).stay HGZ.out (fun e=>by injection e with e;omega)
    have hgz:=ji (ji HG6.out HS6.out.2 hs3) HGZ.out (q9 _);have hoz:=((q9R.out.keep HS6.out.2 (qM (fun q hq e=>by have:=(q9R.out.lt q hq).1;injection e with e;omega))).keep HGZ.out (qM (fun q hq e=>by have:=(q9R.out.lt q hq).1;injection e with e;omega))).mono (B':=w.heap.size) (by omega)
    have hpz:=((HO2.out.keep HS6.out.2 (qM (fun q hq e=>by have:=(HO2.out.lt q hq).1;injection e with e;omega))).keep HGZ.out (qM (fun q hq e=>by have:=(HO2.out.lt q hq).1;injection e with e;omega))).mono (B':=w.heap.size) (by omega)
    first|exact⟨_,_,p2,rfl,hoz,hpz,hxz,HP2.out,fun _=>rfl,hgz⟩|exact⟨_,_,rfl,hoz,hpz,p2,hxz,HP2.out,fun _=>rfl,hgz⟩
   ·rw[if_neg hk1]at hd
    have qjh:((k:Int)==1)=false:=by simp;omega
    by_cases hk2:k=2
    ·subst hk2
     rw[if_pos rfl]at hd;have HST:Hid (∀W,aS W g s p2->Calls Tryz.prog 163 #[.pointer (some ⟨g,0,none⟩),.agg #[.bool fn,.int .i64 2,.int .i64 0,.slice none 0 0,.slice none 0 0]] W (wE (if(dynN (qH s) (8*s.size) (0,p2)).2.2.1=0 then⟨fn,2,0,(dynN (qH s) (8*s.size) (0,p2)).1,(dynN (qH s) (8*s.size) (0,p2)).2.1⟩else aI.zero) (dynN (qH s) (8*s.size) (0,p2)).2.2.1 (dynN (qH s) (8*s.size) (0,p2)).2.2.2 s g W)):=q7 (fun W hb=>qcv.out W p2 2 fn hb HP2.out)
     generalize dynN (qH s) (8*s.size) (0,p2)=sn at*;obtain⟨l1,l2,er,pf⟩:=sn
     dsimp only at hd HST
     obtain⟨H',hH'⟩:∃H',H'=if er=0 then(⟨fn,2,0,l1,l2⟩:aI)else aI.zero:=⟨_,rfl⟩
     rw[<-hH']at HST
     have HE1:Hid (D.1=H'):=q7 (by
      rw[hd,hH']
      by_cases h:er=0
      ·rw[if_neg (fun z=>z h),if_pos h]
      ·rw[if_pos h,if_neg h])
     have HE2:Hid (D.2.1=er):=q7 (by
      rw[hd]
      by_cases h:er=0
      ·rw[if_neg (fun z=>z h),h]
      ·rw[if_pos h])
     have HE3:Hid (er=0->D.2.2=pf):=q7 (fun h=>by rw[hd,if_neg (fun z=>z h)])
     clear hd hH' qcm qcv
     go_wp2_with(first|(go_at_call 163;(obtain⟨hh0,hx0,hr0,hg0⟩:=HA4.out _ rfl);(refine(HST.out _ hx0).mono ?_);rintro e w5 ⟨v1,v2,p5,rfl,ho1,ho2,hx5,hp5,hpe,hg5⟩;(have hl4:=hr0.blk.2;have HR5:=q7 (hr0.keepN hg5 (fun e=>by injection e with e;omega));have HG5:=q7 (qp hg0 hg5);have HX5:=q7 hx5;have HP5:=q7 hp5;have HPE:=q7 hpe;have HO1:=q7 ho1;have HO2:=q7 ho2;obtain⟨o1,c1,g1,hv1,-⟩:=ho1.cases;obtain⟨o2,c2,g2,hv2,-⟩:=ho2.cases;subst hv1 hv2;generalize (ints (nls H'.lits)).length=n1 at*;generalize (ints (nls H'.dists)).length=n2 at*;clear hh0 hx0 hr0 hg0 ho1 ho2 hx5 hp5 hpe hg5))|(refine qo rfl 124 _ _ rfl w.heap.size 124 w.heap.size 5 5 rfl #[.bool H'.fin,.int .i64 (H'.kind:Nat),.int .i64 (H'.size:Nat),.slice o1 n1 c1,.slice o2 n2 c2] rfl (by kernel_rfl) _ HR5.out (by simp[zH]) (fR _ _ _ _ _ _ _ _ _) ?_;intro wz q8Y hgz;(have HGZ:=q7 hgz;have HRZ:=q7 q8Y;clear q8Y hgz)))
     have hrz:=HRZ.out;rw[List.drop_of_length_le (by simp[zH]),List.append_nil]at hrz
     refine qR (s:=2) (b:=3) (ad:=⟨w.heap.size,0,none⟩) (x:=.agg #[.bool H'.fin,.int .i64 (H'.kind:Nat),.int .i64 (H'.size:Nat),.slice o1 n1 c1,.slice o2 n2 c2]) (y:=.int .i64 (er:Nat)) rfl rfl rfl rfl (jd (n:=5) hrz _ Tryz.underlying124 rfl (by kernel_rfl)) ?_
     rw[HE1.out,HE2.out];have hxz:=HX5.out.stay HGZ.out (fun e=>by injection e with e;omega)
     have hgz:=ji HG5.out HGZ.out (q9 _);have hoz:=(HO1.out.keep HGZ.out (qM (fun q hq e=>by have:=(HO1.out.lt q hq).1;injection e with e;omega))).mono (B':=w.heap.size) (by omega)
     have hpz:=(HO2.out.keep HGZ.out (qM (fun q hq e=>by have:=(HO2.out.lt q hq).1;injection e with e;omega))).mono (B':=w.heap.size) (by omega)
     first|exact⟨_,_,p5,rfl,hoz,hpz,hxz,HP5.out,fun h=>(HPE.out h).trans (HE3.out h).symm,hgz⟩|exact⟨_,_,rfl,hoz,hpz,p5,hxz,HP5.out,fun h=>(HPE.out h).trans (HE3.out h).symm,hgz⟩
    ·rw[if_neg hk2]at hd
     have qjg:((k:Int)==2)=false:=by simp;omega
     have HDE:=q7 hd;clear hd qcm qcv;obtain⟨hh0,hx0,hr0,hg0⟩:=HA4.out _ rfl;have HR5:=q7 hr0;have HX5:=q7 hx0;have HG5:=q7 hg0;clear hh0 hx0 hr0 hg0
     go_wp2_with(refine qo rfl 124 _ _ rfl w.heap.size 124 w.heap.size 5 5 rfl zH rfl (by kernel_rfl) _ HR5.out (by simp[zH]) eM ?_;intro wz q8Y hgz;(have HGZ:=q7 hgz;have HRZ:=q7 q8Y;clear q8Y hgz))
     have HRY:Hid (Own wz w.heap.size 124 (.slice (some ⟨w.heap.size,0,none⟩) 5 5) zH.toList):=HRZ;refine qR (s:=2) (b:=3) (ad:=⟨w.heap.size,0,none⟩) (x:=.agg zH) (y:=.int .i64 11) rfl rfl rfl rfl (jd (n:=5) HRY.out _ Tryz.underlying124 rfl (by kernel_rfl)) ?_
     rw[HDE.out];have hxz:=HX5.out.stay HGZ.out (fun e=>by injection e with e;omega)
     have hgz:=ji HG5.out HGZ.out (q9 _)
     first|exact⟨_,_,p2,rfl,Own.nil _ _ _,Own.nil _ _ _,hxz,HP2.out,(fun h=>by cases h),hgz⟩|exact⟨_,_,rfl,Own.nil _ _ _,Own.nil _ _ _,p2,hxz,HP2.out,(fun h=>by cases h),hgz⟩
theorem q0C{N T p k:Nat}{fin:Bool}{st:Nat×Nat}(h:(dG N T p fin k st).2.1≠0):(dG N T p fin k st).2.2=p:=by
 unfold dG at h⊢
 by_cases h1:st.1≠0
 ·rw[if_pos h1]
 ·rw[if_neg h1]at h⊢
  by_cases h2:k=0
  ·rw[if_pos h2]at h⊢
   by_cases h3:(je N T st).2.1≠0
   ·rw[if_pos h3]
   ·rw[if_neg h3]at h;exact absurd rfl h
  ·rw[if_neg h2]at h⊢
   by_cases h3:k=1
   ·rw[if_pos h3]at h;exact absurd rfl h
   ·rw[if_neg h3]at h⊢
    by_cases h4:k=2
    ·rw[if_pos h4]at h⊢
     by_cases h5:(dynN N T st).2.2.1≠0
     ·rw[if_pos h5]
     ·rw[if_neg h5]at h;exact absurd rfl h
    ·rw[if_neg h4]
theorem yZ{N T p:Nat}(h:(jk N T p).2.1≠0):(jk N T p).2.2=p:=q0C h
theorem q6l{w:World}{g p:Nat}{s:ByteArray}(h:aS w g s p)(hs:s.size<=4294967296)(hp:p<=8*s.size):
  Calls Tryz.prog 87 #[.pointer (some ⟨g,0,none⟩)] w (oQ aS s p g w):=by
 have HB:=q7 h;have hgw:=h.lt;have HHD:=q7 (fun(W:World) (hb:aS W g s p)=>q6k hb hs hp)
 unfold oQ;have HER:=q7 (yZ (N:=qH s) (T:=8*s.size) (p:=p));generalize jk (qH s) (8*s.size) p=D at*;obtain⟨H',er,pf⟩:=D;unfold wE at HHD
 dsimp only at HHD HER⊢
 have HR0:Hid (∀w1:World,w.alloc (.cells #[Value.bool false,.int .i64 0,.int .i64 0,.slice none 0 0,.slice none 0 0] 124)=w1->Own w1 w.heap.size 124 (.slice (some ⟨w.heap.size,0,none⟩) 5 5) zH.toList/\aS w1 g s p/\Below w.heap.size w w1):=q7 (fun w1 e=>by
  subst e;have h1:=qE w w.heap.size zH 124 (by simp[zH]) (q9 _)
  exact⟨by simpa[zH]using h1,HB.out.up (by repeat(first|exact qj _ _|assumption|refine qw ?_ _|refine qk ?_|refine qA ?_ _|refine qs ?_ _)),(by repeat(first|exact qj _ _|assumption|refine qw ?_ _|refine qk ?_|refine qA ?_ _|refine qs ?_ _))⟩)
 have c1:=h.c1;clear h
 go_enter Tryz.func87,Tryz.ntmps87
 go_upto_region 3 with(go_at_call 132;(obtain⟨hr0,hx0,q9f⟩:=HR0.out _ rfl);(refine(HHD.out _ hx0).mono ?_);rintro e w5 ⟨v1,v2,p5,rfl,ho1,ho2,hx5,hp5,hpe,hg5⟩;(have hl4:=hr0.blk.2;have HR5:=q7 (hr0.keepN hg5 (fun e=>by injection e with e;omega));have HG5:=q7 (qp (qv q9f (some g)) hg5);have HX5:=q7 hx5;have HPE:=q7 hpe;have HO1:=q7 ho1;have HO2:=q7 ho2;obtain⟨o1,c1',g1,hv1,-⟩:=ho1.cases;obtain⟨o2,c2',g2,hv2,-⟩:=ho2.cases;subst hv1 hv2;generalize (ints (nls H'.lits)).length=n1 at*;generalize (ints (nls H'.dists)).length=n2 at*;have hs5:=hg5.size;have hs6:=HG5.out.size;clear hr0 hx0 q9f ho1 ho2 hx5 hp5 hpe hg5 HHD HR0))
 have hz5:=HR5.out.blk.2
 have HA6:Hid (∀w1:World,w5.alloc (.cells #[Value.bool H'.fin,.int .i64 (H'.kind:Nat),.int .i64 (H'.size:Nat),.slice o1 n1 c1',.slice o2 n2 c2'] 124)=w1->Own w1 w5.heap.size 124 (.slice (some ⟨w5.heap.size,0,none⟩) 5 5) [Value.bool H'.fin,.int .i64 (H'.kind:Nat),.int .i64 (H'.size:Nat),.slice o1 n1 c1',.slice o2 n2 c2']/\aS w1 g s p5/\Own w1 w.heap.size 124 (.slice (some ⟨w.heap.size,0,none⟩) 5 5) zH.toList/\w.grownBy w1 (some g)/\Below w5.heap.size w5 w1):=q7 (fun w1 e=>by
  subst e;have h1:=qE w5 w5.heap.size #[Value.bool H'.fin,.int .i64 (H'.kind:Nat),.int .i64 (H'.size:Nat),.slice o1 n1 c1',.slice o2 n2 c2'] 124 (by simp) (q9 _)
  exact⟨by simpa using h1,HX5.out.up (qn _ _),HR5.out.up (qn _ _),qp HG5.out (qv (qn _ _) _),qn _ _⟩)
 obtain⟨hh6,hx6,hr6,hg6,hb6⟩:=HA6.out _ rfl;have q9R:=q7 (HO1.out.up hb6);have qaV:=q7 (HO2.out.up hb6);clear HA6 HO1 HO2 hb6 HR5 HX5 HG5;have qlo:=hh6.blk;generalize w5.alloc (.cells #[Value.bool H'.fin,.int .i64 (H'.kind:Nat),.int .i64 (H'.size:Nat),.slice o1 n1 c1',.slice o2 n2 c2'] 124)=w6 at*;generalize w5.heap.size=b at*
 by_cases he:er=0
 ·subst he
  have HPF:=HPE.out rfl;subst HPF;obtain⟨A,hA,hAs,hAl⟩:=hh6.whole;have hA1:∀u∈A.toList,u.oneCell'=true:=by rw[hAl];exact fR _ _ _ _ _ _ _ _ _
  have HAL:=q7 hAl;have HR6:=q7 hr6;have HX6:=q7 hx6;have HG6:=q7 hg6;clear hh6 hx6 hr6 hg6 hAl
  go_wp2_with(first|(refine qI rfl 124 5 _ rfl b rfl A hAs hA _ Tryz.underlying124 rfl (by kernel_rfl) ?_)|(refine qo rfl 124 _ _ rfl w.heap.size 124 w.heap.size 5 5 rfl A rfl (by rw[hAs];kernel_rfl) _ HR6.out (by rw[hAs];simp[zH]) hA1 ?_;intro wz q8Y hgz;(have HGZ:=q7 hgz;have HRZ:=q7 q8Y;clear q8Y hgz)))
  have hr9:=HRZ.out;rw[hAs,List.drop_of_length_le (by simp[zH]),List.append_nil]at hr9
  refine qR (s:=2) (b:=3) (ad:=⟨w.heap.size,0,none⟩) (x:=.agg A) (y:=.int .i64 0) rfl rfl rfl rfl (jd (n:=5) hr9 _ Tryz.underlying124 rfl (by kernel_rfl)) ?_
  have hAe:A=#[.bool H'.fin,.int .i64 (H'.kind:Nat),.int .i64 (H'.size:Nat),.slice o1 n1 c1',.slice o2 n2 c2']:=by
   rw[<-Array.toArray_toList (xs:=A),HAL.out]
  rw[hAe];have hxz:=HX6.out.stay HGZ.out (fun e=>by injection e with e;omega)
  have hgz:=ji HG6.out HGZ.out (q9 _);have hoz:=(q9R.out.keep HGZ.out (qM (fun q hq e=>by have:=(q9R.out.lt q hq).1;injection e with e;omega))).mono (B':=w.heap.size) (by omega)
  have hpz:=(qaV.out.keep HGZ.out (qM (fun q hq e=>by have:=(qaV.out.lt q hq).1;injection e with e;omega))).mono (B':=w.heap.size) (by omega)
  exact⟨_,_,rfl,hoz,hpz,hxz,hgz⟩
 ·have he':((er:Int) != 0)=true:=by simpa using he
  have hpf:pf=p:=HER.out he;subst hpf;have qlZ:=hx6.c1;have hl6:=hx6.lt;have hf6:=hx6.free 1;have hst:=hx6.set1 pf;have HST:=q7 hst;have HH7:=q7 (hh6.keepN hst.2 (fun e=>by injection e with e;omega))
  have HR7:=q7 (hr6.keepN hst.2 (fun e=>by injection e with e;omega))
  have HO7:=q7 (q9R.out.keep hst.2 (qM (fun q hq e=>by have:=(q9R.out.lt q hq).1;injection e with e;omega)))
  have HP7:=q7 (qaV.out.keep hst.2 (qM (fun q hq e=>by have:=(qaV.out.lt q hq).1;injection e with e;omega)))
  have HG7:=q7 (qp hg6 hst.2);obtain⟨A,hA,hAs,hAl⟩:=HH7.out.whole;have hA1:∀u∈A.toList,u.oneCell'=true:=by rw[hAl];exact fR _ _ _ _ _ _ _ _ _
  have HAL:=q7 hAl;have HX7:=q7 hst.1;clear hh6 hx6 hr6 hg6 hAl hst q9R qaV he
  go_wp2_with(first|(refine qI rfl 124 5 _ rfl b rfl A hAs hA _ Tryz.underlying124 rfl (by kernel_rfl) ?_)|(refine qo rfl 124 _ _ rfl w.heap.size 124 w.heap.size 5 5 rfl A rfl (by rw[hAs];kernel_rfl) _ HR7.out (by rw[hAs];simp[zH]) hA1 ?_;intro wz q8Y hgz;(have HGZ:=q7 hgz;have HRZ:=q7 q8Y;clear q8Y hgz)))
  have hr9:=HRZ.out;rw[hAs,List.drop_of_length_le (by simp[zH]),List.append_nil]at hr9
  refine qR (s:=2) (b:=3) (ad:=⟨w.heap.size,0,none⟩) (x:=.agg A) (y:=.int .i64 (er:Nat)) rfl rfl rfl rfl (jd (n:=5) hr9 _ Tryz.underlying124 rfl (by kernel_rfl)) ?_
  have hAe:A=#[.bool H'.fin,.int .i64 (H'.kind:Nat),.int .i64 (H'.size:Nat),.slice o1 n1 c1',.slice o2 n2 c2']:=by
   rw[<-Array.toArray_toList (xs:=A),HAL.out]
  rw[hAe];have hxz:=HX7.out.stay HGZ.out (fun e=>by injection e with e;omega)
  have hgz:=ji HG7.out HGZ.out (q9 _);have hoz:=(HO7.out.keep HGZ.out (qM (fun q hq e=>by have:=(HO7.out.lt q hq).1;injection e with e;omega))).mono (B':=w.heap.size) (by omega)
  have hpz:=(HP7.out.keep HGZ.out (qM (fun q hq e=>by have:=(HP7.out.lt q hq).1;injection e with e;omega))).mono (B':=w.heap.size) (by omega)
  exact⟨_,_,rfl,hoz,hpz,hxz,hgz⟩
end Go.Cm
namespace Go.Cm
def q4R:Nat->Nat->List UInt8
 |0,_=>[]
 |f+1,n=>if n<10 then [UInt8.ofNat (48+n)]else q4R f (n/10)++[UInt8.ofNat (48+n%10)]
def pX(n:Nat):List UInt8:=q4R (n+1) n
theorem q0Q:∀f g n,n<f->n<g->q4R f n=q4R g n
 |0,_,_,h,_=>absurd h (Nat.not_lt_zero _)
 |_,0,_,_,h=>absurd h (Nat.not_lt_zero _)
 |f+1,g+1,n,hf,hg=>by
  unfold q4R
  by_cases h:n<10
  ·rw[if_pos h,if_pos h]
  ·rw[if_neg h,if_neg h,q0Q f g (n/10) (by omega) (by omega)]
theorem gQ{n:Nat}(h:n<10):pX n=[UInt8.ofNat (48+n)]:=by unfold pX q4R;rw[if_pos h]
theorem nR{n:Nat}(h:¬n<10):pX n=pX (n/10)++[UInt8.ofNat (48+n%10)]:=by
 conv=>lhs;unfold pX q4R
 rw[if_neg h,q0Q n (n/10+1) (n/10) (by omega) (by omega)];rfl
theorem iJ:∀(k n:Nat),n<10^k->(pX n).length<=max k 1
 |0,n,h=>by
  have:n<10:=by simp at h;omega
  rw[gQ this];simp
 |k+1,n,h=>by
  by_cases h1:n<10
  ·rw[gQ h1,List.length_singleton];omega
  ·rw[nR h1,qg]
   have:=iJ k (n/10) (by rw[Nat.pow_succ]at h;omega)
   have h2:1<=k:=by
    rcases Nat.eq_zero_or_pos k with rfl|h2
    ·simp at h;omega
    ·exact h2
   simp only[List.length_cons,List.length_nil];omega
theorem q2P(n:Nat):1<=(pX n).length:=by
 by_cases h:n<10
 ·rw[gQ h];simp
 ·rw[nR h];simp
def q2Q:List (List UInt8):=
 [[111,107],[97,114,103,117,109,101,110,116],[115,104,111,114,116],[98,105,103],[102,111,114,109],[115,117,109],[115,105,122,101],[111,118,101,114],[117,110,100,101,114],[99,111,100,101],[100,105,115,116,97,110,99,101],[98,108,111,99,107],[109,97,103,105,99],[102,108,97,103,115],[109,111,114,101],[99,104,97,114],[111,112,101,110],[101,109,112,116,121],[114,97,110,103,101],[116,119,105,99,101],[110,97,109,101],[110,111,110,101],[102,117,108,108],[112,97,103,101],[111,114,100,101,114],[110,105,108],[100,105,102,102,101,114],[109,97,116,99,104]]
def nmB(k:Nat):List UInt8:=q2Q.getD k [63]
def zK:List UInt8:=q2Q.flatMap fun l=>l++[32]
theorem O5{k:Nat}:(nmB k).length<=8:=by
 unfold nmB
 by_cases h:k<28
 ·have:∀i,i<28->(q2Q.getD i [63]).length<=8:=by decide
  exact this k h
 ·rw[List.getD_eq_getElem?_getD,List.getElem?_eq_none (by simp[q2Q];omega)];simp
def kF(k:Nat):Nat:=((q2Q.take k).flatMap fun l=>l++[32]).length
def eR(i:Nat):Nat:=((zK.take i).filter (· ==32)).length
theorem q4S:∀i,i<155->eR i<28/\kF (eR i)<=i/\(zK.getD i 0=32->(zK.drop (kF (eR i))).take (i-kF (eR i))=nmB (eR i)/\eR (i+1)=eR i+1/\kF (eR i+1)=i+1)/\(zK.getD i 0≠32->eR (i+1)=eR i):=by decide+kernel
theorem q3W:eR 155=28/\zK.length=155:=by decide+kernel
def zL(x:Nat×Nat):List UInt8:=nmB x.1++[32,97,116,32]++pX x.2
def mD:List (Nat×Nat)->List UInt8
 |[]=>[]
 |[x]=>zL x
 |x::y::l=>zL x++[58,32]++mD (y::l)
theorem q0R(l:List (Nat×Nat))(x:Nat×Nat)(h:l≠[]):mD (l++[x])=mD l++[58,32]++zL x:=by
 induction l with
 |nil=>exact absurd rfl h
 |cons y l ih=>
  cases l with
  |nil=>rfl
  |cons z l=>
   have:=ih (by simp)
   show zL y++[58,32]++mD (z::(l++[x]))=_
   rw[show z::(l++[x])=(z::l)++[x]from rfl,this]
   simp[mD]
theorem zM(x:Nat×Nat)(h:x.2<10^19):(zL x).length<=40:=by
 have h1:=O5 (k:=x.1);have h2:=iJ 19 x.2 h;unfold zL;simp only[qg,List.length_cons,List.length_nil];omega
theorem wM:∀(l:List (Nat×Nat)),(∀x∈l,x.2<10^19)->(mD l).length<=42*l.length
 |[],_=>by simp[mD]
 |[x],h=>by
  have:=zM x (h x (by simp))
  simp only[mD,List.length_cons,List.length_nil];omega
 |x::y::l,h=>by
  have h1:=zM x (h x (by simp))
  have h2:=wM (y::l) (fun z hz=>h z (List.mem_cons_of_mem _ hz))
  simp only[mD,qg,List.length_cons,List.length_nil]at h2⊢;omega
end Go.Cm
namespace Go.Cm
open Go.RowKit Go.Proofs
theorem q6B{c:Nat}(hc:c<=27)(w:World):Calls Tryz.prog 90 #[.int .i64 c] w fun e w'=>e=.returned (.string ⟨(nmB c).toArray⟩)/\∃x,w'=ext w x:=by
 obtain⟨R,hR⟩:∃R,R=(.string ⟨(nmB c).toArray⟩:Value):=⟨_,rfl⟩;rw[<-hR];have HR:=q7 hR;clear hR
 go_enter Tryz.func90,Tryz.ntmps90
 generalize hC:ByteArray.mk (List.toArray (List.append (List.append _ _) (List.append _ _)))=C;have hC2:bys C=zK:=by rw[<-hC];decide+kernel
 clear hC;have hsz:C.size=155:=by rw[<-qF,hC2];exact q3W.2
 have HC:=q7 hC2;have HIX:=q7 (fun(i:Nat) (h:i<C.size) (W:World)=>jS (P:=Tryz.prog) 9 Tryz.underlying9 h W)
 have HST:=q7 q4S;clear hC2
 go_wp2_with((with_reducible go_at_call 137);refine(q3X hc _).mono ?_;rintro en w2 ⟨rfl,x2,rfl⟩)
 go_loopg [0,3,8] 155 (fun gk cv fv iv wr=>∃i:Nat,i<=155/\iv=.int .i64 i/\cv=.int .i64 ((c:Int)-(eR i:Nat))/\fv=.int .i64 (kF (eR i):Nat)/\eR i<=c/\gk=155-i/\Below w.heap.size w wr)
 case atStart=>
  have z1:eR 0=0:=by decide
  have z2:kF 0=0:=by decide
  exact⟨0,by omega,rfl,by rw[z1];simp,by rw[z1,z2];rfl,by omega,rfl,qA (qj _ _) x2⟩
 case round=>
  obtain⟨i,hi,rfl,rfl,rfl,hle,rfl,q8Z⟩:=hrel
  by_cases h1:i<155
  ·have h1i:(i:Int)<155:=by omega
   obtain⟨s1,s2,s3,s4⟩:=HST.out i h1;have hx:=HIX.out i (by omega)
   rw[HC.out]at hx
   by_cases h2:zK.getD i 0=32
   ·obtain⟨t1,t2,t3⟩:=s3 h2
    rw[h2]at hx;simp only[show((UInt8.toNat 32:Nat):Int)=32 from rfl]at hx
    by_cases h3:c=eR i
    ·have qh1:R=.string (C.extract (kF (eR i)) i):=by rw[HR.out,h3,bY (l:=nmB (eR i)) (by rw[HC.out];exact t1)]
     have HE:=q7 qh1;have e0:((c:Int)-(eR i:Nat)==0)=true:=by simp;omega
     have b1:(0:Int)<=(kF (eR i):Nat):=by omega
     have b2:((kF (eR i):Nat):Int)<=(i:Int):=by omega
     have b3:(i:Int)<=(C.size:Int):=by omega
     generalize kF (eR i)=fr at*;clear qh1 t1 t2 t3 s2 s3 s4 h2 HST HIX;go_wp2;go_ret
     exact⟨by rw[HE.out];simp,qt q8Z⟩
    ·have e0:((c:Int)-(eR i:Nat)==0)=false:=by simp;omega
     have H1:=q7 t2;have H3:=q7 t3;have hfr:((kF (eR i):Nat):Int)<=155:=by omega
     clear t1 t2 t3 s2 s3 s4 h2 HST HIX;go_wp2
     go_roundg (155-(i+1))
     case measure=>omega
     case rel=>exact⟨i+1,by omega,by congr 1,by rw[H1.out];congr 1;omega,by rw[H1.out,H3.out];congr 1,by rw[H1.out];omega,rfl,q8Z⟩
   ·have hne:=rQ h2
    simp only[show((UInt8.toNat 32:Nat):Int)=32 from rfl]at hne
    have H1:=q7 (s4 h2);generalize (zK.getD i 0).toNat=y at*;have q9q:((y:Int) != 32)=true:=by simpa[bne]using hne
    clear s2 s3 s4 h2 HST HIX;go_wp2
    go_roundg (155-(i+1))
    case measure=>omega
    case rel=>exact⟨i+1,by omega,by congr 1,by rw[H1.out],by rw[H1.out],by rw[H1.out];omega,rfl,q8Z⟩
  ·have:i=155:=by omega
   subst this;have:=q3W.1;omega
theorem q0V(W:World):(sizeOf 5).run Tryz.prog W=.ok 1 W:=by kernel_rfl
theorem q2R(u:Nat):(UInt8.ofNat (48+u%10)).toNat=48+u%10:=by
 rw[UInt8.toNat_ofNat'];omega
theorem q0W{n:Nat}(hn:n<10^18)(w:World):Calls Tryz.prog 91 #[.int .i64 n] w fun e w'=>e=.returned (.string ⟨(pX n).toArray⟩)/\∃x,w'=ext w x:=by
 have hlen:=iJ 18 n hn;obtain⟨L,hL⟩:∃L,L=pX n:=⟨_,rfl⟩;rw[<-hL]at hlen⊢;have HL:=q7 hL;have qkB:=q7 hlen;clear hL hlen;have hn2:n<=1000000000000000000:=by omega
 clear hn
 go_enter Tryz.func91,Tryz.ntmps91
 go_wp2;have h3:=qE w w.heap.size (qD (List.replicate 20 0)).toArray 218 (by simp[qD]) (q9 _)
 have hb1:=qn w (.cells (qD (List.replicate 20 0)).toArray 218);simp only[show(qD (List.replicate 20 0)).toArray.size=20 from rfl]at h3
 have hz:(qD (List.replicate 20 0)).toArray=#[Value.int .u8 0,Value.int .u8 0,Value.int .u8 0,Value.int .u8 0,Value.int .u8 0,Value.int .u8 0,Value.int .u8 0,Value.int .u8 0,Value.int .u8 0,Value.int .u8 0,Value.int .u8 0,Value.int .u8 0,Value.int .u8 0,Value.int .u8 0,Value.int .u8 0,Value.int .u8 0,Value.int .u8 0,Value.int .u8 0,Value.int .u8 0,Value.int .u8 0]:=rfl;rw[hz]at hb1 h3;generalize hw1:w.alloc (.cells _ 218)=w1;rw[hw1]at h3 hb1;have HO:Hid (Own w1 w.heap.size 218 (.slice (some ⟨w.heap.size,0,none⟩) 20 20) (qD (List.replicate 20 0))):=q7 h3;have HB:=q7 hb1;clear h3 hb1 hw1 hz
 go_loopg [4,5] 19 (fun gk av uv wr=>∃(ys:qK) (D:qK) (u m:Nat),av=.int .i64 ((m:Int)+1)/\uv=.int .u64 u/\Hid (Own wr w.heap.size 218 (.slice (some ⟨w.heap.size,0,none⟩) 20 20) (qD ys))/\Hid (ys.length=20/\ys.drop (m+1)=D/\D.length+m=19/\L=pX u++D)/\u<=n/\m<=19/\2<=m/\gk=m/\Hid (Below w.heap.size w wr))
 case atStart=>exact⟨_,[],n,19,rfl,rfl,HO,q7 ⟨rfl,rfl,rfl,by rw[HL.out];simp⟩,q9 _,by omega,by omega,by omega,HB⟩
 case round=>
  obtain⟨ys,D,u,m,rfl,rfl,HOr,HD,hu,hm,hm2,rfl,HBr⟩:=hrel;have hyl:=HD.out.1;have c1:wr.cell? ⟨w.heap.size,gk,none⟩=some (.int .u8 ((ys.getD gk 0).toNat:Nat)):=by rw[HOr.out.cell (by rw[qz];omega),nS ys gk (by omega)]
  have f1:wr.frozen? ⟨w.heap.size,gk,none⟩=false:=HOr.out.free gk;have hmi:(gk:Int)<20:=by omega
  have hu2:(u:Int)<=1000000000000000000:=by omega
  have ho:=(HOr.out.store gk (.int .u8 (((UInt8.ofNat (48+u%10)).toNat:Nat):Int))).1;rw[uV]at ho;have hb2:=HBr.out.setCell (p:=⟨w.heap.size,gk,none⟩) (q9 _) (.int .u8 (((UInt8.ofNat (48+u%10)).toNat:Nat):Int));rw[q2R,show(((48+u%10:Nat)):Int)=48+(u:Int)%10 by omega]at ho hb2
  have HO2:=q7 ho;have HB2:=q7 hb2
  have hD2:(ys.set gk (UInt8.ofNat (48+u%10))).drop gk=UInt8.ofNat (48+u%10)::D:=by
   rw[List.drop_set,if_neg (by omega),Nat.sub_self,List.drop_eq_getElem_cons (by omega),HD.out.2.1];rfl
  have HD2:=q7 hD2;generalize (ys.getD gk 0).toNat=yy at*;clear ho hb2 hD2 hyl
  by_cases qaM:u<10
  ·have hq:(u:Int)/10=0:=by omega
   have hLL:L=UInt8.ofNat (48+u%10)::D:=by rw[HD.out.2.2.2,gQ qaM,Nat.mod_eq_of_lt qaM];rfl
   have hsl:∀W:World,(Instr.sliceAt 218 (.pointer (some ⟨w.heap.size,0,none⟩)) (some (.int .i64 (gk:Nat))) none none).run Tryz.prog W=.ok (.slice (some ⟨w.heap.size,gk,none⟩) (20-gk) (20-gk)) W:=fun W=>by
    rw[run_sliceAt_array_l (P:=Tryz.prog) W 218 ⟨w.heap.size,0,none⟩ Tryz.underlying218 .i64 (gk:Nat) (by omega) (by rw[show Tryz.prog.arrayLen 218=20 by kernel_rfl];omega),show Tryz.prog.arrayLen 218=20 by kernel_rfl,show Tryz.prog.elem 218=5 by kernel_rfl,q0V]
    simp[slicedAt,Result.andThen,Addr.add,show¬20=gk by omega]
    omega
   have q9v:Sl (wr.setCell ⟨w.heap.size,gk,none⟩ (.int .u8 (48+(u:Int)%10))) (.slice (some ⟨w.heap.size,gk,none⟩) (20-gk) (20-gk)) (qD L):=by
    have hl:L.length=20-gk:=by rw[hLL,List.length_cons];have:=HD.out.2.2.1;omega
    refine⟨_,_,w.heap.size,gk,by rw[qz,hl],⟨fun _=>rfl,by rw[qz,hl];exact q9 _,by simp[maxLen];omega,by rw[qz];omega,fun _=>HO2.out.blk.2⟩,fun i hi=>?_⟩
    rw[qz]at hi;rw[HO2.out.cell (by rw[qz,List.length_set,HD.out.1];omega),hLL,<-HD2.out]
    rw[nS _ _ (by rw[List.length_set,HD.out.1];omega),nS _ _ (by rw[List.length_drop,List.length_set,HD.out.1];omega)]
    simp[List.getD]
   have hcv:∀W,W=wr.setCell ⟨w.heap.size,gk,none⟩ (.int .u8 (48+(u:Int)%10))->(convert 49 9 (.slice (some ⟨w.heap.size,gk,none⟩) (20-gk) (20-gk))).run Tryz.prog W=.ok (.string ⟨L.toArray⟩) W:=fun W hW=>by
    rw[hW]
    exact j7 _ _ _ 5 Tryz.underlying49 Tryz.underlying5 Tryz.underlying9 _ _ q9v
   have qcX:=hcv _ rfl;clear q9v hLL hcv;go_wp2;go_ret
   exact⟨rfl,qt HB2.out⟩
  ·have hq:((u:Int)/10==0)=false:=by simp;omega
   have hge:3<=gk:=by
    have h1:=qkB.out;have h2:=q2P (u/10);have h3:=HD.out.2.2.2;rw[nR qaM]at h3;have h4:=congrArg List.length h3;simp only[qg,List.length_cons,List.length_nil]at h4;have h5:=HD.out.2.2.1;omega
   obtain⟨q,rfl⟩:∃q,gk=q+1:=⟨gk-1,by omega⟩
   go_wp2
   go_roundg q
   case measure=>omega
   case rel=>
    refine⟨_,UInt8.ofNat (48+u%10)::D,u/10,q,by congr 1,by congr 1,HO2,q7 ⟨by rw[List.length_set,HD.out.1],HD2.out,by rw[List.length_cons];have:=HD.out.2.2.1;omega,by rw[HD.out.2.2.2,nR qaM];simp⟩,by omega,by omega,by omega,rfl,HB2⟩
theorem q6C:∀(l:List (Nat×Nat)) (x:Nat×Nat) {w:World} {p:Nat} (_:jK w) (_:bK w (x::l) (.iface 86 (.pointer (some ⟨p,0,none⟩)))) (_:∀y∈x::l,y.1<=27/\y.2<10^18) (_:l.length<=1000),Calls Tryz.prog 46 #[.pointer (some ⟨p,0,none⟩)] w fun e w'=>e=.returned (.string ⟨(mD (x::l)).toArray⟩)/\∃x,w'=ext w x:=by
 intro l
 induction l with
 |nil=>
  intro x w p hL h hb hl;obtain⟨p',u,e1,h1,h2,h3,h4,h5⟩:=h
  cases e1
  have hc:=(hb x (by simp)).1
  have hn:=(hb x (by simp)).2
  have HL:=q7 hL;have H5:=q7 h5;have HN:=q7 (fun W:World=>q6B hc W)
  have HM:=q7 (fun W:World=>q0W hn W)
  have hl1:(nmB x.1).length<=8:=O5;have hl2:(pX x.2).length<=18:=iJ 18 _ hn;have hs:mD [x]=nmB x.1++([32,97,116,32]++pX x.2):=by simp[mD,zL]
  rw[hs];generalize nmB x.1=A at*;generalize pX x.2=D at*;clear hs h5 hL
  go_enter Tryz.func46,Tryz.ntmps46
  go_wp2;refine qY (by kernel_rfl) (by kernel_rfl) ?_
  repeat(first
   |(go_big_quiet_want;refine gR _ _ _ _ rfl _ _ rfl rfl (by simp only[qg,List.length_cons,List.length_nil];omega) ?_;go_simp;go_big_quiet_on)
   |go_big_quiet_step (first|(go_at_call 90;exact jx (HN.out _))|(go_at_call 91;exact jx (HM.out _))))
  refine wpQuiet_nil ?_;intro w1 hw1;have hb1:=qr hw1;clear hw1;have c2:w1.cell? ⟨p,2,none⟩=some u:=by rw[hb1.cell (p:=⟨p,2,none⟩) h1];exact h4
  have HE:=q7 (O6 (HL.out.up hb1) (H5.out.up hb1));have qev:=H5.out.one;have HB1:=q7 hb1;clear hb1 h2 h3 h4 HN HM;obtain⟨q,rfl⟩:=id H5.out
  go_wp2_with((with_reducible go_at_call 40);refine HE.out.mono ?_;rintro en w2 ⟨rfl,hx⟩;have HB2:=q7 (qq HB1.out (qr hx));clear hx)
  go_ret
  exact⟨by simp,qt HB2.out⟩
 |cons y l ih=>
  intro x w p hL h hb hl;obtain⟨p',u,e1,h1,h2,h3,h4,h5⟩:=h
  cases e1
  have hc:=(hb x (by simp)).1
  have hn:=(hb x (by simp)).2
  have HL:=q7 hL;have H5:=q7 h5;have HN:=q7 (fun W:World=>q6B hc W)
  have HM:=q7 (fun W:World=>q0W hn W)
  have hl1:(nmB x.1).length<=8:=O5;have hl2:(pX x.2).length<=18:=iJ 18 _ hn;have hl3:(mD (y::l)).length<=42*(y::l).length:=wM _ (fun z hz=>Nat.lt_trans (hb z (List.mem_cons_of_mem _ hz)).2 (by decide))
  have hl4:(mD (y::l)).length<=50000:=by rw[List.length_cons]at hl3 hl;omega
  have hs:mD (x::y::l)=nmB x.1++([32,97,116,32]++pX x.2)++[58,32]++mD (y::l):=by simp[mD,zL]
  rw[hs];have HI:=q7 (fun(W:World) (p:Nat) (hL:jK W) (h:bK W (y::l) (.iface 86 (.pointer (some ⟨p,0,none⟩))))=>ih y hL h (fun z hz=>hb z (List.mem_cons_of_mem _ hz)) (by rw[List.length_cons]at hl;omega))
  generalize mD (y::l)=S at*;generalize nmB x.1=A at*;generalize pX x.2=D at*;clear hs h5 hL hl3 ih hb
  go_enter Tryz.func46,Tryz.ntmps46
  go_wp2;refine qY (by kernel_rfl) (by kernel_rfl) ?_
  repeat(first
   |(go_big_quiet_want;refine gR _ _ _ _ rfl _ _ rfl rfl (by simp only[qg,List.length_cons,List.length_nil];omega) ?_;go_simp;go_big_quiet_on)
   |go_big_quiet_step (first|(go_at_call 90;exact jx (HN.out _))|(go_at_call 91;exact jx (HM.out _))))
  refine wpQuiet_nil ?_;intro w1 hw1;have hb1:=qr hw1;clear hw1;have c2:w1.cell? ⟨p,2,none⟩=some u:=by rw[hb1.cell (p:=⟨p,2,none⟩) h1];exact h4
  have hcu:=H5.out.up hb1;obtain⟨p2,-,rfl,-⟩:=id hcu;have HE:=q7 (oR (HL.out.up hb1) hcu);have HC1:=q7 hcu;have HB1:=q7 hb1;have qkA:=q7 (HL.out.up hb1);clear hb1 h2 h3 h4 HN HM hcu;have z1:(⟨(A++32::97::116::32::D).toArray⟩:ByteArray).size<=100:=by rw[qN];simp only[qg,List.length_cons];omega
  have HZ2:=q7 (jA (A++32::97::116::32::D) [58,32]);have HZ3:=q7 (jA (A++32::97::116::32::D++[58,32]) S);have z2:(⟨(A++32::97::116::32::D++[58,32]).toArray⟩:ByteArray).size<=102:=by rw[qN];simp only[qg,List.length_cons,List.length_nil];omega
  have z3:(⟨S.toArray⟩:ByteArray).size<=50000:=by rw[qN];exact hl4
  go_wp2_with(first
   |((with_reducible go_at_call 40);refine HE.out.mono ?_;rintro en w2 ⟨rfl,hx⟩;have HB2:=q7 (qr hx);clear hx)
   |((with_reducible go_at_call 46);refine(HI.out _ _ (qkA.out.up HB2.out) (HC1.out.up HB2.out)).mono ?_;rintro en w3 ⟨rfl,hx⟩;have HB3:=q7 (qq (qq HB1.out HB2.out) (qr hx));clear hx))
  go_ret
  exact⟨congrArg (fun s=>Ending.returned (.string s)) (by rw[show(⟨#[58,32]⟩:ByteArray)=⟨([58,32]:qK).toArray⟩from rfl,HZ2.out,HZ3.out]),qt HB3.out⟩
theorem q7J{w:World}{l:List (Nat×Nat)}{v:Value}(hL:jK w)(h:bX w l v)(hb:∀y∈l,y.1<=27/\y.2<10^18)(hl:l.length<=1000):Calls Tryz.prog 21 #[v] w fun e w'=>e=.returned (.string ⟨(mD l).toArray⟩)/\∃x,w'=ext w x:=by
 obtain⟨e,rfl,he⟩:=h;have HL:=q7 (hL.up (qn w (.cells #[e] 42)));have c0:(w.alloc (.cells #[e] 42)).cell? ⟨w.heap.size,0,none⟩=some e:=by simp
 cases l with
 |nil=>
  obtain rfl:e=.nilIface:=by unfold cH at he;rwa [if_pos rfl]at he
  go_enter Tryz.func21,Tryz.ntmps21
  go_wp2_with((with_reducible go_at_call 40);refine(rK _).mono ?_;rintro en w2 ⟨rfl,x2,rfl⟩)
  go_ret
  exact⟨rfl,(qt (by repeat(first|exact qj _ _|assumption|refine qw ?_ _|refine qk ?_|refine qA ?_ _|refine qs ?_ _)))⟩
 |cons y l=>
  have HC:=q7 (he.some.up (qn w (.cells #[e] 42)));obtain⟨p,u,rfl,-⟩:=he.some;have HE:=q7 (fun(W:World) (hL:jK W) (h:bK W (y::l) (.iface 86 (.pointer (some ⟨p,0,none⟩))))=>q6C l y hL h hb (by rw[List.length_cons]at hl;omega))
  clear he hb;generalize mD (y::l)=S at*
  go_enter Tryz.func21,Tryz.ntmps21
  go_wp2_with(first
   |((with_reducible go_at_call 40);refine(oR HL.out HC.out).mono ?_;rintro en w2 ⟨rfl,x2,rfl⟩)
   |((with_reducible go_at_call 46);refine(HE.out _ (HL.out.up (qu _ _)) (HC.out.up (qu _ _))).mono ?_;rintro en w3 ⟨rfl,x3,rfl⟩))
  go_ret
  exact⟨rfl,(qt (by repeat(first|exact qj _ _|assumption|refine qw ?_ _|refine qk ?_|refine qA ?_ _|refine qs ?_ _)))⟩
theorem q6D{c:Nat}(hc:c<=27)(w:World):Calls Tryz.prog 92 #[.int .i64 c] w fun e w'=>e=.returned (.bool true)/\∃x,w'=ext w x:=by
 go_enter Tryz.func92,Tryz.ntmps92
 go_wp2;go_ret
 exact⟨by simp;omega,(qt (by repeat(first|exact qj _ _|assumption|refine qw ?_ _|refine qk ?_|refine qA ?_ _|refine qs ?_ _)))⟩
theorem q6E{c:Nat}(hc:c<=27):(q2Q.map fun l=>Value.string ⟨l.toArray⟩).toArray[c]? =some (.string ⟨(nmB c).toArray⟩):=by
 have hl:q2Q.length=28:=by decide
 simp[nmB,List.getD,show c<q2Q.length by omega]
theorem q7K{c:Nat}(hc:c<=27)(w:World):Calls Tryz.prog 47 #[.int .i64 c] w fun e w'=>e=.returned (.string ⟨(nmB c).toArray⟩)/\∃x,w'=ext w x:=by
 have hn:=q6E hc;generalize (.string ⟨(nmB c).toArray⟩:Value)=R at*;have HN:=q7 hn;clear hn
 go_enter Tryz.func47,Tryz.ntmps47
 go_upto_region 2 with(fail)
 generalize hA:w.alloc (.cells _ 9)=w1;have hb:=qn w (.cells (q2Q.map fun l=>Value.string ⟨l.toArray⟩).toArray 9)
 have c1:w1.cell? ⟨w.heap.size,c,none⟩=some R:=by rw[<-hA,World.cell?_alloc_new];exact HN.out
 have hlt:w.heap.size<w1.heap.size:=by rw[<-hA];simp
 have HB:Hid (Below w.heap.size w w1):=q7 (by rw[<-hA];exact hb)
 clear hA hb HN
 go_wp2_with((with_reducible go_at_call 92);refine(q6D hc _).mono ?_;rintro en w2 ⟨rfl,hx⟩;have hb2:=qr hx;clear hx;have c2:w2.cell? ⟨w.heap.size,c,none⟩=some R:=(by rw[hb2.cell (p:=⟨w.heap.size,c,none⟩) hlt];exact c1);have HB2:=q7 (qq HB.out hb2);clear hb2 c1)
 go_ret
 exact⟨rfl,qt HB2.out⟩
theorem O7{W:World}{b:Nat}{y:UInt8}(hb:b<W.heap.size)(h:W.cell? ⟨b,0,none⟩=some (.int .u8 (y.toNat:Nat))):(convert 49 9 (.slice (some ⟨b,0,none⟩) 1 1)).run Tryz.prog W=.ok (.string ⟨[y].toArray⟩) W:=
 j7 _ _ _ 5 Tryz.underlying49 Tryz.underlying5 Tryz.underlying9 _ _ ⟨_,_,b,0,rfl,⟨fun _=>rfl,by simp[qD],by simp[maxLen],by simp[qD],fun _=>hb⟩,fun i hi=>by
  have:i=0:=by simpa[qD]using hi
  subst this;simpa[qD]using h⟩
theorem O8{n:Nat}(h10:n<10)(w:World):Calls Tryz.prog 93 #[.int .i64 n] w fun e w'=>e=.returned (.string ⟨(pX n).toArray⟩)/\∃x,w'=ext w x:=by
 rw[gQ h10];have hi:(n:Int)<10:=by omega
 have hby:(UInt8.ofNat (48+n)).toNat=48+n:=by rw[UInt8.toNat_ofNat'];omega
 have hcv:=O7 (W:=w.alloc (.cells #[.int .u8 (48+(n:Int))] 5)) (b:=w.heap.size) (y:=UInt8.ofNat (48+n)) (by simp) (by rw[World.cell?_alloc_new,hby];simp)
 generalize hy:UInt8.ofNat (48+n)=y at*;clear hby hy
 go_enter Tryz.func93,Tryz.ntmps93
 go_wp2;go_ret
 exact⟨rfl,(qt (by repeat(first|exact qj _ _|assumption|refine qw ?_ _|refine qk ?_|refine qA ?_ _|refine qs ?_ _)))⟩
theorem q4X:∀(k n:Nat),n<10^(k+1)->k<=17->∀w:World,Calls Tryz.prog 93 #[.int .i64 n] w fun e w'=>e=.returned (.string ⟨(pX n).toArray⟩)/\∃x,w'=ext w x:=by
 intro k
 induction k with
 |zero=>
  intro n hn _ w
  exact O8 (by simpa using hn) w
 |succ k ih=>
  intro n hn hk w
  by_cases h10:n<10
  ·exact O8 h10 w
  rw[nR h10]
  have hlen:(pX (n/10)).length<=18:=by
   have h1:=iJ (k+1) (n/10) (by rw[Nat.pow_succ]at hn;omega)
   omega
  have hI:=ih (n/10) (by rw[Nat.pow_succ]at hn;omega) (by omega)
  have hi:decide ((n:Int)<10)=false:=by rw[qm];omega
  have qh6:((n/10:Nat):Int)=(n:Int)/10:=by omega
  rw[show((n/10:Nat):Int)=(n:Int)/10 from qh6]at hI
  have HI:=q7 hI;have hby:(UInt8.ofNat (48+n%10)).toNat=48+n%10:=by rw[UInt8.toNat_ofNat'];omega
  have HCV:=q7 (fun(W:World) (b:Nat) (h1:b<W.heap.size) (h2:W.cell? ⟨b,0,none⟩=some (.int .u8 (48+(n:Int)%10)))=>O7 (W:=W) (b:=b) (y:=UInt8.ofNat (48+n%10)) h1 (by rw[h2,hby];simp))
  generalize UInt8.ofNat (48+n%10)=y at*;generalize pX (n/10)=D at*
  have qlq:(n:Int)<=10000000000000000000:=by
   have:n<10^19:=qd hn (qe (by decide) (by omega))
   omega
  have z1:(⟨D.toArray⟩:ByteArray).size<=18:=by rw[qN];exact hlen
  have HZ:=q7 (jA D [y]);clear hI qh6 hby ih hn
  go_enter Tryz.func93,Tryz.ntmps93
  go_wp2;refine jE (C:=fun w'=>∃x,w'=ext w x) (.q 0 (.q 1 (.q 3 (.q 4 (.q 5 (.q 6 (.br 2 (.br 7 (.br 8 (.br 9 (.br 10 .done .no) .no) .no) .no) (.br 7 (.br 2 (.br 8 (.br 9 (.br 10 .done .no) .no) .no) (.br 8 (.br 2 (.br 9 (.br 10 .done .no) .no) .no) .no)) .no)))))))) (by kernel_rfl) (by kernel_rfl) (qt (qC _ _)) ?_
  (repeat((unfold qX;simp only[pk]);go_big_quiet_step (fail);refine wpQuiet_nil ?_))
  have HB1:Hid (Below w.heap.size w w.drew):=q7 (qS (qj _ _));generalize w.drew=w1 at*
  (unfold qX;simp only[pk])
  refine⟨?_,?_⟩
  ·unfold qy
   go_wp2_with((with_reducible go_at_call 93);refine(HI.out _).mono ?_;rintro en w2 ⟨rfl,hx⟩;have HB2:=q7 (qq HB1.out (qr hx));have HBx:=q7 (qr hx);clear hx)
   refine⟨qt HB2.out,?_⟩;unfold qy
   ((unfold qX;simp only[pk]);refine⟨?_,by unfold qX;trivial⟩;unfold qy)
   go_wp2;have HB3:=q7 (qs HB2.out (.cells #[.int .u8 (48+(n:Int)%10)] 5));refine⟨qt HB3.out,?_⟩;unfold qy;have hcv:=HCV.out (w2.alloc (.cells #[.int .u8 (48+(n:Int)%10)] 5)) w2.heap.size (by simp) (by rw[World.cell?_alloc_new];rfl)
   ((unfold qX;simp only[pk]);refine⟨?_,by unfold qX;trivial⟩;unfold qy)
   go_wp2;refine⟨qt HB3.out,?_⟩;unfold qy
   ((unfold qX;simp only[pk]);refine⟨?_,by unfold qX;trivial⟩;unfold qy)
   go_wp2;refine⟨qt HB3.out,?_⟩;unfold qy
   ((unfold qX;simp only[pk]);refine⟨?_,by unfold qX;trivial⟩;unfold qy)
   go_wp2;refine⟨qt HB3.out,?_⟩;unfold qy;unfold qX;intro hz;clear hz;go_wp2;go_ret
   exact⟨congrArg (fun s=>Ending.returned (.string s)) HZ.out,qt HB3.out⟩
  ·(unfold qX;simp only[pk])
   refine⟨?_,by exact True.intro⟩
   unfold qy;go_wp2;have HB2:=q7 (qs HB1.out (.cells #[.int .u8 (48+(n:Int)%10)] 5));refine⟨qt HB2.out,?_⟩;unfold qy;have c1:(w1.alloc (.cells #[.int .u8 (48+(n:Int)%10)] 5)).cell? ⟨w1.heap.size,0,none⟩=some (.int .u8 (48+(n:Int)%10)):=by rw[World.cell?_alloc_new];rfl
   have l1:w1.heap.size<(w1.alloc (.cells #[.int .u8 (48+(n:Int)%10)] 5)).heap.size:=by simp
   generalize w1.alloc (.cells #[.int .u8 (48+(n:Int)%10)] 5)=w2 at*;generalize w1.heap.size=g at*
   (unfold qX;simp only[pk])
   refine⟨?_,?_⟩
   ·unfold qy
    go_wp2_with((with_reducible go_at_call 93);refine(HI.out _).mono ?_;rintro en w3 ⟨rfl,hx⟩;have HB3:=q7 (qq HB2.out (qr hx));have HBx:=q7 (qr hx);clear hx)
    refine⟨qt HB3.out,?_⟩;unfold qy;have hcv:=HCV.out w3 g (qd l1 HBx.out.size) (by rw[HBx.out.cell (p:=⟨g,0,none⟩) l1];exact c1)
    clear c1
    ((unfold qX;simp only[pk]);refine⟨?_,by unfold qX;trivial⟩;unfold qy)
    go_wp2;refine⟨qt HB3.out,?_⟩;unfold qy
    ((unfold qX;simp only[pk]);refine⟨?_,by unfold qX;trivial⟩;unfold qy)
    go_wp2;refine⟨qt HB3.out,?_⟩;unfold qy
    ((unfold qX;simp only[pk]);refine⟨?_,by unfold qX;trivial⟩;unfold qy)
    go_wp2;refine⟨qt HB3.out,?_⟩;unfold qy;unfold qX;intro hz;clear hz;go_wp2;go_ret
    exact⟨congrArg (fun s=>Ending.returned (.string s)) HZ.out,qt HB3.out⟩
   ·(unfold qX;simp only[pk])
    refine⟨?_,by exact True.intro⟩
    unfold qy;have hcv:=HCV.out w2 g l1 c1;go_wp2;refine⟨qt HB2.out,?_⟩;unfold qy
    ((unfold qX;simp only[pk]);refine⟨?_,by unfold qX;trivial⟩;unfold qy)
    go_wp2_with((with_reducible go_at_call 93);refine(HI.out _).mono ?_;rintro en w3 ⟨rfl,hx⟩;have HB3:=q7 (qq HB2.out (qr hx));have HBx:=q7 (qr hx);clear hx)
    refine⟨qt HB3.out,?_⟩;unfold qy
    ((unfold qX;simp only[pk]);refine⟨?_,by unfold qX;trivial⟩;unfold qy)
    go_wp2;refine⟨qt HB3.out,?_⟩;unfold qy
    ((unfold qX;simp only[pk]);refine⟨?_,by unfold qX;trivial⟩;unfold qy)
    go_wp2;refine⟨qt HB3.out,?_⟩;unfold qy;unfold qX;intro hz;clear hz;go_wp2;go_ret
    exact⟨congrArg (fun s=>Ending.returned (.string s)) HZ.out,qt HB3.out⟩
theorem q8H{n:Nat}(hn:n<10^18)(w:World):Calls Tryz.prog 48 #[.int .i64 n] w fun e w'=>e=.returned (.string ⟨(pX n).toArray⟩)/\∃x,w'=ext w x:=by
 have HD:=q7 (fun W:World=>q4X 17 n hn (by omega) W)
 have hi:decide ((n:Int)≥0)=true:=by rw[decide_eq_true_iff];omega
 go_enter Tryz.func48,Tryz.ntmps48
 go_wp2_with((with_reducible go_at_call 93);refine(HD.out _).mono ?_;rintro en w2 ⟨rfl,x2,rfl⟩)
 go_ret
 exact⟨rfl,(qt (by repeat(first|exact qj _ _|assumption|refine qw ?_ _|refine qk ?_|refine qA ?_ _|refine qs ?_ _)))⟩
theorem q0X{l:List (Nat×Nat)}{i:Nat}(hi:i<l.length):mD (l.take (i+1))=(if i=0 then []else mD (l.take i)++[58,32])++(nmB (l.getD i (0,0)).1++[32,97,116,32]++pX (l.getD i (0,0)).2):=by
 rw[List.take_succ_eq_append_getElem hi];have e:l[i]=l.getD i (0,0):=by simp[List.getD,hi]
 rw[e]
 by_cases h0:i=0
 ·subst h0;rw[if_pos rfl];rfl
 ·rw[if_neg h0,q0R _ _ (by intro h;have:=congrArg List.length h;rw[List.length_take,List.length_nil]at this;omega)]
  rfl
theorem q8I{w:World}{l:List (Nat×Nat)}{v:Value}(h:cV w v l)(hb:∀y∈l,y.1<=27/\y.2<10^18)(hl:l.length<=1000):Calls Tryz.prog 22 #[v] w fun e w'=>e=.returned (.string ⟨(mD l).toArray⟩)/\∃x,w'=ext w x:=by
 obtain⟨oa,cap,b,off,rfl,hd,hc⟩:=h.open;have HX:=q7 (jy (P:=Tryz.prog) 2 54 96 Tryz.underlying54 (by kernel_rfl) hd)
 have hm:=hd.len;have HC:=q7 hc;have HS:=q7 hb;have HHD:=q7 hd;clear hc hb hd h
 go_enter Tryz.func22,Tryz.ntmps22
 go_wp2
 go_loopg [3,4] l.length (fun gk sv iv wr=>∃i:Nat,i<=l.length/\iv=.int .i64 i/\sv=.string ⟨(mD (l.take i)).toArray⟩/\gk=l.length-i/\Below w.heap.size w wr)
 case atStart=>exact⟨0,qc _,rfl,by simp[mD],rfl,qj _ _⟩
 case round=>
  obtain⟨i,hi,rfl,rfl,rfl,q8Z⟩:=hrel;have hb1:=q8Z
  by_cases h1:i<l.length
  ·have h1i:(i:Int)<(l.length:Nat):=by omega
   obtain⟨q1,q2⟩:=HC.out i h1;have hbs:=HHD.out.hblk (by omega)
   have c1:wr.cell? ⟨b,off+i*2,none⟩=some (.int .i64 ((l.getD i (0,0)).1:Nat)):=by rw[hb1.cell (p:=⟨b,off+i*2,none⟩) hbs];exact q1
   have c2:wr.cell? ⟨b,off+i*2+1,none⟩=some (.int .i64 ((l.getD i (0,0)).2:Nat)):=by rw[hb1.cell (p:=⟨b,off+i*2+1,none⟩) hbs];exact q2
   have hbr:b<wr.heap.size:=qd hbs hb1.size
   have hix:∀W:World,(Instr.indexAt 54 (.slice oa l.length cap) (.int .i64 (i:Nat))).run Tryz.prog W=.ok (.pointer (some ⟨b,off+i*2,none⟩)) W:=fun W=>by
    have:=HX.out W .i64 (i:Nat) (by omega) (by omega)
    simpa using this
   have qby:l.getD i (0,0)∈l:=by
    have e:l[i]=l.getD i (0,0):=by simp[List.getD,h1]
    rw[<-e];exact List.getElem_mem h1
   obtain⟨qhc,qeS⟩:=HS.out _ qby;have HN:=q7 (fun W:World=>q7K qhc W)
   have HM:=q7 (fun W:World=>q8H qeS W)
   have hl1:(nmB (l.getD i (0,0)).1).length<=8:=O5;have hl2:(pX (l.getD i (0,0)).2).length<=18:=iJ 18 _ qeS
   have hl3:(mD (l.take i)).length<=42*1000:=by
    have:=wM (l.take i) (fun z hz=>Nat.lt_trans (HS.out z (List.mem_of_mem_take hz)).2 (by decide))
    rw[List.length_take]at this;omega
   have HT:=q7 (q0X h1);have HB1:=q7 hb1;generalize nmB (l.getD i (0,0)).1=A at*;generalize pX (l.getD i (0,0)).2=D at*;generalize (l.getD i (0,0)).1=x1 at*;generalize (l.getD i (0,0)).2=x2 at*;clear q1 q2 qby qhc qeS hb1 q8Z
   by_cases h0:i=0
   ·subst h0
    rw[List.take_zero]at*;have hz:mD []=[]:=rfl;rw[hz];have qlN:∀W:World,(Instr.indexAt 54 (.slice oa l.length cap) (.int .i64 0)).run Tryz.prog W=.ok (.pointer (some ⟨b,off,none⟩)) W:=fun W=>by simpa using hix W
    have d1:wr.cell? ⟨b,off,none⟩=some (.int .i64 (x1:Nat)):=by simpa using c1
    have d2:wr.cell? ⟨b,off+1,none⟩=some (.int .i64 (x2:Nat)):=by simpa using c2
    clear hix c1 c2;go_wp2;refine qY (by kernel_rfl) (by kernel_rfl) ?_
    repeat(first
     |(go_big_quiet_want;refine gR _ _ _ _ rfl _ _ rfl rfl (by simp only[qg,List.length_cons,List.length_nil];omega) ?_;go_simp;go_big_quiet_on)
     |go_big_quiet_step (first|(go_at_call 47;exact jx (HN.out _))|(go_at_call 48;exact jx (HM.out _))))
    refine wpQuiet_nil ?_;intro w1 hw1;have hb2:=qr hw1;have HB2:=q7 (qq HB1.out hb2);clear hw1 hb2;go_wp2
    go_roundg (l.length-(0+1))
    case measure=>omega
    case rel=>exact⟨0+1,by omega,by rfl,by rw[HT.out];simp,rfl,HB2.out⟩
   ·have h0i:decide ((i:Int)>0)=true:=by rw[decide_eq_true_iff];omega
    have z1:(⟨(mD (l.take i)).toArray⟩:ByteArray).size<=42000:=by rw[qN];omega
    have HZ:=q7 (jA (mD (l.take i)) [58,32]);have hT2:=HT.out;rw[if_neg h0]at hT2;have HT:=q7 hT2;clear hT2;generalize mD (l.take i)=P at*;go_wp2;rw[show(⟨P.toArray⟩:ByteArray)++⟨#[58,32]⟩=⟨(P++[58,32]).toArray⟩from HZ.out]
    refine qY (by kernel_rfl) (by kernel_rfl) ?_
    repeat(first
     |(go_big_quiet_want;refine gR _ _ _ _ rfl _ _ rfl rfl (by simp only[qg,List.length_cons,List.length_nil];omega) ?_;go_simp;go_big_quiet_on)
     |go_big_quiet_step (first|(go_at_call 47;exact jx (HN.out _))|(go_at_call 48;exact jx (HM.out _))))
    refine wpQuiet_nil ?_;intro w1 hw1;have hb2:=qr hw1;have HB2:=q7 (qq HB1.out hb2);clear hw1 hb2;go_wp2
    go_roundg (l.length-(i+1))
    case measure=>omega
    case rel=>exact⟨i+1,by omega,by congr 1,by rw[HT.out];simp,rfl,HB2.out⟩
  ·have h1i:decide ((i:Int)<(l.length:Nat))=false:=by rw[qm];omega
   have:i=l.length:=by omega
   subst this;go_wp2;go_ret
   exact⟨by simp,qt q8Z⟩
theorem sP{s:ByteArray}{a W:Nat}(hW:W=1\/W=2\/W=4)(h:a+W<=s.size)(hs:s.size<=4611686018427387904)(w:World):Calls Tryz.prog 44 #[.string s,.int .i64 a,.int .i64 W] w fun e w'=>e=.returned (.tuple #[.int .i64 (qJ s a W:Nat),.int .i64 0])/\∃x,w'=ext w x:=by
 have HW:=q7 (fun w=>q4Y hW w)
 have hW4:W<=4:=by omega
 have HIX:=q7 (fun(i:Nat) (h:i<s.size) (W:World)=>jS (P:=Tryz.prog) 9 Tryz.underlying9 h W)
 have c1:decide ((a:Int)>(s.size:Nat))=false:=by rw[qm];omega
 have c2:decide ((s.size:Int)-(a:Nat)<(W:Nat))=false:=by rw[qm];omega
 have c3:decide (s.size<a)=false:=by rw[qm];omega
 go_enter Tryz.func44,Tryz.ntmps44
 go_wp2_with((with_reducible go_at_call 70);refine(HW.out _).mono ?_;rintro en w2 ⟨rfl,x2,rfl⟩)
 go_loopg [8,9] W (fun gk uv iv wr=>∃(i u:Nat),i<=W/\iv=.int .i64 ((i:Int)-1)/\uv=.int .u64 u/\Hid (u=qJ s (a+i) (W-i))/\gk=i/\Below w.heap.size w wr)
 case atStart=>exact⟨W,0,q9 _,rfl,rfl,q7 (by rw[Nat.sub_self];rfl),rfl,qA (qj _ _) x2⟩
 case round=>
  obtain⟨i,u,hi,rfl,rfl,hu,rfl,q8Z⟩:=hrel
  have hub:u<4294967296:=by
   rw[hu.out]
   exact qd (dU _ _ _) (qa (qe (by decide) (show W-gk<=4 by omega)) (by decide))
  cases gk with
  |zero=>
   have HU:Hid (qJ s a W=u):=q7 (by rw[hu.out];rfl)
   have cR:decide ((9223372036854775808:Int)<=(u:Int))=false:=by rw[qm];omega
   go_wp2
   go_ret2
   exact⟨by rw[HU.out];rfl,qt q8Z⟩
  |succ i=>
   have hix:∀V:World,(Instr.index 9 (.string s) (.int .i64 ((a:Int)+(i:Int)))).run Tryz.prog V=.ok (.int .u8 (((bys s).getD (a+i) 0).toNat:Nat)) V:=fun V=>by
    have:=HIX.out (a+i) (by omega) V
    rwa [show((a+i:Nat):Int)=(a:Int)+i by omega]at this
   have y0:=kG (bys s) (a+i)
   have qle:u<16777216:=by
    rw[hu.out]
    exact qd (dU _ _ _) (qa (qe (by decide) (show W-(i+1)<=3 by omega)) (by decide))
   have HU:Hid (256*u+((bys s).getD (a+i) 0).toNat=qJ s (a+i) (W-i)):=q7 (by rw[show W-i=(W-(i+1))+1 by omega,bG (by omega),hu.out,Nat.add_assoc];omega)
   generalize ((bys s).getD (a+i) 0).toNat=y at*;go_wp2
   go_roundg i
   case measure=>omega
   case rel=>exact⟨i,256*u+y,by omega,by congr 1,by congr 1,HU,rfl,q8Z⟩
theorem V6{P:Program}{C:World->Prop}{o:Oper}{a:Act}{K:Act->Prop}(s d:TypeId)(x:Operand)(ho:o.op=.convert s d x)(v:Value)(hr:∀w',C w'->(convert s d (a.eval x)).run P w'=.ok v w')(h:K (a.put o.dst v)):o.quiet P a C K:=by
 refine⟨v,fun w' hw'=>?_,h⟩
 unfold Oper.quietAt execOp;simp only[ho,Sem.run_bind,Sem.run_pure,Result.andThen_ok,hr w' hw',Oper.quietUpon]
 exact⟨trivial,trivial⟩
end Go.Cm
namespace Go.Cm
section
variable {s : ByteArray} {pre M k : Nat} {z0 z : IS}
theorem P9(hk:jc s pre z0 k=(0,z))(hm:z.md≠3){e:Nat}(he:(eG s pre z).1=e)(h0:e≠0):jc s pre z0 (k+1)=(e,z):=by
 have hn:¬aK (jc s pre z0 k):=by rw[hk];exact fun h=>h.elim (fun h=>h rfl) hm
 rw[B5 hn (by rw[hk,he];exact h0),hk,he]
theorem J2(hM:M=16777216)(hk:jc s pre z0 k=(0,z))(hm:z.md≠3){z':IS}(he:eG s pre z=(0,z'))(hb:¬M<z'.h.length-pre):jc s pre z0 (k+1)=(0,z'):=by
 have hn:¬aK (jc s pre z0 k):=by rw[hk];exact fun h=>h.elim (fun h=>h rfl) hm
 rw[P8 hM hn (by rw[hk,he]) (by rw[hk,he];exact hb),hk,he]
theorem q4c(hM:M=16777216)(hk:jc s pre z0 k=(0,z))(hm:z.md≠3){z':IS}(he:eG s pre z=(0,z'))(hb:M<z'.h.length-pre):jc s pre z0 (k+1)=(3,{z' with h:=z'.h.take (pre+M)}):=by
 have hn:¬aK (jc s pre z0 k):=by rw[hk];exact fun h=>h.elim (fun h=>h rfl) hm
 rw[B6 hM hn (by rw[hk,he]) (by rw[hk,he];exact hb),hk,he]
structure Q0(s:ByteArray)(pre M:Nat)(z:IS)(i:Nat):Prop where
 le:i<=z.left
 av:z.p+8*i<=8*s.size
 room:z.h.length-pre+i<=M
def eA(s:ByteArray)(z:IS)(i:Nat):qK:=z.h++((bys s).drop (z.p/8)).take i
theorem kK(hp:z.p%8=0){i:Nat}(ha:z.p+8*i<=8*s.size):(eA s z i).length=z.h.length+i:=by
 unfold eA;rw[qg,List.length_take,List.length_drop,qF];omega
theorem dM(hmd:z.md=1):eG s pre z=dI (8*s.size) (bys s) z:=by
 unfold eG stI;rw[if_neg (by rw[hmd];decide),if_pos hmd]
theorem q1t(hM:M=16777216)(hk:jc s pre z0 k=(0,z))(hmd:z.md=1)(h8:z.p%8=0)(hpre:pre<=z.h.length)(h:Q0 s pre M z z.left):
  ∃k',jc s pre z0 k'=(0,cE {z with left:=0,p:=z.p+8*z.left,h:=eA s z z.left}):=by
 have hl:=kK (s:=s) h8 h.av;have ha:=h.av;have hr:=h.room
 by_cases h0:z.left=0
 ·refine⟨k+1,J2 hM hk (by rw[hmd];decide) ?_ ?_⟩
  ·rw[dM hmd]
   unfold dI;rw[if_pos h0];have e:eA s z z.left=z.h:=by unfold eA;rw[h0,List.take_zero,List.append_nil]
   rw[e,h0];have e2:({z with left:=0,p:=z.p+8*0,h:=z.h}:IS)=z:=by rw[<-h0,Nat.mul_comm,Nat.mul_eq_zero.2 (.inl h0)];rfl
   rw[e2]
  ·show¬M<(eA s z z.left).length-pre
   omega
 ·have qb3:min z.left ((8*s.size-z.p)/8)=z.left:=by omega
  have h1:jc s pre z0 (k+1)=(0,{z with left:=0,p:=z.p+8*z.left,h:=eA s z z.left}):=by
   refine J2 hM hk (by rw[hmd];decide) ?_ ?_
   ·rw[dM hmd]
    unfold dI;rw[qb3,if_neg h0,if_neg h0,Nat.sub_self]
    rfl
   ·show¬M<(eA s z z.left).length-pre
    omega
  refine⟨k+1+1,J2 hM h1 (by show z.md≠3;rw[hmd];decide) ?_ ?_⟩
  ·rw[dM (by exact hmd)]
   unfold dI;rw[if_pos rfl]
  ·show¬M<(eA s z z.left).length-pre
   omega
theorem V8(hM:M=16777216)(hk:jc s pre z0 k=(0,z))(hmd:z.md=1)(h8:z.p%8=0)(hpre:pre<=z.h.length){i:Nat}(h:Q0 s pre M z i)(hi:i<z.left)(hs:8*s.size<z.p+8*i+8):
  ∃k' z',jc s pre z0 k'=(2,z')/\z'.h=eA s z i:=by
 have hl:=kK (s:=s) h8 h.av;have ha:=h.av;have hr:=h.room;have qb3:min z.left ((8*s.size-z.p)/8)=i:=by omega
 by_cases h0:i=0
 ·refine⟨k+1,z,P9 hk (by rw[hmd];decide) ?_ (by decide),?_⟩
  ·rw[dM hmd]
   unfold dI;rw[qb3,if_neg (by omega),if_pos h0]
  ·unfold eA;rw[h0,List.take_zero,List.append_nil]
 ·have h1:jc s pre z0 (k+1)=(0,{z with left:=z.left-i,p:=z.p+8*i,h:=eA s z i}):=by
   refine J2 hM hk (by rw[hmd];decide) ?_ ?_
   ·rw[dM hmd]
    unfold dI;rw[qb3,if_neg (by omega),if_neg h0]
    rfl
   ·show¬M<(eA s z i).length-pre
    omega
  refine⟨k+1+1,_,P9 h1 (by show z.md≠3;rw[hmd];decide) ?_ (by decide),rfl⟩
  rw[dM (by exact hmd)]
  unfold dI;simp only;rw[if_neg (by omega),if_pos (by omega)]
theorem q3e(hM:M=16777216)(hk:jc s pre z0 k=(0,z))(hmd:z.md=1)(h8:z.p%8=0)(hpre:pre<=z.h.length){i:Nat}(h:Q0 s pre M z i)(hi:i<z.left)(hs:z.p+8*i+8<=8*s.size)(hb:M<=z.h.length-pre+i):
  ∃k' z',jc s pre z0 k'=(3,z')/\z'.h=eA s z i:=by
 have hl:=kK (s:=s) h8 h.av;have ha:=h.av;have hr:=h.room;obtain⟨m,hm⟩:∃m,m=min z.left ((8*s.size-z.p)/8):=⟨_,rfl⟩;have hmi:i<m:=by omega
 have hma:z.p+8*m<=8*s.size:=by omega
 have hl2:=kK (s:=s) h8 hma;refine⟨k+1,_,q4c hM hk (z':={z with left:=z.left-m,p:=z.p+8*m,h:=eA s z m}) (by rw[hmd];decide) ?_ ?_,?_⟩
 ·rw[dM hmd]
  unfold dI;rw[<-hm,if_neg (by omega),if_neg (by omega)]
  rfl
 ·show M<(eA s z m).length-pre
  omega
 ·show(eA s z m).take (pre+M)=eA s z i
  unfold eA;rw[List.take_append,List.take_of_length_le (by omega),List.take_take,show min (pre+M-z.h.length) m=i by omega]
end
theorem q1u{bs:qK}{i:Nat}(h:i<bs.length):dF (kB bs) (8*i) 8=(bs[i]).toNat:=by
 rw[<-s8 bs i h,dW]
 rfl
theorem q1v{s:ByteArray}{z:IS}(h8:z.p%8=0){i:Nat}(ha:z.p+8*i+8<=8*s.size):eA s z i++[UInt8.ofNat (dF (qH s) (z.p+8*i) 8)]=eA s z (i+1)/\dF (qH s) (z.p+8*i) 8<256:=by
 have hlt:z.p/8+i<(bys s).length:=by rw[qF];omega
 have e:dF (qH s) (z.p+8*i) 8=((bys s)[z.p/8+i]).toNat:=by
  rw[show z.p+8*i=8*(z.p/8+i) by omega]
  exact q1u hlt
 rw[e];refine⟨?_,UInt8.toNat_lt _⟩;have hl:i<((bys s).drop (z.p/8)).length:=by rw[List.length_drop];omega
 unfold eA;rw[qh,List.take_succ_eq_append_getElem hl,List.getElem_drop]
 congr 2
 simp
end Go.Cm
namespace Go.Cm
open Go.RowKit Go.Proofs
theorem q3f{P:Program}(w:World)(B:Nat)(t ty E:TypeId)(z:Value)(bytes:Nat)(ht:P.underlying t=some (.slice E))(q92:(P.info? E).map (fun i=>(i.zero,i.size,i.bytes))=some (some z,1,bytes))(hz:z.cells.size=1)(hby:bytes<=24)
  (v:Value) (xs:List Value) (hown:lN w B E v xs) (xv:Value) (news:List Value) (hx:Sl w xv news) (h1:∀u∈news,u.oneCell'=true) (q9P:0<news.length) (hlen:xs.length+news.length<=4294967296) (hB:B<=w.heap.size):
  ∃v' w',(Builtin.append_ #[t,t] ty #[v,xv]).run P w=.ok v' w'/\lN w' B E v' (xs++news)/\w.grownBy w' v.ownBlock/\(∀k,v'.ownBlock=some k->v.ownBlock=some k\/w.heap.size<=k):=by
 obtain⟨i,hi,hz0,hz1,hz2⟩:∃i0,P.info? E=some i0/\i0.zero=some z/\i0.size=1/\i0.bytes=bytes:=by
  cases hq:P.info? E with
  |none=>simp[hq]at q92
  |some i0=>simp[hq]at q92;exact⟨i0,rfl,q92.1,q92.2.1,q92.2.2⟩
 have hl1:xs.length+news.length<=maxLen:=by simp only[maxLen];omega
 have hl2:(xs.length+news.length)*bytes<=140737488355328:=by
  have:=Nat.mul_le_mul hlen hby;omega
 have hsl:=hown.sl;have hx0:=hx
 rcases hown with⟨hsm,hrow⟩
 rcases hrow with⟨rfl,rfl⟩|⟨g,cap,cur,fz,rfl,hbg,hg,hfz,hnc,hcm,hcs,q91⟩
 ·obtain⟨v',w',h2,h3,h6,h7⟩:=Y3 (P:=P) w B t ty E z bytes ht q92 hz hby (.slice none 0 0) [] (Own.nil w B E) xv news hx0 h1 hlen hB
  exact⟨v',w',h2,lN.of h3,h6,h7⟩
 obtain⟨oa,cx,b,off,rfl,hd,hc⟩:=hx;obtain rfl:=hd.hat q9P
 have hnews:∀(W:World),(∀k,k<w.heap.size->W.heap[k]? =w.heap[k]?)->∀j u,news[j]? =some u->W.cell? ((⟨b,off,none⟩:Addr).add j)=some u:=fun W hW j u hu=>by
  have hj:=(List.getElem?_eq_some_iff.1 hu).1;have e:=hc j hj;have hb:=hd.hblk (by omega)
  rw[aZ];unfold World.cell? at e⊢;rw[hW b hb,e]
  simp[List.getD,hu]
 have hf:=fun(W:World) hW=>run_firstCells_some (P:=P) W 1 news.length ⟨b,off,none⟩ news.length cx news (by omega) (hnews W hW)
 have q96:(xs++news).length<=140737488351232:=by rw[qg];omega
 by_cases hroom:xs.length+news.length<=cap
 ·have qcf:xs.length+news.length<=cur.size:=by rw[hcs];omega
  have hst:=dK P g xs.length E fz news 0 cur w hg hfz (by simpa using qcf) h1
  simp only[Nat.add_zero]at hst;generalize hR:(cur.toList.take xs.length++news++cur.toList.drop (xs.length+news.length)).toArray=R at hst
  have hRs:R.size=cur.size:=by
   rw[<-hR];simp only[List.size_toArray,qg,List.length_take,List.length_drop,Array.length_toList];omega
  refine⟨.slice (some ⟨g,0,none⟩) (xs.length+news.length) cap,w.setRow g R,?_,⟨q96,.inr ⟨g,cap,R,fz,?_,hbg,setRow_heap w g cur R E _ hg,by rw[hRs];exact hfz,?_,hcm,by rw[hRs];exact hcs,?_⟩⟩,⟨rfl,rfl,rfl,by simp,fun k _ hk=>setRow_other w g k _ (fun e=>hk (by simp[Value.ownBlock,e]))⟩,fun k hk=>.inl hk⟩
  ·have hf0:=hf w (fun _ _=>rfl)
   simp[Builtin.append_,run_underlying ht,sizeOf,typeInfo,hi,hz1,Builtin.lenOf,hroom,hf0,Addr.add_lit,hst]
  ·rw[qg]
  ·rw[qg];exact hroom
  ·rw[<-hR,q91]
   exact List.take_left
 ·have holds:∀j u,xs[j]? =some u->w.cell? ((⟨g,0,none⟩:Addr).add j)=some u:=fun j u hj=>by
   obtain⟨hjl,hju⟩:=List.getElem?_eq_some_iff.1 hj;rw[aZ,cell_of_row _ _ _ _ _ _ hg,Nat.zero_add];have:cur[j]? =(cur.toList.take xs.length)[j]? :=by rw[List.getElem?_take,if_pos hjl];simp
   rw[this,q91,hj]
  have hge:=grownCap_ge w (xs.length+news.length) cap E;have qeV:grownCap w (xs.length+news.length) cap E<=maxLen:=grownCap_le_maxLen w (xs.length+news.length) cap E hl1;refine⟨.slice (some ⟨w.heap.size,0,none⟩) (xs.length+news.length) (grownCap w (xs.length+news.length) cap E),w.drew.alloc (.cells (xs.toArray++news.toArray++Builtin.zeroCells z.cells (grownCap w (xs.length+news.length) cap E-(xs.length+news.length))) E),?_,⟨q96,.inr ⟨w.heap.size,_,_,(0,0),by rw[qg],hB,heap_alloc_new w.drew _,.inr rfl,by rw[qg];exact hge,qeV,?_,?_⟩⟩,⟨rfl,rfl,rfl,by simp,fun k hk _=>Below.heap_alloc w.drew _ k hk⟩,fun k hk=>.inr (by simp[Value.ownBlock]at hk;omega)⟩
  ·have hn:¬(xs.length+news.length<=cap):=hroom
   have qbI:¬(9223372036854775807<((xs.length:Int)+(news.length:Int))):=by omega
   have qbJ:¬(281474976710656<Builtin.nextslicecap (xs.length+news.length) cap*i.bytes):=by
    have:=growslice_fits (need:=xs.length+news.length) (old:=cap) (bytes:=bytes) (by omega) hl2
    rw[hz2];omega
   have hf0:=hf w.drew (fun _ _=>rfl)
   have hfo:=run_firstCells_some (P:=P) w.drew 1 xs.length ⟨g,0,none⟩ xs.length cap xs (by omega) (by simpa using holds)
   simp[Builtin.append_,run_underlying ht,sizeOf,typeInfo,zeroValue,hi,hz0,hz1,Builtin.lenOf,hn,qbI,qbJ,Question.forced,hf0,hfo,newRow,grownCap]
   congr 2
   apply Array.ext'
   simp[qh]
  ·simp only[Array.size_append,List.size_toArray,size_zeroCells,hz]
   omega
  ·simp only[Array.toList_append]
   show List.take _ (xs++news++_)=_
   rw[<-qg]
   exact List.take_left
theorem J3{P:Program}{ops:Array Oper}{rest:List Oper}{o:Oper}{a:Act}{w:World}{Q:Exit->Act->World->Prop}(hgd:o.guard=none)(s x:Operand)(t:TypeId)
  (ho:o.op=.call {callee:=.builtin .append,args:=#[s,x],argTypes:=#[t,t]})
  (B E:TypeId) (z:Value) (bytes:Nat) (ht:P.underlying t=some (.slice E)) (q92:(P.info? E).map (fun i=>(i.zero,i.size,i.bytes))=some (some z,1,bytes)) (hz:z.cells.size=1) (hby:bytes<=24)
  (v:Value) (xs:List Value) (hs:a.eval s=v) (hown:lN w B E v xs) (xv:Value) (news:List Value) (hxe:a.eval x=xv) (hx:Sl w xv news) (h1:∀u∈news,u.oneCell'=true) (q9P:0<news.length) (hlen:xs.length+news.length<=4294967296) (hB:B<=w.heap.size)
  (h:∀v' w',lN w' B E v' (xs++news)->w.grownBy w' v.ownBlock->(∀k,v'.ownBlock=some k->v.ownBlock=some k\/w.heap.size<=k)->wpList P ops Q rest (a.put o.dst v') w'):wpList P ops Q (o::rest) a w:=by
 obtain⟨v',w',hr,h2,h3,h4⟩:=q3f (P:=P) w B t o.type E z bytes ht q92 hz hby v xs hown xv news hx h1 q9P hlen hB;refine wpList_plain hgd fun K hK=>?_
 unfold Oper.wp execOp;simp only[ho,resolve,invoke,builtin,Sem.run_bind,Sem.run_pure,Result.andThen_ok,List.map_toArray,List.map_cons,List.map_nil,hs,hxe,hr]
 exact hK _ _ (h v' w' h2 h3 h4)
theorem bH{gk gr:Nat}{vb vb':Value}{w w1 w2:World}(h:Fx (mO gk gr vb) w w1)(hk:∀k,vb'.ownBlock=some k->vb.ownBlock=some k\/w.heap.size<=k)(k:Fx (mO gk gr vb') w1 w2):Fx (mO gk gr vb) w w2:=
 ⟨k.os.trans h.os,k.tape.trans h.tape,k.output.trans h.output,qa h.size k.size,fun i hi h1=>by
  rw[k.block i (qd hi h.size) (fun e=>?_),h.block i hi h1]
  rcases e with e|e|e
  ·exact h1 (.inl e)
  ·exact h1 (.inr (.inl e))
  ·rcases hk i e with h2|h2
   ·exact h1 (.inr (.inr h2))
   ·omega⟩
theorem fU{vb vb1 vb2:Value}{w w1:World}(h:∀k,vb1.ownBlock=some k->vb.ownBlock=some k\/w.heap.size<=k)(hs:w.heap.size<=w1.heap.size)(h2:∀k,vb2.ownBlock=some k->vb1.ownBlock=some k\/w1.heap.size<=k):∀k,vb2.ownBlock=some k->vb.ownBlock=some k\/w.heap.size<=k:=fun k e=>by
 rcases h2 k e with h3|h3
 ·exact h k h3
 ·exact .inr (qa hs h3)
def B8(B gk gr:Nat)(vb:Value)(s:ByteArray)(p:Nat)(H:qK)(pre c:Nat)(w:World)(e:Ending)(w':World):Prop:=
 ∃vb',e=.returned (.bool (decide (H.length-pre<16777216)))/\dB w' B gk gr vb' s p (if H.length-pre<16777216 then H++[UInt8.ofNat c]else H) pre/\Fx (mO gk gr vb) w w'/\(∀k,vb'.ownBlock=some k->vb.ownBlock=some k\/w.heap.size<=k)
theorem q84{w:World}{B gk gr p pre:Nat}{vb:Value}{s:ByteArray}{H:qK}(h:dB w B gk gr vb s p H pre)(hpre:pre<=H.length)(hp2:pre<=32768)(hb:H.length-pre<=16777216)(c:Nat)(hc:c<256):
  Calls Tryz.prog 134 #[.pointer (some ⟨gk,0,none⟩),.int .u8 c] w (B8 B gk gr vb s p H pre c w):=by
 have HH:=q7 h;obtain⟨o,cp,b,f,rfl,hd,-⟩:=h.own.head;have hm:=hd.len;rw[qz]at HH hm⊢;have c1:w.cell? ⟨gk,1,none⟩=some (.slice o H.length cp):=HH.out.box.cell (by simp)
 have c2:w.cell? ⟨gk,2,none⟩=some (.int .i64 (pre:Nat)):=HH.out.box.cell (by simp)
 have hg:=HH.out.lt.1;have hB:=HH.out.lt.2.2.2;have f1:=HH.out.box.free 1;have hBK:=HH.out.lt.2.2.1;obtain⟨M,hM⟩:∃M:Nat,M=16777216:=⟨_,rfl⟩;unfold B8;rw[<-hM]at hb⊢;have HHB:=q7 hb;clear h hd
 by_cases hlt:H.length-pre<M
 ·have hge:decide ((H.length:Int)-(pre:Nat)≥16777216)=false:=decide_eq_false (by omega)
  have HLT:=q7 hlt
  have HX:Hid (∀W:World,Sl (W.alloc (.cells #[.int .u8 (c:Nat)] 5)) (.slice (some ⟨W.heap.size,0,none⟩) 1 1) [.int .u8 (c:Nat)]):=q7 (fun W=>by
   have h1:=eJ W #[.int .u8 (c:Nat)] 5 (by simp)
   simpa using h1)
  have HC:Hid (qD H++[.int .u8 (c:Nat)]=qD (H++[UInt8.ofNat c])):=q7 (by
   rw[jC]
   congr 1
   simp only[qD,List.map_cons,List.map_nil];rw[show((UInt8.ofNat c).toNat:Int)=(c:Nat) by rw[UInt8.toNat_ofNat'];omega])
  have HLN:Hid ((qD H).length+[Value.int .u8 (c:Nat)].length<=4294967296):=q7 (by rw[qz];show H.length+1<=_;omega)
  have H1C:Hid (∀u∈[Value.int .u8 (c:Nat)],u.oneCell'=true):=q7 (by intro u hu;simp at hu;subst hu;rfl)
  clear hlt hb
  go_enter Tryz.func134,Tryz.ntmps134
  go_wp2
  go_quiet (fail)
  go_upto_region 3 with(fail)
  have HBD:=q7 (qC w nq);generalize w.drewN nq=w1 at*;have HH1:=q7 (HH.out.up HBD.out);clear c1 c2 f1 hg;have c1:w1.cell? ⟨gk,1,none⟩=some (.slice o H.length cp):=HH1.out.box.cell (by simp)
  have f1:=HH1.out.box.free 1;have hg:=HH1.out.lt.1;have HTO:=q7 (HH1.out.own.fx (qP (S:=fun _=>False) (qn w1 (.cells #[.int .u8 (c:Nat)] 5))) (fun _ _ e=>e))
  have HTB:Hid (B<=(w1.alloc (.cells #[.int .u8 (c:Nat)] 5)).heap.size):=q7 (qa HH1.out.lt.2.2.2 (qn w1 _).size);have HPS:Hid (0<[Value.int .u8 (c:Nat)].length):=q7 (by simp)
  go_wp2_with(at_builtin;refine J3 rfl (.tmp 20) (.tmp 22) 49 rfl B 5 (.int .u8 0) 1 Tryz.underlying49 (by kernel_rfl) rfl (by decide) (.slice o H.length cp) (qD H) rfl HTO.out (.slice (some ⟨w1.heap.size,0,none⟩) 1 1) [.int .u8 (c:Nat)] rfl (HX.out w1) H1C.out HPS.out HLN.out HTB.out ?_;intro v' w5 hown1 hg1 hk1;rw[HC.out]at hown1;obtain⟨o5,k5,q5,z5,hv5,-,-⟩:=hown1.head;obtain⟨l5,hl5⟩:∃l5,l5=(qD (H++[UInt8.ofNat c])).length:=⟨_,rfl⟩;rw[<-hl5]at hv5;subst hv5;clear hl5;have HO1:=q7 hown1;have HG1:=q7 hg1;have HK1:=q7 hk1;have hbx:=((HH1.out.box.up (qn w1 (.cells #[.int .u8 (c:Nat)] 5))).keep hg1 (.inr (fun e=>HH1.out.b1 e.symm)));have HBX:=q7 hbx;have c15:w5.cell? ⟨gk,1,none⟩=some (.slice o H.length cp):=hbx.cell (by simp);have f15:=hbx.free 1;have hg5:gk<w5.heap.size:=(hbx.lt gk rfl).2;clear hown1 hg1 hk1 hbx)
  go_ret;have hst:=HBX.out.store 1 (.slice o5 l5 k5)
  have hne:(Value.slice o5 l5 k5).ownBlock≠some gk:=fun e=>by
   rcases HK1.out gk e with h1|h1
   ·exact HH1.out.b1 h1
   ·have:=(qn w1 (.cells #[.int .u8 (c:Nat)] 5)).size
    have:=HH1.out.lt.1;omega
  have hnr:(Value.slice o5 l5 k5).ownBlock≠some gr:=fun e=>by
   rcases HK1.out gr e with h1|h1
   ·exact HH1.out.b2 h1
   ·have:=(qn w1 (.cells #[.int .u8 (c:Nat)] 5)).size
    have:=HH1.out.lt.2.1;omega
  have hrd:=(((HH1.out.rd.up (qn w1 (.cells #[.int .u8 (c:Nat)] 5))).own.keep HG1.out (.inr (fun e=>HH1.out.b2 e.symm))).keep hst.2 (.inr (fun e=>HH1.out.n1 (by injection e with e;exact e.symm))))
  have hf:Fx (fun k=>k=gk) w5 (w5.setCell ⟨gk,1,none⟩ (.slice o5 l5 k5)):=jn hst.2 (fun k e=>by injection e with e;exact e.symm)
  have hF1:Fx (mO gk gr (.slice o H.length cp)) w w5:=(qP (HBD.out.trans ((qn w1 (.cells #[.int .u8 (c:Nat)] 5)).mono HBD.out.size))).trans (jn HG1.out (fun k e=>.inr (.inr e)))
  have hsz:w.heap.size<=(w1.alloc (.cells #[.int .u8 (c:Nat)] 5)).heap.size:=qa HBD.out.size (qn w1 _).size
  exact⟨rfl,.slice o5 l5 k5,⟨hst.1,⟨hrd⟩,HO1.out.fx hf (fun k e z=>hne (by rw[e,z])),HH1.out.n1,hne,hnr,HH1.out.Br⟩,hF1.trans (hf.mono (fun k e=>.inl e)),fun k e=>(HK1.out k e).imp id (fun h=>qa hsz h)⟩
 ·have hge:decide ((H.length:Int)-(pre:Nat)≥16777216)=true:=decide_eq_true (by omega)
  have HLT:=q7 hlt;clear hlt hb
  go_enter Tryz.func134,Tryz.ntmps134
  go_wp2
  go_quiet (fail)
  go_wp2;go_ret;have HBD:=q7 (qC w nq)
  exact⟨rfl,_,HH.out.up HBD.out,qP HBD.out,fun _ e=>.inl e⟩
theorem q85(a:Nat)(ha:a<100000)(w:World):Calls Tryz.prog 149 #[.int .i64 (a:Nat)] w fun e w'=>e=.returned (.tuple #[.int .i64 ((bP a).1:Nat),.int .i64 ((bP a).2.1:Nat),.bool (bP a).2.2])/\∃x,w'=ext w x:=by
 by_cases h1:a=285
 ·subst h1
  exact q0O w
 by_cases h2:257<=a/\a<285
 ·obtain⟨i,rfl⟩:∃i,a=257+i:=⟨a-257,by omega⟩
  have e:bP (257+i)=(qL 3 4 i,spB 4 i,true):=by
   unfold bP;rw[if_neg h1,if_pos h2,show 257+i-257=i by omega]
  rw[e]
  exact q6q i (by omega) w
 ·have e:bP a=(0,0,false):=by unfold bP;rw[if_neg h1,if_neg h2]
  rw[e];have h3:((a:Int)==285)=false:=by rw[beq_eq_false_iff_ne];omega
  by_cases h4:a<257
  ·have h5:decide ((a:Int)<257)=true:=by rw[decide_eq_true_iff];omega
   clear h2 e
   go_enter Tryz.func149,Tryz.ntmps149
   go_wp2;refine bodyPost_ret (results_tmp3 rfl _ _ _) rfl ?_
   exact⟨rfl,(qt (by repeat(first|exact qj _ _|assumption|refine qw ?_ _|refine qk ?_|refine qA ?_ _|refine qs ?_ _)))⟩
  ·have h5:decide ((a:Int)<257)=false:=by rw[qm];omega
   have h6:decide ((a:Int)>285)=true:=by rw[decide_eq_true_iff];omega
   clear h2 e
   go_enter Tryz.func149,Tryz.ntmps149
   go_wp2;refine bodyPost_ret (results_tmp3 rfl _ _ _) rfl ?_
   exact⟨rfl,(qt (by repeat(first|exact qj _ _|assumption|refine qw ?_ _|refine qk ?_|refine qA ?_ _|refine qs ?_ _)))⟩
theorem q86(a:Nat)(ha:a<100000)(w:World):Calls Tryz.prog 150 #[.int .i64 (a:Nat)] w fun e w'=>e=.returned (.tuple #[.int .i64 ((gX a).1:Nat),.int .i64 ((gX a).2.1:Nat),.bool (gX a).2.2])/\∃x,w'=ext w x:=by
 by_cases h2:a<30
 ·have e:gX a=(qL 1 2 a,spB 2 a,true):=by unfold gX;rw[if_pos h2]
  rw[e];have:=q6s a (by omega) w
  rwa [Nat.zero_add]at this
 ·have e:gX a=(0,0,false):=by unfold gX;rw[if_neg h2]
  rw[e];have h5:decide ((a:Int)<0)=false:=by rw[qm];omega
  have h6:decide ((a:Int)>29)=true:=by rw[decide_eq_true_iff];omega
  clear h2 e
  go_enter Tryz.func150,Tryz.ntmps150
  go_wp2;refine bodyPost_ret (results_tmp3 rfl _ _ _) rfl ?_
  exact⟨rfl,(qt (by repeat(first|exact qj _ _|assumption|refine qw ?_ _|refine qk ?_|refine qA ?_ _|refine qs ?_ _)))⟩
theorem Q3{w:World}{B gk gr p pre:Nat}{vb:Value}{s:ByteArray}{H:qK}(h:dB w B gk gr vb s p H pre)(hs:s.size<=4294967296)(hp:p<=8*s.size)(b n:Nat)(hb:b<=40000)(hn:n<=32):
  Calls Tryz.prog 168 #[.pointer (some ⟨gk,0,none⟩),.int .i64 (b:Nat),.int .i64 (n:Nat)] w fun e w'=>e=.returned (.tuple #[.int .i64 ((numB (qH s) (8*s.size) p (b,n,true)).1:Nat),.int .i64 ((numB (qH s) (8*s.size) p (b,n,true)).2.1:Nat)])/\
   dB w' B gk gr vb s (numB (qH s) (8*s.size) p (b,n,true)).2.2 H pre/\Fx (mO gk gr vb) w w':=by
 have HH:=q7 h;have hg:=h.lt.1;have c0:w.cell? ⟨gk,0,none⟩=some (.pointer (some ⟨gr,0,none⟩)):=h.box.cell (by simp)
 have HBT:=q7 (U1 h.rd hs n hn hp);unfold aH at HBT;unfold numB;rw[if_neg (by simp)]
 simp only
 have hv:(jl (qH s) (8*s.size) p n).1<2^32:=by
  unfold jl;split
  ·exact qd (mM _ _ _) (qe (by decide) hn)
  ·exact Nat.pow_pos (by decide)
 generalize jl (qH s) (8*s.size) p n=D at*;obtain⟨v,er,q⟩:=D;simp only at HBT hv⊢;have hbv:b+v<=10000000000:=by omega
 clear h
 go_enter Tryz.func168,Tryz.ntmps168
 go_wp2_with((with_reducible go_at_call 133);(with_reducible refine HBT.out.mono ?_);rintro e w1 ⟨rfl,hb1,hg1⟩;have HR:=q7 (HH.out.read hb1 hg1);clear hb1 hg1)
 go_ret2
 exact⟨by go_num,HR.out.1,HR.out.2⟩
end Go.Cm
namespace Go.Cm
open Go.RowKit Go.Proofs
attribute [local irreducible] j8
def kL(B gk gr:Nat)(vb:Value)(s:ByteArray)(pre:Nat)(z0 z:IS)(w:World)(e:Ending)(w':World):Prop:=
 ∃(er:Nat) (vb':Value) (p' k':Nat) (z':IS),e=.returned (.int .i64 (er:Nat))/\dB w' B gk gr vb' s p' z'.h pre/\jc s pre z0 k'=(er,z')/\p'<=8*s.size/\
  (er=0->p'=z'.p/\z'.md=(if z.fin then 3 else 0)/\z'.st=z.st)/\Fx (mO gk gr vb) w w'/\(∀k,vb'.ownBlock=some k->vb.ownBlock=some k\/w.heap.size<=k)
theorem q5y{w:World}{B gk gr pre k:Nat}{vb:Value}{s:ByteArray}{z0 z:IS}(h:dB w B gk gr vb s z.p z.h pre)(hk:jc s pre z0 k=(0,z))(hi:IOk (8*s.size) pre z)(hmd:z.md=1)(hp2:pre<=32768)(hs:s.size<=4294967296):
  Calls Tryz.prog 88 #[.pointer (some ⟨gk,0,none⟩),.int .i64 (z.left:Nat)] w (kL B gk gr vb s pre z0 z w):=by
 have HH:=q7 h;obtain⟨n,hn⟩:∃n,n=z.left:=⟨_,rfl⟩;have hn2:n<=65535:=by rw[hn];exact hi.left
 have HN:=q7 hn;have H8:=q7 (hi.al hmd);have HPL:=q7 hk;have HI:=q7 hi;have HMD:=q7 hmd;obtain⟨M,hM⟩:∃M:Nat,M=16777216:=⟨_,rfl⟩;have HMM:=q7 hM;have hroom:=hi.big;rw[<-hM]at hroom;have HRM:=q7 hroom;have hzp:=hi.p;have HZP:=q7 hzp;rw[<-hn];clear h hn hk hi hmd hM hroom hzp
 go_enter Tryz.func88,Tryz.ntmps88
 go_wp2
 go_loopg [5,6,7] (n+1) (fun gq iv cv ev wr=>∃(i:Nat) (vr:Value),iv=.int .i64 i/\Q0 s pre M z i/\dB wr B gk gr vr s (z.p+8*i) (eA s z i) pre/\Fx (mO gk gr vb) w wr/\(∀k,vr.ownBlock=some k->vb.ownBlock=some k\/w.heap.size<=k)/\gq=n+1-i)
 case atStart=>
  refine⟨0,vb,rfl,⟨qc _,HZP.out,HRM.out⟩,?_,Fx.refl _ _,fun _ e=>.inl e,rfl⟩
  have e:eA s z 0=z.h:=by unfold eA;rw[List.take_zero,List.append_nil]
  rw[e];exact HH.out
 case round=>
  obtain⟨i,vr,rfl,hat,hwk,hfx,hov,rfl⟩:=hrel;have HAT:=q7 hat;have HW:=q7 hwk;have HFX:=q7 hfx;have HOV:=q7 hov;have hle:i<=n:=by rw[HN.out];exact hat.le
  have hg:=hwk.lt.1;have c0:wr.cell? ⟨gk,0,none⟩=some (.pointer (some ⟨gr,0,none⟩)):=hwk.box.cell (by simp)
  clear hat hwk hfx hov
  by_cases hlt:i<n
  ·have q9w:decide (i<n)=true:=by rw[decide_eq_true_iff];exact hlt
   have HBT:=q7 (U1 HW.out.rd hs 8 (by decide) HAT.out.av)
   unfold aH at HBT;rw[show((8:Nat):Int)=8 from rfl]at HBT
   by_cases hav:z.p+8*i+8<=8*s.size
   ·obtain⟨hnx,hv⟩:=q1v (s:=s) H8.out hav
    have hbt:jl (qH s) (8*s.size) (z.p+8*i) 8=(dF (qH s) (z.p+8*i) 8,0,z.p+8*i+8):=by unfold jl;rw[if_pos hav]
    rw[hbt]at HBT;generalize dF (qH s) (z.p+8*i) 8=v at*;simp only at HBT;have HNX:=q7 hnx;have HLE:=q7 (kK (s:=s) (z:=z) H8.out HAT.out.av);have q9M:=q7 HI.out.hpre;have HAV:=q7 hav;clear hbt hnx hav
    go_upto_region 7 with((with_reducible go_at_call 133);(with_reducible refine HBT.out.mono ?_);rintro e w1 ⟨rfl,hb1,hg1⟩;have HR:=q7 (HW.out.read hb1 hg1);clear hb1 hg1)
    have HPT:=q7 (q84 HR.out.1 (by have:=HLE.out;have:=q9M.out;omega) hp2 (by have:=HLE.out;have:=HAT.out.room;have:=HMM.out;have:=q9M.out;omega) v hv)
    unfold B8 at HPT;rw[<-HMM.out]at HPT;have hvm:((v:Int))%256=(v:Nat):=by omega
    have HFR:Hid (Fx (mO gk gr vb) w w1):=q7 (bH HFX.out HOV.out HR.out.2)
    by_cases hrm:(eA s z i).length-pre<M
    ·rw[decide_eq_true hrm,if_pos hrm,HNX.out]at HPT
     have HRR:=q7 hrm;clear hrm
     go_wp2_with((with_reducible go_at_call 134);(try rw[hvm]);(with_reducible refine HPT.out.mono ?_);rintro e w2 ⟨vb2,rfl,hw2,hf2,ho2⟩;have HW2:=q7 hw2;have HF2:=q7 (bH HFR.out HOV.out hf2);have HO2:=q7 (fU HOV.out HFR.out.size ho2);clear hw2 hf2 ho2)
     go_roundg (n+1-(i+1))
     case measure=>omega
     case rel=>
      refine⟨i+1,vb2,by go_num,⟨by have:=HN.out;omega,by have:=HAV.out;omega,?_⟩,HW2.out,HF2.out,HO2.out,rfl⟩
      have:=HRR.out;have:=HLE.out;have:=q9M.out;omega
    ·rw[decide_eq_false hrm,if_neg hrm]at HPT
     obtain⟨k',z',e1,e2⟩:=q3e HMM.out HPL.out HMD.out H8.out q9M.out HAT.out (by rw[<-HN.out];exact hlt) HAV.out (by have:=HLE.out;have:=q9M.out;omega)
     have HE1:=q7 e1;have HE2:=q7 e2;clear hrm e1 e2
     go_wp2_with((with_reducible go_at_call 134);(try rw[hvm]);(with_reducible refine HPT.out.mono ?_);rintro e w2 ⟨vb2,rfl,hw2,hf2,ho2⟩;have HW2:=q7 hw2;have HF2:=q7 (bH HFR.out HOV.out hf2);have HO2:=q7 (fU HOV.out HFR.out.size ho2);clear hw2 hf2 ho2)
     go_ret;unfold kL
     exact⟨3,vb2,_,k',z',rfl,by rw[HE2.out];exact HW2.out,HE1.out,HAV.out,fun e=>absurd e (by decide),HF2.out,HO2.out⟩
   ·have hbt:jl (qH s) (8*s.size) (z.p+8*i) 8=(0,2,z.p+8*i):=by unfold jl;rw[if_neg hav]
    rw[hbt]at HBT;obtain⟨k',z',e1,e2⟩:=V8 HMM.out HPL.out HMD.out H8.out HI.out.hpre HAT.out (by rw[<-HN.out];exact hlt) (by omega)
    have HE1:=q7 e1;have HE2:=q7 e2;simp only at HBT;clear hbt hav e1 e2
    go_wp2_with((with_reducible go_at_call 133);(with_reducible refine HBT.out.mono ?_);rintro e w1 ⟨rfl,hb1,hg1⟩;have HR:=q7 (HW.out.read hb1 hg1);clear hb1 hg1)
    go_ret;unfold kL
    exact⟨2,vr,_,k',z',rfl,by rw[HE2.out];exact HR.out.1,HE1.out,HAT.out.av,fun e=>absurd e (by decide),bH HFX.out HOV.out HR.out.2,HOV.out⟩
  ·have q9w:decide (i<n)=false:=by rw[qm];exact hlt
   have hin:i=z.left:=by rw[<-HN.out];omega
   subst hin;obtain⟨k',e1⟩:=q1t HMM.out HPL.out HMD.out H8.out HI.out.hpre HAT.out;have HE1:=q7 e1;clear e1;go_wp2;go_ret;unfold kL
   exact⟨0,vr,_,k',_,rfl,HW.out,HE1.out,HAT.out.av,fun _=>⟨rfl,rfl,rfl⟩,HFX.out,HOV.out⟩
end Go.Cm
namespace Go.Cm
open Go.RowKit Go.Proofs
def tU(B gk gr:Nat)(vb:Value)(s:ByteArray)(pre:Nat)(Y:Nat×IS)(w:World)(e:Ending)(w':World):Prop:=
 ∃(vb':Value) (p':Nat),e=.returned (.int .i64 (Y.1:Nat))/\dB w' B gk gr vb' s p' Y.2.h pre/\p'<=8*s.size/\(Y.1=0->p'=Y.2.p)/\Fx (mO gk gr vb) w w'/\(∀k,vb'.ownBlock=some k->vb.ownBlock=some k\/w.heap.size<=k)
theorem B9{L:List Nat}(h:bE (nls L)=0):L.length<=320/\(∀x∈L,x<=15)/\jp L<=32768:=by
 obtain⟨L',hL',h1,h2,h3⟩:=gL h
 have e:L=L':=by
  have:=congrArg (List.map Int.toNat) hL'
  rwa [jm,jm]at this
 subst e
 exact⟨h1,h2,h3⟩
theorem q1w{M pre:Nat}{H:qK}{d n i:Nat}(hi:i<=n)(he:H.length+i=pre+M):(ju H d n).take (pre+M)=ju H d i:=by
 obtain⟨m,rfl⟩:∃m,n=i+m:=⟨n-i,by omega⟩
 rw[sY];obtain⟨c,hc,-⟩:=nW (ju H d i) d m;rw[hc,List.take_append_of_le_length (by rw[jV];omega),List.take_of_length_le (by rw[jV];omega)]
theorem q5z{w:World}{B gk gr p pre sym:Nat}{vb v:Value}{s:ByteArray}{z:IS}(h:dB w B gk gr vb s p z.h pre)(hp:p<=8*s.size)(hD:∀W,Fx (mO gk gr vb) w W->qT W v (nls z.di))(he:bE (nls z.di)=0)(hpre:pre<=z.h.length)(q90:z.h.length-pre<=16777216)(hp2:pre<=32768)(hs:s.size<=4294967296)(qaD:sym<100000):
  Calls Tryz.prog 136 #[.pointer (some ⟨gk,0,none⟩),.int .i64 (sym:Nat),v] w (tU B gk gr vb s pre (lF pre (iQ (qH s) (8*s.size) z sym p)) w):=by
 obtain⟨oa,cap,bl,off,hv,-,-⟩:=(hD w (Fx.refl _ _)).open;rw[hv]at hD⊢;clear hv;have HH:=q7 h;have HD:=q7 hD;obtain⟨hl1,hl2,hl3⟩:=B9 he;have HLN:=q7 (q85 sym qaD);obtain⟨Y,hY⟩:∃Y,Y=lF pre (iQ (qH s) (8*s.size) z sym p):=⟨_,rfl⟩;rw[<-hY];have HY:=q7 hY;have hle:=fun h=>I4 (s:=sym) h
 obtain⟨LB,hLB⟩:∃LB,LB=bP sym:=⟨_,rfl⟩;rw[<-hLB]at HLN hle;have HLB:=q7 hLB;have HPP:=q7 hpre;have HBG:=q7 q90;obtain⟨b,n,is⟩:=LB;simp only at HLN hle;clear h hD hY hLB hpre q90
 cases is with
 |false=>
  go_enter Tryz.func136,Tryz.ntmps136
  go_wp2_with((with_reducible go_at_call 149);(with_reducible refine(HLN.out _).mono ?_);rintro e w1 ⟨rfl,hx⟩;have HB1:=q7 (qr hx);clear hx)
  go_ret
  have hy:Y=(9,z):=by
   rw[HY.out];unfold iQ numB;rw[<-HLB.out]
   rfl
  rw[hy];unfold tU
  exact⟨vb,p,rfl,HH.out.up HB1.out,hp,fun e=>absurd e (show¬(9:Nat)=0 by decide),qP HB1.out,fun _ e=>.inl e⟩
 |true=>
  obtain⟨q1,q2,q3,q4⟩:=hle rfl;have HF1:=q7 (fun(W:World) (hb:Below w.heap.size w W)=>Q3 (HH.out.up hb) hs hp b n (by omega) (by omega))
  have hnb:numB (qH s) (8*s.size) p (bP sym)=numB (qH s) (8*s.size) p (b,n,true):=by rw[<-HLB.out]
  have hok:=fun e=>mL (N:=qH s) (T:=8*s.size) (p:=p) (y:=(b,n,true)) e
  have hvl:=mM (qH s) p n
  have q9Q:(numB (qH s) (8*s.size) p (b,n,true)).2.2<=8*s.size:=by
   unfold numB;rw[if_neg (by simp)]
   exact(bF hp).1
  have HNB:=q7 hnb;unfold iQ at HY;rw[hnb]at HY;generalize numB (qH s) (8*s.size) p (b,n,true)=D at*;obtain⟨len,e1,p1⟩:=D;simp only at HF1 hok q9Q HY;clear hnb HNB;have HPL:=q7 q9Q;have HOK:=q7 hok;clear hok q9Q
  go_enter Tryz.func136,Tryz.ntmps136
  go_upto_region 5 with(first
   |((with_reducible go_at_call 149);(with_reducible refine(HLN.out _).mono ?_);rintro e w1 ⟨rfl,hx⟩;have HB1:=q7 (qr hx);clear hx)
   |((with_reducible go_at_call 168);(with_reducible refine(HF1.out _ HB1.out).mono ?_);rintro e w2 ⟨rfl,hw2,hf2⟩;have HW2:=q7 hw2;have HF2:Hid (Fx (mO gk gr vb) w w2):=q7 ((qP HB1.out).trans hf2);clear hw2 hf2))
  by_cases he1:e1=0
  ·subst he1
   rw[if_neg (fun h=>h rfl)]at HY
   obtain⟨-,-,-,hlen⟩:=HOK.out rfl;have qaL:len<=258:=by omega
   have HRD:=q7 (q0b (.slice oa (nls z.di).length cap) z.di (HD.out w2 HF2.out) (qj _ _) HW2.out.rd hl1 hl2 hl3 hs HPL.out);unfold eY at HRD;have c0:w2.cell? ⟨gk,0,none⟩=some (.pointer (some ⟨gr,0,none⟩)):=HW2.out.box.cell (by simp)
   have hg:=HW2.out.lt.1;unfold pZ at HY;clear hlen HF1 HOK HLN hle hvl q1 q2 q3 q4
   go_upto_region 8 with((with_reducible go_at_call 135);(with_reducible refine HRD.out.mono ?_);rintro e w3 ⟨a,er,d,rfl,hrn,hb3,hg3⟩;have HR3:=q7 hrn;have HW3:=q7 (HW2.out.read hb3 hg3).1;have HF3:=q7 (HF2.out.trans (HW2.out.read hb3 hg3).2);clear hrn hb3 hg3)
   obtain⟨ra,re,rd⟩:=mX HR3.out (dP z.di (qH s/2^p1) (8*s.size-p1));rw[<-ra,<-re,<-rd]at HY;have HRL:=q7 (rX HR3.out)
   have hra:a<100000:=by
    rcases HR3.out with⟨h1,-⟩|⟨-,h1,-⟩<;>omega
   have HP3:Hid (p1+d<=8*s.size):=q7 (by have:=HRL.out;have:=HPL.out;omega)
   clear ra re rd HRD c0 hg HR3
   by_cases her:er=0
   ·subst her
    rw[if_neg (fun h=>h rfl)]at HY
    have HDS:=q7 (q86 a hra);have hle:=fun h=>I5 (s:=a) h
    obtain⟨LD,hLD⟩:∃LD,LD=gX a:=⟨_,rfl⟩;rw[<-hLD]at HDS hle HY;obtain⟨b2,n2,is2⟩:=LD;simp only at HDS hle;clear hLD
    cases is2 with
    |false=>
     go_wp2_with((with_reducible go_at_call 150);(with_reducible refine(HDS.out _).mono ?_);rintro e w4 ⟨rfl,hx⟩;have HB4:=q7 (qr hx);clear hx)
     go_ret
     have hy:Y=(9,z):=by
      rw[HY.out];unfold numB
      rfl
     rw[hy];unfold tU
     exact⟨vb,p1+d,rfl,HW3.out.up HB4.out,HP3.out,fun e=>absurd e (show¬(9:Nat)=0 by decide),HF3.out.trans (qP HB4.out),fun _ e=>.inl e⟩
    |true=>
     obtain⟨q1,q2,q3⟩:=hle rfl;have hpw:0<2^n2:=Nat.pow_pos (by decide)
     have HF4:=q7 (fun(W:World) (hb:Below w3.heap.size w3 W)=>Q3 (HW3.out.up hb) hs HP3.out b2 n2 (by omega) (by omega))
     have hok:=fun e=>mL (N:=qH s) (T:=8*s.size) (p:=p1+d) (y:=(b2,n2,true)) e
     have hvl:=mM (qH s) (p1+d) n2
     have q9Q:(numB (qH s) (8*s.size) (p1+d) (b2,n2,true)).2.2<=8*s.size:=by
      unfold numB;rw[if_neg (by simp)]
      exact(bF HP3.out).1
     generalize numB (qH s) (8*s.size) (p1+d) (b2,n2,true)=D2 at*;obtain⟨ds,e4,p4⟩:=D2;simp only at HF4 hok q9Q HY;have qdW:=q7 q9Q
     have hds:e4=0->1<=ds/\ds<=32768:=fun e=>by
      obtain⟨-,-,-,h⟩:=hok e;omega
     unfold nV at HY;simp only at HY;clear hok q9Q hle hvl
     go_upto_region 14 with(first
      |((with_reducible go_at_call 150);(with_reducible refine(HDS.out _).mono ?_);rintro e w4 ⟨rfl,hx⟩;have HB4:=q7 (qr hx);clear hx)
      |((with_reducible go_at_call 168);(with_reducible refine(HF4.out _ HB4.out).mono ?_);rintro e w5 ⟨rfl,hw2,hf2⟩;have HW5:=q7 hw2;have HF5:Hid (Fx (mO gk gr vb) w w5):=q7 (HF3.out.trans ((qP HB4.out).trans hf2));clear hw2 hf2))
     by_cases he4:e4=0
     ·subst he4
      rw[if_neg (fun h=>h rfl)]at HY
      obtain⟨hd1,hd2⟩:=hds rfl;obtain⟨vo,vc,vbk,vf,hvb,hvd,hvc⟩:=HW5.out.own.head;have hvm:=hvd.len;rw[qz]at hvb hvm;have HVB:=q7 hvb;have c1:w5.cell? ⟨gk,1,none⟩=some (.slice vo z.h.length vc):=by rw[<-hvb];exact HW5.out.box.cell (by simp)
      have hg:=HW5.out.lt.1;have hzl:z.h.length<=16809984:=by have:=HBG.out;omega
      clear hvd hvc hvb HDS HF4
      by_cases qaP:z.h.length<ds
      ·have hfr:decide ((ds:Int)>(z.h.length:Nat))=true:=decide_eq_true (by omega)
       have hy:Y=(10,z):=by
        rw[HY.out,if_pos (by omega)]
        unfold lF;rw[if_pos (show¬(10:Nat)=0 by decide)]
       have hfn:¬ds<=z.h.length:=by omega
       go_wp2;go_ret
       try rw[hy]
       unfold tU
       exact⟨vb,p4,rfl,HW5.out,qdW.out,fun e=>absurd e (show¬(10:Nat)=0 by decide),HF5.out,fun _ e=>.inl e⟩
      ·have hfr:decide ((ds:Int)>(z.h.length:Nat))=false:=decide_eq_false (by omega)
       have qm6:decide ((ds:Int)>32768)=false:=decide_eq_false (by omega)
       have qm5:(ds:Int)<=32768:=by omega
       have qm4:ds<=z.h.length:=by omega
       rw[if_neg (by omega)]at HY
       obtain⟨M,hM⟩:∃M:Nat,M=16777216:=⟨_,rfl⟩;have HMM:=q7 hM;have HDL:Hid (1<=ds/\ds<=z.h.length):=q7 ⟨hd1,by omega⟩
       clear hM
       go_upto_region 19 with(fail)
       go_loopg [19] (len+1) (fun gq iv wr=>∃(i:Nat) (vr:Value),iv=.int .i64 i/\i<=len/\z.h.length-pre+i<=M/\dB wr B gk gr vr s p4 (ju z.h ds i) pre/\Fx (mO gk gr vb) w wr/\(∀k,vr.ownBlock=some k->vb.ownBlock=some k\/w.heap.size<=k)/\gq=len+1-i)
       case atStart=>
        exact⟨0,vb,rfl,qc _,by rw[HMM.out];exact HBG.out,HW5.out,HF5.out,fun _ e=>.inl e,rfl⟩
       case round=>
        obtain⟨i,vr,rfl,hil,hrm,hwk,hfx,hov,rfl⟩:=hrel;have HW:=q7 hwk;have HFX:=q7 hfx;have HOV:=q7 hov;have HRM:=q7 hrm;clear c1 hg hwk hfx hov
        by_cases hlt:i<len
        ·have q9w:decide (i<len)=true:=by rw[decide_eq_true_iff];exact hlt
         obtain⟨xo,xc,xb,xf,hxb,hxd,hxc⟩:=HW.out.own.head;rw[qz,jV]at hxb hxd hxc;obtain⟨j,hj⟩:∃j,j=z.h.length+i-ds:=⟨_,rfl⟩;have hdl:=HDL.out;have hjl:j<z.h.length+i:=by omega
         obtain⟨LL,hLL⟩:∃LL,LL=z.h.length+i:=⟨_,rfl⟩;rw[<-hLL]at hxb hxd hxc hj hjl;have c1:wr.cell? ⟨gk,1,none⟩=some (.slice xo LL xc):=by rw[<-hxb];exact HW.out.box.cell (by simp)
         have hg:=HW.out.lt.1;have hji:((LL:Nat):Int)-(ds:Nat)=(j:Nat):=by omega
         have HLL:=q7 hLL;have hix:=fun W kd=>qQ (P:=Tryz.prog) 49 5 Tryz.underlying49 (by kernel_rfl) hxd W kd (j:Int) (by omega) (by omega)
         simp only[Int.toNat_natCast]at hix;have hLb:LL<=40000000:=by have:=HMM.out;omega
         have qiK:=hxd.hblk (by omega)
         have hcell:wr.cell? ⟨xb,xf+j,none⟩=some (.int .u8 (((ju z.h ds i).getD j 0).toNat:Nat)):=by
          rw[hxc j hjl];have:j<(ju z.h ds i).length:=by rw[jV,<-hLL];exact hjl
          simp[qD,List.getD,this]
         have HNX:Hid (ju z.h ds i++[UInt8.ofNat ((ju z.h ds i).getD j 0).toNat]=ju z.h ds (i+1)):=q7 (by
          rw[ju,jV,<-hLL,hj]
          congr 2
          simp)
         have qf0:((ju z.h ds i).getD j 0).toNat<256:=UInt8.toNat_lt _;generalize ((ju z.h ds i).getD j 0).toNat=bt at*;have HLC:=q7 (jV z.h ds i);clear hLL hj hxc hxd hxb;have HPT:=q7 (fun(W:World) (hb:Below wr.heap.size wr W)=>q84 (HW.out.up hb) (by rw[jV];have:=HPP.out;omega) hp2 (by rw[jV];have:=HPP.out;have:=HMM.out;omega) bt qf0)
         unfold B8 at HPT;rw[<-HMM.out,HNX.out,HLC.out]at HPT
         go_upto_region 21 with(fail)
         refine qZ [0,1,2,3,4,5,6,7,8,9,10,11,12,13] [] [14,15] (by kernel_rfl) (by kernel_rfl) ?_
         simp only[pk]
         repeat(go_big_quiet_step (fail))
         refine wpQuiet_nil ?_;have HBD:=q7 (qC wr 1);rw[<-World.drew_is_drewN]at HBD;generalize wr.drew=w6 at*;unfold qy;unfold qy;have HFR:Hid (Fx (mO gk gr vb) w w6):=q7 (HFX.out.trans (qP HBD.out));have HPC:=q7 (HPT.out w6 HBD.out);clear HPT c1 hg qiK hcell hix
         by_cases hr2:z.h.length+i-pre<M
         ·rw[decide_eq_true hr2,if_pos hr2]at HPC
          have HR2:=q7 hr2;clear hr2
          go_wp2_with(fail)
          (with_reducible refine HPC.out.mono ?_)
          rintro e w7 ⟨vb2,rfl,hw2,hf2,ho2⟩;have HW7:=q7 hw2;have HF7:=q7 (bH HFR.out HOV.out hf2);have HO7:=q7 (fU HOV.out HFR.out.size ho2);clear hw2 hf2 ho2;go_wp2;refine⟨trivial,?_⟩;unfold qy;go_wp2;refine⟨trivial,?_⟩;unfold qy;go_wp2
          go_roundg (len+1-(i+1))
          case measure=>omega
          case rel=>exact⟨i+1,vb2,by go_num,hlt,by have:=HR2.out;have:=HPP.out;omega,HW7.out,HF7.out,HO7.out,rfl⟩
         ·rw[decide_eq_false hr2,if_neg hr2]at HPC
          have HR2:=q7 hr2;clear hr2
          go_wp2_with(fail)
          (with_reducible refine HPC.out.mono ?_)
          rintro e w7 ⟨vb2,rfl,hw2,hf2,ho2⟩;have HW7:=q7 hw2;have HF7:=q7 (bH HFR.out HOV.out hf2);have HO7:=q7 (fU HOV.out HFR.out.size ho2);clear hw2 hf2 ho2;go_wp2;refine⟨trivial,?_⟩;unfold qy;go_wp2;refine⟨trivial,?_⟩;unfold qy
          have hy:Y=(3,{z with p:=p4,h:=ju z.h ds i}):=by
           rw[HY.out];unfold lF;rw[<-HMM.out];have e1:z.h.length+i=pre+M:=by have:=HR2.out;have:=HRM.out;have:=HPP.out;omega
           rw[if_neg (fun h=>h rfl),if_pos (by show M<(ju z.h ds len).length-pre;rw[jV];omega)]
           show(3,({z with p:=p4,h:=(ju z.h ds len).take (pre+M)}:IS))=_
           rw[q1w (Nat.le_of_lt hlt) e1]
          have HYY:=q7 hy;clear hy;go_wp2;go_ret;rw[HYY.out];unfold tU
          exact⟨vb2,p4,rfl,HW7.out,qdW.out,fun e=>absurd e (show¬(3:Nat)=0 by decide),HF7.out,HO7.out⟩
        ·have q9w:decide (i<len)=false:=by rw[qm];exact hlt
         obtain rfl:i=len:=by omega
         have hy:Y=(0,{z with p:=p4,h:=ju z.h ds i}):=by
          rw[HY.out];unfold lF;rw[<-HMM.out];rw[if_neg (fun h=>h rfl),if_neg (by show¬M<(ju z.h ds i).length-pre;rw[jV];have:=HRM.out;have:=HPP.out;omega)]
         have HYY:=q7 hy;clear hy;go_wp2;go_ret;rw[HYY.out];unfold tU
         exact⟨vr,p4,rfl,HW.out,qdW.out,fun _=>rfl,HFX.out,HOV.out⟩
     ·rw[if_pos he4]at HY
      have qmd:((e4:Int)==0)=false:=by simpa using he4
      go_wp2;go_ret
      have hy:Y=(e4,z):=by
       rw[HY.out];unfold lF;rw[if_pos he4]
      rw[hy];unfold tU
      exact⟨vb,p4,rfl,HW5.out,qdW.out,fun e=>absurd e he4,HF5.out,fun _ e=>.inl e⟩
   ·rw[if_pos her]at HY
    have qh5:((er:Int)==0)=false:=by simpa using her
    go_wp2;go_ret
    have hy:Y=(er,z):=by
     rw[HY.out];unfold lF;rw[if_pos her]
    rw[hy];unfold tU
    exact⟨vb,p1+d,rfl,HW3.out,HP3.out,fun e=>absurd e her,HF3.out,fun _ e=>.inl e⟩
  ·rw[if_pos he1]at HY
   have qmf:((e1:Int)==0)=false:=by simpa using he1
   go_wp2;go_ret
   have hy:Y=(e1,z):=by
    rw[HY.out];unfold lF;rw[if_pos he1]
   rw[hy];unfold tU
   exact⟨vb,p1,rfl,HW2.out,HPL.out,fun e=>absurd e he1,HF2.out,fun _ e=>.inl e⟩
def sA(a b:Int):Array Value:=#[.int .i64 a,.int .i64 b]
theorem C0(W:World)(a n a' n':Int):(Op.equalIn 10000 102 (.agg (sA a n)) (.agg (sA a' n'))).run Tryz.prog W=.ok (decide (a=a'/\n=n')) W:=by
 have hu:Tryz.prog.underlying 102=some (.struct (Tryz.prog.fieldsOf 102)):=by simp only[Program.fieldsOf,Tryz.underlying102]
 rw[run_equalIn_struct W 9999 102 _ _ hu (by kernel_rfl)]
 simp only[Program.fieldsOf,Tryz.underlying102];have p0:=fun(W:World) (a n:Int)=>lB W (sA a n) 0 a rfl
 have p1:=fun(W:World) (a n:Int)=>lB W (sA a n) 1 n rfl
 have ei:∀(a b:Int) (W:World),(Op.equalIn 9999 3 (.int .i64 a) (.int .i64 b)).run Tryz.prog W=.ok (a==b) W:=fun a b W=>run_equalIn_int W 9998 3 .i64 .i64 a b Tryz.underlying3
 simp only[Op.eqFields,ne_eq,String.reduceEq,not_false_eq_true,if_true,Sem.run_bind,Sem.run_ite,Sem.run_pure,p0,p1,Result.andThen_ok,ei]
 have hd:decide (a=a'/\n=n')=(a==a'&&n==n'):=by
  rw[Bool.eq_iff_iff,decide_eq_true_iff];simp only[Bool.and_eq_true,beq_iff_eq]
 rw[hd];generalize (a==a')=b1;generalize (n==n')=b2
 cases b1<;>cases b2<;>rfl
theorem q73(W:World)(a n a' n':Int):(binOp .neq 102 (.agg #[.int .i64 a,.int .i64 n]) (.agg #[.int .i64 a',.int .i64 n'])).run Tryz.prog W=.ok (.bool (!decide (a=a'/\n=n'))) W:=by
 have h:=C0 W a n a' n';rw[run_neq_struct];unfold sA at h;rw[h];rfl
theorem V9(W:World)(o:BinOp)(x y:Operand)(X Y:Array Value):(eqGuard o 102 x y (.agg X) (.agg Y)).run Tryz.prog W=.ok () W:=run_eqGuard_agg W o 102 x y X Y (by kernel_rfl)
theorem W0{w:World}{v1 v2:Value}{l:List (Nat×Nat)}(h1:SlK 2 w v1 (l.map stC))(h2:SlK 2 w v2 (l.map stC)):Calls Tryz.prog 45 #[v1,v2] w fun e w'=>e=.returned (.bool true)/\∃x,w'=ext w x:=by
 obtain⟨oa,ca,ba,fa,rfl,hda,hca⟩:=h1;obtain⟨ob,cb,bb,fb,rfl,hdb,hcb⟩:=h2;rw[List.length_map]at hda hca hdb hcb;have hm:=hda.len;have hgd:∀i (hi:i<l.length),∃a b:Nat,(l.map stC).getD i []=[.int .i64 a,.int .i64 b]:=fun i hi=>⟨(l[i]).1,(l[i]).2,by simp[List.getD,hi,stC]⟩
 have HCA:=q7 hca;have HCB:=q7 hcb;have HDA:=q7 hda;have HDB:=q7 hdb;have HGD:=q7 hgd;have cm:=q73;have eg:=V9;rw[List.length_map];clear hda hca hdb hcb hgd;generalize l.map stC=cs at*
 go_enter Tryz.func45,Tryz.ntmps45
 go_wp2
 go_loopg [5] (l.length+1) (fun gk iv wr=>∃k:Nat,iv=.int .i64 k/\k<=l.length/\(∃x,wr=ext w x)/\gk=l.length+1-k)
 case atStart=>exact⟨0,rfl,qc _,(qt (by repeat(first|exact qj _ _|assumption|refine qw ?_ _|refine qk ?_|refine qA ?_ _|refine qs ?_ _))),rfl⟩
 case round=>
  obtain⟨k,rfl,hk,hbl,rfl⟩:=hrel;have HBL:=q7 (qr hbl);clear hbl
  by_cases hlt:k<l.length
  ·have q9w:decide (k<l.length)=true:=by rw[decide_eq_true_iff];omega
   have qcd:=fun W kd=>jy (P:=Tryz.prog) 2 51 102 Tryz.underlying51 (by kernel_rfl) HDA.out W kd (k:Int) (by omega) (by omega)
   have qgN:=fun W kd=>jy (P:=Tryz.prog) 2 51 102 Tryz.underlying51 (by kernel_rfl) HDB.out W kd (k:Int) (by omega) (by omega)
   simp only[Int.toNat_natCast]at qcd qgN;have HBA:=q7 (HDA.out.hblk (by omega))
   have HBB:=q7 (HDB.out.hblk (by omega))
   have HKA:=q7 (HCA.out k hlt);have HKB:=q7 (HCB.out k hlt);obtain⟨a,n,hg⟩:=HGD.out k hlt;rw[hg]at HKA HKB;clear hg
   have HQA:Hid (∀w',(∃x,w'=ext wr x)->∀c,c<2->w'.cell? ⟨ba,fa+k*2+c,none⟩=some ((#[.int .i64 a,.int .i64 n]:Array Value).getD c undef)):=q7 (fun w' hw' c hc=>by
    rw[(HBL.out.trans ((qr hw').mono HBL.out.size)).cell (p:=⟨ba,fa+k*2+c,none⟩) HBA.out,HKA.out c hc]
    rcases(show c=0\/c=1 by omega)with rfl|rfl<;>rfl)
   have HQB:Hid (∀w',(∃x,w'=ext wr x)->∀c,c<2->w'.cell? ⟨bb,fb+k*2+c,none⟩=some ((#[.int .i64 a,.int .i64 n]:Array Value).getD c undef)):=q7 (fun w' hw' c hc=>by
    rw[(HBL.out.trans ((qr hw').mono HBL.out.size)).cell (p:=⟨bb,fb+k*2+c,none⟩) HBB.out,HKB.out c hc]
    rcases(show c=0\/c=1 by omega)with rfl|rfl<;>rfl)
   go_wp2_with(fail)
   refine qY (by kernel_rfl) (by kernel_rfl) ?_
   repeat(first
    |(go_big_quiet_want;refine iO 102 2 _ rfl ba (fa+k*2) rfl #[.int .i64 a,.int .i64 n] rfl HQA.out _ Tryz.underlying102 rfl (by kernel_rfl) ?_;go_simp;go_big_quiet_on)
    |(go_big_quiet_want;refine iO 102 2 _ rfl bb (fb+k*2) rfl #[.int .i64 a,.int .i64 n] rfl HQB.out _ Tryz.underlying102 rfl (by kernel_rfl) ?_;go_simp;go_big_quiet_on)
    |go_big_quiet_step (fail))
   refine wpQuiet_nil ?_;intro w7 hw7;have HB7:=q7 (HBL.out.trans ((qr hw7).mono HBL.out.size));clear hw7 HQA HQB;go_wp2
   go_roundg (l.length+1-(k+1))
   case measure=>omega
   case rel=>exact⟨k+1,by go_num,by omega,qt HB7.out,rfl⟩
  ·have q9w:decide (k<l.length)=false:=by rw[qm];omega
   go_wp2;go_ret
   exact⟨rfl,qt HBL.out⟩
end Go.Cm
