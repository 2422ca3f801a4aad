/- Walks of functions and plain facts, joined and squeezed by a program. Conditions: as each says. -/
import Derived.Test.YtnelgjehpbjloaaGreatDoorGXD
import Derived.Test.YtnelgjehpbjloaaGreatDoorGXO
import Derived.Test.YtnelgjehpbjloaaGreatDoorGXF
import Derived.Test.YtnelgjehpbjloaaGreatDoorGXI
set_option maxHeartbeats 8000000
set_option maxRecDepth 100000
set_option linter.unusedSimpArgs false
namespace Go.Cm
open Go.RowKit Go.Proofs
theorem q3K(v:Value)(l:List Int)(w:World)(h:qT w v l):Calls Tryz.prog 151 #[v] w fun e w'=>e=.returned (.int .i64 (jU l:Nat))/\∃x,w'=ext w x:=by
 obtain⟨oa,cap,b,off,rfl,hd,hc⟩:=h.open;have hix:=qQ (P:=Tryz.prog) 66 3 Tryz.underlying66 (by kernel_rfl) hd
 have hm:=hd.len;have hbk:=hd.hblk;have HC:=q7 hc;clear hc h hd
 by_cases q90:320<l.length
 ·have hb:(l.length:Int)>320:=by omega
  have HE:=q7 (Go.Cm.u5 q90)
  go_enter Tryz.func151,Tryz.ntmps151
  go_wp2;go_ret
  exact⟨by rw[HE.out];rfl,(qt (by repeat(first|exact qj _ _|assumption|refine qw ?_ _|refine qk ?_|refine qA ?_ _|refine qs ?_ _)))⟩
 ·have hb:¬(l.length:Int)>320:=by omega
  go_enter Tryz.func151,Tryz.ntmps151
  go_wp2
  go_loop [3] (fun i=>∃k:Nat,k<=l.length/\i=.int .i64 k/\∀q,q<k->0<=l.getD q 0/\l.getD q 0<=15) (fun i=>l.length-(intOf i).toNat)
  case atStart=>exact⟨0,qc _,rfl,fun j hj=>absurd hj (Nat.not_lt_zero j)⟩
  case round=>
   obtain⟨k,hk,rfl,hall⟩:=hrel;have HA:=q7 hall;clear hall
   by_cases hlt:k<l.length
   ·have hcell:=HC.out k hlt
    have hbb:=hbk (by omega)
    have HW:Hid ((0<=l.getD k 0/\l.getD k 0<=15)->∀q,q<k+1->0<=l.getD q 0/\l.getD q 0<=15):=q7 (fun h q hq=>by
     rcases Nat.lt_succ_iff_lt_or_eq.1 hq with h1|rfl
     ·exact HA.out q h1
     ·exact h)
    have HF:Hid (¬(0<=l.getD k 0/\l.getD k 0<=15)->jU l=1):=q7 (Go.Cm.u9 q90 hlt);generalize l.getD k 0=y at*
    by_cases h0:y<0
    ·go_wp2
     go_ret
     exact⟨by rw[HF.out (by omega)];rfl,(qt (by repeat(first|exact qj _ _|assumption|refine qw ?_ _|refine qk ?_|refine qA ?_ _|refine qs ?_ _)))⟩
    ·by_cases h1:y>15
     ·go_wp2
      go_ret
      exact⟨by rw[HF.out (by omega)];rfl,(qt (by repeat(first|exact qj _ _|assumption|refine qw ?_ _|refine qk ?_|refine qA ?_ _|refine qs ?_ _)))⟩
     ·go_wp2
      go_round
      case rel=>exact⟨k+1,by omega,by go_num,HW.out (by omega)⟩
      case measure=>simp[intOf];omega
   ·have hk':k=l.length:=by omega
    subst hk';have HE:=q7 (yI q90 HA.out);go_wp2;go_ret
    exact⟨by rw[HE.out];rfl,(qt (by repeat(first|exact qj _ _|assumption|refine qw ?_ _|refine qk ?_|refine qA ?_ _|refine qs ?_ _)))⟩
theorem kA(L:List Nat)(k:Nat)(hk:k<L.length):jp (L.take (k+1))=jp (L.take k)+kw (L.getD k 0):=by
 unfold jp;rw[bN L k 0 hk,List.map_append,List.sum_append]
 simp
theorem q7s(x:Nat):kw x<=32768:=by
 unfold kw;split
 ·exact qa (qe (by decide) (show 15-x<=15 by omega)) (by decide)
 ·exact qc _
theorem vN(L:List Nat)(k:Nat):jp (L.take k)<=k*32768:=by
 induction k with
 |zero=>simp[jp]
 |succ k ih=>
  rw[Nat.add_mul,Nat.one_mul]
  by_cases hk:k<L.length
  ·rw[kA L k hk]
   exact Nat.add_le_add ih (q7s _)
  ·rw[List.take_of_length_le (by omega)]
   rw[List.take_of_length_le (by omega)]at ih
   exact qa ih (Nat.le_add_right _ _)
theorem q3L(v:Value)(L:List Nat)(w:World)(h:qT w v (nls L))(h1:L.length<=320)(h15:∀x∈L,x<=15):Calls Tryz.prog 152 #[v] w fun e w'=>e=.returned (.int .i64 (jp L:Nat))/\∃x,w'=ext w x:=by
 have HWR:Hid (∀w',Below w.heap.size w w'->Calls Tryz.prog 151 #[v] w' fun e w''=>e=.returned (.int .i64 0)/\∃x,w''=ext w' x):=q7 (fun w' hb=>by
  have:=q3K v (nls L) w' (h.up hb);rw[tX h1 h15]at this
  exact this)
 obtain⟨oa,cap,b,off,rfl,hd,hc⟩:=h.open;rw[qB]at hd hc;rw[qB]at HWR⊢;have hix:=qQ (P:=Tryz.prog) 66 3 Tryz.underlying66 (by kernel_rfl) hd
 have hm:=hd.len;have hbk:=hd.hblk;have HC:=q7 hc;clear hc h hd;have H15:Hid (∀k,k<L.length->L.getD k 0<=15):=q7 (fun k hk=>h15 _ (jT L k 0 hk))
 go_enter Tryz.func152,Tryz.ntmps152
 go_wp2_with(go_at_call 151;refine(HWR.out _ (by repeat(first|exact qj _ _|assumption|refine qw ?_ _|refine qk ?_|refine qA ?_ _|refine qs ?_ _))).mono ?_;rintro e w1 ⟨rfl,x,rfl⟩)
 clear HWR h15
 go_loop [3,4] (fun n i=>∃k:Nat,k<=L.length/\i=.int .i64 k/\n=.int .i64 (jp (L.take k):Nat)) (fun _ i=>L.length-(intOf i).toNat)
 case atStart=>exact⟨0,qc _,rfl,rfl⟩
 case round=>
  obtain⟨k,hk,rfl,rfl⟩:=hrel
  by_cases hlt:k<L.length
  ·have hcell:=HC.out k hlt
   rw[jb]at hcell;have hbb:=hbk (by omega)
   have HS:=q7 (kA L k hlt);have hle:=vN L k;have hx:=H15.out k hlt;generalize jp (L.take k)=s at*;generalize L.getD k 0=y at*
   by_cases h0:0<y
   ·have hy:(y:Int)>0:=by omega
    have hy2:(15:Int)-(y:Int)=((15-y:Nat):Int):=by omega
    have hp:2^(15-y)<=32768:=qa (qe (by decide) (show 15-y<=15 by omega)) (by decide)
    have hkw:kw y=2^(15-y):=by unfold kw;rw[if_pos h0]
    have HKW:=q7 hkw;clear hkw;have hs2:s<=320*32768:=qa hle (Nat.mul_le_mul_right _ (by omega))
    clear hle;generalize hn:15-y=n at*;have HP:Hid ((2^n:Nat)<=32768):=q7 hp;have qlr:n<=15:=by omega
    go_wp2
    go_round
    case rel=>
     refine⟨k+1,by omega,by go_num,?_⟩
     have hq:=HP.out;have h2:((2:Int)^n)=((2^n:Nat):Int):=by norm_cast
     rw[HS.out,HKW.out,h2];generalize 2^n=q at*;rw[IntWalk.wrap64_in (q:Int) ⟨by omega,by omega⟩,IntWalk.wrap64_in _ ⟨by omega,by omega⟩]
     norm_cast
    case measure=>simp[intOf];omega
   ·have hy:¬(y:Int)>0:=by omega
    have hkw:kw y=0:=by unfold kw;rw[if_neg h0]
    rw[hkw]at HS;go_wp2
    go_round
    case rel=>exact⟨k+1,by omega,by go_num,by rw[HS.out,Nat.add_zero]⟩
    case measure=>simp[intOf];omega
  ·go_wp2
   go_ret;rw[List.take_of_length_le (by omega)]
   exact⟨rfl,(qt (by repeat(first|exact qj _ _|assumption|refine qw ?_ _|refine qk ?_|refine qA ?_ _|refine qs ?_ _)))⟩
def gI(L:List Nat)(n i:Nat):List Nat:=(List.range L.length).map fun q=>if L.getD q 0<n\/(L.getD q 0=n/\q<i)then jB L q else 0
theorem pI(L:List Nat)(n i:Nat):(gI L n i).length=L.length:=by simp[gI]
theorem E8(L:List Nat):gI L 1 0=List.replicate L.length 0:=by
 unfold gI;rw[List.eq_replicate_iff];refine⟨by simp,fun x hx=>?_⟩
 obtain⟨q,-,rfl⟩:=List.mem_map.1 hx;split
 ·rename_i h;unfold jB;rw[if_pos (by omega)]
 ·rfl
theorem S9(L:List Nat)(n i:Nat)(h:L.getD i 0≠n):gI L n (i+1)=gI L n i:=by
 unfold gI;refine List.map_congr_left fun q _=>?_
 by_cases e:q=i
 ·subst e
  by_cases h2:L.getD q 0<n
  ·rw[if_pos (.inl h2),if_pos (.inl h2)]
  ·rw[if_neg (by omega),if_neg (by omega)]
 ·by_cases h2:L.getD q 0<n\/(L.getD q 0=n/\q<i)
  ·rw[if_pos h2,if_pos (by omega)]
  ·rw[if_neg h2,if_neg (by omega)]
theorem Z3(L:List Nat)(n i:Nat)(h0:1<=n)(h:L.getD i 0=n):(gI L n i).set i (jJ L n+(L.take i).count n)=gI L n (i+1):=by
 refine List.ext_getElem (by simp[gI]) fun q h1 h2=>?_
 rw[List.getElem_set];simp only[gI,List.getElem_map,List.getElem_range]
 by_cases e:i=q
 ·subst e
  rw[if_pos rfl,if_pos (.inr ⟨h,by omega⟩)]
  unfold jB yG;rw[if_neg (by omega),h]
 ·rw[if_neg e]
  by_cases h2:L.getD q 0<n\/(L.getD q 0=n/\q<i)
  ·rw[if_pos h2,if_pos (by omega)]
  ·rw[if_neg h2,if_neg (by omega)]
theorem T0(L:List Nat)(n:Nat):gI L n L.length=gI L (n+1) 0:=by
 unfold gI;refine List.map_congr_left fun q hq=>?_
 have:=List.mem_range.1 hq
 by_cases h2:L.getD q 0<n\/(L.getD q 0=n/\q<L.length)
 ·rw[if_pos h2,if_pos (by omega)]
 ·rw[if_neg h2,if_neg (by omega)]
theorem Z4(L:List Nat)(h15:∀x∈L,x<=15):gI L 16 0=bA L:=by
 unfold gI bA;refine List.map_congr_left fun q hq=>?_
 have:=h15 _ (jT L q 0 (List.mem_range.1 hq));rw[if_pos (by omega)]
theorem Z5(v:Value)(l:List Int)(w:World)(h:qT w v l):Calls Tryz.prog 116 #[v] w (aN l w):=by
 have HWR:Hid (∀w',Below w.heap.size w w'->Calls Tryz.prog 151 #[v] w' fun e w''=>e=.returned (.int .i64 (jU l:Nat))/\∃x,w''=ext w' x):=q7 (fun w' hb=>q3K v l w' (h.up hb))
 by_cases hw0:jU l=0
 ·obtain⟨hlen,hall⟩:=i8 hw0
  obtain⟨L,rfl,h15⟩:=K0 hall;rw[qB]at hlen;rw[hw0]at HWR;have he:=mZ hlen h15;have HKR:Hid (∀w',Below w.heap.size w w'->Calls Tryz.prog 152 #[v] w' fun e w''=>e=.returned (.int .i64 (jp L:Nat))/\∃x,w''=ext w' x):=q7 (fun w' hb=>q3L v L w' (h.up hb) hlen h15)
  obtain⟨oa,cap,b,off,rfl,hd,hc⟩:=h.open;rw[qB]at hd hc;unfold aN;rw[qB]at HWR HKR⊢;rw[jm];have hix:=qQ (P:=Tryz.prog) 66 3 Tryz.underlying66 (by kernel_rfl) hd
  have hm:=hd.len;have hbk:=hd.hblk;have HC:=q7 hc;clear hc h hd hw0 hall
  by_cases hk:32768<jp L
  ·rw[if_pos hk]at he
   have hk2:(jp L:Int)>32768:=by omega
   generalize jp L=K at*
   go_enter Tryz.func116,Tryz.ntmps116
   go_wp2_with(first|(go_at_call 151;refine(HWR.out _ (by repeat(first|exact qj _ _|assumption|refine qw ?_ _|refine qk ?_|refine qA ?_ _|refine qs ?_ _))).mono ?_;rintro e w1 ⟨rfl,x,rfl⟩)|(go_at_call 152;refine(HKR.out _ (by repeat(first|exact qj _ _|assumption|refine qw ?_ _|refine qk ?_|refine qA ?_ _|refine qs ?_ _))).mono ?_;rintro e w2 ⟨rfl,y,rfl⟩))
   go_ret2
   exact⟨.slice none 0 0,rfl,Own.nil _ _ _,(by repeat(first|exact qj _ _|assumption|refine qw ?_ _|refine qk ?_|refine qA ?_ _|refine qs ?_ _))⟩
  ·rw[if_neg hk]at he
   have hk2:¬(jp L:Int)>32768:=by omega
   have HK:Hid (jp L<=32768):=q7 (by omega)
   have HFU:=q7 (vJ h15 HK.out);have HFL:=q7 (L0 h15 HK.out);have HPA:=q7 (Z4 L h15);have HPS:=q7 (E8 L);rw[he];clear h15 he;generalize jp L=K at*;have hmk:=rP (P:=Tryz.prog) 66 3 (.int .i64 0) 8 L.length Tryz.underlying66 (by kernel_rfl) rfl (by decide) (by omega)
   go_enter Tryz.func116,Tryz.ntmps116
   go_wp2_with(first|(go_at_call 151;refine(HWR.out _ (by repeat(first|exact qj _ _|assumption|refine qw ?_ _|refine qk ?_|refine qA ?_ _|refine qs ?_ _))).mono ?_;rintro e w1 ⟨rfl,x,rfl⟩)|(go_at_call 152;refine(HKR.out _ (by repeat(first|exact qj _ _|assumption|refine qw ?_ _|refine qk ?_|refine qA ?_ _|refine qs ?_ _))).mono ?_;rintro e w2 ⟨rfl,y,rfl⟩))
   have q8Z:Below w.heap.size w (ext (ext w x) y):=(by repeat(first|exact qj _ _|assumption|refine qw ?_ _|refine qk ?_|refine qA ?_ _|refine qs ?_ _))
   have hown:=rD (ext (ext w x) y) w.heap.size 3 (.int .i64 0) L.length q8Z.size (by omega)
   have qd2:=q8Z.alloc q8Z.size (.cells (madeCells #[Value.int .i64 0] L.length) 3)
   have hown2:Own ((ext (ext w x) y).alloc (.cells (madeCells #[Value.int .i64 0] L.length) 3)) w.heap.size 3 (.slice (some ⟨(ext (ext w x) y).heap.size,0,none⟩) L.length L.length) (ints (nls (gI L 1 0))):=by
    rw[HPS.out];simpa[ints,nls]using hown
   have HO:=q7 hown2;have HB:=q7 qd2;have hgs:=q8Z.size;clear hown hown2 q8Z qd2 hmk HWR HKR HPS;generalize (ext (ext w x) y).heap.size=g at*;generalize (ext (ext w x) y).alloc (.cells (madeCells #[Value.int .i64 0] L.length) 3)=w3 at*
   go_loopg [6,7] 16 (fun gk c n wr=>∃k:Nat,1<=k/\k<=16/\n=.int .i64 k/\c=.int .i64 (jJ L k:Nat)/\Own wr w.heap.size 3 (.slice (some ⟨g,0,none⟩) L.length L.length) (ints (nls (gI L k 0)))/\Below w.heap.size w wr/\gk=17-k)
   case atStart=>exact⟨1,by omega,by omega,rfl,rfl,HO.out,HB.out,rfl⟩
   case round=>
    clear HO HB;obtain⟨k,hk1,qjk,rfl,rfl,hown,q8Z,rfl⟩:=hrel;have HO:=q7 hown;have HB:=q7 q8Z;clear hown q8Z
    by_cases hk:k<=15
    ·have HFS:=q7 (kU L k hk1)
     have HFK:=q7 (HFU.out k hk1 hk);have h2k:2^k<=32768:=qa (qe (by decide) hk) (by decide)
     have HCT:Hid (jJ L k+L.count k<=32768):=q7 (qa HFK.out h2k);clear h2k;go_wp2;obtain⟨wo,rfl⟩:∃wo:World,wo=wr:=⟨_,rfl⟩
     go_loopg [6,8] (L.length+1) (fun gk c i wr=>∃j:Nat,j<=L.length/\i=.int .i64 j/\c=.int .i64 (jJ L k+(L.take j).count k:Nat)/\Own wr w.heap.size 3 (.slice (some ⟨g,0,none⟩) L.length L.length) (ints (nls (gI L k j)))/\Below w.heap.size w wr/\gk=L.length+1-j)
     case atStart=>exact⟨0,qc _,rfl,by simp,HO.out,HB.out,rfl⟩
     case round=>
      clear HO HB;obtain⟨j,hj,rfl,rfl,hown,q8Z,rfl⟩:=hrel;have HO:=q7 hown;have HB:=q7 q8Z;clear hown q8Z
      by_cases hlt:j<L.length
      ·have hbw:=hbk (by omega)
       have hsz:=HB.out.size;have hcell:=(HB.out.cell (p:=⟨b,off+j,none⟩) hbw).trans (HC.out j hlt);rw[jb]at hcell;have hgw:=HO.out.blk;have hcj:=HO.out.cell (i:=j) (by rw[bW,qB,pI];exact hlt)
       rw[eV _ _ (by rw[qB,pI];exact hlt)]at hcj
       have hfj:=HO.out.free j;have HCS:=q7 (jX L j k hlt);have HSK:=q7 (S9 L k j);have qa1:=q7 (Z3 L k j hk1);have HST:=q7 (HO.out.store j (.int .i64 (jJ L k+(L.take j).count k:Nat)));have hle:(L.take j).count k<=L.count k:=List.Sublist.count_le _ (List.take_sublist _ _);have HLE:=q7 hle;clear hle;have qmm:b<wr.heap.size:=by omega
       generalize hyy:L.getD j 0=y at*;generalize (nls (gI L k j)).getD j 0=z at*;generalize hcc:jJ L k+(L.take j).count k=c at*;have hc2:c<=32768:=by have:=HCT.out;have:=HLE.out;omega
       by_cases he:y=k
       ·have he2:((y:Int)==(k:Int))=true:=by rw[he];exact beq_self_eq_true _
        have HCC:=q7 hcc;have HE:=q7 he;clear hcc he;have hj2:j<4294967296:=by omega
        go_wp2
        go_roundg (L.length-j)
        case measure=>omega
        case rel=>
         refine⟨j+1,by omega,by go_num,?_,?_,?_,by omega⟩
         ·rw[HCS.out,if_pos HE.out]
          rw[<-Nat.add_assoc,HCC.out]
          norm_cast
         ·have h1:=HST.out.1
          rw[mY,i7,qa1.out HE.out]at h1
          exact h1
         ·exact HB.out.grown HST.out.2 (by omega) (fun k hk=>by cases hk;exact hgw.1)
       ·have he2:((y:Int)==(k:Int))=false:=by
         simp;omega
        go_wp2
        go_roundg (L.length-j)
        case measure=>omega
        case rel=>
         refine⟨j+1,by omega,by go_num,?_,?_,HB.out,by omega⟩
         ·rw[HCS.out,if_neg he,Nat.add_zero,hcc]
         ·rw[HSK.out he];exact HO.out
      ·obtain rfl:j=L.length:=by omega
       have HNX:=q7 (T0 L k);rw[List.take_length];have hc3:=HCT.out;generalize hcc:jJ L k+L.count k=c at*;have HCC:=q7 hcc;clear hcc;go_wp2
       go_roundg (16-k)
       case measure=>omega
       case rel=>
        refine⟨k+1,by omega,by omega,by go_num,?_,?_,HB.out,by omega⟩
        ·rw[HFS.out]
         norm_cast
        ·rw[<-HNX.out];exact HO.out
    ·obtain rfl:k=16:=by omega
     go_wp2
     go_ret2
     refine⟨.slice (some ⟨g,0,none⟩) L.length L.length,rfl,?_,HB.out⟩;rw[<-HPA.out]
     exact HO.out
 ·have he:=cK hw0
  have hne:¬(jU l:Int)=0:=by omega
  have q9q:¬bE l=0:=by omega
  unfold aN;rw[if_neg q9q,he];clear h he q9q;generalize jU l=n at*
  go_enter Tryz.func116,Tryz.ntmps116
  go_wp2_with(first|(go_at_call 151;refine(HWR.out _ (by repeat(first|exact qj _ _|assumption|refine qw ?_ _|refine qk ?_|refine qA ?_ _|refine qs ?_ _))).mono ?_;rintro e w1 ⟨rfl,x,rfl⟩))
  go_ret2
  exact⟨.slice none 0 0,rfl,Own.nil _ _ _,(by repeat(first|exact qj _ _|assumption|refine qw ?_ _|refine qk ?_|refine qA ?_ _|refine qs ?_ _))⟩
theorem uK(x:Nat)(L:List Nat):cG (x::L)=cG L+if x=0 then 0 else 1:=by
 unfold cG;have:=List.count_le_length (a:=0) (l:=L);rw[List.length_cons,List.count_cons]
 by_cases h:x=0
 ·subst h;simp
 ·rw[if_neg h,if_neg (by simpa using h)];omega
theorem U2{L:List Nat}(h:cG L=0):jp L=0/\L.count 1=0:=by
 induction L with
 |nil=>exact⟨rfl,rfl⟩
 |cons x L ih=>
  rw[uK]at h
  by_cases hx:x=0
  ·subst hx
   have:=ih (by simpa using h)
   unfold jp at this⊢;simp only[List.map_cons,List.sum_cons,List.count_cons]
   exact⟨by rw[this.1];rfl,by rw[this.2];rfl⟩
  ·rw[if_neg hx]at h;omega
theorem q2t{L:List Nat}(h15:∀x∈L,x<=15)(h:cG L=1):L.count 1=1↔jp L=16384:=by
 induction L with
 |nil=>simp[cG]at h
 |cons x L ih=>
  rw[uK]at h
  by_cases hx:x=0
  ·subst hx
   have:=ih (fun y hy=>h15 y (by simp[hy])) (by simpa using h)
   unfold jp at this⊢;simp only[List.map_cons,List.sum_cons,List.count_cons]
   simpa[kw]using this
  ·rw[if_neg hx]at h
   obtain⟨h1,h2⟩:=U2 (show cG L=0 by omega)
   have qae:=h15 x (by simp)
   unfold jp at h1⊢;simp only[List.map_cons,List.sum_cons,List.count_cons];rw[h1,h2]
   by_cases hx1:x=1
   ·subst hx1;decide
   ·have e1:(x==1)=false:=by simpa using hx1
    have e2:kw x<=2^13:=by
     unfold kw;rw[if_pos (by omega)]
     exact qe (by decide) (by omega)
    rw[e1];have e3:(2:Nat)^13=8192:=by decide
    constructor
    ·intro hc;simp at hc
    ·intro hk;omega
theorem sC(L:List Nat)(k:Nat)(hk:k<L.length):cG (L.take (k+1))=cG (L.take k)+if L.getD k 0=0 then 0 else 1:=by
 have h1:=jX L k 0 hk;have h2:=List.count_le_length (a:=0) (l:=L.take k);unfold cG;rw[h1];simp only[List.length_take]at h2⊢
 by_cases h:L.getD k 0=0
 ·rw[if_pos h,if_pos h];omega
 ·rw[if_neg h,if_neg h];omega
theorem vU(L:List Nat)(k:Nat):cG (L.take k)<=k:=by
 unfold cG;simp only[List.length_take];omega
theorem q0o(v:Value)(l:List Int)(lone:Bool)(w:World)(h:qT w v l):Calls Tryz.prog 147 #[v,.bool lone] w fun e w'=>e=.returned (.int .i64 (bJ l lone:Nat))/\Below w.heap.size w w':=by
 have HCO:=q7 (Z5 v l w h);unfold aN at HCO
 by_cases hz:bE l=0
 ·obtain⟨L,rfl,hlen,h15,-⟩:=gM hz
  rw[yR lone hz];rw[hz]at HCO;have HKR:Hid (∀w',Below w.heap.size w w'->Calls Tryz.prog 152 #[v] w' fun e w''=>e=.returned (.int .i64 (jp L:Nat))/\∃x,w''=ext w' x):=q7 (fun w' hb=>q3L v L w' (h.up hb) hlen h15)
  have HLI:=q7 (q2t h15);obtain⟨oa,cap,b,off,rfl,hd,hc⟩:=h.open;rw[qB]at hd hc HKR HCO⊢;have hix:=qQ (P:=Tryz.prog) 66 3 Tryz.underlying66 (by kernel_rfl) hd
  have hm:=hd.len;have hbk:=hd.hblk;have HC:Hid (∀W,Below w.heap.size w W->∀k,k<L.length->W.cell? ⟨b,off+k,none⟩=some (.int .i64 (L.getD k 0:Nat))):=q7 (fun W hB k hk=>by rw[hB.cell (hbk (by omega)),hc k hk,jb])
  clear hc h hd hz h15;obtain⟨K,hK⟩:∃K,K=jp L:=⟨_,rfl⟩;rw[<-hK]at HKR HLI⊢;clear hK
  by_cases hk:K=32768
  ·rw[if_pos hk]
   have hk2:((K:Int)==32768)=true:=by rw[hk];rfl
   clear hk
   go_enter Tryz.func147,Tryz.ntmps147
   go_wp2_with(first|(go_at_call 116;refine HCO.out.mono ?_;rintro e w1 ⟨v1,rfl,-,hb1⟩;have HB1:=q7 hb1;clear hb1)|(go_at_call 152;refine(HKR.out _ HB1.out).mono ?_;rintro e w2 ⟨rfl,y,rfl⟩))
   go_ret
   exact⟨rfl,qq HB1.out (qu _ _)⟩
  ·rw[if_neg hk]
   have hk2:((K:Int)==32768)=false:=by simp;omega
   clear hk;obtain⟨r,hr⟩:∃r:Nat,r=if lone=true/\(cG L=0\/(cG L=1/\L.count 1=1))then 0 else if cG L=0 then 17 else 8:=⟨_,rfl⟩
   rw[<-hr];have HR:=q7 hr;clear hr
   go_enter Tryz.func147,Tryz.ntmps147
   go_wp2_with(first|(go_at_call 116;refine HCO.out.mono ?_;rintro e w1 ⟨v1,rfl,-,hb1⟩;have HB1:=q7 hb1;clear hb1)|(go_at_call 152;refine(HKR.out _ HB1.out).mono ?_;rintro e w2 ⟨rfl,y,rfl⟩))
   have hb2:=qq HB1.out (qu w1 y);have HC2:=q7 (HC.out _ hb2);have HB2:=q7 hb2;clear hb2 HCO HKR HC HB1
   go_loop [8,9] (fun c i=>∃k:Nat,k<=L.length/\i=.int .i64 k/\c=.int .i64 (cG (L.take k):Nat)) (fun _ i=>L.length-(intOf i).toNat)
   case atStart=>exact⟨0,qc _,rfl,rfl⟩
   case round=>
    obtain⟨k,hk,rfl,rfl⟩:=hrel
    by_cases hlt:k<L.length
    ·have hcell:=HC2.out k hlt
     have hbb:=hbk (by omega)
     have HS:=q7 (sC L k hlt);have hle:=vU L k;generalize cG (L.take k)=s at*;generalize L.getD k 0=z at*
     by_cases h0:z=0
     ·have hy:¬(z:Int)>0:=by omega
      rw[if_pos h0]at HS;clear h0;go_wp2
      go_round
      case rel=>exact⟨k+1,by omega,by go_num,by rw[HS.out,Nat.add_zero]⟩
      case measure=>simp[intOf];omega
     ·have hy:(z:Int)>0:=by omega
      rw[if_neg h0]at HS;clear h0;go_wp2
      go_round
      case rel=>exact⟨k+1,by omega,by go_num,by rw[HS.out];go_num⟩
      case measure=>simp[intOf];omega
    ·obtain rfl:k=L.length:=by omega
     rw[List.take_length];clear hix hbk HC2 hlt hk;generalize hm0:cG L=m at*;have hml:m<=320:=by rw[<-hm0];unfold cG;omega
     clear hm0
     have hQ:(L.count 1=1↔K=16384)\/m≠1:=by
      by_cases h1:m=1
      ·exact .inl (HLI.out h1)
      ·exact .inr h1
     generalize L.count 1=ct at*;clear HLI
     cases lone with
     |false=>
      by_cases h0:m=0
      ·have hr:r=17:=by rw[HR.out,h0];rfl
       subst h0 hr;clear HR hQ;go_wp2;go_ret
       exact⟨rfl,HB2.out⟩
      ·have hr:r=8:=by rw[HR.out,if_neg (by simp),if_neg h0]
       have h0':((m:Int)==0)=false:=by simp;omega
       subst hr;clear hQ h0 HR;go_wp2;go_ret
       exact⟨rfl,HB2.out⟩
     |true=>
      by_cases h0:m=0
      ·have hr:r=0:=by rw[HR.out,if_pos ⟨rfl,.inl h0⟩]
       subst h0 hr;clear hQ HR;go_wp2;go_ret
       exact⟨rfl,HB2.out⟩
      ·have h0':((m:Int)==0)=false:=by simp;omega
       by_cases h1:m=1
       ·have hQ':=hQ.resolve_right (by simpa using h1)
        by_cases hK:K=16384
        ·have hr:r=0:=by rw[HR.out,if_pos ⟨rfl,.inr ⟨h1,hQ'.2 hK⟩⟩]
         clear hQ' HR hQ h0 h0';subst hK hr h1;go_wp2;go_ret
         exact⟨rfl,HB2.out⟩
        ·have hr:r=8:=by rw[HR.out,if_neg (fun hh=>hK (hQ'.1 (hh.2.resolve_left h0).2)),if_neg h0]
         have hK':((K:Int)==16384)=false:=by simp;omega
         clear hQ' hK HR hQ h0 h0';subst hr h1;go_wp2;go_ret
         exact⟨rfl,HB2.out⟩
       ·have hr:r=8:=by rw[HR.out,if_neg (fun hh=>hh.2.elim h0 (fun q=>h1 q.1)),if_neg h0]
        have h1':((m:Int)==1)=false:=by simp;omega
        clear hQ h0 h1 HR;subst hr;go_wp2;go_ret
        exact⟨rfl,HB2.out⟩
 ·rw[kD lone hz]
  have hne:((bE l:Nat):Int)≠0:=by omega
  generalize bE l=er at*;obtain⟨oa,cap,b,off,rfl,hd,hc⟩:=h.open;clear hc hd h
  go_enter Tryz.func147,Tryz.ntmps147
  go_wp2_with(go_at_call 116;refine HCO.out.mono ?_;rintro e w1 ⟨v1,rfl,-,hb1⟩;have HB1:=q7 hb1;clear hb1)
  go_ret
  exact⟨rfl,HB1.out⟩
theorem q7D(w:World):Calls Tryz.prog 111 #[] w fun e w'=>∃v,e=.returned v/\Own w' w.heap.size 3 v (ints (nls eZ))/\Below w.heap.size w w':=by
 have HO:=q7 (qE w w.heap.size (ints (nls eZ)).toArray 3 (by decide) (q9 _))
 go_enter Tryz.func111,Tryz.ntmps111
 go_wp2;go_ret;refine⟨_,rfl,HO.out,qn _ _⟩
theorem q0u(u v:Value)(lits dists:List Nat)(w:World)(hu:qT w u (nls lits))(hv:qT w v (nls dists))(q9Y:256<lits.length):
  Calls Tryz.prog 108 #[u,v] w fun e w'=>e=.returned (.int .i64 (cY lits dists:Nat))/\Below w.heap.size w w':=by
 have HF1:=q7 (q0o u (nls lits) true w hu);have HF2:=q7 (fun W (hb:Below w.heap.size w W)=>q0o v (nls dists) true W (hv.up hb))
 obtain⟨oa,cap,b,off,hvv,hd,hc⟩:=hu.open;rw[qB]at hvv hd hc;subst hvv;have hcell:=hc 256 q9Y;rw[jb]at hcell;have hix:=qQ (P:=Tryz.prog) 66 3 Tryz.underlying66 (by kernel_rfl) hd
 have hm:=hd.len;have hbb:=hd.hblk (by omega)
 have hli:(256:Int)<(lits.length:Int):=by omega
 obtain⟨r,hr⟩:∃r,r=cY lits dists:=⟨_,rfl⟩;rw[<-hr];unfold cY at hr;have HR:=q7 hr;clear hc hd hu hv hr;generalize bJ (nls lits) true=e1 at*;generalize bJ (nls dists) true=e2 at*;generalize lits.getD 256 0=y at*;generalize lits.length=m at*
 by_cases hy:y=0
 ·have h21:r=21:=by rw[HR.out];exact if_pos hy
  subst h21 hy;clear HR
  go_enter Tryz.func108,Tryz.ntmps108
  go_wp2;go_ret
  exact⟨rfl,qj _ _⟩
 ·have hy':((y:Int)==0)=false:=by simp;omega
  by_cases he:e1=0
  ·have h2:r=e2:=by rw[HR.out,if_neg hy];exact if_neg (by omega)
   subst h2 he;clear HR hy
   go_enter Tryz.func108,Tryz.ntmps108
   go_wp2_with(first|(go_at_call 147;(with_reducible refine HF1.out.mono ?_);rintro e w1 ⟨rfl,hb1⟩;(have HB1:=q7 hb1;have HFF:=q7 (HF2.out w1 HB1.out);clear hb1))|(go_at_call 147;(with_reducible refine HFF.out.mono ?_);rintro e w2 ⟨rfl,hb2⟩;(have HB2:=q7 (qq HB1.out hb2);clear hb2)))
   go_ret
   exact⟨rfl,HB2.out⟩
  ·have h2:r=e1:=by rw[HR.out,if_neg hy];exact if_pos he
   have he':((e1:Int) != 0)=true:=by simpa using he
   subst h2;clear HR hy he
   go_enter Tryz.func108,Tryz.ntmps108
   go_wp2_with(go_at_call 147;(with_reducible refine HF1.out.mono ?_);rintro e w1 ⟨rfl,hb1⟩;(have HB1:=q7 hb1;clear hb1))
   go_ret
   exact⟨rfl,HB1.out⟩
theorem q6c(v:Value)(l:List Nat)(n x:Nat)(w:World)(h:Sl w v (ints (nls l)))(hl:l.length+n<=1000000):
  Calls Tryz.prog 113 #[v,.int .i64 n,.int .i64 x] w fun e w'=>∃v',e=.returned v'/\Own w' w.heap.size 3 v' (ints (nls (l++List.replicate n x)))/\Below w.heap.size w w':=by
 have HSL:=q7 h;have HL:Hid (∀k,k<n->(ints (nls (l++List.replicate k x))).length+1<=4294967296):=q7 (fun k hk=>by simp[ints,nls];omega)
 have HL0:Hid ((ints (nls l)).length<=4294967296):=q7 (by simp[ints,nls];omega)
 have HAP:=q7 (fun k=>q0r l k x)
 have H0:Hid (ints (nls l)=ints (nls (l++List.replicate 0 x))):=q7 (by simp)
 clear h
 go_enter Tryz.func113,Tryz.ntmps113
 go_wp2_with(at_builtin;refine jt rfl (.tmp 9) (.tmp 10) 66 rfl w.heap.size 3 (.int .i64 0) 8 Tryz.underlying66 (by kernel_rfl) rfl (by decide) (.slice none 0 0) [] rfl (Own.nil _ _ _) v (ints (nls l)) rfl HSL.out (cQ _) (by have:=HL0.out;simpa using this) (q9 _) ?_;intro v1 w1 hown1 hg1 hk1;(have HO1:=q7 hown1;have HG1:=q7 hg1;clear hown1 hg1 hk1))
 go_loopg [7,8] n (fun gk r i wr=>∃k:Nat,k<=n/\i=.int .i64 k/\Own wr w.heap.size 3 r (ints (nls (l++List.replicate k x)))/\Below w.heap.size w wr/\gk=n-k)
 case atStart=>exact⟨0,qc _,rfl,by rw[<-H0.out];exact HO1.out,(qj _ _).grown HG1.out (q9 _) (fun k hk=>by cases hk),rfl⟩
 case round=>
  obtain⟨k,hk,rfl,ho,hb,hgk⟩:=hrel;have HOW:=q7 ho;have HB:=q7 hb;have hsz:=hb.size;clear ho hb
  by_cases hlt:k<n
  ·have HLK:=q7 (HL.out k hlt)
   have hki:(k:Int)<(n:Int):=by omega
   go_wp2_with(at_builtin;refine jt rfl (.tmp 17) (.tmp 19) 66 rfl w.heap.size 3 (.int .i64 0) 8 Tryz.underlying66 (by kernel_rfl) rfl (by decide) u7 (ints (nls (l++List.replicate k x))) rfl (HOW.out.up (qn _ _)) (.slice (some ⟨wr.heap.size,0,none⟩) 1 1) (ints (nls [x])) rfl (by simpa[ints,nls]using eJ wr #[.int .i64 (x:Int)] 3 (by simp)) (cQ _) (by have:=HLK.out;simpa[ints,nls]using this) (qa hsz (by simp)) ?_;intro v' w2 hown1 hg1 hk1;(have HO2:=q7 hown1;have HG2:=q7 hg1;clear hown1 hg1 hk1))
   go_roundg (n-(k+1))
   case measure=>omega
   case rel=>exact⟨k+1,by omega,by go_num,by rw[HAP.out];exact HO2.out,jL (B:=w.heap.size) (HB.out.alloc hsz _) (by simp;omega) (HOW.out.up (qn _ _)) HG2.out,rfl⟩
  ·obtain rfl:k=n:=by omega
   have hki:¬(k:Int)<(k:Int):=by omega
   go_wp2;go_ret
   exact⟨_,rfl,HOW.out,HB.out⟩
theorem uP(v:Value)(l:List Nat)(n x:Nat)(w:World)(B:Nat)(h:Own w B 3 v (ints (nls l)))(hB:B<=w.heap.size)(hl:l.length+n<=1000000):
  Calls Tryz.prog 113 #[v,.int .i64 n,.int .i64 x] w fun e w'=>∃v',e=.returned v'/\Own w' B 3 v' (ints (nls (l++List.replicate n x)))/\Below B w w':=
 (q6c v l n x w h.sl hl).mono fun _ _ ⟨v',h1,h2,h3⟩=>⟨v',h1,h2.mono hB,h3.mono hB⟩
theorem q6f(w:World):Calls Tryz.prog 64 #[] w (uQ lM w):=by
 obtain⟨a1,h1⟩:∃a,a=([]++List.replicate 144 8:List Nat):=⟨_,rfl⟩;obtain⟨a2,h2⟩:∃a,a=a1++List.replicate 112 9:=⟨_,rfl⟩;obtain⟨a3,h3⟩:∃a,a=a2++List.replicate 24 7:=⟨_,rfl⟩;have h4:lM=a3++List.replicate 8 8:=by rw[h3,h2,h1];exact q0x.symm
 have l1:a1.length=144:=by rw[h1];simp
 have l2:a2.length=256:=by rw[h2];simp[l1]
 have l3:a3.length=280:=by rw[h3];simp[l2]
 have C1:Hid (Calls Tryz.prog 113 #[.slice none 0 0,.int .i64 144,.int .i64 8] w fun e w'=>∃v',e=.returned v'/\Own w' w.heap.size 3 v' (ints (nls a1))/\Below w.heap.size w w'):=q7 (by rw[h1];exact uP (.slice none 0 0) [] 144 8 w w.heap.size (Own.nil _ _ _) (q9 _) (by simp))
 have C2:Hid (∀(W:World) (v:Value),Own W w.heap.size 3 v (ints (nls a1))->w.heap.size<=W.heap.size->Calls Tryz.prog 113 #[v,.int .i64 112,.int .i64 9] W fun e w'=>∃v',e=.returned v'/\Own w' w.heap.size 3 v' (ints (nls a2))/\Below w.heap.size W w'):=q7 (fun W v h hB=>by rw[h2];exact uP v a1 112 9 W w.heap.size h hB (by omega))
 have C3:Hid (∀(W:World) (v:Value),Own W w.heap.size 3 v (ints (nls a2))->w.heap.size<=W.heap.size->Calls Tryz.prog 113 #[v,.int .i64 24,.int .i64 7] W fun e w'=>∃v',e=.returned v'/\Own w' w.heap.size 3 v' (ints (nls a3))/\Below w.heap.size W w'):=q7 (fun W v h hB=>by rw[h3];exact uP v a2 24 7 W w.heap.size h hB (by omega))
 have C4:Hid (∀(W:World) (v:Value),Own W w.heap.size 3 v (ints (nls a3))->w.heap.size<=W.heap.size->Calls Tryz.prog 113 #[v,.int .i64 8,.int .i64 8] W fun e w'=>∃v',e=.returned v'/\Own w' w.heap.size 3 v' (ints (nls lM))/\Below w.heap.size W w'):=q7 (fun W v h hB=>by rw[h4];exact uP v a3 8 8 W w.heap.size h hB (by omega))
 clear h1 h2 h3 h4 l1 l2 l3;generalize lM=L at*
 go_enter Tryz.func64,Tryz.ntmps64
 go_wp2_with(go_at_call 113;first|((with_reducible refine C1.out.mono ?_);rintro e w1 ⟨v1,rfl,ho,hb⟩;(have HO1:=q7 ho;have HB1:=q7 hb;clear ho hb C1))|((with_reducible refine(C2.out _ _ HO1.out HB1.out.size).mono ?_);rintro e w2 ⟨v2,rfl,ho,hb⟩;(have HO2:=q7 ho;have HB2:=q7 (HB1.out.trans hb);clear ho hb C2))|((with_reducible refine(C3.out _ _ HO2.out HB2.out.size).mono ?_);rintro e w3 ⟨v3,rfl,ho,hb⟩;(have HO3:=q7 ho;have HB3:=q7 (HB2.out.trans hb);clear ho hb C3))|((with_reducible refine(C4.out _ _ HO3.out HB3.out.size).mono ?_);rintro e w4 ⟨v4,rfl,ho,hb⟩;(have HO4:=q7 ho;have HB4:=q7 (HB3.out.trans hb);clear ho hb C4)))
 go_ret
 exact⟨_,rfl,HO4.out,HB4.out⟩
theorem q6g(w:World):Calls Tryz.prog 65 #[] w (uQ oH w):=by
 have C1:Hid (Calls Tryz.prog 113 #[.slice none 0 0,.int .i64 32,.int .i64 5] w fun e w'=>∃v',e=.returned v'/\Own w' w.heap.size 3 v' (ints (nls oH))/\Below w.heap.size w w'):=q7 (by rw[<-q0y];exact uP (.slice none 0 0) [] 32 5 w w.heap.size (Own.nil _ _ _) (q9 _) (by simp))
 generalize oH=L at*
 go_enter Tryz.func65,Tryz.ntmps65
 go_wp2_with(go_at_call 113;(with_reducible refine C1.out.mono ?_);rintro e w1 ⟨v1,rfl,ho,hb⟩;(have HO1:=q7 ho;have HB1:=q7 hb;clear ho hb C1))
 go_ret
 exact⟨_,rfl,HO1.out,HB1.out⟩
theorem q6p(i:Nat)(hi:i<100)(w:World):Calls Tryz.prog 175 #[.int .i64 i,.int .i64 4] w fun e w'=>e=.returned (.int .i64 (spB 4 i:Nat))/\∃x,w'=ext w x:=by
 have h1:(i:Int).tdiv 4=((i/4:Nat):Int):=by norm_cast
 have hl:i/4<100:=by omega
 unfold spB
 by_cases h:i<2*4
 ·have hd:decide ((i:Int)<2*4)=true:=by rw[decide_eq_true_iff];omega
  have e:i/4-1=0:=by omega
  rw[e]
  go_enter Tryz.func175,Tryz.ntmps175
  go_wp2;go_ret
  exact⟨rfl,(qt (by repeat(first|exact qj _ _|assumption|refine qw ?_ _|refine qk ?_|refine qA ?_ _|refine qs ?_ _)))⟩
 ·have hd:decide ((i:Int)<2*4)=false:=by rw[qm];omega
  have e:((i/4-1:Nat):Int)=(i:Int)/4-1:=by omega
  rw[e]
  go_enter Tryz.func175,Tryz.ntmps175
  go_wp2;go_ret
  exact⟨rfl,(qt (by repeat(first|exact qj _ _|assumption|refine qw ?_ _|refine qk ?_|refine qA ?_ _|refine qs ?_ _)))⟩
theorem q6q(i:Nat)(hi:i<=27)(w:World):Calls Tryz.prog 149 #[.int .i64 ((257+i:Nat):Int)] w fun e w'=>e=.returned (.tuple #[.int .i64 (qL 3 4 i:Nat),.int .i64 (spB 4 i:Nat),.bool true])/\∃x,w'=ext w x:=by
 have HBI:=q7 (fun(i:Nat) (hi:i<100) (W:World)=>q6p i hi W)
 obtain⟨s,hs⟩:∃s,s=257+i:=⟨_,rfl⟩;rw[<-hs];have hs2:s<=257+27:=by omega
 have hs1:257<=s:=by omega
 have qms:((s:Int)==285)=false:=by simp;omega
 have hdl:decide ((s:Int)<257)=false:=by rw[qm];omega
 have hdr:decide ((s:Int)>285)=false:=by rw[qm];omega
 have HS:=q7 hs;clear hs
 go_enter Tryz.func149,Tryz.ntmps149
 go_wp2
 go_loopg [5,6] (i+1) (fun gk bv sv wr=>∃k:Nat,bv=.int .i64 (qL 3 4 k:Nat)/\sv=.int .i64 ((257+k:Nat):Int)/\k<=i/\Below w.heap.size w wr/\gk=i+1-k)
 case atStart=>exact⟨0,rfl,rfl,qc _,qj _ _,rfl⟩
 case round=>
  obtain⟨k,rfl,rfl,hk,q8Z,rfl⟩:=hrel;have HBL:=q7 q8Z;have HBK:=q7 (fun W=>HBI.out k (by omega) W)
  have hbs:=uT k (by omega)
  have qat:=q0E k (by omega)
  have hp:=qe (n:=2) (by decide) qat
  have hpi:(2:Int)^(spB 4 k)<=8192:=by
   have h:((2^spB 4 k:Nat):Int)<=8192:=by omega
   simpa using h
  have qet:(0:Int)<=(2:Int)^(spB 4 k):=Int.pow_nonneg (by decide)
  have HN1:Hid (((qL 3 4 (k+1):Nat):Int)=((qL 3 4 k:Nat):Int)+2^(spB 4 k)):=q7 (by rw[dC];norm_cast)
  have hs:=HS.out;obtain⟨v,hv⟩:∃v,v=257+k:=⟨_,rfl⟩;have hvk:(v:Int)-257=(k:Int):=by omega
  clear q8Z
  by_cases hlt:k<i
  ·have hd:v<s:=by omega
   have hv1:((257+(k+1):Nat):Int)=(v:Int)+1:=by omega
   have HV1:=q7 hv1;rw[<-hv];clear hs hv1;clear hv;generalize spB 4 k=b at*;generalize qL 3 4 k=q at*
   go_wp2_with(go_at_call 175;(with_reducible refine(HBK.out _).mono ?_);rintro e w4 ⟨rfl,x4,rfl⟩)
   go_roundg (i+1-(k+1))
   case measure=>omega
   case rel=>exact⟨k+1,by rw[HN1.out],by rw[HV1.out],by omega,HBL.out.trans ((qu _ x4).mono HBL.out.size),rfl⟩
  ·obtain rfl:k=i:=by omega
   have hd:decide (v<s)=false:=by rw[qm];omega
   have hsk:(s:Int)-257=(k:Int):=by omega
   clear hs hlt hv hvk
   go_wp2_with(go_at_call 175;(with_reducible refine(HBK.out _).mono ?_);rintro e w4 ⟨rfl,x4,rfl⟩)
   go_ret3
   exact⟨rfl,qt (HBL.out.trans ((qu _ x4).mono HBL.out.size))⟩
theorem q6r(i:Nat)(hi:i<100)(w:World):Calls Tryz.prog 175 #[.int .i64 i,.int .i64 2] w fun e w'=>e=.returned (.int .i64 (spB 2 i:Nat))/\∃x,w'=ext w x:=by
 have h1:(i:Int).tdiv 2=((i/2:Nat):Int):=by norm_cast
 have hl:i/2<100:=by omega
 unfold spB
 by_cases h:i<2*2
 ·have hd:decide ((i:Int)<2*2)=true:=by rw[decide_eq_true_iff];omega
  have e:i/2-1=0:=by omega
  rw[e]
  go_enter Tryz.func175,Tryz.ntmps175
  go_wp2;go_ret
  exact⟨rfl,(qt (by repeat(first|exact qj _ _|assumption|refine qw ?_ _|refine qk ?_|refine qA ?_ _|refine qs ?_ _)))⟩
 ·have hd:decide ((i:Int)<2*2)=false:=by rw[qm];omega
  have e:((i/2-1:Nat):Int)=(i:Int)/2-1:=by omega
  rw[e]
  go_enter Tryz.func175,Tryz.ntmps175
  go_wp2;go_ret
  exact⟨rfl,(qt (by repeat(first|exact qj _ _|assumption|refine qw ?_ _|refine qk ?_|refine qA ?_ _|refine qs ?_ _)))⟩
theorem q6s(i:Nat)(hi:i<=29)(w:World):Calls Tryz.prog 150 #[.int .i64 ((0+i:Nat):Int)] w fun e w'=>e=.returned (.tuple #[.int .i64 (qL 1 2 i:Nat),.int .i64 (spB 2 i:Nat),.bool true])/\∃x,w'=ext w x:=by
 have HBI:=q7 (fun(i:Nat) (hi:i<100) (W:World)=>q6r i hi W)
 obtain⟨s,hs⟩:∃s,s=0+i:=⟨_,rfl⟩;rw[<-hs];have hs2:s<=0+29:=by omega
 have hs1:0<=s:=by omega
 have hdl:decide ((s:Int)<0)=false:=by rw[qm];omega
 have hdr:decide ((s:Int)>29)=false:=by rw[qm];omega
 have HS:=q7 hs;clear hs
 go_enter Tryz.func150,Tryz.ntmps150
 go_wp2
 go_loopg [5,6] (i+1) (fun gk bv sv wr=>∃k:Nat,bv=.int .i64 (qL 1 2 k:Nat)/\sv=.int .i64 ((0+k:Nat):Int)/\k<=i/\Below w.heap.size w wr/\gk=i+1-k)
 case atStart=>exact⟨0,rfl,rfl,qc _,qj _ _,rfl⟩
 case round=>
  obtain⟨k,rfl,rfl,hk,q8Z,rfl⟩:=hrel;have HBL:=q7 q8Z;have HBK:=q7 (fun W=>HBI.out k (by omega) W)
  have hbs:=uU k (by omega)
  have qat:=q0F k (by omega)
  have hp:=qe (n:=2) (by decide) qat
  have hpi:(2:Int)^(spB 2 k)<=8192:=by
   have h:((2^spB 2 k:Nat):Int)<=8192:=by omega
   simpa using h
  have qet:(0:Int)<=(2:Int)^(spB 2 k):=Int.pow_nonneg (by decide)
  have HN1:Hid (((qL 1 2 (k+1):Nat):Int)=((qL 1 2 k:Nat):Int)+2^(spB 2 k)):=q7 (by rw[dC];norm_cast)
  have hs:=HS.out;obtain⟨v,hv⟩:∃v,v=0+k:=⟨_,rfl⟩;have hvk:(v:Int)-0=(k:Int):=by omega
  clear q8Z
  by_cases hlt:k<i
  ·have hd:v<s:=by omega
   have hv1:((0+(k+1):Nat):Int)=(v:Int)+1:=by omega
   have HV1:=q7 hv1;rw[<-hv];clear hs hv1;obtain rfl:k=v:=by omega
   clear hv hvk;generalize spB 2 k=b at*;generalize qL 1 2 k=q at*
   go_wp2_with(go_at_call 175;(with_reducible refine(HBK.out _).mono ?_);rintro e w4 ⟨rfl,x4,rfl⟩)
   go_roundg (i+1-(k+1))
   case measure=>omega
   case rel=>exact⟨k+1,by rw[HN1.out],by rw[HV1.out],by omega,HBL.out.trans ((qu _ x4).mono HBL.out.size),rfl⟩
  ·obtain rfl:k=i:=by omega
   have hd:decide (v<s)=false:=by rw[qm];omega
   have hsk:(s:Int)-0=(k:Int):=by omega
   clear hs hlt hv hvk;obtain rfl:s=k:=by omega
   go_wp2_with(go_at_call 175;(with_reducible refine(HBK.out _).mono ?_);rintro e w4 ⟨rfl,x4,rfl⟩)
   go_ret3
   exact⟨rfl,qt (HBL.out.trans ((qu _ x4).mono HBL.out.size))⟩
theorem q0O(w:World):Calls Tryz.prog 149 #[.int .i64 285] w fun e w'=>e=.returned (.tuple #[.int .i64 258,.int .i64 0,.bool true])/\∃x,w'=ext w x:=by
 go_enter Tryz.func149,Tryz.ntmps149
 go_wp2
 go_ret3
 exact⟨rfl,(qt (by repeat(first|exact qj _ _|assumption|refine qw ?_ _|refine qk ?_|refine qA ?_ _|refine qs ?_ _)))⟩
theorem q4V{P:Program}(x y:qK)(hb:x.length+y.length<=9223372036854775807)(w:World):(Op.stringOp .add ⟨x.toArray⟩ ⟨y.toArray⟩).run P w=.ok (.string ⟨(x++y).toArray⟩) w:=by
 rw[run_string_add_sum _ _ _ (by simpa[ByteArray.size]using hb),jA]
theorem gR{P:Program}{C:World->Prop}{o:Oper}{a:Act}{K:Act->Prop}(x y:Operand)(T R:TypeId)(ho:o.op=.binOp .add T x y R)(l m:qK)(hx:a.eval x=.string ⟨l.toArray⟩)(hy:a.eval y=.string ⟨m.toArray⟩)
  (hb:l.length+m.length<=9223372036854775807) (h:K (a.put o.dst (.string ⟨(l++m).toArray⟩))):o.quiet P a C K:=by
 refine⟨.string ⟨(l++m).toArray⟩,fun w' _=>?_,h⟩
 have hr:=q4V (P:=P) l m hb w';unfold Oper.quietAt execOp;simp only[ho,Sem.run_bind,Sem.run_pure,Result.andThen_ok,hx,hy,eqGuard,binOp,Bool.not_false,if_true,hr,Oper.quietUpon]
 exact⟨trivial,trivial⟩
theorem q4Y{k:Nat}(hk:k=1\/k=2\/k=4)(w:World):Calls Tryz.prog 70 #[.int .i64 k] w fun e w'=>e=.returned (.bool true)/\∃x,w'=ext w x:=by
 rcases hk with rfl|rfl|rfl
 all_goals
  go_enter Tryz.func70,Tryz.ntmps70
  go_wp2;go_ret
  exact⟨rfl,(qt (by repeat(first|exact qj _ _|assumption|refine qw ?_ _|refine qk ?_|refine qA ?_ _|refine qs ?_ _)))⟩
theorem q6G{n:Nat}(hn:n<4294967296)(w:World):Calls Tryz.prog 153 #[.int .u32 n] w fun e w'=>e=.returned (.int .u32 (sQ 8 n:Nat))/\∃x,w'=ext w x:=by
 obtain⟨R,hR⟩:∃R,R=sQ 8 n:=⟨_,rfl⟩;rw[<-hR];have HR:=q7 hR;clear hR
 go_enter Tryz.func153,Tryz.ntmps153
 go_wp2
 go_loopg [0,3] 8 (fun gk nv iv wr=>∃(i m:Nat),i<=8/\iv=.int .i64 i/\nv=.int .u32 m/\m<4294967296/\Hid (R=sQ (8-i) m)/\gk=8-i/\Below w.heap.size w wr)
 case atStart=>exact⟨0,n,by omega,rfl,rfl,hn,HR,rfl,qj _ _⟩
 case round=>
  obtain⟨i,m,hi,rfl,rfl,hm,hr,rfl,q8Z⟩:=hrel
  by_cases h1:i<8
  ·have h1i:(i:Int)<8:=by omega
   have hst:R=sQ (8-(i+1)) (kH m):=by rw[hr.out,show 8-i=(8-(i+1))+1 by omega];rfl
   have hlt:=wP hm;have hx:=q5X (m/2) 3988292384 (by omega) (by decide)
   by_cases h2:m%2=1
   ·have h2i:((m:Int)%2==1)=true:=by simp;omega
    have hs:kH m=(m/2)^^^3988292384:=by unfold kH;rw[if_pos h2]
    have hx2:bits .xor .u32 ((m:Int)/2) 3988292384=(kH m:Nat):=by rw[hs];simpa using hx
    have HST:=q7 hst;generalize kH m=q at*;clear hx hs hst;go_wp2
    go_roundg (8-(i+1))
    case measure=>omega
    case rel=>exact⟨i+1,q,by omega,by congr 1,rfl,hlt,HST,rfl,q8Z⟩
   ·have h2i:((m:Int)%2==1)=false:=by simp;omega
    have hs:kH m=m/2:=by unfold kH;rw[if_neg h2]
    rw[hs]at hst hlt;have HST:=q7 hst;clear hx hs hst;go_wp2
    go_roundg (8-(i+1))
    case measure=>omega
    case rel=>exact⟨i+1,m/2,by omega,by congr 1,by congr 1,hlt,HST,rfl,q8Z⟩
  ·have h1i:decide ((i:Int)<8)=false:=by rw[qm];omega
   have hz:Hid (R=m):=q7 (by rw[hr.out,show 8-i=0 by omega];rfl)
   go_wp2;go_ret
   exact⟨by rw[hz.out];rfl,qt q8Z⟩
theorem q7L{c:Nat}{b:UInt8}(hc:c<4294967296)(w:World):Calls Tryz.prog 117 #[.int .u32 c,.int .u8 (b.toNat:Nat)] w fun e w'=>e=.returned (.int .u32 (q0Z c b:Nat))/\∃x,w'=ext w x:=by
 have hb:=UInt8.toNat_lt b;have hx:(c%256)^^^b.toNat<256:=Nat.xor_lt_two_pow (n:=8) (by omega) hb
 have HE:=q7 (fun W:World=>q6G (n:=(c%256)^^^b.toNat) (by omega) W)
 have h1:=q5X (c%256) b.toNat (by omega) (by omega)
 rw[show((c%256:Nat):Int)=(c:Int)%256 by omega]at h1
 have h2:=q5X (sQ 8 ((c%256)^^^b.toNat)) (c/256) (wQ 8 (by omega)) (by omega)
 rw[show((c/256:Nat):Int)=(c:Int)/256 by omega]at h2
 have hR:q0Z c b=sQ 8 ((c%256)^^^b.toNat)^^^(c/256):=rfl;rw[<-hR]at h2;generalize q0Z c b=R at*;generalize sQ 8 ((c%256)^^^b.toNat)=E at*;generalize (c%256)^^^b.toNat=X at*;generalize b.toNat=y at*;clear hR
 go_enter Tryz.func117,Tryz.ntmps117
 go_wp2_with((with_reducible go_at_call 153);refine(HE.out _).mono ?_;rintro en w2 ⟨rfl,x2,rfl⟩)
 go_ret
 exact⟨rfl,(qt (by repeat(first|exact qj _ _|assumption|refine qw ?_ _|refine qk ?_|refine qA ?_ _|refine qs ?_ _)))⟩
theorem onR{c:Nat}{s:ByteArray}(hc:c<4294967296)(hs:s.size<=4611686018427387904)(w:World):Calls Tryz.prog 71 #[.int .u32 c,.string s] w fun e w'=>e=.returned (.int .u32 (4294967295-pM (4294967295-c) (bys s):Nat))/\∃x,w'=ext w x:=by
 have HIX:=q7 (fun(i:Nat) (h:i<s.size) (W:World)=>jS (P:=Tryz.prog) 9 Tryz.underlying9 h W)
 have HL:=q7 (qF s);have HS:=q7 (fun(c:Nat) (b:UInt8) (h:c<4294967296) (W:World)=>q7L (c:=c) (b:=b) h W)
 have e0:=wS hc;obtain⟨c0,hc0⟩:∃c0,c0=4294967295-c:=⟨_,rfl⟩;rw[<-hc0]at e0⊢;have hcb:c0<4294967296:=by omega
 obtain⟨R,hR⟩:∃R,R=4294967295-pM c0 (bys s):=⟨_,rfl⟩;rw[<-hR];have HR:=q7 hR;clear hR;generalize bys s=t at*;clear hc0
 go_enter Tryz.func71,Tryz.ntmps71
 go_wp2
 go_loopg [0,5] s.size (fun gk nv iv wr=>∃(i:Nat),i<=s.size/\iv=.int .i64 i/\nv=.int .u32 (pM c0 (t.take i):Nat)/\gk=s.size-i/\Below w.heap.size w wr)
 case atStart=>exact⟨0,qc _,rfl,rfl,rfl,qj _ _⟩
 case round=>
  obtain⟨i,hi,rfl,rfl,rfl,q8Z⟩:=hrel;have hlt:=I3 (t.take i) hcb
  by_cases h1:i<s.size
  ·have h1i:(i:Int)<(s.size:Nat):=by omega
   have hix:=HIX.out i h1;have hbt:=HS.out (pM c0 (t.take i)) (t.getD i 0) hlt;have hst:pM c0 (t.take (i+1))=q0Z (pM c0 (t.take i)) (t.getD i 0):=by rw[wR (by rw[HL.out];exact h1),zQ]
   rw[<-hst]at hbt;have HBT:=q7 hbt;generalize pM c0 (t.take i)=x at*;generalize hx2:pM c0 (t.take (i+1))=x2 at*;have HX2:=q7 hx2;clear hx2;generalize (t.getD i 0).toNat=y at*;clear hst hbt HS HIX
   go_wp2_with((with_reducible go_at_call 117);refine(HBT.out _).mono ?_;rintro en w2 ⟨rfl,hx⟩;have HB2:=q7 (qq q8Z (qr hx));clear hx)
   go_roundg (s.size-(i+1))
   case measure=>omega
   case rel=>exact⟨i+1,by omega,by congr 1,by rw[HX2.out],rfl,HB2.out⟩
  ·have h1i:decide ((i:Int)<(s.size:Nat))=false:=by rw[qm];omega
   have e1:=wS hlt;rw[List.take_of_length_le (by rw[HL.out];omega)]at e1 hlt⊢
   rw[<-HR.out]at e1;generalize pM c0 t=x at*;go_wp2;go_ret
   exact⟨rfl,qt q8Z⟩
theorem q2W{s:ByteArray}(hs:s.size<=4611686018427387904)(w:World):Calls Tryz.prog 32 #[.string s] w fun e w'=>e=.returned (.int .u32 (bL (bys s):Nat))/\∃x,w'=ext w x:=by
 have H:=q7 (fun W=>onR (c:=0) (s:=s) (by decide) hs W)
 have e:bL (bys s)=4294967295-pM (4294967295-0) (bys s):=rfl;rw[e];generalize 4294967295-pM (4294967295-0) (bys s)=R at*
 go_enter Tryz.func32,Tryz.ntmps32
 go_wp2_with((with_reducible go_at_call 71);refine(H.out _).mono ?_;rintro en w3 ⟨rfl,x3,rfl⟩)
 go_ret
 exact⟨rfl,(qt (by repeat(first|exact qj _ _|assumption|refine qw ?_ _|refine qk ?_|refine qA ?_ _|refine qs ?_ _)))⟩
theorem zU{f b:Int}(hf:0<=f/\f<4294967296)(hb:1<=b/\b<=256)(w:World):Calls Tryz.prog 61 #[.int .i64 f,.int .i64 b] w fun e w'=>e=.returned (.bool (jF f b))/\w'=w:=by
 have h0:0<=f/b:=Int.ediv_nonneg hf.1 (by omega)
 have h1:f/b<=f:=Int.ediv_le_self b hf.1;have ht:f.tdiv b=f/b:=Int.tdiv_eq_ediv_of_nonneg hf.1;have hm:(f/b).tmod 2=f/b%2:=Int.tmod_eq_emod_of_nonneg h0;have hbz:b≠0:=by omega
 unfold jF;generalize f/b=q at*
 go_enter Tryz.func61,Tryz.ntmps61
 go_wp2;go_ret
 exact⟨rfl,rfl⟩
end Go.Cm
