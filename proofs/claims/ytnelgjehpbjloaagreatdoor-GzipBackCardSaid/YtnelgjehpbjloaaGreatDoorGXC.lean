/- Walks of functions and plain facts, joined and squeezed by a program. Conditions: as each says. -/
import Derived.Test.YtnelgjehpbjloaaGreatDoorGXA
set_option maxHeartbeats 8000000
set_option maxRecDepth 100000
set_option linter.unusedSimpArgs false
namespace Go.Cm
open Go.RowKit Go.Proofs
def z16:Array Value:=(ints (List.replicate 16 0)).toArray
theorem F0(W:World):(zeroValue 277).run Tryz.prog W=.ok (.agg z16) W:=by kernel_rfl
theorem q2d:z16.toList=ints (nls (List.replicate 16 0)):=rfl
def lT(L:List Nat):List Nat:=(List.range 16).map fun n=>L.count n
theorem oN(L:List Nat)(n:Nat)(h:n<16):(lT L).getD n 0=L.count n:=by
 simp[lT,List.getD,h]
theorem oO(w:World)(A:Array Value)(hA:A=z16):kS (w.alloc (.cells A 277)) 277 16 w.heap.size (nls (List.replicate 16 0)):=by
 subst hA
 exact rE w 277 z16 (nls (List.replicate 16 0)) q2d (by decide)
def gJ(l:List Int)(w:World)(e:Ending)(w':World):Prop:=
 ∃c:List Nat,c.length=16/\e=.returned (.tuple #[.agg (ints (nls c)).toArray,.int .i64 (jU l:Nat)])/\(jU l=0->c=lT (l.map Int.toNat))/\Below w.heap.size w w'
theorem jD{P:Program}{ops:Array Oper}{rest:List Oper}{o:Oper}{a:Act}{w:World}{Q:Exit->Act->World->Prop}(hgd:o.guard=none)(T n:Nat)(x y:Operand)(ho:o.op=.store T x y)
  (g:Nat) (hx:a.eval x=.pointer (some ⟨g,0,none⟩)) (cl c2:List Int) (hy:a.eval y=.agg (ints c2).toArray) (h2:c2.length=n) (hi:(P.info? T).map (·.size)=some n) (hown:kS w T n g cl)
  (h:∀w',kS w' T n g c2->w.grownBy w' (some g)->wpList P ops Q rest (a.put o.dst undef) w'):wpList P ops Q (o::rest) a w:=by
 have hs:(ints c2).toArray.size=n:=by simp[h2]
 have hl:(ints cl).length=n:=by rw[bW,hown.len]
 refine qo hgd T x y ho g T g n n hx (ints c2).toArray hy (by rw[hs];exact hi) (ints cl) hown.own (by omega) (fun u hu=>?_) fun w' hw hg=>h w' ⟨?_,h2⟩ hg
 ·simp only[ints,List.mem_map]at hu
  obtain⟨z,-,rfl⟩:=hu;rfl
 ·rw[List.drop_of_length_le (by omega),List.append_nil]at hw
  exact hw
theorem q2e{l:List Int}{k:Nat}(hk:k<l.length){y:Nat}(hy:l.getD k 0=(y:Int)){c:List Nat}(hl:c.length=16)(qgd:y<16)(hc:∀n,n<16->c.getD n 0=((l.take k).map Int.toNat).count n):
  ∀n,n<16->(c.set y (c.getD y 0+1)).getD n 0=((l.take (k+1)).map Int.toNat).count n:=by
 intro n hn;rw[bN l k 0 hk,List.map_append,List.count_append,hy];simp only[List.map_cons,List.map_nil,Int.toNat_natCast,List.count_singleton]
 by_cases h:y=n
 ·subst h
  rw[aT (by omega),hc _ hn,if_pos (beq_self_eq_true _)]
 ·rw[aL h,hc _ hn,if_neg (by simpa using h)];rfl
theorem q2f{l:List Int}{c:List Nat}(hl:c.length=16)(hc:∀n,n<16->c.getD n 0=(l.map Int.toNat).count n):c=lT (l.map Int.toNat):=by
 refine List.ext_getElem (by simp[hl,lT]) fun n h1 h2=>?_
 have:=hc n (by omega)
 simp only[lT,List.getElem_map,List.getElem_range];rw[<-this]
 simp[List.getD,h1]
theorem Z7(v:Value)(l:List Int)(w:World)(h:qT w v l):Calls Tryz.prog 189 #[v] w (gJ l w):=by
 obtain⟨oa,cap,b,off,rfl,hd,hc⟩:=h.open;have hix:=qQ (P:=Tryz.prog) 66 3 Tryz.underlying66 (by kernel_rfl) hd
 have hm:=hd.len;have hbk:=hd.hblk;have HC:=q7 hc;clear hc h hd;have hz:=F0;obtain⟨Z,hZ⟩:∃Z,Z=z16:=⟨_,rfl⟩;rw[<-hZ]at hz;obtain⟨O,hO⟩:∃O,O=List.replicate 16 0:=⟨_,rfl⟩;have hb1:=oO w Z hZ;have hb2:=oO (w.alloc (.cells Z 277)) Z hZ;rw[show(w.alloc (.cells Z 277)).heap.size=w.heap.size+1 by simp]at hb2
 rw[<-hO]at hb1 hb2;have HB2:=q7 hb2;have HB3:Hid (kS ((w.alloc (.cells Z 277)).alloc (.cells Z 277)) 277 16 w.heap.size (nls O)):=q7 (hb1.up (qn _ _));have HBL:Hid (Below w.heap.size w ((w.alloc (.cells Z 277)).alloc (.cells Z 277))):=q7 (by repeat(first|exact qj _ _|assumption|refine qw ?_ _|refine qk ?_|refine qA ?_ _|refine qs ?_ _))
 have HOL:Hid (O.length=16):=q7 (by rw[hO];simp)
 have HOC:Hid (∀n,n<16->O.getD n 0=((l.take 0).map Int.toNat).count n):=q7 (fun n hn=>by rw[hO,List.getD_eq_getElem?_getD,List.getElem?_replicate,if_pos hn];simp)
 clear hZ hb1 hb2 hO
 by_cases q90:320<l.length
 ·have hb:(l.length:Int)>320:=by omega
  have HE:=q7 (u5 q90);obtain⟨A,hgA,hsA,hA⟩:=HB2.out.open;have HA:=q7 (congrArg List.toArray hA);clear hA
  go_enter Tryz.func189,Tryz.ntmps189
  go_wp2_with(first|(refine qI rfl 277 16 _ rfl (w.heap.size+1) rfl A hsA hgA _ Tryz.underlying277 rfl (by kernel_rfl) ?_)|(refine jD rfl 277 16 _ _ rfl w.heap.size rfl (nls O) (nls O) (congrArg Value.agg HA.out) (by rw[qB];exact HOL.out) (by kernel_rfl) HB3.out ?_;intro w2 hB2 hg2;have HB4:=q7 hB2;have HG2:=q7 hg2;clear hB2 hg2))
  refine qR (s:=2) (b:=3) (ad:=⟨w.heap.size,0,none⟩) (x:=.agg (ints (nls O)).toArray) (y:=.int .i64 3) rfl rfl rfl rfl (HB4.out.load _ Tryz.underlying277 rfl (by kernel_rfl)) ?_
  refine⟨O,HOL.out,by rw[HE.out];rfl,fun h0=>(by rw[HE.out]at h0;cases h0),?_⟩
  exact HBL.out.grown HG2.out HBL.out.size (fun k hk=>by cases hk;exact q9 _)
 ·have hb:¬(l.length:Int)>320:=by omega
  go_enter Tryz.func189,Tryz.ntmps189
  go_wp2
  go_loopg [13] (l.length+1) (fun gk i wr=>∃(k:Nat) (c:List Nat),k<=l.length/\i=.int .i64 k/\Hid (c.length=16)/\kS wr 277 16 (w.heap.size+1) (nls c)/\kS wr 277 16 w.heap.size (nls O)/\Hid (∀q,q<k->0<=l.getD q 0/\l.getD q 0<=15)/\Hid (∀n,n<16->c.getD n 0=((l.take k).map Int.toNat).count n)/\Below w.heap.size w wr/\gk=l.length+1-k)
  case atStart=>exact⟨0,O,qc _,rfl,HOL,HB2.out,HB3.out,q7 (fun j hj=>absurd hj (Nat.not_lt_zero j)),HOC,HBL.out,rfl⟩
  case round=>
   clear HB2 HB3 HBL HOC;obtain⟨k,c,hk,rfl,HCL,hb2,hb3,qiF,HCN,q8Z,rfl⟩:=hrel;have HB2:=q7 hb2;have HB3:=q7 hb3;have HBL:=q7 q8Z;have hsz:=q8Z.size;clear hb2 hb3 q8Z
   by_cases hlt:k<l.length
   ·have hbb:=hbk (by omega)
    have hcell:=(HBL.out.cell (p:=⟨b,off+k,none⟩) hbb).trans (HC.out k hlt)
    have HW:Hid ((0<=l.getD k 0/\l.getD k 0<=15)->∀q,q<k+1->0<=l.getD q 0/\l.getD q 0<=15):=q7 (fun h q hq=>by
     rcases Nat.lt_succ_iff_lt_or_eq.1 hq with h1|rfl
     ·exact qiF.out q h1
     ·exact h)
    have HF:Hid (¬(0<=l.getD k 0/\l.getD k 0<=15)->jU l=1):=q7 (u9 q90 hlt);have HST:Hid (∀y:Nat,l.getD k 0=(y:Int)->y<16->∀n,n<16->(c.set y (c.getD y 0+1)).getD n 0=((l.take (k+1)).map Int.toNat).count n):=q7 (fun y hy qgd=>q2e hlt hy HCL.out qgd HCN.out)
    have HCB:Hid (∀n,n<16->c.getD n 0<=320):=q7 (fun n hn=>by
     rw[HCN.out n hn];have:=List.count_le_length (a:=n) (l:=(l.take k).map Int.toNat);simp only[List.length_map,List.length_take]at this;omega)
    have qjT:b<wr.heap.size:=by omega
    generalize l.getD k 0=y at*
    by_cases hok:0<=y/\y<=15
    ·obtain⟨h0,h1⟩:=hok
     obtain⟨n,rfl⟩:∃n:Nat,y=(n:Int):=⟨y.toNat,by omega⟩
     have hn:n<16:=by omega
     have hcn:=HB2.out.cell hn;rw[jb]at hcn;have hcb:=HCB.out n hn;have hfn:=HB2.out.free n;have hbg:=HB2.out.lt;have q9C:=HB2.out.set n ((c.getD n 0:Nat)+1);have q95:=q7 (HST.out n rfl hn);have qa1:=q7 q9C;clear q9C;have hns:nls c=nls c:=rfl;have HNS:Hid ((nls c).set n (((c.getD n 0:Nat):Int)+1)=nls (c.set n (c.getD n 0+1))):=q7 (by rw[<-i7];norm_cast)
     generalize c.getD n 0=m at*;go_wp2
     go_roundg (l.length-k)
     case measure=>omega
     case rel=>
      refine⟨k+1,c.set n (m+1),by omega,by go_num,q7 (by rw[List.length_set];exact HCL.out),?_,?_,q7 (HW.out ⟨h0,h1⟩),q7 q95.out,?_,by omega⟩
      ·have:=qa1.out.1
       rw[HNS.out]at this
       exact this
      ·exact HB3.out.keep qa1.out.2 (by simp)
      ·exact HBL.out.grown qa1.out.2 (by omega) (fun k hk=>by cases hk;omega)
    ·have HE:=HF.out hok
     have HE2:=q7 HE;clear HE;obtain⟨A,hgA,hsA,hA⟩:=HB2.out.open;have HA:=q7 (congrArg List.toArray hA);clear hA
     by_cases h0:y<0
     ·go_wp2_with(first|(refine qI rfl 277 16 _ rfl (w.heap.size+1) rfl A hsA hgA _ Tryz.underlying277 rfl (by kernel_rfl) ?_)|(refine jD rfl 277 16 _ _ rfl w.heap.size rfl (nls O) (nls c) (congrArg Value.agg HA.out) (by rw[qB];exact HCL.out) (by kernel_rfl) HB3.out ?_;intro w2 hB2 hg2;have HB4:=q7 hB2;have HG2:=q7 hg2;clear hB2 hg2))
      refine qR (s:=2) (b:=3) (ad:=⟨w.heap.size,0,none⟩) (x:=.agg (ints (nls c)).toArray) (y:=.int .i64 1) rfl rfl rfl rfl (HB4.out.load _ Tryz.underlying277 rfl (by kernel_rfl)) ?_
      refine⟨c,HCL.out,by rw[HE2.out];rfl,fun h0=>(by rw[HE2.out]at h0;cases h0),?_⟩
      exact HBL.out.grown HG2.out (by omega) (fun k hk=>by cases hk;exact q9 _)
     ·have h1:y>15:=by omega
      go_wp2_with(first|(refine qI rfl 277 16 _ rfl (w.heap.size+1) rfl A hsA hgA _ Tryz.underlying277 rfl (by kernel_rfl) ?_)|(refine jD rfl 277 16 _ _ rfl w.heap.size rfl (nls O) (nls c) (congrArg Value.agg HA.out) (by rw[qB];exact HCL.out) (by kernel_rfl) HB3.out ?_;intro w2 hB2 hg2;have HB4:=q7 hB2;have HG2:=q7 hg2;clear hB2 hg2))
      refine qR (s:=2) (b:=3) (ad:=⟨w.heap.size,0,none⟩) (x:=.agg (ints (nls c)).toArray) (y:=.int .i64 1) rfl rfl rfl rfl (HB4.out.load _ Tryz.underlying277 rfl (by kernel_rfl)) ?_
      refine⟨c,HCL.out,by rw[HE2.out];rfl,fun h0=>(by rw[HE2.out]at h0;cases h0),?_⟩
      exact HBL.out.grown HG2.out (by omega) (fun k hk=>by cases hk;exact q9 _)
   ·obtain rfl:k=l.length:=by omega
    have HE:=q7 (yI q90 qiF.out);have hcn:=HCN.out;rw[List.take_length]at hcn;have HCE:=q7 (q2f HCL.out hcn);clear hcn;obtain⟨A,hgA,hsA,hA⟩:=HB2.out.open;have HA:=q7 (congrArg List.toArray hA);clear hA
    go_wp2_with(first|(refine qI rfl 277 16 _ rfl (w.heap.size+1) rfl A hsA hgA _ Tryz.underlying277 rfl (by kernel_rfl) ?_)|(refine jD rfl 277 16 _ _ rfl w.heap.size rfl (nls O) (nls c) (congrArg Value.agg HA.out) (by rw[qB];exact HCL.out) (by kernel_rfl) HB3.out ?_;intro w2 hB2 hg2;have HB4:=q7 hB2;have HG2:=q7 hg2;clear hB2 hg2))
    refine qR (s:=2) (b:=3) (ad:=⟨w.heap.size,0,none⟩) (x:=.agg (ints (nls c)).toArray) (y:=.int .i64 0) rfl rfl rfl rfl (HB4.out.load _ Tryz.underlying277 rfl (by kernel_rfl)) ?_
    refine⟨c,HCL.out,by rw[HE.out];rfl,fun _=>HCE.out,?_⟩
    exact HBL.out.grown HG2.out (by omega) (fun k hk=>by cases hk;exact q9 _)
theorem yK(L:List Nat)(hl:L.length<=320)(k:Nat)(hk:k<15):pH L k+L.count (k+1)*2^(14-k)<=10485760:=by
 have:=q4l L (k+1) (by omega)
 have h2:L.length*32768<=320*32768:=Nat.mul_le_mul_right _ hl
 exact qa this h2
theorem q3M(L:List Nat)(hl:L.length<=320)(w:World):Calls Tryz.prog 190 #[.agg (ints (nls (lT L))).toArray] w fun e w'=>e=.returned (.int .i64 (pH L 15:Nat))/\∃x,w'=ext w x:=by
 have hlc:(nls (lT L)).length=16:=by simp[nls,lT]
 have hb:=rE w 277 (ints (nls (lT L))).toArray (nls (lT L)) rfl (by omega)
 rw[hlc]at hb;have HGT:Hid (∀n,n<16->(nls (lT L)).getD n 0=(L.count n:Nat)):=q7 (fun n hn=>by rw[jb,oN L n hn])
 obtain⟨C,hC⟩:∃C,C=nls (lT L):=⟨_,rfl⟩;rw[<-hC]at hb HGT⊢;clear hC hlc;have HB:=q7 hb;clear hb
 go_enter Tryz.func190,Tryz.ntmps190
 go_wp2
 go_loop [3,5] (fun n i=>∃k:Nat,k<=15/\i=.int .i64 k/\n=.int .i64 (pH L k:Nat)) (fun _ i=>15-(intOf i).toNat)
 case atStart=>exact⟨0,qc _,rfl,rfl⟩
 case round=>
  obtain⟨k,hk,rfl,rfl⟩:=hrel
  by_cases hlt:k<15
  ·have hcell:=HB.out.cell (c:=k+1) (by omega)
   rw[HGT.out (k+1) (by omega)]at hcell
   have q9x:=HB.out.lt;have hst:=yK L hl k hlt;have HS:Hid (pH L (k+1)=pH L k+L.count (k+1)*2^(14-k)):=q7 rfl;have hcb:=List.count_le_length (a:=k+1) (l:=L);have e1:(15:Int)-(k:Int)-1=((14-k:Nat):Int):=by omega
   have hk2:14-k<=14:=by omega
   generalize hm:14-k=m at*;have HST:=q7 hst;generalize pH L k=s at*;generalize L.count (k+1)=c at*;have HPW:Hid (2^m<=16384):=q7 (qa (qe (by decide) hk2) (by decide))
   clear hst;have hs1:s<=10485760:=by have:=HST.out;omega
   have hn0:(0:Int)<=(k:Int)+1:=by omega
   go_wp2
   go_round
   case rel=>
    refine⟨k+1,by omega,by go_num,?_⟩
    have h1:=HST.out;have h2:((c:Int)*(2:Int)^m)=((c*2^m:Nat):Int):=by norm_cast
    rw[HS.out,h2];generalize c*2^m=q at*;rw[IntWalk.wrap64_in (q:Int) ⟨by omega,by omega⟩,IntWalk.wrap64_in _ ⟨by omega,by omega⟩]
    norm_cast
   case measure=>simp[intOf];omega
  ·obtain rfl:k=15:=by omega
   go_wp2;go_ret
   exact⟨rfl,(qt (by repeat(first|exact qj _ _|assumption|refine qw ?_ _|refine qk ?_|refine qA ?_ _|refine qs ?_ _)))⟩
def lU(L:List Nat)(k:Nat):List Nat:=(List.range 16).map fun j=>if j<=k then jJ L j else 0
theorem T1(L:List Nat)(k j:Nat)(h:j<16):(lU L k).getD j 0=if j<=k then jJ L j else 0:=by simp[lU,List.getD,h]
theorem T7(L:List Nat):lU L 0=List.replicate 16 0:=by
 rw[List.eq_replicate_iff];refine⟨by simp[lU],fun x hx=>?_⟩
 obtain⟨q,-,rfl⟩:=List.mem_map.1 hx;split
 ·rename_i h;rw[show q=0 by omega];rfl
 ·rfl
theorem Z8(L:List Nat):lU L 1=lU L 0:=by
 unfold lU;refine List.map_congr_left fun j _=>?_
 by_cases h:j<=0
 ·rw[if_pos h,if_pos (by omega)]
 ·rw[if_neg h]
  split
  ·rw[show j=1 by omega];rfl
  ·rfl
theorem Z9(L:List Nat)(k:Nat)(hk:1<=k):(lU L k).set (k+1) (2*(jJ L k+L.count k))=lU L (k+1):=by
 refine List.ext_getElem (by simp[lU]) fun j h1 h2=>?_
 rw[List.getElem_set];simp only[lU,List.getElem_map,List.getElem_range]
 by_cases h:k+1=j
 ·subst h
  rw[if_pos rfl,if_pos (q9 _),kU L k hk]
 ·rw[if_neg h]
  by_cases h2:j<=k
  ·rw[if_pos h2,if_pos (by omega)]
  ·rw[if_neg h2,if_neg (by omega)]
def X8(L:List Nat)(i:Nat):List Nat:=(List.range 16).map fun j=>if j=0 then 0 else jJ L j+(L.take i).count j
theorem q00(L:List Nat):lU L 15=X8 L 0:=by
 unfold lU X8;refine List.map_congr_left fun j hj=>?_
 have:=List.mem_range.1 hj;rw[if_pos (by omega),List.take_zero,List.count_nil,Nat.add_zero]
 split
 ·rename_i h;subst h;rfl
 ·rfl
theorem q01(L:List Nat)(i j:Nat)(h:j<16)(h0:0<j):(X8 L i).getD j 0=jJ L j+(L.take i).count j:=by
 simp[X8,List.getD,h];omega
theorem q02(L:List Nat)(i:Nat)(hi:i<L.length)(h:L.getD i 0=0):X8 L (i+1)=X8 L i:=by
 unfold X8;refine List.map_congr_left fun j _=>?_
 split
 ·rfl
 ·rw[jX L i j hi,if_neg (by omega),Nat.add_zero]
theorem q2g(L:List Nat)(i:Nat)(hi:i<L.length)(h:0<L.getD i 0):(X8 L i).set (L.getD i 0) (jJ L (L.getD i 0)+(L.take i).count (L.getD i 0)+1)=X8 L (i+1):=by
 refine List.ext_getElem (by simp[X8]) fun j h1 h2=>?_
 rw[List.getElem_set];simp only[X8,List.getElem_map,List.getElem_range]
 by_cases he:L.getD i 0=j
 ·subst he
  rw[if_pos rfl,if_neg (by omega),jX L i _ hi,if_pos rfl,Nat.add_assoc]
 ·rw[if_neg he]
  split
  ·rfl
  ·rw[jX L i j hi,if_neg he,Nat.add_zero]
def E1(L:List Nat)(i:Nat):List Nat:=(List.range L.length).map fun q=>if q<i then jB L q else 0
theorem s6(L:List Nat)(i:Nat):(E1 L i).length=L.length:=by simp[E1]
theorem q03(L:List Nat):E1 L 0=List.replicate L.length 0:=by
 rw[List.eq_replicate_iff];refine⟨by simp[E1],fun x hx=>?_⟩
 obtain⟨q,-,rfl⟩:=List.mem_map.1 hx;rw[if_neg (by omega)]
theorem q2h(L:List Nat):E1 L L.length=bA L:=by
 unfold E1 bA;refine List.map_congr_left fun q hq=>?_
 rw[if_pos (List.mem_range.1 hq)]
theorem q2i(L:List Nat)(i:Nat):(E1 L i).set i (jB L i)=E1 L (i+1):=by
 refine List.ext_getElem (by simp[E1]) fun q h1 h2=>?_
 rw[List.getElem_set];simp only[E1,List.getElem_map,List.getElem_range]
 by_cases he:i=q
 ·subst he;rw[if_pos rfl,if_pos (by omega)]
 ·rw[if_neg he]
  by_cases h3:q<i
  ·rw[if_pos h3,if_pos (by omega)]
  ·rw[if_neg h3,if_neg (by omega)]
theorem q04(L:List Nat)(i:Nat)(h:L.getD i 0=0):E1 L (i+1)=E1 L i:=by
 unfold E1;refine List.map_congr_left fun q _=>?_
 by_cases he:q=i
 ·subst he;rw[if_pos (by omega),if_neg (by omega)];unfold jB;rw[if_pos h]
 ·by_cases h3:q<i
  ·rw[if_pos h3,if_pos (by omega)]
  ·rw[if_neg h3,if_neg (by omega)]
theorem q2j(L:List Nat)(i:Nat)(h:0<L.getD i 0):jB L i=jJ L (L.getD i 0)+(L.take i).count (L.getD i 0):=by
 unfold jB yG;rw[if_neg (by omega)]
theorem q05(v:Value)(l:List Int)(w:World)(h:qT w v l):Calls Tryz.prog 174 #[v] w (aN l w):=by
 have HWR:Hid (∀w',Below w.heap.size w w'->Calls Tryz.prog 189 #[v] w' (gJ l w')):=q7 (fun w' hb=>Z7 v l w' (h.up hb))
 have hz:=F0;obtain⟨Z,hZ⟩:∃Z,Z=z16:=⟨_,rfl⟩;rw[<-hZ]at hz;have HZ:=q7 hZ;clear hZ
 by_cases hw0:jU l=0
 ·obtain⟨hlen,hall⟩:=i8 hw0
  obtain⟨L,rfl,h15⟩:=K0 hall;rw[qB]at hlen;have he:=mZ hlen h15;have HTP:=q7 (q3M L hlen);have HTA:=q7 (vI L h15);have HCE:Hid (∀c:List Nat,c.length=16->c=lT L->∀n,n<16->(nls c).getD n 0=(L.count n:Nat)):=q7 (fun c _ hc n hn=>by rw[hc,jb,oN L n hn])
  unfold gJ at HWR;rw[hw0]at HWR;obtain⟨oa,cap,b,off,rfl,hd,hc⟩:=h.open;rw[qB]at hd hc;unfold aN;rw[qB]at HWR⊢;rw[jm]at HWR⊢;have hix:=qQ (P:=Tryz.prog) 66 3 Tryz.underlying66 (by kernel_rfl) hd
  have hm:=hd.len;have hbk:=hd.hblk;have HC:=q7 hc;clear hc h hd hw0 hall;rw[HTA.out]at HTP
  by_cases hk:32768<jp L
  ·rw[if_pos hk]at he
   have hk2:(jp L:Int)>32768:=by omega
   clear HTA;generalize jp L=K at*
   go_enter Tryz.func174,Tryz.ntmps174
   go_wp2_with(first|(go_at_call 189;refine(HWR.out _ (by repeat(first|exact qj _ _|assumption|refine qw ?_ _|refine qk ?_|refine qA ?_ _|refine qs ?_ _))).mono ?_;rintro e w1 ⟨c,hc1,rfl,hc2,hc3⟩;have HC1:=q7 hc1;have HC2:=q7 hc2;have HC3:=q7 hc3;clear hc1 hc2 hc3)|(refine jD rfl 277 16 _ _ rfl w1.heap.size rfl (nls (List.replicate 16 0)) (nls c) rfl (by rw[qB];exact HC1.out) (by kernel_rfl) (oO w1 Z HZ.out) ?_;intro w2 hb2 hg2;(obtain⟨A,hgA,hsA,hA⟩:=hb2.open;have HAE:=q7 (congrArg List.toArray hA);have HB2:=q7 hb2;have HG2:=q7 hg2;have HT2:=q7 (HTP.out);rw[<-HC2.out (by trivial),<-HAE.out]at HT2;clear hb2 hg2 hA))|(refine qI rfl 277 16 _ rfl w1.heap.size rfl A hsA hgA _ Tryz.underlying277 rfl (by kernel_rfl) ?_)|(go_at_call 190;refine(HT2.out _).mono ?_;rintro e w3 ⟨rfl,y,rfl⟩))
   go_ret2
   have hb2:Below w.heap.size w w2:=(HC3.out.trans ((qn w1 _).mono HC3.out.size)).grown HG2.out (qa HC3.out.size (by simp)) (fun k hk=>by cases hk;exact HC3.out.size)
   exact⟨.slice none 0 0,rfl,Own.nil _ _ _,(by repeat(first|exact qj _ _|assumption|refine qw ?_ _|refine qk ?_|refine qA ?_ _|refine qs ?_ _))⟩
  ·rw[if_neg hk]at he
   have hk2:¬(jp L:Int)>32768:=by omega
   have HK:Hid (jp L<=32768):=q7 (by omega)
   have HFU:=q7 (vJ h15 HK.out);have HFL:=q7 (L0 h15 HK.out);have H15:Hid (∀i,i<L.length->L.getD i 0<=15):=q7 (fun i hi=>h15 _ (jT L i 0 hi))
   rw[he];clear h15 he HTA;generalize jp L=K at*;have hmk:=rP (P:=Tryz.prog) 66 3 (.int .i64 0) 8 L.length Tryz.underlying66 (by kernel_rfl) rfl (by decide) (by omega)
   go_enter Tryz.func174,Tryz.ntmps174
   go_wp2_with(first|(go_at_call 189;refine(HWR.out _ (by repeat(first|exact qj _ _|assumption|refine qw ?_ _|refine qk ?_|refine qA ?_ _|refine qs ?_ _))).mono ?_;rintro e w1 ⟨c,hc1,rfl,hc2,hc3⟩;have HC1:=q7 hc1;have HC2:=q7 hc2;have HC3:=q7 hc3;clear hc1 hc2 hc3)|(refine jD rfl 277 16 _ _ rfl w1.heap.size rfl (nls (List.replicate 16 0)) (nls c) rfl (by rw[qB];exact HC1.out) (by kernel_rfl) (oO w1 Z HZ.out) ?_;intro w2 hb2 hg2;(obtain⟨A,hgA,hsA,hA⟩:=hb2.open;have HAE:=q7 (congrArg List.toArray hA);have HB2:=q7 hb2;have HG2:=q7 hg2;have HT2:=q7 (HTP.out);rw[<-HC2.out (by trivial),<-HAE.out]at HT2;clear hb2 hg2 hA))|(refine qI rfl 277 16 _ rfl w1.heap.size rfl A hsA hgA _ Tryz.underlying277 rfl (by kernel_rfl) ?_)|(go_at_call 190;refine(HT2.out _).mono ?_;rintro e w3 ⟨rfl,y,rfl⟩))
   have hb2:Below w.heap.size w w2:=(HC3.out.trans ((qn w1 _).mono HC3.out.size)).grown HG2.out (qa HC3.out.size (by simp)) (fun k hk=>by cases hk;exact HC3.out.size)
   have hb3:Below w.heap.size w ((ext w2 y).alloc (.cells Z 277)):=(by repeat(first|exact qj _ _|assumption|refine qw ?_ _|refine qk ?_|refine qA ?_ _|refine qs ?_ _))
   have hn0:=oO (ext w2 y) Z HZ.out;rw[<-T7 L]at hn0;have hc0:=(HB2.out.up (qu w2 y)).up (qn (ext w2 y) (.cells Z 277));have hgc:w.heap.size<=w1.heap.size:=HC3.out.size;have hgn:w.heap.size<=(ext w2 y).heap.size:=qa hb2.size (mT _ _);have hne:w1.heap.size≠(ext w2 y).heap.size:=by have:=HB2.out.lt;have:=mT w2 y;omega
   have HN:=q7 hn0;have HCC:=q7 hc0;have HBL:=q7 hb3;have ql4:=q7 (HCE.out c HC1.out (HC2.out (by trivial)))
   clear hb2 hb3 hn0 hc0 HB2 HG2 HC3 HT2 HAE hgA hsA HWR HTP HC1 HC2;generalize (ext w2 y).alloc (.cells Z 277)=w4 at*;generalize (ext w2 y).heap.size=gn at*;generalize w1.heap.size=gc at*;generalize nls c=C at*
   go_loopg [24] 15 (fun gk i wr=>∃k:Nat,k<=15/\i=.int .i64 k/\kS wr 277 16 gn (nls (lU L k))/\kS wr 277 16 gc C/\Below w.heap.size w wr/\gk=15-k)
   case atStart=>exact⟨0,qc _,rfl,HN.out,HCC.out,HBL.out,rfl⟩
   case round=>
    clear HN HCC HBL;obtain⟨k,hk,rfl,hn0,hc0,hb0,rfl⟩:=hrel;have HN:=q7 hn0;have HCC:=q7 hc0;have HBL:=q7 hb0;have qiT:=hb0.size;clear hn0 hc0 hb0
    by_cases hlt:k<15
    ·by_cases h1:1<=k
     ·have hkp:(k:Int)>0:=by omega
      have hcn:=HN.out.cell (c:=k) (by omega)
      rw[jb,T1 L k k (by omega),if_pos (q9 _)]at hcn
      have hcc:=HCC.out.cell (c:=k) (by omega)
      rw[ql4.out k (by omega)]at hcc
      have hfn:=HN.out.free (k+1);have qmg:=HN.out.cell (c:=k+1) (by omega)
      generalize (nls (lU L k)).getD (k+1) 0=z at*;have hln:=HN.out.lt;have hlc:=HCC.out.lt;have qa1:=q7 (Z9 L k h1);have qm2:jJ L k+L.count k<=32768:=qa (HFU.out k h1 (by omega)) (qa (qe (by decide) (show k<=15 by omega)) (by decide))
      have hst:=HN.out.set (k+1) (2*(jJ L k+L.count k):Nat);rw[i7,qa1.out]at hst;have HST:=q7 hst;clear hst;generalize jJ L k=f at*;generalize L.count k=m at*;have e2:((2*(f+m):Nat):Int)=((f:Int)+(m:Int))*2:=by omega
      rw[e2]at HST;clear e2;go_wp2;refine qZ [0,1,2,3,4,5,6,7,8,9,10] [] [11] (by kernel_rfl) (by kernel_rfl) ?_
      simp only[pk]
      repeat(go_big_quiet_step (fail))
      refine wpQuiet_nil ?_;unfold qy;unfold qy;go_wp2;refine⟨trivial,?_⟩;unfold qy;go_wp2
      go_roundg (15-(k+1))
      case measure=>omega
      case rel=>
       refine⟨k+1,by omega,by go_num,?_,?_,?_,rfl⟩
       ·have h5:=HST.out.1.up (qC _ 1)
        rw[<-World.drew_is_drewN]at h5
        exact h5
       ·have h5:=(HCC.out.keep HST.out.2 (by simp;omega)).up (qC _ 1)
        rw[<-World.drew_is_drewN]at h5
        exact h5
       ·have h5:=(HBL.out.grown HST.out.2 (by omega) (fun k hk=>by cases hk;exact hgn)).trans ((qC _ 1).mono (by have:=HST.out.2.size;omega))
        rw[<-World.drew_is_drewN]at h5
        exact h5
     ·obtain rfl:k=0:=by omega
      have HN1:=q7 (Z8 L);go_wp2
      go_roundg (15-1)
      case measure=>omega
      case rel=>
       refine⟨1,by omega,by go_num,?_,HCC.out,HBL.out,rfl⟩
       rw[HN1.out];exact HN.out
    ·obtain rfl:k=15:=by omega
     rw[q00]at HN;have hgw:=HN.out.lt;have hown:=rD wr w.heap.size 3 (.int .i64 0) L.length HBL.out.size (by omega)
     have e:ints (nls (E1 L 0))=List.replicate L.length (Value.int .i64 0):=by rw[q03];simp[ints,nls]
     rw[<-e]at hown;have HO:=q7 hown;have HN5:=q7 (HN.out.up (qn wr (.cells (madeCells #[Value.int .i64 0] L.length) 3)));have qeh:=q7 (HBL.out.alloc HBL.out.size (.cells (madeCells #[Value.int .i64 0] L.length) 3));have qex:gn≠wr.heap.size:=by omega
     clear hown e hgw HN HCC HBL;go_wp2;generalize wr.alloc (.cells (madeCells #[Value.int .i64 0] L.length) 3)=w5 at*;generalize wr.heap.size=g8 at*
     go_loopg [46] L.length (fun gk i wr=>∃k:Nat,k<=L.length/\i=.int .i64 k/\kS wr 277 16 gn (nls (X8 L k))/\Own wr w.heap.size 3 (.slice (some ⟨g8,0,none⟩) L.length L.length) (ints (nls (E1 L k)))/\Below w.heap.size w wr/\gk=L.length-k)
     case atStart=>exact⟨0,qc _,rfl,HN5.out,HO.out,qeh.out,rfl⟩
     case round=>
      clear HN5 HO qeh;obtain⟨i,hi,rfl,hn0,ho0,hb0,rfl⟩:=hrel;have HN:=q7 hn0;have HO:=q7 ho0;have HBL:=q7 hb0;have qiT:=hb0.size;clear hn0 ho0 hb0
      by_cases hlt:i<L.length
      ·have hbb:=hbk (by omega)
       have hcell:=(HBL.out.cell (p:=⟨b,off+i,none⟩) hbb).trans (HC.out i hlt);rw[jb]at hcell;have qjT:b<wr.heap.size:=by omega
       have qae:=H15.out i hlt;have HSK:=q7 (q02 L i hlt);have qkq:=q7 (q04 L i);have qa1:=q7 (q2g L i hlt);have HGD:=q7 (q01 L i (L.getD i 0) (by omega))
       have HCP:=q7 (q2j L i);have HOS:=q7 (q2i L i);have HFX:=q7 (fun h=>HFU.out (L.getD i 0) h qae)
       have HLE:Hid ((L.take i).count (L.getD i 0)<=L.count (L.getD i 0)):=q7 (List.Sublist.count_le _ (List.take_sublist _ _));generalize L.getD i 0=x at*
       by_cases hx0:0<x
       ·have hxp:(x:Int)>0:=by omega
        have hcn:=HN.out.cell (c:=x) (by omega)
        rw[jb,HGD.out hx0]at hcn;have hfn:=HN.out.free x;have hln:=HN.out.lt;have h2x:2^x<=32768:=qa (qe (by decide) (show x<=15 by omega)) (by decide)
        have hcb:jJ L x+(L.take i).count x<=32768:=by have:=HFX.out hx0;have:=HLE.out;omega
        have hS:=qa1.out hx0;have hO:=HOS.out;rw[HCP.out hx0]at hO;generalize jJ L x+(L.take i).count x=c at*;have hoc:=HO.out.cell (i:=i) (by rw[bW,qB,s6];exact hlt)
        rw[eV _ _ (by rw[qB,s6];exact hlt)]at hoc
        have hof:=HO.out.free i;have hob:=HO.out.blk;generalize (nls (E1 L i)).getD i 0=z at*;have qbt:=HO.out.store i (.int .i64 (c:Nat));rw[mY,i7,hO]at qbt;have hn1:=HN.out.keep qbt.2 (by simp;omega)
        have q9V:=hn1.set x ((c+1:Nat):Int);rw[i7,hS]at q9V;have qcn:=q7 qbt;have q95:=q7 q9V;have hi2:i<4294967296:=by omega
        clear hS hO qbt q9V hn1 h2x;go_wp2
        go_roundg (L.length-(i+1))
        case measure=>omega
        case rel=>
         refine⟨i+1,by omega,by go_num,q95.out.1,qcn.out.1.keep q95.out.2 (.inr (by simp[Value.ownBlock];omega)),?_,rfl⟩
         have h5:=HBL.out.grown qcn.out.2 (by omega) (fun k hk=>by cases hk;exact hob.1)
         exact h5.grown q95.out.2 h5.size (fun k hk=>by cases hk;exact hgn)
       ·obtain rfl:x=0:=by omega
        go_wp2
        go_roundg (L.length-(i+1))
        case measure=>omega
        case rel=>
         refine⟨i+1,by omega,by go_num,?_,?_,HBL.out,rfl⟩
         ·rw[HSK.out (by trivial)];exact HN.out
         ·rw[qkq.out (by trivial)];exact HO.out
      ·obtain rfl:i=L.length:=by omega
       have HOA:=q7 (q2h L);go_wp2
       go_ret2
       refine⟨.slice (some ⟨g8,0,none⟩) L.length L.length,rfl,?_,HBL.out⟩;rw[<-HOA.out]
       exact HO.out
 ·have he:=cK hw0
  have hne:¬(jU l:Int)=0:=by omega
  have q9q:¬bE l=0:=by omega
  unfold aN;rw[if_neg q9q,he];clear h he q9q;unfold gJ at HWR;generalize jU l=n at*
  go_enter Tryz.func174,Tryz.ntmps174
  go_wp2_with(first|(go_at_call 189;refine(HWR.out _ (by repeat(first|exact qj _ _|assumption|refine qw ?_ _|refine qk ?_|refine qA ?_ _|refine qs ?_ _))).mono ?_;rintro e w1 ⟨c,hc1,rfl,hc2,hc3⟩;have HC1:=q7 hc1;have HC2:=q7 hc2;have HC3:=q7 hc3;clear hc1 hc2 hc3)|(refine jD rfl 277 16 _ _ rfl w1.heap.size rfl (nls (List.replicate 16 0)) (nls c) rfl (by rw[qB];exact HC1.out) (by kernel_rfl) (oO w1 Z HZ.out) ?_;intro w2 hb2 hg2;have HB2:=q7 hb2;have HG2:=q7 hg2;clear hb2 hg2))
  go_ret2
  exact⟨.slice none 0 0,rfl,Own.nil _ _ _,(HC3.out.trans ((qn w1 _).mono HC3.out.size)).grown HG2.out (qa HC3.out.size (by simp)) (fun k hk=>by cases hk;exact HC3.out.size)⟩
def gK(l:List Int)(n:Int):Nat:=if bE l≠0 then bE l else if 0<=n/\n<l.length/\l.getD n.toNat 0≠0 then 0 else 1
def fG(l:List Int)(n:Int)(NL:Nat×Nat):Nat×Nat:=
 if gK l n=0 then(NL.1+jj (jB (l.map Int.toNat) n.toNat) (l.getD n.toNat 0).toNat*2^NL.2,NL.2+(l.getD n.toNat 0).toNat)else NL
theorem gL{l:List Int}(h:bE l=0):∃L,l=nls L/\L.length<=320/\(∀x∈L,x<=15)/\jp L<=32768:=by
 have h0:jU l=0:=by
  apply qf;intro hn
  have:=cK hn;omega
 obtain⟨h1,h2⟩:=i8 h0;obtain⟨L,rfl,h3⟩:=K0 h2;rw[qB]at h1;refine⟨L,rfl,h1,h3,?_⟩;rw[mZ h1 h3]at h;split at h
 ·cases h
 ·omega
theorem kV{l:List Int}{n:Int}{NL:Nat×Nat}(h:gK l n≠0):fG l n NL=NL:=by unfold fG;rw[if_neg h]
theorem kW{l:List Int}{n:Int}(h:bE l≠0):gK l n=bE l:=by unfold gK;rw[if_pos h]
theorem vP{l:List Int}{n:Int}(h:bE l=0)(h2:¬(0<=n/\n<l.length/\l.getD n.toNat 0≠0)):gK l n=1:=by unfold gK;rw[if_neg (by omega),if_neg h2]
theorem q07{l:List Int}{n:Int}(h:bE l=0)(h2:0<=n/\n<l.length/\l.getD n.toNat 0≠0):gK l n=0:=by unfold gK;rw[if_neg (by omega),if_pos h2]
theorem aO(L:List Nat):(bA L).length=L.length:=by simp[bA]
theorem eX(L:List Nat)(i:Nat)(h:i<L.length):(bA L).getD i 0=jB L i:=by simp[bA,List.getD,h]
def M2(Wr:World->Nat->Nat->Nat->Nat->Value->Prop)(l:List Int)(n:Int)(B g N L:Nat)(vb:Value)(w:World)(e:Ending)(w':World):Prop:=
 e=.returned (.int .i64 (gK l n:Nat))/\∃vb',Wr w' B g (fG l n (N,L)).1 (fG l n (N,L)).2 vb'/\Below B w w'/\Fr g vb vb' w w'
theorem q3O.up{w w':World}{B g N L:Nat}(h:q3O w B g N L)(hb:Below w.heap.size w w'):q3O w' B g N L:=by
 obtain⟨⟨vb,hbx,how,hne⟩,hge,hlt⟩:=h
 exact⟨⟨vb,hbx.up hb,how.up hb,hne⟩,hge,hlt⟩
theorem q4o.up{w w':World}{B g N L:Nat}(h:q4o w B g N L)(hb:Below w.heap.size w w'):q4o w' B g N L:=by
 obtain⟨⟨vb,hbx,how,hne⟩,hge,hlt⟩:=h
 exact⟨⟨vb,hbx.up hb,how.up hb,hne⟩,hge,hlt⟩
theorem pS.up{w w':World}{B g N L:Nat}{vb:Value}(h:pS w B g N L vb)(hb:Below w.heap.size w w'):pS w' B g N L vb:=⟨h.box.up hb,h.own.up hb,h.ne,h.ge,h.lt⟩
theorem aJ.up{w w':World}{B g N L:Nat}{vb:Value}(h:aJ w B g N L vb)(hb:Below w.heap.size w w'):aJ w' B g N L vb:=⟨h.box.up hb,h.own.up hb,h.ne,h.ge,h.lt⟩
def eY(Bx:World->Nat->ByteArray->Nat->Prop)(L:List Nat)(s:ByteArray)(p g:Nat)(w:World)(e:Ending)(w':World):Prop:=
 ∃a er d,e=.returned (.tuple #[.int .i64 (a:Nat),.int .i64 (er:Nat)])/\pR L (qH s/2^p) (8*s.size-p) a er d/\Bx w' g s (p+d)/\w.grownBy w' (some g)
def F2(e:Ent)(c:Nat):Nat:=if c=0 then e.s else if c=1 then e.b else e.t
def lL(e:Ent):Array Value:=#[.int .i64 (e.s:Nat),.int .i64 (e.b:Nat),.int .i64 (e.t:Nat)]
def aC(E:Nat->Ent)(n:Nat):List Value:=(List.range (3*n)).map fun k=>.int .i64 (F2 (E (k/3)) (k%3):Nat)
theorem jr(E:Nat->Ent)(n:Nat):(aC E n).length=3*n:=by simp[aC]
theorem s9{E E':Nat->Ent}{n:Nat}(h:∀x,x<n->E x=E' x):aC E n=aC E' n:=by
 unfold aC;refine List.map_congr_left fun k hk=>?_
 have:=List.mem_range.1 hk;rw[h (k/3) (by omega)]
theorem uJ(n:Nat):aC (fun _=>Ent.zero) n=List.replicate (3*n) (.int .i64 0):=by
 rw[List.eq_replicate_iff];refine⟨jr _ _,fun x hx=>?_⟩
 simp only[aC,List.mem_map]at hx;obtain⟨k,-,rfl⟩:=hx;have:F2 Ent.zero (k%3)=0:=by unfold F2 Ent.zero;split<;>(try split)<;>rfl
 rw[this];rfl
theorem vR(E:Nat->Ent)(n x c:Nat)(hx:x<n)(hc:c<3):(aC E n)[3*x+c]? =some (.int .i64 (F2 (E x) c:Nat)):=by
 unfold aC;rw[List.getElem?_map,List.getElem?_range (by omega)]
 simp only[Option.map_some];rw[show(3*x+c)/3=x by omega,show(3*x+c)%3=c by omega]
theorem set3(pre post:List Value)(E:Nat->Ent)(n x:Nat)(e:Ent)(hx:x<n):
  (pre++aC E n++post).take (pre.length+3*x)++(lL e).toList++(pre++aC E n++post).drop (pre.length+3*x+3)=pre++aC (E0 E x e) n++post:=by
 have hl:(aC E n).length=3*n:=jr E n
 have e1:(pre++aC E n++post).take (pre.length+3*x)=pre++(aC E n).take (3*x):=by
  rw[qh,List.take_length_add_append,List.take_append_of_le_length (by omega)]
 have e2:(pre++aC E n++post).drop (pre.length+3*x+3)=(aC E n).drop (3*x+3)++post:=by
  rw[qh,Nat.add_assoc,List.drop_length_add_append,List.drop_append_of_le_length (by omega)]
 rw[e1,e2]
 have e3:aC (E0 E x e) n=(aC E n).take (3*x)++(lL e).toList++(aC E n).drop (3*x+3):=by
  refine List.ext_getElem? fun k=>?_
  by_cases hk:k<3*n
  ·have hg:∀F:Nat->Ent,(aC F n)[k]? =some (.int .i64 (F2 (F (k/3)) (k%3):Nat)):=fun F=>by
    have:=vR F n (k/3) (k%3) (by omega) (by omega)
    rwa [show 3*(k/3)+k%3=k by omega]at this
   rw[hg]
   by_cases h1:k<3*x
   ·rw[qh,List.getElem?_append_left (by simp;omega),List.getElem?_take,if_pos h1,hg]
    unfold E0;rw[if_neg (by omega)]
   ·by_cases h2:k<3*x+3
    ·rw[qh,List.getElem?_append_right (by simp;omega),List.length_take,hl,Nat.min_eq_left (by omega),List.getElem?_append_left (by simp[lL];omega)]
     unfold E0;rw[if_pos (by omega)]
     obtain⟨c,hc,rfl⟩:∃c,c<3/\k=3*x+c:=⟨k-3*x,by omega,by omega⟩
     rw[Nat.add_sub_cancel_left,show(3*x+c)%3=c by omega]
     rcases(show c=0\/c=1\/c=2 by omega)with rfl|rfl|rfl<;>rfl
    ·rw[List.getElem?_append_right (by simp[lL];omega)]
     have hlen:((aC E n).take (3*x)++(lL e).toList).length=3*x+3:=by simp[lL,hl];omega
     rw[hlen,List.getElem?_drop,show 3*x+3+(k-(3*x+3))=k by omega,hg]
     unfold E0;rw[if_neg (by omega)]
  ·rw[List.getElem?_eq_none (by rw[jr];omega),List.getElem?_eq_none]
   simp[lL,hl];omega
 rw[e3]
 simp[qh]
theorem nE(e:Ent):∀u∈(lL e).toList,u.oneCell'=true:=by
 intro u hu
 simp[lL]at hu
 rcases hu with rfl|rfl|rfl<;>rfl
theorem yO (g o n : Nat) (W : World) (i : Nat) (h : i < n) : (Instr.indexAt 274 (.slice (some ⟨g, o, none⟩) n n) (.int .i64 i)).run Tryz.prog W = .ok (.pointer (some ⟨g, o + 3 * i, none⟩)) W := by
  have he : Tryz.prog.elem 274 = 268 := by simp [Program.elem, Tryz.underlying274]
  have hsz : (sizeOf 268).run Tryz.prog W = .ok 3 W := by
    have hi : (Tryz.prog.info? 268).map (·.size) = some 3 := by kernel_rfl
    cases hq : Tryz.prog.info? 268 with
    | none => simp [hq] at hi
    | some inf => have : inf.size = 3 := by simpa [hq] using hi
                  simp [sizeOf, typeInfo, hq, this]
  rw [run_indexAt_slice W 274 ⟨g, o, none⟩ n n .i64 i (by rw [he]; exact Tryz.underlying274), if_pos ⟨by omega, by omega⟩, he, hsz]
  simp only [Result.andThen, Int.toNat_natCast, aZ]
  rw [Nat.mul_comm]
def vS(E:Nat->Ent)(t q:Nat)(e:Ent)(i:Nat):Nat->Ent:=fun x=>if x<i/\x%q=t then e else E x
theorem F3(E:Nat->Ent)(t q:Nat)(e:Ent)(n:Nat)(ht:t<q):aC (vS E t q e t) n=aC E n:=s9 fun x _=>by
 unfold vS;rw[if_neg];rintro⟨h1,h2⟩;rw[Nat.mod_eq_of_lt (by omega)]at h2;omega
theorem T9(E:Nat->Ent)(t q:Nat)(e:Ent)(i:Nat)(hi:i%q=t)(ht:t<q):E0 (vS E t q e i) i e=vS E t q e (i+q):=by
 funext x
 unfold E0 vS
 by_cases h:x=i
 ·subst h;rw[if_pos rfl,if_pos ⟨by omega,hi⟩]
 ·rw[if_neg h]
  by_cases h2:x<i/\x%q=t
  ·rw[if_pos h2,if_pos ⟨by omega,h2.2⟩]
  ·rw[if_neg h2,if_neg]
   rintro⟨h3,h4⟩
   have hge:i<=x:=by
    apply qf;intro hlt
    exact h2 ⟨by omega,h4⟩
   obtain⟨d,rfl⟩:∃d,x=i+d:=⟨x-i,by omega⟩
   have hd:d<q:=by omega
   have h5:(i+d)%q=i%q:=by rw[h4,hi]
   have h6:d%q=0:=by
    have h7:(i+d-i)%q=0:=Nat.sub_mod_eq_zero_of_mod_eq h5
    rwa [Nat.add_sub_cancel_left]at h7
   rw[Nat.mod_eq_of_lt hd]at h6;subst h6;exact h rfl
theorem q0c(E:Nat->Ent)(c nn:Nat)(e:Ent)(i n:Nat)(hi:n<=i):aC (vS E (jj c nn) (2^nn) e i) n=aC (k9 E c nn e) n:=s9 fun x hx=>by
 unfold vS k9
 by_cases h:x%2^nn=jj c nn
 ·rw[if_pos ⟨by omega,h⟩,if_pos h]
 ·rw[if_neg (fun q=>h q.2),if_neg h]
theorem q65{w:World}{B T g N o n:Nat}{pre post:List Value}{E:Nat->Ent}(h:Own w B T (.slice (some ⟨g,0,none⟩) N N) (pre++aC E n++post))(hpre:pre.length=o)(c nn:Nat)(hnn:nn<=15)(hn:n<=65536)(e:Ent):
  Calls Tryz.prog 185 #[.slice (some ⟨g,o,none⟩) n n,.int .i64 c,.int .i64 nn,.agg (lL e)] w fun en w'=>en=.returned (.tuple #[])/\
   Own w' B T (.slice (some ⟨g,0,none⟩) N N) (pre++aC (k9 E c nn e) n++post)/\w.grownBy w' (some g):=by
 have hg:=h.blk;have hlen:=h.len;have HO:=q7 (h.up (qn w (.cells (lL e) 268)));have HG:=q7 (heap_alloc_new w (.cells (lL e) 268));have hix:=yO g o n;have HES:Hid ((lL e).size=3):=q7 rfl;have HE1:=q7 (nE e);have HGB:Hid (w.grownBy (w.alloc (.cells (lL e) 268)) (some g)):=q7 (qv (qn _ _) _);have HS3:=q7 (fun E x hx=>set3 pre post E n x e hx)
 have htl:=aF c nn;have HPS:=q7 (F3 E (jj c nn) (2^nn) e n htl);have HPT:=q7 (fun i hi=>T9 E (jj c nn) (2^nn) e i hi htl)
 have HPE:=q7 (q0c E c nn e);have HTP:=q7 (q2l c nn (by omega))
 have hq:2^nn<=32768:=qa (qe (by decide) hnn) (by decide)
 rw[<-HPS.out]at HO;obtain⟨V,hV⟩:∃V,V=lL e:=⟨_,rfl⟩;rw[<-hV]at HO HG HES HE1 HGB HS3⊢;have HV:=q7 hV;have HTM:Hid (jj c nn%2^nn=jj c nn):=q7 (Nat.mod_eq_of_lt htl);have HQ:=q7 hq;have qgk:jj c nn<=32768:=by omega
 clear h hV htl hq
 go_enter Tryz.func185,Tryz.ntmps185
 go_wp2_with(go_at_call 170;refine(HTP.out _).mono ?_;rintro en w' ⟨rfl,hw'⟩;rw[hw'];clear hw')
 generalize hA:(w.alloc (.cells V 268))=w1 at*;have qlO:g<w1.heap.size:=by rw[<-hA];simp;omega
 have qdA:w1.heap.size=w.heap.size+1:=by rw[<-hA];simp
 clear hA;obtain⟨t,ht⟩:∃t,t=jj c nn:=⟨_,rfl⟩;rw[<-ht]at HO HPS HPT HPE HTM qgk⊢;clear ht
 go_loopg [8] (n-t) (fun gk iv wr=>∃i:Nat,iv=.int .i64 i/\i%2^nn=t/\i<=100000/\Own wr B T (.slice (some ⟨g,0,none⟩) N N) (pre++aC (vS E t (2^nn) e i) n++post)/\w1.grownBy wr (some g)/\gk=n-i)
 case atStart=>exact⟨t,rfl,HTM.out,by omega,HO.out,eU _ _,rfl⟩
 case round=>
  clear HO;obtain⟨i,rfl,him,hi1,hown,hgr,rfl⟩:=hrel;have HO:=q7 hown;have HGR:=q7 hgr;have qaG:=hgr.size;have hgV:=(hgr.block w.heap.size (by omega) (by simp;omega)).trans HG.out
  clear hown hgr
  by_cases hlt:i<n
  ·have qlM:=fun W=>hix W i hlt
   have HIM:=q7 him;clear him;have HS:=q7 (HS3.out (vS E t (2^nn) e i) i hlt);rw[HPT.out i HIM.out]at HS
   go_wp2_with(first|(refine qI rfl 268 3 _ rfl w.heap.size rfl V HES.out hgV _ Tryz.underlying268 rfl (by kernel_rfl) ?_)|(refine gG rfl 268 _ _ rfl B T g N N (o+3*i) rfl V rfl (by rw[HES.out];kernel_rfl) _ HO.out (by rw[qg,qg,jr,HES.out];omega) HE1.out ?_;intro w5 q9g hg5;have HO5:=q7 q9g;have HG5:=q7 hg5;clear q9g hg5))
   have hqq:=HQ.out;generalize hq0:2^nn=q at*;have q9P:0<q:=by rw[<-hq0];exact Nat.pow_pos (by decide)
   have e0:(2:Int)^nn=(q:Int):=by rw[<-hq0];norm_cast
   rw[e0]
   go_roundg (n-(i+q))
   case measure=>omega
   case rel=>
    rw[IntWalk.wrap64_in (q:Int) ⟨by omega,by omega⟩,IntWalk.wrap64_in _ ⟨by omega,by omega⟩]
    refine⟨i+q,by norm_cast,by rw[Nat.add_mod_right];exact HIM.out,by omega,?_,qp HGR.out HG5.out,rfl⟩
    have h5:=HO5.out;rw[<-hpre,HES.out,HS.out]at h5
    exact h5
  ·have HE2:=q7 (HPE.out i n (by omega))
   go_wp2
   go_end0
   refine⟨rfl,?_,qp HGB.out HGR.out⟩;rw[<-HE2.out]
   exact HO.out
theorem q2r{w:World}(v u:Value)(L:List Nat)(h:qT w v (nls L))(hu:qT w u (nls (bA L)))(hlen:L.length<=320)(h15:∀x∈L,x<=15)(hk:jp L<=32768)(head:Nat)(_hh:head<=32768):
  Calls Tryz.prog 202 #[v,u,.int .i64 head] w fun e w'=>(∃m:Nat,e=.returned (.int .i64 m)/\m<=6/\∀j,j<L.length->9<L.getD j 0->jB L j/2^(L.getD j 0-9)=head->L.getD j 0<=9+m)/\∃x,w'=ext w x:=by
 obtain⟨oa,cap,b,off,rfl,hd,hc⟩:=h.open;obtain⟨oc,cc,bc,fc,rfl,hdc,hcc⟩:=hu.open;rw[qB]at hd hc⊢;rw[show(nls (bA L)).length=L.length by rw[qB,aO]]at hdc hcc⊢
 have hix:=qQ (P:=Tryz.prog) 66 3 Tryz.underlying66 (by kernel_rfl) hd
 have qb7:=qQ (P:=Tryz.prog) 66 3 Tryz.underlying66 (by kernel_rfl) hdc
 have hm:=hd.len;have hbk:=hd.hblk;have qci:=hdc.hblk;have HC:Hid (∀i,i<L.length->w.cell? ⟨b,off+i,none⟩=some (.int .i64 (L.getD i 0:Nat))):=q7 (fun i hi=>by rw[hc i hi,jb])
 have HCC:Hid (∀i,i<L.length->w.cell? ⟨bc,fc+i,none⟩=some (.int .i64 (jB L i:Nat))):=q7 (fun i hi=>by rw[hcc i hi,jb,eX L i hi])
 have H15:Hid (∀i,i<L.length->L.getD i 0<=15):=q7 (fun i hi=>h15 _ (jT L i 0 hi))
 have HCL:Hid (∀i,i<L.length->jB L i<2^L.getD i 0):=q7 (iA h15 hk);clear h hu hd hc hdc hcc h15 hk
 go_enter Tryz.func202,Tryz.ntmps202
 go_wp2
 go_loop [7,12] (fun mo i=>∃(k m:Nat),k<=L.length/\i=.int .i64 k/\mo=.int .i64 m/\m<=6/\∀j,j<k->9<L.getD j 0->jB L j/2^(L.getD j 0-9)=head->L.getD j 0<=9+m) (fun _ i=>L.length-(intOf i).toNat)
 case atStart=>exact⟨0,0,qc _,rfl,rfl,by omega,fun j hj=>absurd hj (Nat.not_lt_zero j)⟩
 case round=>
  obtain⟨k,m,hk,rfl,rfl,hm6,hall⟩:=hrel;have HA:=q7 hall;clear hall
  by_cases hlt:k<L.length
  ·have hcell:=HC.out k hlt
   have qad:=HCC.out k hlt;have hb1:=hbk (by omega)
   have hb2:=qci (by omega)
   have qae:=H15.out k hlt;have hcl:=HCL.out k hlt
   have HST:Hid (∀m':Nat,m<=m'->(9<L.getD k 0->jB L k/2^(L.getD k 0-9)=head->L.getD k 0<=9+m')->∀j,j<k+1->9<L.getD j 0->jB L j/2^(L.getD j 0-9)=head->L.getD j 0<=9+m'):=q7 (fun m' hm' hn j hj h9 hh=>by
    rcases Nat.lt_succ_iff_lt_or_eq.1 hj with hj|rfl
    ·have:=HA.out j hj h9 hh;omega
    ·exact hn h9 hh)
   generalize L.getD k 0=x at*;generalize jB L k=c at*
   have qdR:c<=32768:=by
    have:2^x<=2^15:=qe (by decide) qae
    omega
   clear hcl
   by_cases h9:9<x
   ·have h9i:(x:Int)>9:=by omega
    have e1:(x:Int)-9=((x-9:Nat):Int):=by omega
    have hr6:x-9<=6:=by omega
    generalize hr:x-9=r at*;have e2:(c:Int)/2^r=((c/2^r:Nat):Int):=by norm_cast
    have hcr:c/2^r<=c:=Nat.div_le_self _ _;generalize c/2^r=z at*
    by_cases heq:z=head
    ·have e3:((z:Int)==(head:Int))=true:=by rw[heq];exact beq_self_eq_true _
     go_wp2
     go_round
     case rel=>
      by_cases hmr:m<r
      ·rw[if_pos hmr]
       exact⟨k+1,r,by omega,by go_num,rfl,hr6,HST.out r (by omega) (fun _ _=>by omega)⟩
      ·rw[if_neg hmr]
       exact⟨k+1,m,by omega,by go_num,rfl,hm6,HST.out m (by omega) (fun _ _=>by omega)⟩
     case measure=>simp[intOf];omega
    ·have e3:((z:Int)==(head:Int))=false:=by simp only[beq_eq_false_iff_ne];intro h;exact heq (Int.ofNat.inj h)
     have HN:=q7 (HST.out m (q9 _) (fun _ h=>absurd h heq))
     clear heq;go_wp2
     go_round
     case rel=>exact⟨k+1,m,by omega,by go_num,rfl,hm6,HN.out⟩
     case measure=>simp[intOf];omega
   ·have h9i:¬(x:Int)>9:=by omega
    have HN:=q7 (HST.out m (q9 _) (fun h=>absurd h h9))
    go_wp2
    go_round
    case rel=>exact⟨k+1,m,by omega,by go_num,rfl,hm6,HN.out⟩
    case measure=>simp[intOf];omega
  ·obtain rfl:k=L.length:=by omega
   go_wp2;go_ret
   exact⟨⟨m,rfl,hm6,HA.out⟩,(qt (by repeat(first|exact qj _ _|assumption|refine qw ?_ _|refine qk ?_|refine qA ?_ _|refine qs ?_ _)))⟩
def sB(f:Sub):Value:=.slice (some ⟨f.g,0,none⟩) (2^f.m) (2^f.m)
structure fP(w:World)(B g sy:Nat)(E:Nat->Ent)(fs:List Sub)(vf:Value):Prop where
 box:Own w B 272 (.slice (some ⟨g,0,none⟩) 1539 1539) ([.bool true,.int .i64 (sy:Nat)]++aC E 512++[vf])
 outer:Own w B 274 vf (fs.map sB)
 ne:vf.ownBlock≠some g
 rows:∀(k:Nat) (f:Sub),fs[k]? =some f->Own w B 268 (.slice (some ⟨f.g,0,none⟩) (3*2^f.m) (3*2^f.m)) (aC f.F (2^f.m))/\f.g≠g/\vf.ownBlock≠some f.g
 apart:∀(k k':Nat) (f f':Sub),fs[k]? =some f->fs[k']? =some f'->f.g=f'.g->k=k'
section
variable {w : World} {B g sy : Nat} {E : Nat → Ent} {fs : List Sub} {vf : Value}
theorem fP.up{w':World}(h:fP w B g sy E fs vf)(hb:Below w.heap.size w w'):fP w' B g sy E fs vf:=
 ⟨h.box.up hb,h.outer.up hb,h.ne,fun k f hf=>⟨(h.rows k f hf).1.up hb,(h.rows k f hf).2⟩,h.apart⟩
theorem fP.blk(h:fP w B g sy E fs vf):B<=g/\g<w.heap.size:=h.box.blk
theorem lX(E:Nat->Ent)(sy:Nat)(vf:Value):([Value.bool true,.int .i64 (sy:Nat)]++aC E 512++[vf]).length=1539:=by simp[jr]
theorem fP.c0(h:fP w B g sy E fs vf):w.cell? ⟨g,0,none⟩=some (.bool true):=by rw[h.box.cell (by rw[lX];omega)];rfl
theorem fP.c1(h:fP w B g sy E fs vf):w.cell? ⟨g,1,none⟩=some (.int .i64 (sy:Nat)):=by rw[h.box.cell (by rw[lX];omega)];rfl
theorem fP.cv(h:fP w B g sy E fs vf):w.cell? ⟨g,1538,none⟩=some vf:=by
 rw[h.box.cell (by rw[lX];omega),List.getD_eq_getElem?_getD,List.getElem?_append_right (by simp[jr])]
 simp[jr]
theorem fP.ce(h:fP w B g sy E fs vf)(x c:Nat)(hx:x<512)(hc:c<3):w.cell? ⟨g,2+3*x+c,none⟩=some (.int .i64 (F2 (E x) c:Nat)):=by
 rw[h.box.cell (by rw[lX];omega),List.getD_eq_getElem?_getD,qh,List.getElem?_append_right (by simp;omega),List.getElem?_append_left (by simp[jr];omega)]
 rw[show 2+3*x+c-[Value.bool true,Value.int IntKind.i64 (sy:Nat)].length=3*x+c by simp;omega,vR E 512 x c hx hc]
 rfl
theorem fP.ct(h:fP w B g sy E fs vf)(x:Nat)(hx:x<512):w.cell? ⟨g,2+3*x+2,none⟩=some (.int .i64 ((E x).t:Nat)):=h.ce x 2 hx (by omega)
theorem fP.free(h:fP w B g sy E fs vf)(c:Nat):w.frozen? ⟨g,c,none⟩=false:=h.box.free c
theorem q8o:([Value.bool true,Value.int .i64 (sy:Nat)]).length=2:=rfl
theorem fP.wrote{w':World}{E':Nat->Ent}(h:fP w B g sy E fs vf)(hg:w.grownBy w' (some g))(hb:Own w' B 272 (.slice (some ⟨g,0,none⟩) 1539 1539) ([.bool true,.int .i64 (sy:Nat)]++aC E' 512++[vf])):fP w' B g sy E' fs vf:=
 ⟨hb,h.outer.keep hg (.inr h.ne),h.ne,fun k f hf=>⟨(h.rows k f hf).1.keep hg (.inr (by intro e;exact(h.rows k f hf).2.1 (ql e))),(h.rows k f hf).2⟩,h.apart⟩
theorem fP.wroteSub{w':World}{F':Nat->Ent}{k:Nat}{f:Sub}(h:fP w B g sy E fs vf)(hf:fs[k]? =some f)(hg:w.grownBy w' (some f.g))(hb:Own w' B 268 (.slice (some ⟨f.g,0,none⟩) (3*2^f.m) (3*2^f.m)) (aC F' (2^f.m))):fP w' B g sy E (fs.set k ⟨f.g,f.m,F'⟩) vf:=by
 have hr:=h.rows k f hf;have hlk:k<fs.length:=(List.getElem?_eq_some_iff.1 hf).1
 have q9I:∀q f',(fs.set k ⟨f.g,f.m,F'⟩)[q]? =some f'->∃f0,fs[q]? =some f0/\f'.g=f0.g/\f'.m=f0.m/\(q≠k->f'=f0):=fun q f' hq=>by
  by_cases e:k=q
  ·subst e
   rw[List.getElem?_set_self hlk]at hq;obtain rfl:=ql hq
   exact⟨f,hf,rfl,rfl,fun h=>absurd rfl h⟩
  ·rw[List.getElem?_set_ne e]at hq
   exact⟨f',hq,rfl,rfl,fun _=>rfl⟩
 refine⟨h.box.keep hg (.inr (by intro e;exact hr.2.1 (ql e).symm)),?_,h.ne,fun q f' hq=>?_,fun q q' f1 f2 h1 h2 he=>?_⟩
 ·have e:(fs.set k ⟨f.g,f.m,F'⟩).map sB=fs.map sB:=by
   rw[List.map_set];refine List.ext_getElem? fun q=>?_
   by_cases e:k=q
   ·subst e
    rw[List.getElem?_set_self (by simpa using hlk),List.getElem?_map,hf];rfl
   ·rw[List.getElem?_set_ne e]
  rw[e]
  exact h.outer.keep hg (.inr hr.2.2)
 ·by_cases e:k=q
  ·subst e
   rw[List.getElem?_set_self hlk]at hq;obtain rfl:=ql hq
   exact⟨hb,hr.2⟩
  ·rw[List.getElem?_set_ne e]at hq
   have hr':=h.rows q f' hq;refine⟨hr'.1.keep hg (.inr ?_),hr'.2⟩;intro he
   exact e (h.apart k q f f' hf hq (ql he).symm)
 ·obtain⟨g1,hg1,e1,_⟩:=q9I q f1 h1
  obtain⟨g2,hg2,e2,_⟩:=q9I q' f2 h2
  exact h.apart q q' g1 g2 hg1 hg2 (by rw[<-e1,<-e2];exact he)
end
theorem fP.push{w w5:World}{B g sy:Nat}{E:Nat->Ent}{fs:List Sub}{vf v':Value}{gn m:Nat}{F:Nat->Ent}(h:fP w B g sy E fs vf)(hr:Own w B 268 (.slice (some ⟨gn,0,none⟩) (3*2^m) (3*2^m)) (aC F (2^m)))(h1:gn≠g)(h2:∀(k:Nat) (f:Sub),fs[k]? =some f->f.g≠gn)(h3:vf.ownBlock≠some gn)
  (ho:Own w5 B 274 v' (fs.map sB++[sB ⟨gn,m,F⟩])) (hg:w.grownBy w5 vf.ownBlock) (hk:∀k,v'.ownBlock=some k->vf.ownBlock=some k\/w.heap.size<=k):fP (w5.setCell ⟨g,1538,none⟩ v') B g sy E (fs++[⟨gn,m,F⟩]) v'/\w5.grownBy (w5.setCell ⟨g,1538,none⟩ v') (some g):=by
 have hb:=(h.box.keep hg (.inr (fun e=>h.ne e.symm))).store 1538 v'
 have hgw:=h.blk.2
 have hne:v'.ownBlock≠some g:=fun e=>by
  rcases hk g e with q|q
  ·exact h.ne q
  ·omega
 have hnk:∀q,q<w.heap.size->vf.ownBlock≠some q->v'.ownBlock≠some q:=fun q hq hn e=>by
  rcases hk q e with z|z
  ·exact hn z
  ·omega
 have q9C:([Value.bool true,.int .i64 (sy:Nat)]++aC E 512++[vf]).set 1538 v'=[Value.bool true,.int .i64 (sy:Nat)]++aC E 512++[v']:=by
  rw[List.set_append_right _ _ (by simp[jr])]
  simp[jr]
 rw[q9C]at hb
 have hrow:∀(k:Nat) (f:Sub),(fs++[⟨gn,m,F⟩])[k]? =some f->(k<fs.length/\fs[k]? =some f)\/(k=fs.length/\f=⟨gn,m,F⟩):=fun k f hf=>by
  by_cases hkl:k<fs.length
  ·rw[List.getElem?_append_left hkl]at hf;exact .inl ⟨hkl,hf⟩
  ·rw[List.getElem?_append_right (by omega)]at hf
   by_cases hk0:k=fs.length
   ·subst hk0;rw[Nat.sub_self]at hf;exact .inr ⟨rfl,(ql hf).symm⟩
   ·rw[List.getElem?_eq_none (by simp;omega)]at hf;cases hf
 refine⟨⟨hb.1,?_,hne,fun k f hf=>?_,fun k k' f f' hf hf' he=>?_⟩,hb.2⟩
 ·rw[List.map_append]
  exact ho.keep hb.2 (.inr hne)
 ·rcases hrow k f hf with⟨-,hf⟩|⟨-,rfl⟩
  ·have hr':=h.rows k f hf
   refine⟨(hr'.1.keep hg (.inr (fun e=>hr'.2.2 e.symm))).keep hb.2 (.inr (fun e=>hr'.2.1 (ql e))),hr'.2.1,hnk _ hr'.1.blk.2 hr'.2.2⟩
  ·exact⟨(hr.keep hg (.inr (fun e=>h3 e.symm))).keep hb.2 (.inr (fun e=>h1 (ql e))),h1,hnk _ hr.blk.2 h3⟩
 ·rcases hrow k f hf with⟨-,hf⟩|⟨hk1,rfl⟩<;>rcases hrow k' f' hf' with⟨-,hf'⟩|⟨hk2,rfl⟩
  ·exact h.apart k k' f f' hf hf' he
  ·exact absurd he (h2 k f hf)
  ·exact absurd he.symm (h2 k' f' hf')
  ·omega
theorem nF (g o x : Nat) (W : World) (h : x < 512) : (Instr.indexAt 269 (.pointer (some ⟨g, o, none⟩)) (.int .i64 x)).run Tryz.prog W = .ok (.pointer (some ⟨g, o + 3 * x, none⟩)) W := by
  have he : Tryz.prog.elem 269 = 268 := by simp [Program.elem, Tryz.underlying269]
  have hl : Tryz.prog.arrayLen 269 = 512 := by simp [Program.arrayLen, Tryz.underlying269]
  have hsz : (sizeOf 268).run Tryz.prog W = .ok 3 W := by
    have hi : (Tryz.prog.info? 268).map (·.size) = some 3 := by kernel_rfl
    cases hq : Tryz.prog.info? 268 with
    | none => simp [hq] at hi
    | some inf => have : inf.size = 3 := by simpa [hq] using hi
                  simp [sizeOf, typeInfo, hq, this]
  rw [run_indexAt_array W 269 ⟨g, o, none⟩ .i64 x (by rw [he, hl]; exact Tryz.underlying269), hl, if_pos ⟨by omega, by omega⟩, he, hsz]
  simp only [Result.andThen, Int.toNat_natCast, aZ]
  rw [Nat.mul_comm]
theorem q7w(n:Nat):(madeCells #[Value.int .i64 0,.int .i64 0,.int .i64 0] (3*n)).toList=aC (fun _=>Ent.zero) n:=by
 rw[uJ,List.eq_replicate_iff];refine⟨by rw[Array.length_toList,size_madeCells],fun x hx=>?_⟩
 simp only[madeCells,Array.toList_map,List.mem_map]at hx;obtain⟨k,-,rfl⟩:=hx
 rcases(show k%3=0\/k%3=1\/k%3=2 by omega)with h|h|h<;>simp[h]
theorem q4q(n:Nat)(hn:n<=65536):∀W:World,(Instr.makeSlice 274 (.int .i64 (n:Int)) (.int .i64 (n:Int))).run Tryz.prog W=.ok (.slice (some ⟨W.heap.size,0,none⟩) n n) (W.alloc (.cells (madeCells #[Value.int .i64 0,.int .i64 0,.int .i64 0] (3*n)) 268)):=by
 intro W;have q92:(Tryz.prog.info? 268).map (fun i=>(i.zero,i.size,i.bytes))=some (some (.agg #[.int .i64 0,.int .i64 0,.int .i64 0]),3,24):=by kernel_rfl
 cases hq:Tryz.prog.info? 268 with
 |none=>simp[hq]at q92
 |some i0=>
  simp[hq]at q92
  obtain⟨h1,h2,h3⟩:=q92;have hr:=run_make (P:=Tryz.prog) W 274 268 i0 _ Tryz.underlying274 hq h1 .i64 .i64 n n (by omega) (Int.le_refl _) (by rw[h3];omega) (by omega)
  simp only[Int.toNat_natCast,h2,Value.cells,Nat.mul_comm n 3]at hr
  exact hr
theorem q0d{w:World}{B g sy:Nat}{E:Nat->Ent}{fs:List Sub}{vf:Value}(h:fP w B g sy E fs vf)(v u:Value)(head:Nat)(_hh:head<512){k:Nat}{f:Sub}(hk:(E (jj head 9)).t=k+1)(hf:fs[k]? =some f)(hfs:fs.length<=512):
  Calls Tryz.prog 186 #[.pointer (some ⟨g,0,none⟩),v,u,.int .i64 head] w fun e w'=>e=.returned (sB f)/\∃x,w'=ext w x:=by
 have htl:=aF head 9;have HTP:=q7 (q2l head 9 (by omega))
 have hct:=h.ct (jj head 9) htl;rw[hk]at hct;have hcv:=h.cv;have hg:=h.blk.2;have hkl:k<fs.length:=(List.getElem?_eq_some_iff.1 hf).1;obtain⟨of,cf,gf,rfl,hdf,-,hcf,-⟩:=h.outer.cases;rw[List.length_map]at hdf hcf hcv;have qb6:=qQ (P:=Tryz.prog) 270 274 Tryz.underlying270 (by kernel_rfl) hdf
 have qbC:=fun W=>qb6 W .i64 (k:Int) (by omega) (by omega)
 rw[Int.toNat_natCast,Nat.zero_add]at qbC;have hck:=hcf k hkl;have q9j:(fs.map sB).getD k undef=sB f:=by rw[List.getD_eq_getElem?_getD,List.getElem?_map,hf];rfl
 rw[q9j]at hck;have hgf:=hdf.hblk (by omega)
 have qcd:=fun W=>nF g 2 (jj head 9) W htl
 have qji:k<=512:=by omega
 generalize sB f=vk at*;generalize jj head 9=x at*;clear h qb6 hcf hdf q9j hf hk
 go_enter Tryz.func186,Tryz.ntmps186
 go_wp2_with(go_at_call 170;refine(HTP.out _).mono ?_;rintro en w' ⟨rfl,hw'⟩;rw[hw'];clear hw')
 go_quiet (fail)
 go_wp2;go_ret
 exact⟨rfl,(qt (by repeat(first|exact qj _ _|assumption|refine qw ?_ _|refine qk ?_|refine qA ?_ _|refine qs ?_ _)))⟩
theorem q0e{w:World}{B g sy:Nat}{E:Nat->Ent}{fs:List Sub}{vf:Value}(h:fP w B g sy E fs vf)(v u:Value)(L:List Nat)(hv:qT w v (nls L))(hu:qT w u (nls (bA L)))(hlen:L.length<=320)(h15:∀x∈L,x<=15)(hk:jp L<=32768)
  (head:Nat) (hh:head<512) (ht:(E (jj head 9)).t=0) (hfs:fs.length<=512):
  Calls Tryz.prog 186 #[.pointer (some ⟨g,0,none⟩),v,u,.int .i64 head] w fun e w'=>∃(gn m:Nat) (vf':Value),e=.returned (sB ⟨gn,m,fun _=>Ent.zero⟩)/\m<=6/\(∀j,j<L.length->lS L j (jj head 9)->L.getD j 0<=9+m)/\
   fP w' B g sy (E0 E (jj head 9) ⟨0,m,fs.length+1⟩) (fs++[⟨gn,m,fun _=>Ent.zero⟩]) vf'/\Below B w w':=by
 have htl:=aF head 9;have HTT:=q7 (bB head 9 (by simpa using hh))
 have HTP:=q7 (q2l head 9 (by omega))
 have HLO:=q7 (q2r v u L hv hu hlen h15 hk head (by omega))
 have hct:=h.ct (jj head 9) htl;rw[ht]at hct;have hg:=h.blk.2;have hgB:=h.blk.1;have qcd:=fun W=>nF g 2 (jj head 9) W htl
 have HM:=q7 h;have HUP:Hid (∀m,(∀j,j<L.length->9<L.getD j 0->jB L j/2^(L.getD j 0-9)=head->L.getD j 0<=9+m)->∀j,j<L.length->lS L j (jj head 9)->L.getD j 0<=9+m):=q7 (fun m hm j hj hhd=>hm j hj hhd.1 (by rw[hhd.2,HTT.out]))
 have qm3:=hfs;generalize jj head 9=x at*;clear h hv hu h15 hk HTT
 go_enter Tryz.func186,Tryz.ntmps186
 go_wp2_with(first|(go_at_call 170;refine(HTP.out _).mono ?_;rintro en w' ⟨rfl,hw'⟩;rw[hw'];clear hw')|(go_at_call 202;refine HLO.out.mono ?_;rintro en w1 ⟨⟨m,rfl,hm6,hmh⟩,y,rfl⟩;have qkz:=q7 hm6;have HMH:=q7 (HUP.out m hmh);clear hmh))
 have HM1:=q7 (HM.out.up (qu w y));have HB1:Hid (Below B w (ext w y)):=q7 ((qu w y).mono (by omega))
 clear HM HUP HLO hct hg;generalize ext w y=w1 at*;have hcv:=HM1.out.cv;have hg:=HM1.out.blk.2;have qjE:=HM1.out.free 1538;obtain⟨n,hn⟩:∃n,n=2^m:=⟨_,rfl⟩;have qlp:n<=64:=by rw[hn];exact qa (qe (by decide) hm6) (by decide)
 have hni:(2:Int)^m=(n:Int):=by rw[hn];norm_cast
 have HN:=q7 hn;clear hn;have hmk:=q4q n (by omega)
 have HZ:=q7 (q7w n);generalize madeCells #[Value.int .i64 0,.int .i64 0,.int .i64 0] (3*n)=Z at*;refine jw (fun w'=>∃x,w'=chg w1 vf.ownBlock x) [0,1,2,3,4,5,6,7] [8,9,10,11,12] [13] (by kernel_rfl) (by kernel_rfl) (qW (qV _ _)) ?_
 have hne:=HM1.out.ne;have q9q:some g≠vf.ownBlock:=fun e=>hne e.symm
 simp only[pk]
 repeat(go_big_quiet_step (fail))
 refine wpQuiet_nil ?_
 (unfold qy;go_wp2;refine⟨qW (qv (by repeat(first|exact qj _ _|assumption|refine qw ?_ _|refine qk ?_|refine qA ?_ _|refine qs ?_ _)) _),?_⟩)
 (unfold qy;go_wp2;refine⟨qW (qv (by repeat(first|exact qj _ _|assumption|refine qw ?_ _|refine qk ?_|refine qA ?_ _|refine qs ?_ _)) _),?_⟩)
 unfold qy;obtain⟨W,hW⟩:∃W,W=((w1.alloc (.cells Z 268)).alloc (.cells #[Value.slice (some ⟨w1.heap.size,0,none⟩) n n] 274)).drew:=⟨_,rfl⟩;have hbW:Below w1.heap.size w1 W:=by rw[hW];exact(by repeat(first|exact qj _ _|assumption|refine qw ?_ _|refine qk ?_|refine qA ?_ _|refine qs ?_ _))
 have HX:Hid (Sl W (.slice (some ⟨w1.heap.size+1,0,none⟩) 1 1) [.slice (some ⟨w1.heap.size,0,none⟩) n n]):=q7 (by
  have h1:=(eJ (w1.alloc (.cells Z 268)) #[Value.slice (some ⟨w1.heap.size,0,none⟩) n n] 274 (by simp)).up (qC _ 1)
  rw[<-World.drew_is_drewN]at h1;rw[hW]
  simpa using h1)
 have hZs:Z.size=3*n:=by rw[<-Array.length_toList,HZ.out,jr]
 have HR:Hid (Own W B 268 (.slice (some ⟨w1.heap.size,0,none⟩) (3*n) (3*n)) (aC (fun _=>Ent.zero) n)):=q7 (by
  have h1:=qE w1 B Z 268 (by omega) (by omega)
  rw[HZ.out,hZs]at h1;have h2:=(h1.up (qn _ (.cells #[Value.slice (some ⟨w1.heap.size,0,none⟩) n n] 274))).up (qC _ 1);rw[<-World.drew_is_drewN,<-hW]at h2
  exact h2)
 have HM2:=q7 (HM1.out.up hbW);have HT2:Hid (∀u∈[Value.slice (some ⟨w1.heap.size,0,none⟩) n n],u.oneCell'=true):=q7 (by intro u hu;simp at hu;subst hu;rfl)
 have HT3:Hid ((fs.map sB).length+1<=4294967296):=q7 (by rw[List.length_map];omega)
 have hBW:B<=W.heap.size:=by have:=hbW.size;omega
 have hgW:w1.heap.size+1<W.heap.size:=by rw[hW];simp
 have HGW:Hid (Below B w W):=q7 (HB1.out.trans (hbW.mono (by omega)))
 have HCW:Hid (w1.grownBy W vf.ownBlock):=q7 (qv hbW _);rw[<-hW];clear hW hZs
 go_wp2_with(at_builtin;refine jt rfl (.tmp 29) (.tmp 34) 270 rfl B 274 (.slice none 0 0) 24 Tryz.underlying270 (by kernel_rfl) rfl (by decide) vf (fs.map sB) rfl HM2.out.outer (.slice (some ⟨w1.heap.size+1,0,none⟩) 1 1) [.slice (some ⟨w1.heap.size,0,none⟩) n n] rfl HX.out HT2.out HT3.out hBW ?_;intro v' w5 hown1 hg1 hk1;have HO1:=q7 hown1;have HG1:=q7 hg1;have HK1:=q7 hk1;clear hown1 hg1 hk1)
 refine⟨qW (qp HCW.out HG1.out),?_⟩
 (unfold qy;go_wp2;refine⟨qW (qp HCW.out HG1.out),?_⟩)
 (unfold qy;go_wp2;refine⟨qW (qp HCW.out HG1.out),?_⟩)
 have qcK:=HM2.out.push (w5:=w5) (v':=v') (gn:=w1.heap.size) (m:=m) (F:=fun _=>Ent.zero) (by rw[<-HN.out];exact HR.out) (by omega) (fun k f hf e=>by have:=(HM1.out.rows k f hf).1.blk.2;omega) (fun e=>by have:=HM1.out.outer.lt _ e;omega) (by unfold sB;rw[<-HN.out];exact HO1.out) HG1.out HK1.out
 have hB5:Below B w w5:=jL HGW.out hBW HM2.out.outer HG1.out;have qgT:=HG1.out.size;obtain⟨o5,c5,g5,hv5,-⟩:=HO1.out.cases;rw[qg,List.length_map,List.length_singleton]at hv5;obtain⟨l5,hl5⟩:∃l5,l5=fs.length+1:=⟨_,rfl⟩;rw[<-hl5]at hv5;have HL5:=q7 hl5;clear hl5;have HPU:=q7 qcK;have HB5:=q7 hB5;have hg5:g<w5.heap.size:=by omega
 have hc5:w5.cell? ⟨g,1538,none⟩=some vf:=(HM2.out.box.keep HG1.out (.inr q9q)).cell (i:=1538) (by rw[lX];omega) |>.trans (by rw[List.getD_eq_getElem?_getD,List.getElem?_append_right (by simp[jr])];simp[jr])
 have hf5:w5.frozen? ⟨g,1538,none⟩=false:=(HM2.out.box.keep HG1.out (.inr q9q)).free 1538;clear qcK hB5 HO1 HG1 HK1 HX HM2 HT2 HT3 HR HGW HCW HM1 hcv qjE hg hne q9q;subst hv5;unfold qy;unfold qy;go_wp2;refine⟨trivial,?_⟩;unfold qy;have HM6:=q7 HPU.out.1;have HB6:Hid (Below B w (w5.setCell ⟨g,1538,none⟩ (.slice o5 l5 c5))):=q7 (HB5.out.grown HPU.out.2 (by have:=HB5.out.size;omega) (fun k hk=>by cases hk;exact hgB))
 clear HPU HB5 hc5 hf5 hg5;generalize w5.setCell ⟨g,1538,none⟩ (.slice o5 l5 c5)=w6 at*;have hcv:=HM6.out.cv;have hg:=HM6.out.blk.2;have qjm:=fun W=>nF g 2 x W htl
 have qje:l5<=513:=by have:=HL5.out;omega
 have HS3:=q7 (set3 [Value.bool true,.int .i64 (sy:Nat)] [.slice o5 l5 c5] E 512 x ⟨0,m,l5⟩ htl);have HBX:=q7 HM6.out.box;go_wp2;refine qZ [0,1,2,3,4,5,6,7,8,9,10,11] [] [12] (by kernel_rfl) (by kernel_rfl) ?_
 simp only[pk]
 repeat(go_big_quiet_step (fail))
 refine wpQuiet_nil ?_;unfold qy;unfold qy;have qiB:=q7 (HBX.out.up (qS (qj w6.heap.size w6)));have HE1:=q7 (nE ⟨0,m,l5⟩);have hbl:=lX E sy (.slice o5 l5 c5)
 go_wp2_with(refine gG rfl 268 _ _ rfl B 272 g 1539 1539 (2+3*x) rfl (lL ⟨0,m,l5⟩) rfl (by kernel_rfl) _ qiB.out (by rw[hbl];show 2+3*x+3<=1539;omega) HE1.out ?_;intro w8 qao hg8;have HO8:=q7 qao;have HG8:=q7 hg8;clear qao hg8)
 refine⟨trivial,?_⟩;unfold qy
 have HM8:Hid (fP w8 B g sy (E0 E x ⟨0,m,l5⟩) (fs++[⟨w1.heap.size,m,fun _=>Ent.zero⟩]) (.slice o5 l5 c5)):=q7 ((HM6.out.up (qS (qj w6.heap.size w6))).wrote HG8.out (by
  have h1:=HO8.out;have h2:=HS3.out;simp only[q8o]at h2;rw[show(lL ⟨0,m,l5⟩).size=3 from rfl,h2]at h1
  exact h1))
 have HB8:Hid (Below B w w8):=q7 ((qS HB6.out).grown HG8.out (by have:=HB6.out.size;show B<=w6.heap.size;omega) (fun k hk=>by cases hk;exact hgB))
 clear HM6 HB6 HO8 HG8 HBX qiB HS3 hcv hg hbl HE1 qcd;have hcv:=HM8.out.cv;have hg:=HM8.out.blk.2;have hct:=HM8.out.ct x htl;rw[show(E0 E x ⟨0,m,l5⟩ x).t=l5 by unfold E0;rw[if_pos rfl]]at hct
 obtain⟨o8,c8,g8,hv8,hdf,-,hcf,-⟩:=HM8.out.outer.cases;have hll:((fs++[(⟨w1.heap.size,m,fun _=>Ent.zero⟩:Sub)]).map sB).length=l5:=by have:=HL5.out;simp;omega
 rw[hll]at hv8 hdf hcf
 obtain⟨rfl,-,rfl⟩:o5=o8/\True/\c5=c8:=by
  injection hv8 with e1 e2 e3
  exact⟨e1,trivial,e3⟩
 have qb6:=qQ (P:=Tryz.prog) 270 274 Tryz.underlying270 (by kernel_rfl) hdf
 have qlD:(l5:Int)-1=(fs.length:Int):=by have:=HL5.out;omega
 have qbC:=fun W=>qb6 W .i64 (fs.length:Int) (by omega) (by have:=HL5.out;omega)
 rw[Int.toNat_natCast,Nat.zero_add]at qbC;have hck:=hcf fs.length (by have:=HL5.out;omega)
 have q9j:((fs++[(⟨w1.heap.size,m,fun _=>Ent.zero⟩:Sub)]).map sB).getD fs.length undef=sB ⟨w1.heap.size,m,fun _=>Ent.zero⟩:=by
  rw[List.getD_eq_getElem?_getD,List.getElem?_map,List.getElem?_append_right (q9 _),Nat.sub_self];rfl
 rw[q9j]at hck;have hg8:=hdf.hblk (by have:=HL5.out;omega)
 clear hdf hcf qb6 q9j hv8 hll;obtain⟨vk,hvk⟩:∃vk,vk=sB ⟨w1.heap.size,m,fun _=>Ent.zero⟩:=⟨_,rfl⟩
 rw[<-hvk]at hck;have HVK:=q7 hvk;clear hvk;go_wp2
 go_quiet (fail)
 go_wp2;go_ret;refine⟨w1.heap.size,m,.slice o5 l5 c5,?_,qkz.out,HMH.out,?_,?_⟩
 ·rw[<-HVK.out];rfl
 ·rw[<-HL5.out];exact HM8.out.up (qC w8 _)
 ·exact HB8.out.trans ((qC w8 _).mono (by omega))
theorem Own.nil3{w:World}{B E g n cap:Nat}{xs:List Value}(h:Own w B E (.slice (some ⟨g,0,none⟩) n cap) xs):Own w B E (.slice (some ⟨g,0,none⟩) n cap) ([]++xs++[]):=by
 rw[List.nil_append,List.append_nil];exact h
theorem q0f{w:World}{B g sy i:Nat}{E:Nat->Ent}{fs:List Sub}{vf:Value}(h:fP w B g sy E fs vf)(v u:Value)(L:List Nat)(hv:qT w v (nls L))(hu:qT w u (nls (bA L)))(hlen:L.length<=320)(h15:∀x∈L,x<=15)(hk:jp L<=32768)
  (hok:eO L i E fs) (hi:i<L.length) (h9:9<L.getD i 0) (head:Nat) (hhd:head=jB L i/2^(L.getD i 0-9)) (hfs:fs.length<=i):
  Calls Tryz.prog 186 #[.pointer (some ⟨g,0,none⟩),v,u,.int .i64 head] w fun e w'=>∃(k:Nat) (f:Sub) (E':Nat->Ent) (fs':List Sub) (vf':Value),e=.returned (sB f)/\f.m<=6/\fs'[k]? =some f/\fs'.length<=i+1/\
   fP w' B g sy E' fs' vf'/\Below B w w'/\eO L (i+1) E' (fs'.set k ⟨f.g,f.m,k9 f.F (jB L i%2^(L.getD i 0-9)) (L.getD i 0-9) ⟨i,L.getD i 0,0⟩⟩):=by
 have hc:=iA h15 hk i hi
 have hh:head<512:=by
  rw[hhd,Nat.div_lt_iff_lt_mul (Nat.pow_pos (by decide)),show(512:Nat)=2^9 by decide,<-Nat.pow_add,show 9+(L.getD i 0-9)=L.getD i 0 by omega]
  exact hc
 have hx:jj head 9<512:=by have:=aF head 9;simpa using this
 have hH:lS L i (jj head 9):=⟨h9,by rw[bB head 9 (by simpa using hh)];exact hhd.symm⟩
 cases ht:(E (jj head 9)).t with
 |zero=>
  refine(q0e h v u L hv hu hlen h15 hk head hh ht (by omega)).mono ?_
  rintro e w' ⟨gn,m,vf',rfl,hm6,hml,hM,hB⟩;refine⟨fs.length,⟨gn,m,fun _=>Ent.zero⟩,_,_,vf',rfl,hm6,by rw[List.getElem?_append_right (q9 _),Nat.sub_self];rfl,by simp;omega,hM,hB,?_⟩
  have hf:=hok.fresh hi h15 hk h9 hx hH ht hm6 hml (g:=gn) (b:=m);rw[List.set_append_right _ _ (q9 _),Nat.sub_self]
  exact hf
 |succ k=>
  obtain⟨f,hf,hm,-⟩:=hok.far _ k hx ht;have hB:B<=w.heap.size:=by have:=h.blk;omega
  refine(q0d h v u head hh ht hf (by omega)).mono ?_
  rintro e w' ⟨rfl,y,rfl⟩
  exact⟨k,f,E,fs,vf,rfl,hm,hf,by omega,h.up (qu _ _),(qu w y).mono hB,hok.long hi h15 hk h9 hx hH ht hf⟩
theorem vT{P:Program}{ops:Array Oper}{rest:List Oper}{o:Oper}{a:Act}{w:World}{Q:Exit->Act->World->Prop}(hgd:o.guard=none)(t:TypeId)(i j:Nat)(x y:Operand)(ho:o.op=.build t #[(i,x),(j,y)])
  (vx vy:Value) (hx:a.eval x=vx) (hy:a.eval y=vy) (C:Array Value) (hb:∀W,(Instr.build t #[(i,vx),(j,vy)]).run P W=.ok (.agg C) W)
  (h:wpList P ops Q rest (a.put o.dst (.agg C)) w):wpList P ops Q (o::rest) a w:=by
 refine wpList_plain hgd fun K hK=>?_
 unfold Oper.wp execOp;simp only[ho,List.map_toArray,List.map_cons,List.map_nil,hx,hy,Sem.run_bind,hb,Result.andThen_ok]
 exact hK _ _ h
def q4r(n:Nat):Array Value:=([Value.bool true,.int .i64 (n:Nat)]++List.replicate 1536 (Value.int .i64 0)++[Value.slice none 0 0]).toArray
theorem q0g(n:Nat)(W:World):(Instr.build 272 #[(0,.bool true),(1,.int .i64 (n:Nat))]).run Tryz.prog W=.ok (.agg (q4r n)) W:=by
 kernel_rfl
theorem yP(n:Nat):(q4r n).toList=[Value.bool true,.int .i64 (n:Nat)]++aC (fun _=>Ent.zero) 512++[Value.slice none 0 0]:=by
 unfold q4r;rw[uJ,List.toList_toArray]
theorem q4s(w:World)(n:Nat)(A:Array Value)(hA:A=q4r n):fP (w.alloc (.cells A 272)) w.heap.size w.heap.size n (fun _=>Ent.zero) [] (.slice none 0 0):=by
 subst hA;have hs:(q4r n).size=1539:=by rw[<-Array.length_toList,yP,lX]
 have h:=qE w w.heap.size (q4r n) 272 (by rw[hs];decide) (q9 _)
 rw[yP,hs]at h
 exact⟨h,Own.nil _ _ _,by simp[Value.ownBlock],fun k f hf=>by simp at hf,fun k k' f f' hf=>by simp at hf⟩
theorem fP.mono{w:World}{B B' g sy:Nat}{E:Nat->Ent}{fs:List Sub}{vf:Value}(h:fP w B g sy E fs vf)(hB:B'<=B):fP w B' g sy E fs vf:=
 ⟨h.box.mono hB,h.outer.mono hB,h.ne,fun k f hf=>⟨(h.rows k f hf).1.mono hB,(h.rows k f hf).2⟩,h.apart⟩
def iB(w:World)(B g:Nat)(L:List Nat):Prop:=∃E fs vf,fP w B g L.length E fs vf/\eO L L.length E fs
def yQ(l:List Int)(w:World)(e:Ending)(w':World):Prop:=
 Below w.heap.size w w'/\((bE l=0/\∃g,e=.returned (.tuple #[.pointer (some ⟨g,0,none⟩),.int .i64 0])/\iB w' w.heap.size g (l.map Int.toNat))\/(bE l≠0/\e=.returned (.tuple #[.pointer none,.int .i64 (bE l:Nat)])))
theorem qT.upB{w w':World}{v:Value}{l:List Int}{n:Nat}(h:qT w v l)(hn:w.heap.size<=n)(hb:Below n w w'):qT w' v l:=h.up (hb.mono hn)
theorem q2s(c r:Nat)(hr:r<=6)(hc:c<=32768):bits .and .i64 (c:Int) (((2^r:Nat):Int)-1)=((c%2^r:Nat):Int):=by
 have hp:2^r<=2^6:=qe (by decide) hr
 have hp1:1<=2^r:=Nat.pow_pos (by decide)
 have e:((2^r:Nat):Int)-1=((2^r-1:Nat):Int):=by omega
 rw[e,(bits_nat .i64 63 (by decide) (fun n h0 h1=>by rw[IntKind.wrap_i64];omega) c (2^r-1) (by omega) (by omega)).1,Nat.and_two_pow_sub_one_eq_mod]
theorem q7x(v:Value)(l:List Int)(w:World)(h:qT w v l):Calls Tryz.prog 157 #[v] w (yQ l w):=by
 have HCO:Hid (Calls Tryz.prog 174 #[v] w (aN l w)):=q7 (q05 v l w h);unfold yQ;unfold aN at HCO
 by_cases he:bE l=0
 ·rw[he]at HCO⊢
  obtain⟨L,rfl,hlen,h15,hk⟩:=gL he;rw[jm,if_pos rfl]at HCO;rw[jm];have H15:Hid (∀i,i<L.length->L.getD i 0<=15):=q7 (fun i hi=>h15 _ (jT L i 0 hi))
  have HCL:Hid (∀i,i<L.length->jB L i<2^L.getD i 0):=q7 (iA h15 hk);have HV:=q7 h;obtain⟨oa,cap,b,off,rfl,hd,hc⟩:=h.open;rw[qB]at hd hc;rw[qB]at HCO HV⊢;have hix:=qQ (P:=Tryz.prog) 66 3 Tryz.underlying66 (by kernel_rfl) hd
  have hm:=hd.len;have hbk:=hd.hblk;have HC:Hid (∀i,i<L.length->w.cell? ⟨b,off+i,none⟩=some (.int .i64 (L.getD i 0:Nat))):=q7 (fun i hi=>by rw[hc i hi,jb])
  have qiI:=q7 h15;have HK:=q7 hk;clear h hd hc he h15 hk;have hbd:=q0g L.length;obtain⟨A,hA⟩:∃A,A=q4r L.length:=⟨_,rfl⟩;rw[<-hA]at hbd;have HA:=q7 hA;clear hA
  go_enter Tryz.func157,Tryz.ntmps157
  go_wp2_with(first|(go_at_call 174;refine HCO.out.mono ?_;rintro e w1 ⟨vc,rfl,hq3,hq4⟩;have HQ3:=q7 hq3;have HQ4:=q7 hq4;clear hq3 hq4)|(refine vT rfl 272 0 1 _ _ rfl (.bool true) (.int .i64 (L.length:Nat)) rfl rfl A hbd ?_))
  have HT0:=q7 (q4s w1 L.length A HA.out);have qdA:=HQ4.out.size;have qiD:=q7 (qn w1 (.cells A 272));generalize w1.alloc (.cells A 272)=w2 at*;clear hbd HA HCO;have hgg:=qdA;have qkF:Hid (qT w1 (.slice oa L.length cap) (nls L)):=q7 (HV.out.up HQ4.out);have qhU:Hid (qT w1 vc (nls (bA L))):=q7 HQ3.out.sl;obtain⟨oc,cc,bc,fc,rfl,hdc,hcc⟩:=(show qT w1 vc (nls (bA L))from HQ3.out.sl).open
  rw[show(nls (bA L)).length=L.length by rw[qB,aO]]at hdc hcc qhU⊢
  have qb7:=qQ (P:=Tryz.prog) 66 3 Tryz.underlying66 (by kernel_rfl) hdc
  have HCC:Hid (∀i,i<L.length->w1.cell? ⟨bc,fc+i,none⟩=some (.int .i64 (jB L i:Nat))):=q7 (fun i hi=>by rw[hcc i hi,jb,eX L i hi])
  have HC1:Hid (∀i,i<L.length->w1.cell? ⟨b,off+i,none⟩=some (.int .i64 (L.getD i 0:Nat))):=q7 (fun i hi=>(HQ4.out.cell (p:=⟨b,off+i,none⟩) (hbk (by omega))).trans (HC.out i hi))
  have qci:=hdc.hblk;have qjR:0<L.length->b<w1.heap.size:=fun h=>by have:=hbk h;omega
  clear hdc hcc HQ3 HC hbk HV
  go_loopg [25] L.length (fun gk iv wr=>∃(i:Nat) (E:Nat->Ent) (fs:List Sub) (vf:Value),i<=L.length/\iv=.int .i64 i/\fP wr w1.heap.size w1.heap.size L.length E fs vf/\Hid (eO L i E fs)/\fs.length<=i/\Below w1.heap.size w1 wr/\gk=L.length-i)
  case atStart=>exact⟨0,_,_,_,qc _,rfl,HT0.out,q7 (eO.start L),q9 _,qiD.out,rfl⟩
  case round=>
   clear HT0 qiD;obtain⟨i,E,fs,vf,hi,rfl,hM,HOK,hfs,q8Z,rfl⟩:=hrel;have HM:=q7 hM;have HBL:=q7 q8Z;have qaG:=q8Z.size;clear hM q8Z
   by_cases hlt:i<L.length
   ·have hb1:=qjR (by omega)
    have qhh:=qci (by omega)
    have hcell:=(HBL.out.cell (p:=⟨b,off+i,none⟩) hb1).trans (HC1.out i hlt);have qad:=(HBL.out.cell (p:=⟨bc,fc+i,none⟩) qhh).trans (HCC.out i hlt);have hbr:b<wr.heap.size:=by omega
    have qjS:bc<wr.heap.size:=by omega
    have qae:=H15.out i hlt;have hcl:=HCL.out i hlt;have HNO:=q7 (HOK.out.none);have HSH:=q7 (fun h0 h9=>HOK.out.short hlt qiI.out HK.out h0 h9)
    have qdR:jB L i<=32768:=by
     have:2^L.getD i 0<=2^15:=qe (by decide) qae
     omega
    have HGX:Hid (L.getD i 0=L.getD i 0):=q7 rfl;generalize hx:L.getD i 0=x at*;generalize hcd:jB L i=c at*;have HX:=q7 hx;have HCD:=q7 hcd;clear hx hcd
    by_cases hx0:x=0
    ·have e0:((x:Int)==0)=true:=by rw[hx0];rfl
     have HN2:=q7 (HNO.out hx0);clear hx0;go_wp2
     go_roundg (L.length-(i+1))
     case measure=>omega
     case rel=>exact⟨i+1,E,fs,vf,by omega,by go_num,HM.out,HN2,by omega,HBL.out,rfl⟩
    ·have e0:((x:Int)==0)=false:=by simpa using hx0
     have hg0:=HM.out.blk.2
     by_cases hx9:x<=9
     ·have qiL:(x:Int)<=9:=by omega
      have HS2:=q7 (HSH.out hx0 hx9);clear hx0;go_wp2;have HFL:Hid (Calls Tryz.prog 185 #[.slice (some ⟨w1.heap.size,2,none⟩) 512 512,.int .i64 c,.int .i64 x,.agg (lL ⟨i,x,0⟩)] wr.drew fun en w'=>en=.returned (.tuple #[])/\Own w' w1.heap.size 272 (.slice (some ⟨w1.heap.size,0,none⟩) 1539 1539) ([.bool true,.int .i64 (L.length:Nat)]++aC (k9 E c x ⟨i,x,0⟩) 512++[vf])/\wr.drew.grownBy w' (some w1.heap.size)):=q7 (q65 (HM.out.box.up (qS (qj wr.heap.size wr))) rfl c x (by omega) (by decide) ⟨i,x,0⟩)
      refine qZ [0,1,2,3,4,5,6,7,8,9,10,11] [] [12] (by kernel_rfl) (by kernel_rfl) ?_
      simp only[pk]
      repeat(go_big_quiet_step (fail))
      refine wpQuiet_nil ?_;unfold qy;unfold qy
      go_wp2_with(go_at_call 185;refine HFL.out.mono ?_;rintro en w5 ⟨rfl,hq5,hq6⟩;have HQ5:=q7 hq5;have HQ6:=q7 hq6;clear hq5 hq6)
      refine⟨trivial,?_⟩;unfold qy;have HM5:Hid (fP w5 w1.heap.size w1.heap.size L.length (k9 E c x ⟨i,x,0⟩) fs vf):=q7 ((HM.out.up (qS (qj wr.heap.size wr))).wrote HQ6.out HQ5.out);have qeh:Hid (Below w1.heap.size w1 w5):=q7 ((qS HBL.out).grown HQ6.out (by show w1.heap.size<=wr.heap.size;omega) (fun k hk=>by cases hk;exact q9 _))
      clear HM HBL HQ5 HQ6 HFL;go_wp2
      go_roundg (L.length-(i+1))
      case measure=>omega
      case rel=>exact⟨i+1,_,fs,vf,by omega,by go_num,HM5.out,HS2,by omega,qeh.out,rfl⟩
     ·have qiL:¬(x:Int)<=9:=by omega
      have e9:(x:Int)-9=((x-9:Nat):Int):=by omega
      have qjJ:c/2^(x-9)<512:=by
       rw[Nat.div_lt_iff_lt_mul (Nat.pow_pos (by decide)),show(512:Nat)=2^9 by decide,<-Nat.pow_add,show 9+(x-9)=x by omega]
       exact hcl
      have eh:(c:Int)/2^(x-9)=((c/2^(x-9):Nat):Int):=by norm_cast
      have HBR:Hid (Calls Tryz.prog 186 #[.pointer (some ⟨w1.heap.size,0,none⟩),.slice oa L.length cap,.slice oc L.length cc,.int .i64 (c/2^(x-9):Nat)] wr fun e w'=>∃(k:Nat) (f:Sub) (E':Nat->Ent) (fs':List Sub) (vf':Value),e=.returned (sB f)/\f.m<=6/\fs'[k]? =some f/\fs'.length<=i+1/\
        fP w' w1.heap.size w1.heap.size L.length E' fs' vf'/\Below w1.heap.size wr w'/\eO L (i+1) E' (fs'.set k ⟨f.g,f.m,k9 f.F (c%2^(x-9)) (x-9) ⟨i,x,0⟩⟩)):=q7 (by
       have h1:=q0f HM.out (.slice oa L.length cap) (.slice oc L.length cc) L (qkF.out.upB (q9 _) HBL.out) (qhU.out.upB (q9 _) HBL.out) hlen qiI.out HK.out HOK.out hlt (by rw[HX.out];omega) (c/2^(x-9)) (by rw[HX.out,HCD.out]) hfs
       rw[HX.out,HCD.out]at h1
       exact h1)
      have hr6:x-9<=6:=by omega
      have hr1:1<=x-9:=by omega
      have qfA:Hid (bits .and .i64 (c:Int) (((2^(x-9):Nat):Int)-1)=((c%2^(x-9):Nat):Int)):=q7 (q2s c (x-9) hr6 qdR);generalize hr:x-9=r at*;generalize c/2^r=head at*;obtain⟨q,hq⟩:∃q,q=2^r:=⟨_,rfl⟩;have qlm:q<=64:=by rw[hq];exact qa (qe (by decide) hr6) (by decide)
      have hqi:(2:Int)^r=(q:Int):=by rw[hq];norm_cast
      have hq1:1<=q:=by rw[hq];exact Nat.pow_pos (by decide)
      rw[<-hq]at qfA;rw[hqi]at eh;have HQ:=q7 hq;clear hq hcl hx0
      go_wp2_with(go_at_call 186;(with_reducible refine HBR.out.mono ?_;rintro en w5 ⟨k,f,E',fs',vf',rfl,hm6,hfk,hfl,hM5,hB5,qgA⟩;have HM5:=q7 hM5;have HB5:=q7 hB5;have qks:=q7 qgA;have HFK:=q7 hfk;have HM6:=q7 hm6;have qbG:=(hB5.cell (p:=⟨bc,fc+i,none⟩) qhh).trans qad;have qf7:bc<w5.heap.size:=qd qjS (hB5.size);clear hM5 hB5 qgA hfk hm6))
      have h2m:2^f.m<=65536:=qa (qe (by decide) HM6.out) (by decide)
      have HFL:Hid (Calls Tryz.prog 185 #[sB f,.int .i64 (c%2^r:Nat),.int .i64 r,.agg #[.int .i64 i,.int .i64 x,.int .i64 0]] w5 fun en w'=>en=.returned (.tuple #[])/\
        Own w' w1.heap.size 268 (.slice (some ⟨f.g,0,none⟩) (3*2^f.m) (3*2^f.m)) ([]++aC (k9 f.F (c%2^r) r ⟨i,x,0⟩) (2^f.m)++[])/\w5.grownBy w' (some f.g)):=q7 (q65 (o:=0) ((HM5.out.rows k f HFK.out).1.nil3) rfl (c%2^r) r (by omega) h2m ⟨i,x,0⟩)
      rw[qfA.out];rw[<-HQ.out]at HFL
      with_reducible refine HFL.out.mono ?_
      rintro en w6 ⟨rfl,hq5,hq6⟩;rw[List.nil_append,List.append_nil,HQ.out]at hq5;have HM7:=q7 (HM5.out.wroteSub HFK.out hq6 hq5);have qdt:Hid (Below w1.heap.size w1 w6):=q7 ((HBL.out.trans HB5.out).grown hq6 (HBL.out.trans HB5.out).size (fun k hk=>by cases hk;exact(HM5.out.rows _ f HFK.out).1.blk.1))
      have qjD:(fs'.set k ⟨f.g,f.m,k9 f.F (c%2^r) r ⟨i,x,0⟩⟩).length<=i+1:=by rw[List.length_set];exact hfl
      clear hq5 hq6 HFL HM5 HB5 HM HBL h2m HBR qfA qbG qf7 hcell qad;go_wp2
      go_roundg (L.length-(i+1))
      case measure=>omega
      case rel=>exact⟨i+1,E',_,vf',by omega,by go_num,HM7.out,qks,qjD,qdt.out,rfl⟩
   ·obtain rfl:i=L.length:=by omega
    go_wp2
    go_ret2
    exact⟨HQ4.out.trans (HBL.out.mono qdA),.inl ⟨by trivial,_,rfl,E,fs,vf,HM.out.mono qdA,HOK.out⟩⟩
 ·have hne:¬(bE l:Int)=0:=by omega
  rw[if_neg he]at HCO;have HE:=q7 he;clear he h;generalize bE l=q at*
  go_enter Tryz.func157,Tryz.ntmps157
  go_wp2_with(go_at_call 174;refine HCO.out.mono ?_;rintro e w1 ⟨vc,rfl,hq3,hq4⟩;have HQ4:=q7 hq4;clear hq3 hq4)
  go_ret2
  exact⟨HQ4.out,.inr ⟨HE.out,rfl⟩⟩
theorem q8p{A:Array Value}{pre post:List Value}{E:Nat->Ent}{n x o:Nat}(hA:A.toList=pre++aC E n++post)(ho:pre.length=o)(hx:x<n):A.extract (o+3*x) (o+3*x+3)=lL (E x):=by
 have hs:A.size=pre.length+3*n+post.length:=by rw[<-Array.length_toList,hA];simp[jr];omega
 refine Array.ext (by simp[lL];omega) fun k h1 h2=>?_
 have hk:k<3:=by simpa[lL]using h2
 rw[Array.getElem_extract]
 have hg:A[o+3*x+k]? =some (.int .i64 (F2 (E x) k:Nat)):=by
  rw[<-Array.getElem?_toList,hA,qh,List.getElem?_append_right (by omega),List.getElem?_append_left (by rw[jr];omega),show o+3*x+k-pre.length=3*x+k by omega]
  exact vR E n x k hx hk
 have hg2:=(Array.getElem?_eq_some_iff.1 hg).2;rw[hg2]
 rcases(show k=0\/k=1\/k=2 by omega)with rfl|rfl|rfl<;>rfl
theorem pT{P:Program}{fn:Func}{tmps:Array Value}{w:World}{a t:Nat}{ad:Addr}{v:Value}(hf:fn.results=#[.cell a t])(ha:tmps.getD a undef=.pointer (some ad))(hl:(loadVar t ad).run P w=.ok v w):
  (results fn tmps).run P w=.ok v w:=by
 have ha':tmps[a]?.getD undef=.pointer (some ad):=by simpa using ha
 simp[results,hf,asAddr,ha',hl]
theorem kC{P:Program}{fn:Func}{a:Act}{w:World}{s t:Nat}{ad:Addr}{x:Value}{R:Ending->World->Prop}(hf:fn.results=#[.cell s t])(ha:a.tmps.getD s undef=.pointer (some ad))(hd:a.defers=[])
  (hl:(loadVar t ad).run P w=.ok x w) (h:R (.returned x) w):bodyPost P fn R .ret a w:=
 bodyPost_ret (v:=x) (pT hf ha hl) hd h
theorem jd{P:Program}{w:World}{B T g n:Nat}{C:Array Value}(h:Own w B T (.slice (some ⟨g,0,none⟩) n n) C.toList)(d:TypeDesc)(hu:P.underlying T=some d)(hd:(match d with|.struct _|.array _ _=>true|_=>false)=true)(hi:(P.info? T).map (·.size)=some n):
  (loadVar T ⟨g,0,none⟩).run P w=.ok (.agg C) w:=by
 obtain⟨A,hg,hs,hA⟩:=h.whole;have hl:=aG (P:=P) w g 0 n T T A (0,0) d hg hu hd hi (by omega)
 have e:A.extract 0 (0+n)=C:=by rw[Nat.zero_add,<-hs,Array.extract_size];exact Array.toList_inj.1 hA
 rw[e]at hl
 exact hl
theorem q0h(a r:Nat)(hr:r<=15)(ha:a<=65536):bits .and .i64 (a:Int) (((2^r:Nat):Int)-1)=((a%2^r:Nat):Int):=by
 have hp:2^r<=2^15:=qe (by decide) hr
 have hp1:1<=2^r:=Nat.pow_pos (by decide)
 have e:((2^r:Nat):Int)-1=((2^r-1:Nat):Int):=by omega
 rw[e,(bits_nat .i64 63 (by decide) (fun n h0 h1=>by rw[IntKind.wrap_i64];omega) a (2^r-1) (by omega) (by omega)).1,Nat.and_two_pow_sub_one_eq_mod]
theorem q0i{E:Nat->Ent}{fs:List Sub}{V:Nat}(h:(E (V%512)).t=0):fV E fs V=E (V%512):=by
 unfold fV;rw[h]
theorem q0j{E:Nat->Ent}{fs:List Sub}{V k:Nat}{f:Sub}(h:(E (V%512)).t=k+1)(hf:fs[k]? =some f):fV E fs V=f.F (V/512%2^f.m):=by
 unfold fV;rw[h];simp only[hf]
def zE:Array Value:=lL Ent.zero
theorem M4(W:World):(zeroValue 268).run Tryz.prog W=.ok (.agg zE) W:=by kernel_rfl
theorem q7y{w:World}{B g sy:Nat}{E:Nat->Ent}{fs:List Sub}{vf:Value}{L:List Nat}{i:Nat}(h:fP w B g sy E fs vf)(hok:eO L i E fs)(V:Nat)(hV:V<32768):
  Calls Tryz.prog 207 #[.pointer (some ⟨g,0,none⟩),.int .i64 V] w fun e w'=>e=.returned (.agg (lL (fV E fs V)))/\Below w.heap.size w w':=by
 have hz:=M4;obtain⟨Z,hZ⟩:∃Z,Z=zE:=⟨_,rfl⟩;have hZl:Z.toList.length=3:=by rw[hZ];rfl
 have hZs:Z.size=3:=by rw[hZ];rfl
 rw[<-hZ]at hz;clear hZ;have hx:V%512<512:=by omega
 obtain⟨A,hA,hAs,hAl⟩:=h.box.whole;have qcg:=q8p hAl rfl hx;simp only[q8o]at qcg;have hgl:=h.blk.2;have HM:=q7 h;have qcP:=q0h V 9 (by omega) (by omega)
 have qcd:=fun W=>nF g 2 (V%512) W hx
 have qib:Hid (∀k,(E (V%512)).t=k+1->∃f,fs[k]? =some f/\f.m<=6):=q7 (fun k hk=>by obtain⟨f,h1,h2,-⟩:=hok.far _ k hx hk;exact⟨f,h1,h2⟩)
 clear h hok hAl;have qcO:bits .and .i64 (V:Int) 511=((V%512:Nat):Int):=qcP;clear qcP;obtain⟨ex,hex⟩:∃ex,ex=E (V%512):=⟨_,rfl⟩;rw[<-hex]at qcg qib;have HEX:=q7 hex;clear hex;have hes:(lL ex).size=3:=rfl;have he1:=nE ex;have q9I:(lL ex).toList.getD 2 undef=.int .i64 (ex.t:Nat):=rfl;obtain⟨VX,hVX⟩:∃VX,VX=lL ex:=⟨_,rfl⟩;rw[<-hVX]at qcg hes he1 q9I;have HVX:=q7 hVX;clear hVX;have hA5:((w.alloc (.cells Z 268))).heap[g]? =some (.cells A 272 (0,0)):=((qn w _).block g hgl).trans hA;have ho4:=qE w w.heap.size Z 268 (by omega) (q9 _)
 rw[hZs]at ho4;have ho5:=qE (w.alloc (.cells Z 268)) w.heap.size Z 268 (by omega) (by simp)
 rw[hZs,show(w.alloc (.cells Z 268)).heap.size=w.heap.size+1 by simp]at ho5
 have HO4:=q7 (ho4.up (qn _ (.cells Z 268)));have HO5:=q7 ho5;clear ho4 ho5 hA;obtain⟨x,hxx⟩:∃x,x=V%512:=⟨_,rfl⟩;rw[<-hxx]at qcg HEX qcd qcO hx;have HX:=q7 hxx;clear hxx
 have HDR:Hid (∀w2,Own w2 w.heap.size 268 (.slice (some ⟨w.heap.size+1,0,none⟩) 3 3) (VX.toList++Z.toList.drop VX.size)->Own w2 w.heap.size 268 (.slice (some ⟨w.heap.size+1,0,none⟩) 3 3) VX.toList):=q7 (fun w2 h=>by
  rw[List.drop_of_length_le (by omega),List.append_nil]at h;exact h)
 have HC5:Hid (∀w2,Own w2 w.heap.size 268 (.slice (some ⟨w.heap.size+1,0,none⟩) 3 3) VX.toList->w2.cell? ⟨w.heap.size+1,2,none⟩=some (.int .i64 (ex.t:Nat))):=q7 (fun w2 h=>by
  rw[h.cell (by rw[Array.length_toList];omega),q9I])
 clear q9I
 cases ht:ex.t with
 |zero=>
  rw[ht]at HC5;have HLK:Hid (fV E fs V=ex):=q7 (by rw[q0i (by rw[<-HX.out,<-HEX.out];exact ht),<-HX.out,<-HEX.out])
  go_enter Tryz.func207,Tryz.ntmps207
  go_wp2_with(first|(refine jP rfl 268 _ rfl g (2+3*x) 3 rfl 272 A VX (0,0) _ hA5 Tryz.underlying268 rfl (by kernel_rfl) (by omega) qcg ?_)|(refine qo rfl 268 _ _ rfl w.heap.size 268 (w.heap.size+1) 3 3 rfl VX rfl (by rw[hes];kernel_rfl) Z.toList HO5.out (by omega) he1 ?_;intro w2 hown2 hg2;have HO2:=q7 (HDR.out w2 hown2);have HG2:=q7 hg2;have hc5:=HC5.out w2 HO2.out;have hs5:=HO2.out.blk.2;obtain⟨A5,qk7,qk6,qho⟩:=HO2.out.whole;obtain rfl:A5=VX:=Array.toList_inj.1 qho;clear hown2 hg2 qho)|(refine qI rfl 268 3 _ rfl (w.heap.size+1) rfl A5 qk6 qk7 _ Tryz.underlying268 rfl (by kernel_rfl) ?_)|(refine qo rfl 268 _ _ rfl w.heap.size 268 w.heap.size 3 3 rfl A5 rfl (by rw[hes];kernel_rfl) Z.toList (HO4.out.keep HG2.out (.inr (by simp[Value.ownBlock]))) (by omega) he1 ?_;intro w6 q9W hg6;rw[List.drop_of_length_le (by omega),List.append_nil]at q9W;have HO6:=q7 q9W;have HG6:=q7 hg6;clear q9W hg6))
  refine kC (s:=4) (ad:=⟨w.heap.size,0,none⟩) (x:=.agg A5) rfl rfl rfl (jd (n:=3) HO6.out _ Tryz.underlying268 rfl (by kernel_rfl)) ?_
  refine⟨by rw[HLK.out,<-HVX.out],?_⟩
  have h1:Below w.heap.size w ((w.alloc (.cells Z 268)).alloc (.cells Z 268)):=(by repeat(first|exact qj _ _|assumption|refine qw ?_ _|refine qk ?_|refine qA ?_ _|refine qs ?_ _))
  exact(h1.grown HG2.out h1.size (fun k hk=>by cases hk;omega)).grown HG6.out (by have:=h1.size;have:=HG2.out.size;omega) (fun k hk=>by cases hk;exact q9 _)
 |succ k=>
  rw[ht]at HC5;obtain⟨f,hf,hm6⟩:=qib.out k ht;have HLK:Hid (fV E fs V=f.F (V/512%2^f.m)):=q7 (q0j (by rw[<-HX.out,<-HEX.out];exact ht) hf)
  have hkl:k<fs.length:=(List.getElem?_eq_some_iff.1 hf).1;have hy:V/512%2^f.m<2^f.m:=Nat.mod_lt _ (Nat.pow_pos (by decide))
  have hrow:=HM.out.rows k f hf;obtain⟨Af,hAf,qk4,qhm⟩:=hrow.1.nil3.whole;have qbE:=q8p (o:=0) qhm rfl hy;have hcv:=HM.out.cv;obtain⟨of,cf,gf,rfl,hdf,-,hcf,-⟩:=HM.out.outer.cases;rw[List.length_map]at hdf hcf hcv;have qb6:=qQ (P:=Tryz.prog) 270 274 Tryz.underlying270 (by kernel_rfl) hdf
  have qbC:=fun W=>qb6 W .i64 (k:Int) (by omega) (by omega)
  rw[Int.toNat_natCast,Nat.zero_add]at qbC;have hck:=hcf k hkl;have q9j:(fs.map sB).getD k undef=sB f:=by rw[List.getD_eq_getElem?_getD,List.getElem?_map,hf];rfl
  rw[q9j]at hck;have hgf:=hdf.hblk (by omega)
  have qgV:=hrow.1.blk.2;have qgG:=q0h (V/512) f.m (by omega) (by omega)
  have qgM:=yO f.g 0;have qlI:k<=140737488351232:=by have:=HM.out.outer.2;rw[List.length_map]at this;omega
  unfold sB at hck;rw[Nat.zero_add]at qbE
  have HBA:Hid (∀w2,((w.alloc (.cells Z 268)).alloc (.cells Z 268)).grownBy w2 (some (w.heap.size+1))->Below w.heap.size w w2):=q7 (fun w2 hg=>by
   have h1:Below w.heap.size w ((w.alloc (.cells Z 268)).alloc (.cells Z 268)):=(by repeat(first|exact qj _ _|assumption|refine qw ?_ _|refine qk ?_|refine qA ?_ _|refine qs ?_ _))
   exact h1.grown hg h1.size (fun k hk=>by cases hk;omega))
  have qmr:Af.size=3*2^f.m:=qk4;have qls:2^f.m<=64:=qa (qe (by decide) hm6) (by decide)
  have ez:(V:Int)/512=((V/512:Nat):Int):=by omega
  have qlc:V/512<=64:=by omega
  clear qb6 hdf hcf q9j qhm hrow hf;generalize V/512=z at*;generalize hn:2^f.m=n at*;generalize z%n=y at*;have qgL:=fun W=>qgM n W y hy
  rw[Nat.zero_add]at qgL;have hfe:=nE (f.F y);have qgZ:(lL (f.F y)).size=3:=rfl;obtain⟨VF,hVF⟩:∃VF,VF=lL (f.F y):=⟨_,rfl⟩;rw[<-hVF]at qbE hfe qgZ;have HVF:=q7 hVF;clear hVF qgM hn ht
  go_enter Tryz.func207,Tryz.ntmps207
  go_wp2_with(first|(refine jP rfl 268 _ rfl g (2+3*x) 3 rfl 272 A VX (0,0) _ hA5 Tryz.underlying268 rfl (by kernel_rfl) (by omega) qcg ?_)|(refine qo rfl 268 _ _ rfl w.heap.size 268 (w.heap.size+1) 3 3 rfl VX rfl (by rw[hes];kernel_rfl) Z.toList HO5.out (by omega) he1 ?_;intro w2 hown2 hg2;have HO2:=q7 (HDR.out w2 hown2);have HG2:=q7 hg2;have hc5:=HC5.out w2 HO2.out;have hs5:=HO2.out.blk.2;have hb2:=HBA.out w2 hg2;have HB2:=q7 hb2;have qcX:=(hb2.cell (p:=⟨g,1538,none⟩) hgl).trans hcv;have qjL:=(hb2.cell (p:=⟨gf,k,none⟩) hgf).trans hck;have qhn:=(hb2.block f.g qgV).trans hAf;have qjz:g<w2.heap.size:=qd hgl hb2.size;have qeL:gf<w2.heap.size:=qd hgf hb2.size;clear hown2 hg2 hb2 hcv hck))
  go_quiet (fail)
  have qk5:(w2.drewN nq).heap[f.g]? =some (.cells Af 268 (0,0)):=qhn;have qkt:=q7 ((HO4.out.keep HG2.out (.inr (by simp[Value.ownBlock]))).up (qC w2 nq))
  have qg6:=q7 (HB2.out.trans ((qC w2 nq).mono HB2.out.size));have hsq:f.g<(w2.drewN nq).heap.size:=qd qgV qg6.out.size;clear qcX qjL qhn qjz qeL HB2 HG2 HO2 hc5 hs5 HC5 HDR HBA;generalize w2.drewN nq=wq at*
  go_wp2_with(first|(refine jP rfl 268 _ rfl f.g (3*y) 3 rfl 268 Af VF (0,0) _ qk5 Tryz.underlying268 rfl (by kernel_rfl) (by omega) qbE ?_)|(refine qo rfl 268 _ _ rfl w.heap.size 268 w.heap.size 3 3 rfl VF rfl (by rw[qgZ];kernel_rfl) Z.toList qkt.out (by omega) hfe ?_;intro w6 q9W hg6;rw[List.drop_of_length_le (by omega),List.append_nil]at q9W;have HO6:=q7 q9W;have HG6:=q7 hg6;clear q9W hg6))
  refine kC (s:=4) (ad:=⟨w.heap.size,0,none⟩) (x:=.agg VF) rfl rfl rfl (jd (n:=3) HO6.out _ Tryz.underlying268 rfl (by kernel_rfl)) ?_
  refine⟨by rw[HLK.out,<-HVF.out],?_⟩
  exact qg6.out.grown HG6.out qg6.out.size (fun k hk=>by cases hk;exact q9 _)
def opV(o:OpN):List Value:=[.int .u8 o.lit,.int .i64 o.len,.int .i64 o.dist]
theorem M5(w2:World)(y:Nat)(n d:Int):Own (w2.alloc (.cells #[.int .u8 y,.int .i64 n,.int .i64 d] 64)) w2.heap.size 64 (.slice (some ⟨w2.heap.size,0,none⟩) 3 3) (opV ⟨y,n,d⟩):=
 qE w2 w2.heap.size #[.int .u8 y,.int .i64 n,.int .i64 d] 64 (by simp) (q9 _)
theorem cX.stay{w w':World}{g p:Nat}{s:ByteArray}{row:Option Nat}(h:cX w g s p)(hg:w.grownBy w' row)(hne:row≠some g):cX w' g s p:=⟨h.own.keep hg (.inr (fun e=>hne e.symm))⟩
theorem aS.stay{w w':World}{g p:Nat}{s:ByteArray}{row:Option Nat}(h:aS w g s p)(hg:w.grownBy w' row)(hne:row≠some g):aS w' g s p:=⟨h.own.keep hg (.inr (fun e=>hne e.symm))⟩
def jl(N T p n:Nat):Nat×Nat×Nat:=if p+n<=T then(dF N p n,0,p+n)else(0,2,p)
def aH(Bx:World->Nat->ByteArray->Nat->Prop)(s:ByteArray)(p n g:Nat)(w:World)(e:Ending)(w':World):Prop:=
 e=.returned (.tuple #[.int .i64 ((jl (qH s) (8*s.size) p n).1:Nat),.int .i64 ((jl (qH s) (8*s.size) p n).2.1:Nat)])/\Bx w' g s (jl (qH s) (8*s.size) p n).2.2/\w.grownBy w' (some g)
theorem bF{N T p n:Nat}(hp:p<=T):(jl N T p n).2.2<=T/\p<=(jl N T p n).2.2:=by
 unfold jl;split
 ·exact⟨by assumption,by simp⟩
 ·exact⟨hp,q9 _⟩
theorem q0k{w:World}{g:Nat}{s:ByteArray}{p:Nat}(h:cX w g s p)(hs:s.size<=4294967296)(n:Nat)(hn:n<=32)(hp:p<=8*s.size)(hlt:8*s.size<p+n):Calls Tryz.prog 205 #[.pointer (some ⟨g,0,none⟩),.int .i64 n] w fun e w'=>e=.returned (.int .i64 2)/\∃x,w'=ext w x:=by
 have hd:decide (0<=(n:Int)/\(n:Int)<=32)=true:=by simp;omega
 have HB:=q7 h;have HL:=q7 (q08 h hs (by omega))
 have hl:(n:Int)>((8*s.size-p:Nat):Int):=by omega
 obtain⟨q,hq⟩:∃q:Nat,q=8*s.size-p:=⟨_,rfl⟩;rw[<-hq]at HL hl;clear hq h
 go_enter Tryz.func205,Tryz.ntmps205
 go_wp2_with(first|(go_at_call 158;refine(nD HB.out).mono ?_;rintro e w' ⟨rfl,hw'⟩;rw[hw'];clear hw')|(go_at_call 138;refine(q4n _ _).mono ?_;rintro e w' ⟨rfl,hw'⟩;rw[hw',hd];clear hw')|(go_at_call 198;refine HL.out.mono ?_;rintro e w' ⟨rfl,x,rfl⟩))
 go_ret
 exact⟨rfl,(qt (by repeat(first|exact qj _ _|assumption|refine qw ?_ _|refine qk ?_|refine qA ?_ _|refine qs ?_ _)))⟩
theorem q66{w:World}{g:Nat}{s:ByteArray}{p:Nat}(h:cX w g s p)(hs:s.size<=4294967296)(n:Nat)(hn:n<=32)(hp:p<=8*s.size):
  Calls Tryz.prog 194 #[.pointer (some ⟨g,0,none⟩),.int .i64 n] w (aH cX s p n g w):=by
 have HPK:=q7 (q64 h hs hp n hn);have HB:=q7 h;unfold aH jl
 by_cases hl:p+n<=8*s.size
 ·rw[if_pos hl]
  have HSK:=q7 (fun x=>q62 (h.up (qu w x)) hs n hn hl)
  generalize dF (qH s) p n=v at*
  go_enter Tryz.func194,Tryz.ntmps194
  go_wp2_with(first|(go_at_call 204;(with_reducible refine HPK.out.mono ?_);rintro e w' ⟨rfl,x,rfl⟩)|(go_at_call 205;(with_reducible refine(HSK.out x).mono ?_);rintro e w2 ⟨rfl,hq1,hq2⟩;have HQ1:=q7 hq1;have HQ2:=q7 hq2;clear hq1 hq2))
  go_ret2
  exact⟨rfl,HQ1.out,qp (qv (qu w _) _) HQ2.out⟩
 ·rw[if_neg hl]
  have HSK:=q7 (fun x=>q0k (h.up (qu w x)) hs n hn hp (by omega))
  generalize dF (qH s) p n=v at*
  go_enter Tryz.func194,Tryz.ntmps194
  go_wp2_with(first|(go_at_call 204;(with_reducible refine HPK.out.mono ?_);rintro e w' ⟨rfl,x,rfl⟩)|(go_at_call 205;(with_reducible refine(HSK.out x).mono ?_);rintro e w2 ⟨rfl,y,rfl⟩))
  go_ret2
  exact⟨rfl,(HB.out.up (qu _ _)).up (qu _ _),qp (qv (qu w _) _) (qv (qu _ _) _)⟩
def qO(p:Nat):Nat:=(p+7)/8*8
theorem q67{w:World}{g:Nat}{s:ByteArray}{p:Nat}(h:cX w g s p)(hs:s.size<=4294967296)(hp:p<=8*s.size):
  Calls Tryz.prog 195 #[.pointer (some ⟨g,0,none⟩)] w fun e w'=>e=.returned (.tuple #[])/\cX w' g s (qO p)/\w.grownBy w' (some g):=by
 have HB:=q7 h;have c2:=h.c2;have f2:=h.free 2;have hg:=h.lt;have e1:((p:Int)+8-1)/8*8=((qO p:Nat):Int):=by unfold qO;omega
 have HST:=q7 (h.set2 (qO p));have hap:qO p<=68719476736:=by unfold qO;omega
 generalize qO p=q at*;clear h
 go_enter Tryz.func195,Tryz.ntmps195
 go_wp2_with(go_at_call 158;refine(nD HB.out).mono ?_;rintro e w' ⟨rfl,hw'⟩;rw[hw'];clear hw')
 go_end0
 exact⟨rfl,HST.out⟩
def zR:Array Value:=#[.bool false,.string ⟨#[]⟩,.int .i64 0]
theorem q0m(W:World):(zeroValue 230).run Tryz.prog W=.ok (.agg zR) W:=by kernel_rfl
theorem cX.keep{w w':World}{g p:Nat}{s:ByteArray}{row:Option Nat}(h:cX w g s p)(hg:w.grownBy w' row)(hne:row≠some g):cX w' g s p:=⟨h.own.keep hg (.inr (fun e=>hne e.symm))⟩
theorem q7B{w:World}{g p:Nat}{s:ByteArray}(h:cX w g s p):Calls Tryz.prog 178 #[.pointer (some ⟨g,0,none⟩)] w fun e w'=>(∃b,e=.returned (.pointer (some ⟨b,0,none⟩)))/\Below w.heap.size w w':=by
 have HB:=q7 h;have hg:=h.lt;obtain⟨A,hA,hAs,hAl⟩:=h.own.whole
 have hA1:∀u∈A.toList,u.oneCell'=true:=by
  rw[hAl];intro u hu;simp at hu;rcases hu with rfl|rfl|rfl<;>rfl
 have hz:=q0m;obtain⟨Z,hZ⟩:∃Z,Z=zR:=⟨_,rfl⟩;have hZl:Z.toList.length=3:=by rw[hZ];rfl
 have hZs:Z.size=3:=by rw[hZ];rfl
 rw[<-hZ]at hz;clear hZ hAl h;have ho:=qE w w.heap.size Z 230 (by omega) (q9 _)
 rw[hZs]at ho;have HO:=q7 ho;clear ho
 go_enter Tryz.func178,Tryz.ntmps178
 go_wp2_with(first|(go_at_call 158;refine(nD HB.out).mono ?_;rintro e w' ⟨rfl,hw'⟩;rw[hw'];clear hw')|(refine qI rfl 230 3 _ rfl g rfl A hAs hA _ Tryz.underlying230 rfl (by kernel_rfl) ?_)|(refine qo rfl 230 _ _ rfl w.heap.size 230 w.heap.size 3 3 rfl A rfl (by rw[hAs];kernel_rfl) Z.toList HO.out (by omega) hA1 ?_;intro w2 hown2 hg2;have HG2:=q7 hg2;clear hown2 hg2))
 go_ret
 exact⟨⟨_,rfl⟩,(qn w _).grown HG2.out (by simp) (fun k hk=>by cases hk;exact q9 _)⟩
theorem q0n{L:List Nat}{E:Nat->Ent}{fs:List Sub}(hok:eO L L.length E fs)(h15:∀x∈L,x<=15)(N p left:Nat):
  ((fV E fs (dF N p 15)).b=0->pR L (N/2^p) left 0 (if left<15 then 2 else 9) 0)/\
  ((fV E fs (dF N p 15)).b≠0->(fV E fs (dF N p 15)).b<=15/\((fV E fs (dF N p 15)).b<=left->pR L (N/2^p) left (fV E fs (dF N p 15)).s 0 (fV E fs (dF N p 15)).b)/\(left<(fV E fs (dF N p 15)).b->pR L (N/2^p) left 0 2 0)):=by
 obtain⟨h1,h2⟩:=hok.look h15 (dF N p 15)
 have hm:∀j,j<L.length->(lQ L (dF N p 15) j↔lQ L (N/2^p) j):=fun j hj=>by
  unfold dF;exact lR (h15 _ (jT L j 0 hj))
 refine⟨fun hb=>?_,fun hb=>?_⟩
 ·refine .inr ⟨fun i hi hh=>?_,rfl,rfl,rfl⟩
  have:=h1 i hi ((hm i hi).2 hh);rw[this]at hb
  exact absurd hb hh.1
 ·obtain⟨j,hj,hh⟩:=h2 hb
  have e:=h1 j hj hh;have hh':=(hm j hj).1 hh;have hl:=h15 _ (jT L j 0 hj);rw[e];refine⟨hl,fun hle=>.inl ⟨hj,hh',hle,rfl,rfl⟩,fun hlt=>.inr ⟨fun i hi hi2=>?_,rfl,rfl,?_⟩⟩
  ·have:=rW hi hj hi2 hh';subst this;exact hlt
  ·rw[if_pos];simp only at hlt;omega
theorem q4t{w:World}{B gt g p:Nat}{s:ByteArray}{L:List Nat}(hT:iB w B gt L)(h:cX w g s p)(h15:∀x∈L,x<=15)(hs:s.size<=4294967296)(hp:p<=8*s.size):
  Calls Tryz.prog 200 #[.pointer (some ⟨gt,0,none⟩),.pointer (some ⟨g,0,none⟩)] w (eY cX L s p g w):=by
 obtain⟨E,fs,vf,hM,hok⟩:=hT;have hv:dF (qH s) p 15<2^15:=Nat.mod_lt _ (Nat.pow_pos (by decide))
 obtain⟨qgH,qeB⟩:=q0n hok h15 (qH s) p (8*s.size-p);have HL0:=q7 qgH;have HL1:=q7 qeB
 have hbx:(fV E fs (dF (qH s) p 15)).b<=15:=by
  by_cases hb:(fV E fs (dF (qH s) p 15)).b=0
  ·omega
  ·exact(qeB hb).1
 have HFI:Hid (∀W,Below w.heap.size w W->Calls Tryz.prog 207 #[.pointer (some ⟨gt,0,none⟩),.int .i64 (dF (qH s) p 15:Nat)] W fun e w'=>e=.returned (.agg (lL (fV E fs (dF (qH s) p 15))))/\Below W.heap.size W w'):=q7 (fun W hb=>q7y (hM.up hb) hok _ (by simpa using hv))
 have HB:=q7 h;have HLF:Hid (∀W,cX W g s p->Calls Tryz.prog 198 #[.pointer (some ⟨g,0,none⟩)] W fun e w'=>e=.returned (.int .i64 ((8*s.size-p:Nat):Int))/\∃x,w'=ext W x):=q7 (fun W h=>q08 h hs hp)
 have HPK:Hid (∀W,cX W g s p->Calls Tryz.prog 204 #[.pointer (some ⟨g,0,none⟩),.int .i64 (15:Nat)] W fun e w'=>e=.returned (.int .i64 (dF (qH s) p 15:Nat))/\∃x,w'=ext W x):=q7 (fun W h=>q64 h hs hp 15 (by omega))
 have HSK:Hid (∀W (n:Nat),cX W g s p->n<=15->n<=8*s.size-p->Calls Tryz.prog 205 #[.pointer (some ⟨g,0,none⟩),.int .i64 n] W fun e w'=>e=.returned (.int .i64 0)/\cX w' g s (p+n)/\W.grownBy w' (some g)):=q7 (fun W n h hn hl=>q62 h hs n (by omega) (by omega))
 have hc0:=hM.c0;have hgt:=hM.blk.2;obtain⟨en,hen⟩:∃en,en=fV E fs (dF (qH s) p 15):=⟨_,rfl⟩;rw[<-hen]at HL0 HL1 HFI hbx;clear hen qgH qeB h hv;generalize dF (qH s) p 15=V at*;unfold eY;obtain⟨left,qbB⟩:∃left,left=8*s.size-p:=⟨_,rfl⟩;rw[<-qbB]at HL0 HL1 HLF HSK⊢;clear qbB hM;have hz:=M4;obtain⟨Z,hZ⟩:∃Z,Z=zE:=⟨_,rfl⟩;have hZl:Z.toList.length=3:=by rw[hZ];rfl
 have hZs:Z.size=3:=by rw[hZ];rfl
 rw[<-hZ]at hz;clear hZ;have hes:(lL en).size=3:=rfl;have he1:=nE en;have q9I:(lL en).toList=[.int .i64 (en.s:Nat),.int .i64 (en.b:Nat),.int .i64 (en.t:Nat)]:=rfl;obtain⟨VE,hVE⟩:∃VE,VE=lL en:=⟨_,rfl⟩;rw[<-hVE]at hes he1 q9I HFI;clear hVE;have HGT:=q7 q9I;clear q9I
 have HON:Hid (∀W:World,Own (W.alloc (.cells Z 268)) W.heap.size 268 (.slice (some ⟨W.heap.size,0,none⟩) 3 3) Z.toList):=q7 (fun W=>by
  have h:=qE W W.heap.size Z 268 (by omega) (q9 _)
  rwa [hZs]at h)
 go_enter Tryz.func200,Tryz.ntmps200
 go_wp2_with(first|(go_at_call 178;refine(q7B HB.out).mono ?_;rintro e w1 ⟨⟨bb,rfl⟩,hb1⟩;have HB1:=q7 hb1;have HX1:=q7 (HPK.out w1 (HB.out.up hb1));clear hb1)|(go_at_call 204;refine HX1.out.mono ?_;rintro e w2 ⟨rfl,x2,rfl⟩;have HB2:=q7 (HB1.out.trans ((qu w1 x2).mono HB1.out.size)))|(go_at_call 207;refine(HFI.out _ HB2.out).mono ?_;rintro e w3 ⟨rfl,hb3⟩;have HB3:=q7 (HB2.out.trans (hb3.mono HB2.out.size));clear hb3)|(refine qo rfl 268 _ _ rfl w3.heap.size 268 w3.heap.size 3 3 rfl VE rfl (by rw[hes];kernel_rfl) Z.toList (HON.out w3) (by omega) he1 ?_;intro w5 q9g hg5;rw[List.drop_of_length_le (by omega),List.append_nil,HGT.out]at q9g;have HO5:=q7 q9g;have HG5:=q7 hg5;clear q9g hg5))
 have HB5:Hid (Below w.heap.size w w5):=q7 ((HB3.out.alloc HB3.out.size _).grown HG5.out (by have:=HB3.out.size;simp;omega) (fun k hk=>by cases hk;exact HB3.out.size))
 have c60:w5.cell? ⟨w3.heap.size,0,none⟩=some (.int .i64 (en.s:Nat)):=HO5.out.cell (by simp)
 have c61:w5.cell? ⟨w3.heap.size,1,none⟩=some (.int .i64 (en.b:Nat)):=HO5.out.cell (by simp)
 have hg6:=HO5.out.blk.2
 have qlX:some w3.heap.size≠some g:=by
  have h1:=HB.out.lt;have h2:=HB3.out.size;intro e;cases e;omega
 have HS5:=q7 (HB.out.up HB5.out);have HL5:=q7 (HLF.out w5 HS5.out);clear HO5 HG5 HB3 HX1 HB1 HB2 HFI HPK HGT HON hc0 hgt;generalize w3.heap.size=b6 at*
 try simp only[Act.put]
 by_cases hb0:en.b=0
 ·rw[hb0]at c61
  have HR:=q7 (HL0.out hb0)
  go_quiet (fail)
  have HS6:=q7 (HS5.out.up (qC w5 nq));have HB6:=q7 (HB5.out.trans ((qC w5 nq).mono HB5.out.size));have HL6:=q7 (HLF.out _ HS6.out);clear HS5 HB5 HL5 c60 c61 hg6;generalize w5.drewN nq=w6 at*
  by_cases qdJ:left<15
  ·rw[if_pos qdJ]at HR
   have hli:(left:Int)<15:=by omega
   go_wp2_with(go_at_call 198;refine HL6.out.mono ?_;rintro e w7 ⟨rfl,z,rfl⟩)
   go_ret2
   exact⟨0,2,0,rfl,HR.out,HS6.out.up (qu _ _),qv (HB6.out.trans ((qu w6 _).mono HB6.out.size)) _⟩
  ·rw[if_neg qdJ]at HR
   have hli:¬(left:Int)<15:=by omega
   go_wp2_with(go_at_call 198;refine HL6.out.mono ?_;rintro e w7 ⟨rfl,z,rfl⟩)
   go_ret2
   exact⟨0,9,0,rfl,HR.out,HS6.out.up (qu _ _),qv (HB6.out.trans ((qu w6 _).mono HB6.out.size)) _⟩
 ·have hbp:(en.b:Int)>0:=by omega
  have hbn:0<en.b:=by omega
  by_cases hbl:en.b<=left
  ·have qjQ:(en.b:Int)<=(left:Int):=by omega
   have HR:=q7 ((HL1.out hb0).2.1 hbl);go_wp2;refine qY (by kernel_rfl) (by kernel_rfl) ?_
   repeat(go_big_quiet_step ((go_at_call 198;exact jx (HLF.out _ (HS5.out.up (qu _ _))))))
   refine wpQuiet_nil ?_;rintro w' ⟨y,rfl⟩;have c60':(ext w5 y).cell? ⟨b6,0,none⟩=some (.int .i64 (en.s:Nat)):=(cell?_ext w5 y b6 0 hg6).trans c60;have c61':(ext w5 y).cell? ⟨b6,1,none⟩=some (.int .i64 (en.b:Nat)):=(cell?_ext w5 y b6 1 hg6).trans c61;have qm0:b6<(ext w5 y).heap.size:=qd hg6 (mT _ _);have HB6:Hid (Below w.heap.size w (ext w5 y).drew):=q7 (qS (HB5.out.trans ((qu w5 y).mono HB5.out.size)));have HS6:=q7 (HSK.out (ext w5 y).drew en.b (HS5.out.up (qS (qu w5 y))) hbx hbl);clear HS5 HB5 HL5 c60 c61 hg6;generalize ext w5 y=w6 at*;go_wp2;refine gY (some g) [0,1,2,3,4] [5,6,7] (by kernel_rfl) (by kernel_rfl) ?_
   simp only[pk]
   repeat(go_big_quiet_step (fail))
   refine wpQuiet_nil ?_;unfold qy
   go_wp2_with(go_at_call 205;refine HS6.out.mono ?_;rintro e w7 ⟨rfl,hq1,hq2⟩;have HQ1:=q7 hq1;have HQ2:=q7 hq2;have HQ3:=q7 (qp (qV w6 (some g)) hq2);clear hq1 hq2)
   refine⟨qW HQ3.out,?_⟩
   (unfold qy;go_wp2;refine⟨qW HQ3.out,?_⟩)
   (unfold qy;go_wp2;refine⟨qW HQ3.out,?_⟩)
   unfold qy;intro _;go_wp2
   go_ret2
   exact⟨en.s,0,en.b,rfl,HR.out,HQ1.out,qp (qv HB6.out _) HQ2.out⟩
  ·have qjQ:¬(en.b:Int)<=(left:Int):=by omega
   have HR:=q7 ((HL1.out hb0).2.2 (by omega))
   have hli:(left:Int)<15:=by omega
   go_wp2;refine qY (by kernel_rfl) (by kernel_rfl) ?_
   repeat(go_big_quiet_step ((go_at_call 198;exact jx (HLF.out _ (HS5.out.up (qu _ _))))))
   refine wpQuiet_nil ?_;rintro w' ⟨y,rfl⟩;have HS6:=q7 (HS5.out.up (qu w5 y));have HB6:=q7 (HB5.out.trans ((qu w5 y).mono HB5.out.size));have HL6:=q7 (HLF.out _ HS6.out);clear HS5 HB5 HL5 c60 c61 hg6;generalize ext w5 y=w6 at*
   go_wp2_with(go_at_call 198;refine HL6.out.mono ?_;rintro e w7 ⟨rfl,z,rfl⟩)
   go_ret2
   exact⟨0,2,0,rfl,HR.out,HS6.out.up (qu _ _),qv (HB6.out.trans ((qu w6 _).mono HB6.out.size)) _⟩
def cG(L:List Nat):Nat:=L.length-L.count 0
def bJ(l:List Int)(lone:Bool):Nat:=
 if bE l≠0 then bE l
 else if jp (l.map Int.toNat)=32768 then 0
 else if lone=true/\(cG (l.map Int.toNat)=0\/(cG (l.map Int.toNat)=1/\(l.map Int.toNat).count 1=1))then 0
 else if cG (l.map Int.toNat)=0 then 17 else 8
theorem kD{l:List Int}(lone:Bool)(h:bE l≠0):bJ l lone=bE l:=by unfold bJ;rw[if_pos h]
theorem yR{L:List Nat}(lone:Bool)(h:bE (nls L)=0):bJ (nls L) lone=if jp L=32768 then 0 else if lone=true/\(cG L=0\/(cG L=1/\L.count 1=1))then 0 else if cG L=0 then 17 else 8:=by
 unfold bJ;rw[if_neg (by omega),jm]
theorem gM{l:List Int}(h:bE l=0):∃L,l=nls L/\L.length<=320/\(∀x∈L,x<=15)/\jp L<=32768:=by
 have hw:jU l=0:=by
  apply qf;intro hn
  rw[cK hn]at h;exact hn h
 obtain⟨hlen,hall⟩:=i8 hw;obtain⟨L,rfl,h15⟩:=K0 hall;rw[qB]at hlen;rw[mZ hlen h15]at h;refine⟨L,rfl,hlen,h15,?_⟩
 apply qf;intro hn
 rw[if_pos (by omega)]at h;cases h
theorem q0p(v:Value)(l:List Int)(lone:Bool)(w:World)(h:qT w v l):Calls Tryz.prog 169 #[v,.bool lone] w fun e w'=>e=.returned (.int .i64 (bJ l lone:Nat))/\Below w.heap.size w w':=by
 have HCO:=q7 (q05 v l w h);unfold aN at HCO
 by_cases hz:bE l=0
 ·have hw0:jU l=0:=by
   apply qf;intro hn
   rw[cK hn]at hz;exact hn hz
  have HWR:Hid (∀w',Below w.heap.size w w'->Calls Tryz.prog 189 #[v] w' (gJ l w')):=q7 (fun w' hb=>Z7 v l w' (h.up hb))
  have hzz:=F0;obtain⟨Z,hZ⟩:∃Z,Z=z16:=⟨_,rfl⟩;rw[<-hZ]at hzz;have HZ:=q7 hZ;clear hZ;obtain⟨L,rfl,hlen,h15,-⟩:=gM hz;rw[yR lone hz];rw[hz]at HCO;unfold gJ at HWR;rw[hw0]at HWR;have HTP:=q7 (q3M L hlen);rw[vI L h15]at HTP;have HCE:Hid (∀c:List Nat,c.length=16->c=lT L->∀n,n<16->(nls c).getD n 0=(L.count n:Nat)):=q7 (fun c _ hc n hn=>by rw[hc,jb,oN L n hn])
  have HBF:Hid (∀w0 w1 w2 y:World,Below w.heap.size w w0->Below w0.heap.size w0 w1->(w1.alloc (.cells Z 277)).grownBy w2 (some w1.heap.size)->Below w.heap.size w (ext w2 y)):=q7 (fun w0 w1 w2 y h0 h1 hg=>by
   have h01:=qq h0 h1;have h02:Below w.heap.size w w2:=(h01.trans ((qn w1 _).mono h01.size)).grown hg (qa h01.size (by simp)) (fun k hk=>by cases hk;exact h01.size)
   exact h02.trans ((qu w2 y).mono h02.size))
  obtain⟨oa,cap,b,off,rfl,hd,hc⟩:=h.open;rw[qB]at hd hc HWR HCO⊢;rw[jm]at HWR;have hm:=hd.len;clear hc h hd hz h15 hw0
  have hwl:(L.length:Int)-(L.count 0:Int)=((cG L:Nat):Int):=by
   have:=List.count_le_length (a:=0) (l:=L);unfold cG;omega
  have hml:cG L<=320:=by unfold cG;omega
  have qml:L.count 0<=320:=qa List.count_le_length hlen;have qjN:L.count 1<=320:=qa List.count_le_length hlen;generalize jp L=K at*;generalize cG L=m at*;obtain⟨ct,hct⟩:∃ct,ct=L.count 1:=⟨_,rfl⟩;rw[<-hct]at qjN⊢;have HCT:=q7 hct.symm;clear hct
  by_cases hk:K=32768
  ·rw[if_pos hk]
   subst hk
   go_enter Tryz.func169,Tryz.ntmps169
   go_wp2_with(first|(go_at_call 174;refine HCO.out.mono ?_;rintro e w0 ⟨v1,rfl,-,hb0⟩;have HB0:=q7 hb0;clear hb0)|(go_at_call 189;refine(HWR.out _ HB0.out).mono ?_;rintro e w1 ⟨c,hc1,rfl,hc2,hc3⟩;have HC1:=q7 hc1;have HC2:=q7 hc2;have HC3:=q7 hc3;clear hc1 hc2 hc3)|(refine jD rfl 277 16 _ _ rfl w1.heap.size rfl (nls (List.replicate 16 0)) (nls c) rfl (by rw[qB];exact HC1.out) (by kernel_rfl) (oO w1 Z HZ.out) ?_;intro w2 hb2 hg2;(obtain⟨A,hgA,hsA,hA⟩:=hb2.open;have HAE:=q7 (congrArg List.toArray hA);have HB2:=q7 hb2;have HG2:=q7 hg2;have HT2:=q7 (HTP.out);rw[<-HC2.out (by trivial),<-HAE.out]at HT2;have qag:=hb2.cell (c:=0) (by omega);rw[HCE.out c HC1.out (HC2.out (by trivial)) 0 (by omega)]at qag;have q9x:=hb2.lt;clear hb2 hg2 hA))|(refine qI rfl 277 16 _ rfl w1.heap.size rfl A hsA hgA _ Tryz.underlying277 rfl (by kernel_rfl) ?_)|(go_at_call 190;refine(HT2.out _).mono ?_;rintro e w3 ⟨rfl,y,rfl⟩;have qaf:=(HB2.out.up (qu w2 y)).cell (c:=1) (by omega);rw[HCE.out c HC1.out (HC2.out (by trivial)) 1 (by omega)]at qaf;have qb4:=(HB2.out.up (qu w2 y)).lt))
   go_ret
   exact⟨rfl,HBF.out w0 w1 w2 y HB0.out HC3.out HG2.out⟩
  ·rw[if_neg hk]
   have hk2:((K:Int)==32768)=false:=by simp;omega
   clear hk
   cases lone with
   |false=>
    rw[if_neg (show¬(false=true/\(m=0\/(m=1/\ct=1))) by simp)]
    by_cases h0:m=0
    ·subst h0
     go_enter Tryz.func169,Tryz.ntmps169
     go_wp2_with(first|(go_at_call 174;refine HCO.out.mono ?_;rintro e w0 ⟨v1,rfl,-,hb0⟩;have HB0:=q7 hb0;clear hb0)|(go_at_call 189;refine(HWR.out _ HB0.out).mono ?_;rintro e w1 ⟨c,hc1,rfl,hc2,hc3⟩;have HC1:=q7 hc1;have HC2:=q7 hc2;have HC3:=q7 hc3;clear hc1 hc2 hc3)|(refine jD rfl 277 16 _ _ rfl w1.heap.size rfl (nls (List.replicate 16 0)) (nls c) rfl (by rw[qB];exact HC1.out) (by kernel_rfl) (oO w1 Z HZ.out) ?_;intro w2 hb2 hg2;(obtain⟨A,hgA,hsA,hA⟩:=hb2.open;have HAE:=q7 (congrArg List.toArray hA);have HB2:=q7 hb2;have HG2:=q7 hg2;have HT2:=q7 (HTP.out);rw[<-HC2.out (by trivial),<-HAE.out]at HT2;have qag:=hb2.cell (c:=0) (by omega);rw[HCE.out c HC1.out (HC2.out (by trivial)) 0 (by omega)]at qag;have q9x:=hb2.lt;clear hb2 hg2 hA))|(refine qI rfl 277 16 _ rfl w1.heap.size rfl A hsA hgA _ Tryz.underlying277 rfl (by kernel_rfl) ?_)|(go_at_call 190;refine(HT2.out _).mono ?_;rintro e w3 ⟨rfl,y,rfl⟩;have qaf:=(HB2.out.up (qu w2 y)).cell (c:=1) (by omega);rw[HCE.out c HC1.out (HC2.out (by trivial)) 1 (by omega),HCT.out]at qaf;have qb4:=(HB2.out.up (qu w2 y)).lt))
     go_ret
     exact⟨rfl,HBF.out w0 w1 w2 y HB0.out HC3.out HG2.out⟩
    ·rw[if_neg h0]
     have h0':((m:Int)==0)=false:=by simp;omega
     clear h0
     go_enter Tryz.func169,Tryz.ntmps169
     go_wp2_with(first|(go_at_call 174;refine HCO.out.mono ?_;rintro e w0 ⟨v1,rfl,-,hb0⟩;have HB0:=q7 hb0;clear hb0)|(go_at_call 189;refine(HWR.out _ HB0.out).mono ?_;rintro e w1 ⟨c,hc1,rfl,hc2,hc3⟩;have HC1:=q7 hc1;have HC2:=q7 hc2;have HC3:=q7 hc3;clear hc1 hc2 hc3)|(refine jD rfl 277 16 _ _ rfl w1.heap.size rfl (nls (List.replicate 16 0)) (nls c) rfl (by rw[qB];exact HC1.out) (by kernel_rfl) (oO w1 Z HZ.out) ?_;intro w2 hb2 hg2;(obtain⟨A,hgA,hsA,hA⟩:=hb2.open;have HAE:=q7 (congrArg List.toArray hA);have HB2:=q7 hb2;have HG2:=q7 hg2;have HT2:=q7 (HTP.out);rw[<-HC2.out (by trivial),<-HAE.out]at HT2;have qag:=hb2.cell (c:=0) (by omega);rw[HCE.out c HC1.out (HC2.out (by trivial)) 0 (by omega)]at qag;have q9x:=hb2.lt;clear hb2 hg2 hA))|(refine qI rfl 277 16 _ rfl w1.heap.size rfl A hsA hgA _ Tryz.underlying277 rfl (by kernel_rfl) ?_)|(go_at_call 190;refine(HT2.out _).mono ?_;rintro e w3 ⟨rfl,y,rfl⟩;have qaf:=(HB2.out.up (qu w2 y)).cell (c:=1) (by omega);rw[HCE.out c HC1.out (HC2.out (by trivial)) 1 (by omega),HCT.out]at qaf;have qb4:=(HB2.out.up (qu w2 y)).lt))
     go_ret
     exact⟨rfl,HBF.out w0 w1 w2 y HB0.out HC3.out HG2.out⟩
   |true=>
    by_cases h0:m=0
    ·subst h0
     rw[if_pos (show true=true/\(0=0\/(0=1/\ct=1))from⟨rfl,.inl rfl⟩)]
     go_enter Tryz.func169,Tryz.ntmps169
     go_wp2_with(first|(go_at_call 174;refine HCO.out.mono ?_;rintro e w0 ⟨v1,rfl,-,hb0⟩;have HB0:=q7 hb0;clear hb0)|(go_at_call 189;refine(HWR.out _ HB0.out).mono ?_;rintro e w1 ⟨c,hc1,rfl,hc2,hc3⟩;have HC1:=q7 hc1;have HC2:=q7 hc2;have HC3:=q7 hc3;clear hc1 hc2 hc3)|(refine jD rfl 277 16 _ _ rfl w1.heap.size rfl (nls (List.replicate 16 0)) (nls c) rfl (by rw[qB];exact HC1.out) (by kernel_rfl) (oO w1 Z HZ.out) ?_;intro w2 hb2 hg2;(obtain⟨A,hgA,hsA,hA⟩:=hb2.open;have HAE:=q7 (congrArg List.toArray hA);have HB2:=q7 hb2;have HG2:=q7 hg2;have HT2:=q7 (HTP.out);rw[<-HC2.out (by trivial),<-HAE.out]at HT2;have qag:=hb2.cell (c:=0) (by omega);rw[HCE.out c HC1.out (HC2.out (by trivial)) 0 (by omega)]at qag;have q9x:=hb2.lt;clear hb2 hg2 hA))|(refine qI rfl 277 16 _ rfl w1.heap.size rfl A hsA hgA _ Tryz.underlying277 rfl (by kernel_rfl) ?_)|(go_at_call 190;refine(HT2.out _).mono ?_;rintro e w3 ⟨rfl,y,rfl⟩;have qaf:=(HB2.out.up (qu w2 y)).cell (c:=1) (by omega);rw[HCE.out c HC1.out (HC2.out (by trivial)) 1 (by omega),HCT.out]at qaf;have qb4:=(HB2.out.up (qu w2 y)).lt))
     go_ret
     exact⟨rfl,HBF.out w0 w1 w2 y HB0.out HC3.out HG2.out⟩
    ·have h0':((m:Int)==0)=false:=by simp;omega
     by_cases h1:m=1
     ·subst h1
      clear h0 h0'
      by_cases hc:ct=1
      ·subst hc
       rw[if_pos (show true=true/\((1:Nat)=0\/(1=1/\1=1))from⟨rfl,.inr ⟨rfl,rfl⟩⟩)]
       go_enter Tryz.func169,Tryz.ntmps169
       go_wp2_with(first|(go_at_call 174;refine HCO.out.mono ?_;rintro e w0 ⟨v1,rfl,-,hb0⟩;have HB0:=q7 hb0;clear hb0)|(go_at_call 189;refine(HWR.out _ HB0.out).mono ?_;rintro e w1 ⟨c,hc1,rfl,hc2,hc3⟩;have HC1:=q7 hc1;have HC2:=q7 hc2;have HC3:=q7 hc3;clear hc1 hc2 hc3)|(refine jD rfl 277 16 _ _ rfl w1.heap.size rfl (nls (List.replicate 16 0)) (nls c) rfl (by rw[qB];exact HC1.out) (by kernel_rfl) (oO w1 Z HZ.out) ?_;intro w2 hb2 hg2;(obtain⟨A,hgA,hsA,hA⟩:=hb2.open;have HAE:=q7 (congrArg List.toArray hA);have HB2:=q7 hb2;have HG2:=q7 hg2;have HT2:=q7 (HTP.out);rw[<-HC2.out (by trivial),<-HAE.out]at HT2;have qag:=hb2.cell (c:=0) (by omega);rw[HCE.out c HC1.out (HC2.out (by trivial)) 0 (by omega)]at qag;have q9x:=hb2.lt;clear hb2 hg2 hA))|(refine qI rfl 277 16 _ rfl w1.heap.size rfl A hsA hgA _ Tryz.underlying277 rfl (by kernel_rfl) ?_)|(go_at_call 190;refine(HT2.out _).mono ?_;rintro e w3 ⟨rfl,y,rfl⟩;have qaf:=(HB2.out.up (qu w2 y)).cell (c:=1) (by omega);rw[HCE.out c HC1.out (HC2.out (by trivial)) 1 (by omega),HCT.out]at qaf;have qb4:=(HB2.out.up (qu w2 y)).lt))
       go_ret
       exact⟨rfl,HBF.out w0 w1 w2 y HB0.out HC3.out HG2.out⟩
      ·rw[if_neg (show¬(true=true/\((1:Nat)=0\/(1=1/\ct=1)))from fun hh=>hc (hh.2.resolve_left (by simp)).2),if_neg (by simp)]
       have hc':((ct:Int)==1)=false:=by simp;omega
       clear hc
       go_enter Tryz.func169,Tryz.ntmps169
       go_wp2_with(first|(go_at_call 174;refine HCO.out.mono ?_;rintro e w0 ⟨v1,rfl,-,hb0⟩;have HB0:=q7 hb0;clear hb0)|(go_at_call 189;refine(HWR.out _ HB0.out).mono ?_;rintro e w1 ⟨c,hc1,rfl,hc2,hc3⟩;have HC1:=q7 hc1;have HC2:=q7 hc2;have HC3:=q7 hc3;clear hc1 hc2 hc3)|(refine jD rfl 277 16 _ _ rfl w1.heap.size rfl (nls (List.replicate 16 0)) (nls c) rfl (by rw[qB];exact HC1.out) (by kernel_rfl) (oO w1 Z HZ.out) ?_;intro w2 hb2 hg2;(obtain⟨A,hgA,hsA,hA⟩:=hb2.open;have HAE:=q7 (congrArg List.toArray hA);have HB2:=q7 hb2;have HG2:=q7 hg2;have HT2:=q7 (HTP.out);rw[<-HC2.out (by trivial),<-HAE.out]at HT2;have qag:=hb2.cell (c:=0) (by omega);rw[HCE.out c HC1.out (HC2.out (by trivial)) 0 (by omega)]at qag;have q9x:=hb2.lt;clear hb2 hg2 hA))|(refine qI rfl 277 16 _ rfl w1.heap.size rfl A hsA hgA _ Tryz.underlying277 rfl (by kernel_rfl) ?_)|(go_at_call 190;refine(HT2.out _).mono ?_;rintro e w3 ⟨rfl,y,rfl⟩;have qaf:=(HB2.out.up (qu w2 y)).cell (c:=1) (by omega);rw[HCE.out c HC1.out (HC2.out (by trivial)) 1 (by omega),HCT.out]at qaf;have qb4:=(HB2.out.up (qu w2 y)).lt))
       go_ret
       exact⟨rfl,HBF.out w0 w1 w2 y HB0.out HC3.out HG2.out⟩
     ·rw[if_neg (show¬(true=true/\(m=0\/(m=1/\ct=1)))from fun hh=>hh.2.elim h0 (fun q=>h1 q.1)),if_neg h0]
      have h1':((m:Int)==1)=false:=by simp;omega
      clear h0 h1
      go_enter Tryz.func169,Tryz.ntmps169
      go_wp2_with(first|(go_at_call 174;refine HCO.out.mono ?_;rintro e w0 ⟨v1,rfl,-,hb0⟩;have HB0:=q7 hb0;clear hb0)|(go_at_call 189;refine(HWR.out _ HB0.out).mono ?_;rintro e w1 ⟨c,hc1,rfl,hc2,hc3⟩;have HC1:=q7 hc1;have HC2:=q7 hc2;have HC3:=q7 hc3;clear hc1 hc2 hc3)|(refine jD rfl 277 16 _ _ rfl w1.heap.size rfl (nls (List.replicate 16 0)) (nls c) rfl (by rw[qB];exact HC1.out) (by kernel_rfl) (oO w1 Z HZ.out) ?_;intro w2 hb2 hg2;(obtain⟨A,hgA,hsA,hA⟩:=hb2.open;have HAE:=q7 (congrArg List.toArray hA);have HB2:=q7 hb2;have HG2:=q7 hg2;have HT2:=q7 (HTP.out);rw[<-HC2.out (by trivial),<-HAE.out]at HT2;have qag:=hb2.cell (c:=0) (by omega);rw[HCE.out c HC1.out (HC2.out (by trivial)) 0 (by omega)]at qag;have q9x:=hb2.lt;clear hb2 hg2 hA))|(refine qI rfl 277 16 _ rfl w1.heap.size rfl A hsA hgA _ Tryz.underlying277 rfl (by kernel_rfl) ?_)|(go_at_call 190;refine(HT2.out _).mono ?_;rintro e w3 ⟨rfl,y,rfl⟩;have qaf:=(HB2.out.up (qu w2 y)).cell (c:=1) (by omega);rw[HCE.out c HC1.out (HC2.out (by trivial)) 1 (by omega),HCT.out]at qaf;have qb4:=(HB2.out.up (qu w2 y)).lt))
      go_ret
      exact⟨rfl,HBF.out w0 w1 w2 y HB0.out HC3.out HG2.out⟩
 ·rw[kD lone hz]
  have hne:((bE l:Nat):Int)≠0:=by omega
  generalize bE l=er at*;obtain⟨oa,cap,b,off,rfl,hd,hc⟩:=h.open;clear hc hd h
  go_enter Tryz.func169,Tryz.ntmps169
  go_wp2_with(go_at_call 174;refine HCO.out.mono ?_;rintro e w1 ⟨v1,rfl,-,hb1⟩;have HB1:=q7 hb1;clear hb1)
  go_ret
  exact⟨rfl,HB1.out⟩
end Go.Cm
namespace Go.Cm
structure aI where
 fin:Bool
 kind:Nat
 size:Nat
 lits:List Nat
 dists:List Nat
def aI.zero:aI:=⟨false,0,0,[],[]⟩
def xb(N T n:Nat)(st:Nat×Nat):Nat×(Nat×Nat):=if st.1=0 then((jl N T st.2 n).1,(jl N T st.2 n).2.1,(jl N T st.2 n).2.2)else(0,st)
def xf(e:Nat)(st:Nat×Nat):Nat×Nat:=if st.1=0 then(e,st.2)else st
def lM:List Nat:=List.replicate 144 8++List.replicate 112 9++List.replicate 24 7++List.replicate 8 8
def oH:List Nat:=List.replicate 32 5
def eZ:List Nat:=[16,17,18,0,8,7,9,6,10,5,11,4,12,3,13,2,14,1,15]
noncomputable def j9(L:List Nat)(V left:Nat):Nat×Nat×Nat:=@dite _ (∃a,a<L.length/\lQ L V a/\L.getD a 0<=left) (Classical.propDecidable _) (fun h=>(Classical.choose h,0,L.getD (Classical.choose h) 0)) (fun _=>(0,(if left<15 then 2 else 9),0))
theorem dP(L:List Nat)(V left:Nat):pR L V left (j9 L V left).1 (j9 L V left).2.1 (j9 L V left).2.2:=by
 unfold j9;split
 ·rename_i h
  have:=Classical.choose_spec h
  exact .inl ⟨this.1,this.2.1,this.2.2,rfl,rfl⟩
 ·rename_i h
  refine .inr ⟨fun i hi hh=>?_,rfl,rfl,rfl⟩
  apply qf;intro hn
  exact h ⟨i,hi,hh,by omega⟩
theorem iC{L:List Nat}{V left a e d:Nat}(h:pR L V left a e d):j9 L V left=(a,e,d):=by
 obtain⟨h1,h2,h3⟩:=mX (dP L V left) h
 exact Prod.ext h1 (Prod.ext h2 h3)
def cN(N T sym:Nat)(l:List Nat)(st:Nat×Nat):Nat×Nat×(Nat×Nat):=
 if sym=18 then(11+(xb N T 7 st).1,0,(xb N T 7 st).2)
 else if sym=16 then(if l=[]then(0,0,xf 4 st)else(3+(xb N T 2 st).1,l.getD (l.length-1) 0,(xb N T 2 st).2))
 else(3+(xb N T 3 st).1,0,(xb N T 3 st).2)
noncomputable def bM(N T:Nat)(code:List Nat)(n:Nat):Nat->List Nat->Nat×Nat->List Nat×(Nat×Nat)
 |0,l,st=>(l,st)
 |f+1,l,st=>
  if st.1=0/\l.length<n then
   if(j9 code (N/2^st.2) (T-st.2)).2.1≠0 then(l,(j9 code (N/2^st.2) (T-st.2)).2.1,st.2)
   else if(j9 code (N/2^st.2) (T-st.2)).1<16 then bM N T code n f (l++[(j9 code (N/2^st.2) (T-st.2)).1]) (0,st.2+(j9 code (N/2^st.2) (T-st.2)).2.2)
   else if n<l.length+(cN N T (j9 code (N/2^st.2) (T-st.2)).1 l (0,st.2+(j9 code (N/2^st.2) (T-st.2)).2.2)).1 then
    ([],xf 3 (cN N T (j9 code (N/2^st.2) (T-st.2)).1 l (0,st.2+(j9 code (N/2^st.2) (T-st.2)).2.2)).2.2)
   else bM N T code n f (l++List.replicate (cN N T (j9 code (N/2^st.2) (T-st.2)).1 l (0,st.2+(j9 code (N/2^st.2) (T-st.2)).2.2)).1 (cN N T (j9 code (N/2^st.2) (T-st.2)).1 l (0,st.2+(j9 code (N/2^st.2) (T-st.2)).2.2)).2.1)
    (cN N T (j9 code (N/2^st.2) (T-st.2)).1 l (0,st.2+(j9 code (N/2^st.2) (T-st.2)).2.2)).2.2
  else(l,st)
def cY(lits dists:List Nat):Nat:=if lits.getD 256 0=0 then 21 else if bJ (nls lits) true≠0 then bJ (nls lits) true else bJ (nls dists) true
def jO(N T c:Nat):Nat->List Nat×(Nat×Nat)->List Nat×(Nat×Nat)
 |0,x=>x
 |k+1,x=>if k<4+c/\(jO N T c k x).2.1=0 then((jO N T c k x).1.set (eZ.getD k 0) (xb N T 3 (jO N T c k x).2).1,(xb N T 3 (jO N T c k x).2).2)else jO N T c k x
end Go.Cm
namespace Go.Cm
open Go.RowKit Go.Proofs
theorem Own.of_blk{w w':World}{B E:Nat}{v:Value}{xs:List Value}(h:Own w B E v xs)(hb:∀k,v.ownBlock=some k->w'.heap[k]? =w.heap[k]?):Own w' B E v xs:=by
 refine⟨⟨h.1.1,h.1.2.imp id ?_⟩,h.2⟩;rintro⟨g,cap,cur,rfl,h2,h3,h4⟩
 exact⟨g,cap,cur,rfl,h2,by rw[hb g rfl];exact h3,h4⟩
structure Fx(S:Nat->Prop)(w w':World):Prop where
 os:w'.os=w.os
 tape:w'.tape=w.tape
 output:w'.output=w.output
 size:w.heap.size<=w'.heap.size
 block:∀k,k<w.heap.size->¬S k->w'.heap[k]? =w.heap[k]?
abbrev Two(q g:Nat)(w w':World):Prop:=Fx (fun k=>k=q\/k=g) w w'
section
variable {S : Nat → Prop} {n : Nat} {w w1 w2 : World}
theorem Fx.refl(S:Nat->Prop)(w:World):Fx S w w:=⟨rfl,rfl,rfl,q9 _,fun _ _ _=>rfl⟩
theorem Fx.trans(h:Fx S w w1)(k:Fx S w1 w2):Fx S w w2:=⟨k.os.trans h.os,k.tape.trans h.tape,k.output.trans h.output,qa h.size k.size,fun i hi h1=>by rw[k.block i (qd hi h.size) h1,h.block i hi h1]⟩
theorem Fx.mono{S':Nat->Prop}(h:Fx S w w1)(hS:∀k,S k->S' k):Fx S' w w1:=⟨h.os,h.tape,h.output,h.size,fun k hk h1=>h.block k hk (fun e=>h1 (hS k e))⟩
theorem jn{row:Option Nat}(h:w.grownBy w1 row)(hr:∀k,row=some k->S k):Fx S w w1:=⟨h.os,h.tape,h.output,h.size,fun k hk h1=>h.block k hk (fun e=>h1 (hr k e.symm))⟩
theorem qP(h:Below w.heap.size w w1):Fx S w w1:=⟨h.os,h.tape,h.output,h.size,fun k hk _=>h.block k hk⟩
theorem Fx.grown{row:Option Nat}(h:Fx S w w1)(hg:w1.grownBy w2 row)(hr:∀k,row=some k->S k\/w.heap.size<=k):Fx S w w2:=
 ⟨hg.os.trans h.os,hg.tape.trans h.tape,hg.output.trans h.output,qa h.size hg.size,fun k hk h1=>by
  rw[hg.block k (qd hk h.size) (fun e=>(hr k e.symm).elim h1 (fun z=>by omega)),h.block k hk h1]⟩
theorem Fx.below(h:Fx S w1 w2)(hb:Below n w w1)(hn:n<=w1.heap.size)(hS:∀k,S k->n<=k):Below n w w2:=hb.trans ⟨h.os,h.tape,h.output,h.size,fun k hk=>h.block k (by omega) (fun e=>by have:=hS k e;omega)⟩
theorem Fx.own{B E:Nat}{v:Value}{xs:List Value}(h:Fx S w w1)(ho:Own w B E v xs)(hv:∀k,v.ownBlock=some k->¬S k):Own w1 B E v xs:=
 ho.of_blk fun k hk=>h.block k (ho.lt k hk).2 (hv k hk)
theorem Fx.cell{b o:Nat}(h:Fx S w w1)(hb:b<w.heap.size)(hv:¬S b):w1.cell? ⟨b,o,none⟩=w.cell? ⟨b,o,none⟩:=World.cell?_of_block (w:=w) (h.block b hb hv)
end
structure Src(w:World)(q g e:Nat):Prop where
 own:Own w q 263 (.slice (some ⟨q,0,none⟩) 2 2) [.pointer (some ⟨g,0,none⟩),.int .i64 e]
section
variable {w : World} {q g e : Nat}
theorem Src.up{w':World}(h:Src w q g e)(hb:Below w.heap.size w w'):Src w' q g e:=⟨h.own.up hb⟩
theorem Src.lt(h:Src w q g e):q<w.heap.size:=(h.own.lt q rfl).2
theorem Src.c0(h:Src w q g e):w.cell? ⟨q,0,none⟩=some (.pointer (some ⟨g,0,none⟩)):=h.own.cell (by simp)
theorem Src.c1(h:Src w q g e):w.cell? ⟨q,1,none⟩=some (.int .i64 e):=h.own.cell (by simp)
theorem Src.free(h:Src w q g e)(c:Nat):w.frozen? ⟨q,c,none⟩=false:=h.own.free c
theorem Src.set1(h:Src w q g e)(r:Nat):Src (w.setCell ⟨q,1,none⟩ (.int .i64 r)) q g r/\w.grownBy (w.setCell ⟨q,1,none⟩ (.int .i64 r)) (some q):=⟨⟨(h.own.store 1 _).1⟩,(h.own.store 1 _).2⟩
theorem Src.keep{w':World}{row:Option Nat}(h:Src w q g e)(hg:w.grownBy w' row)(hne:row≠some q):Src w' q g e:=⟨h.own.keep hg (.inr (fun e=>hne e.symm))⟩
end
structure eL(w:World)(q g:Nat)(s:ByteArray)(st:Nat×Nat):Prop where
 src:Src w q g st.1
 box:cX w g s st.2
 ne:q≠g
 le:st.2<=8*s.size
 err:st.1<=64
theorem eL.up{w w':World}{q g:Nat}{s:ByteArray}{st:Nat×Nat}(h:eL w q g s st)(hb:Below w.heap.size w w'):eL w' q g s st:=⟨h.src.up hb,h.box.up hb,h.ne,h.le,h.err⟩
theorem F4{w:World}{q g:Nat}{s:ByteArray}{st:Nat×Nat}(h:eL w q g s st)(er:Nat)(her:er<=64):
  Calls Tryz.prog 182 #[.pointer (some ⟨q,0,none⟩),.int .i64 er] w fun e w'=>e=.returned (.tuple #[])/\eL w' q g s (xf er st)/\Two q g w w':=by
 obtain⟨en,p⟩:=st;have HT:=q7 h;have c1:=h.src.c1;have f1:=h.src.free 1;have hq:=h.src.lt;have HS:=q7 (h.src.set1 er);clear h
 by_cases h0:en=0
 ·subst h0
  go_enter Tryz.func182,Tryz.ntmps182
  go_wp2
  go_end0
  refine⟨rfl,?_,jn HS.out.2 (fun k e=>.inl (by injection e with e;exact e.symm))⟩
  exact⟨HS.out.1,HT.out.box.stay HS.out.2 (fun e=>HT.out.ne (by injection e)),HT.out.ne,HT.out.le,her⟩
 ·have he:(((en,p).1:Nat):Int)=(en:Int):=rfl
  rw[he]at c1;clear he;have h0':((en:Int)==0)=false:=by simp;omega
  have HX:Hid (xf er (en,p)=(en,p)):=q7 (if_neg h0);clear h0
  go_enter Tryz.func182,Tryz.ntmps182
  go_wp2
  go_end0
  refine⟨rfl,?_,Fx.refl _ _⟩;rw[HX.out];exact HT.out
theorem vV{w:World}{q g:Nat}{s:ByteArray}{st:Nat×Nat}(h:eL w q g s st)(hs:s.size<=4294967296)(n:Nat)(hn:n<=32):
  Calls Tryz.prog 179 #[.pointer (some ⟨q,0,none⟩),.int .i64 n] w fun e w'=>e=.returned (.int .i64 ((xb (qH s) (8*s.size) n st).1:Nat))/\eL w' q g s (xb (qH s) (8*s.size) n st).2/\Two q g w w':=by
 obtain⟨en,p⟩:=st;have HT:=q7 h;have c0:=h.src.c0;have c1:=h.src.c1;have hq:=h.src.lt
 by_cases h0:en=0
 ·subst h0
  have HX:Hid (xb (qH s) (8*s.size) n (0,p)=((jl (qH s) (8*s.size) p n).1,(jl (qH s) (8*s.size) p n).2.1,(jl (qH s) (8*s.size) p n).2.2)):=q7 rfl;rw[HX.out];have HBT:=q7 (q66 h.box hs n hn h.le);have HLE:=q7 (bF (N:=qH s) (n:=n) h.le);have HE:Hid ((jl (qH s) (8*s.size) p n).2.1<=64):=q7 (by unfold jl;split<;>simp)
  unfold aH at HBT;clear h HX;generalize jl (qH s) (8*s.size) p n=r at*;obtain⟨a,er,p2⟩:=r
  go_enter Tryz.func179,Tryz.ntmps179
  go_wp2_with(go_at_call 194;(with_reducible refine HBT.out.mono ?_);rintro e w1 ⟨rfl,hb1,hb2⟩;(have HS1:=q7 (HT.out.src.keep hb2 (fun e=>HT.out.ne (by injection e with e;exact e.symm)));have HB1:=q7 hb1;have HB2:=q7 hb2;have f1:=HS1.out.free 1;have hq1:=HS1.out.lt;have qmi:=HS1.out.c1;have HST:=q7 (HS1.out.set1 er);clear hb1 hb2))
  go_ret;refine⟨rfl,⟨HST.out.1,HB1.out.stay HST.out.2 (fun e=>HT.out.ne (by injection e)),HT.out.ne,HLE.out.1,HE.out⟩,(jn HB2.out (fun k e=>.inr (by injection e with e;exact e.symm))).trans (jn HST.out.2 (fun k e=>.inl (by injection e with e;exact e.symm)))⟩
 ·have he:(((en,p).1:Nat):Int)=(en:Int):=rfl
  rw[he]at c1;clear he;have h0':((en:Int) != 0)=true:=by simp;omega
  have HX:Hid (xb (qH s) (8*s.size) n (en,p)=(0,(en,p))):=q7 (if_neg h0);rw[HX.out];clear h0 h
  go_enter Tryz.func179,Tryz.ntmps179
  go_wp2;go_ret
  exact⟨rfl,HT.out,Fx.refl _ _⟩
theorem cQ(l:List Int):∀u∈ints l,u.oneCell'=true:=by
 intro u hu;simp only[ints,List.mem_map]at hu;obtain⟨b,-,rfl⟩:=hu;rfl
theorem q0r(l:List Nat)(k x:Nat):ints (nls (l++List.replicate (k+1) x))=ints (nls (l++List.replicate k x))++ints (nls [x]):=by
 rw[List.replicate_succ',<-qh]
 simp[ints,nls]
theorem q69(v:Value)(l:List Nat)(n x:Nat)(w:World)(B:Nat)(h:Own w B 3 v (ints (nls l)))(hB:B<=w.heap.size)(hl:l.length+n<=1000000):
  Calls Tryz.prog 142 #[v,.int .i64 n,.int .i64 x] w fun e w'=>∃v',e=.returned v'/\Own w' B 3 v' (ints (nls (l++List.replicate n x)))/\Fx (fun k=>v.ownBlock=some k) w w'/\(∀k,v'.ownBlock=some k->v.ownBlock=some k\/w.heap.size<=k):=by
 have HO:=q7 h;have H0:Hid (Own w B 3 v (ints (nls (l++List.replicate 0 x)))):=q7 (by simpa using h)
 have HL:Hid (∀k,k<n->(ints (nls (l++List.replicate k x))).length+1<=4294967296):=q7 (fun k hk=>by simp[ints,nls];omega)
 have HAP:=q7 (fun k=>q0r l k x)
 obtain⟨oa,z,cap,hv⟩:∃oa z cap,v=.slice oa z cap:=by
  obtain⟨oz,cz,_,h,-⟩:=h.cases
  exact⟨oz,_,cz,h⟩
 clear h HO;generalize hob:(fun k=>v.ownBlock=some k)=S
 have HV:Hid (∀k,v.ownBlock=some k->S k):=q7 (fun k hk=>by rw[<-hob];exact hk)
 have HV2:Hid (∀k,S k->v.ownBlock=some k):=q7 (fun k hk=>by rw[<-hob]at hk;exact hk)
 have HVS:Hid (∀k,(v.ownBlock=some k\/w.heap.size<=k)↔(S k\/w.heap.size<=k)):=q7 (fun k=>by rw[<-hob])
 clear hob;subst hv
 go_enter Tryz.func142,Tryz.ntmps142
 go_wp2
 go_loopg [0,8] n (fun gk r i wr=>∃k:Nat,k<=n/\i=.int .i64 k/\Own wr B 3 r (ints (nls (l++List.replicate k x)))/\Fx S w wr/\(∀q,r.ownBlock=some q->S q\/w.heap.size<=q)/\gk=n-k)
 case atStart=>exact⟨0,qc _,rfl,H0.out,Fx.refl _ _,fun k hk=>.inl (HV.out k hk),rfl⟩
 case round=>
  obtain⟨k,hk,rfl,ho,hf,hro,hgk⟩:=hrel;have HOW:=q7 ho;have HF:=q7 hf;have HRO:=q7 hro;have hsz:=hf.size
  obtain⟨oz,nz,cz,hu⟩:∃oz nz cz,u0=.slice oz nz cz:=by
   obtain⟨oz,cz,_,h,-⟩:=ho.cases
   exact⟨oz,_,cz,h⟩
  subst hu;clear ho hf hro
  by_cases hlt:k<n
  ·have HLK:=q7 (HL.out k hlt)
   have hki:(k:Int)<(n:Int):=by omega
   go_wp2_with(at_builtin;refine jt rfl (.tmp 10) (.tmp 12) 66 rfl B 3 (.int .i64 0) 8 Tryz.underlying66 (by kernel_rfl) rfl (by decide) (.slice oz nz cz) (ints (nls (l++List.replicate k x))) rfl (HOW.out.up (qn _ _)) (.slice (some ⟨wr.heap.size,0,none⟩) 1 1) (ints (nls [x])) rfl (by simpa[ints,nls]using eJ wr #[.int .i64 (x:Int)] 3 (by simp)) (cQ _) (by have:=HLK.out;simpa[ints,nls]using this) (qa hB (qa hsz (by simp))) ?_;intro v' w2 hown1 hg1 hk1;(have HO1:=q7 hown1;have HG1:=q7 hg1;have HK1:=q7 hk1;clear hown1 hg1 hk1))
   go_roundg (n-(k+1))
   case measure=>omega
   case rel=>
    refine⟨k+1,by omega,by go_num,by rw[HAP.out];exact HO1.out,(HF.out.trans (qP (qn wr _))).grown HG1.out HRO.out,fun q hq=>?_,rfl⟩
    rcases HK1.out q hq with h1|h1
    ·exact HRO.out q h1
    ·have h2:wr.heap.size<=q:=qa (by simp) h1
     exact .inr (by omega)
  ·obtain rfl:k=n:=by omega
   have hki:¬(k:Int)<(k:Int):=by omega
   go_wp2;go_ret
   exact⟨_,rfl,HOW.out,HF.out,fun q hq=>(HVS.out q).2 (HRO.out q hq)⟩
theorem tP(N T n:Nat)(st:Nat×Nat):(xb N T n st).1<2^n:=by
 have hp:=Nat.two_pow_pos n;unfold xb;split
 ·unfold jl
  split
  ·exact Nat.mod_lt _ hp
  ·exact hp
 ·exact hp
theorem yU(l:List Nat)(h:l≠[]):(ints (nls l)).getD (l.length-1) undef=.int .i64 (l.getD (l.length-1) 0:Nat):=by
 have:0<l.length:=List.length_pos_iff.2 h;have h2:l.length-1<l.length:=by omega
 simp[ints,nls,List.getD,h2]
theorem q8D{w:World}{q g:Nat}{s:ByteArray}{st:Nat×Nat}(h:eL w q g s st)(hs:s.size<=4294967296)(sym:Nat)(qaD:sym=16\/sym=17\/sym=18)(v:Value)(l:List Nat)(B:Nat)(ho:Own w B 3 v (ints (nls l)))(hl:l.length<=1000):
  Calls Tryz.prog 206 #[.pointer (some ⟨q,0,none⟩),.int .i64 sym,v] w fun e w'=>e=.returned (.tuple #[.int .i64 ((cN (qH s) (8*s.size) sym l st).1:Nat),.int .i64 ((cN (qH s) (8*s.size) sym l st).2.1:Nat)])/\eL w' q g s (cN (qH s) (8*s.size) sym l st).2.2/\Two q g w w':=by
 have HBT:=q7 (fun n (hn:n<=32)=>vV h hs n hn)
 have HFL:=q7 (F4 h 4 (by omega))
 have HXL:=q7 (fun n=>tP (qH s) (8*s.size) n st)
 have hlen:(ints (nls l)).length=l.length:=by simp[ints,nls]
 have HSL:=q7 (yU l);obtain⟨oa,cap,b,hv,hd,-,hc,-,-⟩:=ho.cases;rw[hlen]at hv hd hc;subst hv;have hix:=qQ (P:=Tryz.prog) 66 3 Tryz.underlying66 (by kernel_rfl) hd
 have hm:=hd.len;have hbk:=hd.hblk;have HC:=q7 hc;clear hd hc h ho hlen;generalize qH s=N at*;generalize 8*s.size=T at*
 rcases qaD with rfl|rfl|rfl
 ·by_cases hnil:l=[]
  ·subst hnil
   have qab:cN N T 16 [] st=(0,0,xf 4 st):=rfl;rw[qab];rw[show((4:Nat):Int)=4 from rfl]at HFL
   clear qab HC HSL HXL HBT hbk;generalize xf 4 st=st2 at*
   go_enter Tryz.func206,Tryz.ntmps206
   go_wp2_with(go_at_call 182;(with_reducible refine HFL.out.mono ?_);rintro e w2 ⟨rfl,hq1,hq2⟩;(have HQ1:=q7 hq1;have HQ2:=q7 hq2;clear hq1 hq2))
   go_ret2
   exact⟨rfl,HQ1.out,HQ2.out⟩
  ·have qab:cN N T 16 l st=(3+(xb N T 2 st).1,l.getD (l.length-1) 0,(xb N T 2 st).2):=by unfold cN;rw[if_neg (by omega),if_pos rfl,if_neg hnil]
   rw[qab];have HB2:=q7 (HBT.out 2 (by omega))
   rw[show((2:Nat):Int)=2 from rfl]at HB2
   have hx:=HXL.out 2;have hcell:=HC.out (l.length-1) (by have:=List.length_pos_iff.2 hnil;omega)
   rw[HSL.out hnil]at hcell;have hln:0<l.length:=List.length_pos_iff.2 hnil;have hbb:=hbk hln;have qer:(l.length:Int)-1=((l.length-1:Nat):Int):=by omega
   have qj3:l.length-1<l.length:=by omega
   have hl0:((l.length:Int)==0)=false:=by simp;omega
   clear qab hnil HC HSL HFL HXL HBT hbk;generalize xb N T 2 st=r at*;obtain⟨a,st2⟩:=r;generalize l.getD (l.length-1) 0=y at*;generalize l.length-1=j at*;generalize l.length=n at*
   go_enter Tryz.func206,Tryz.ntmps206
   go_wp2_with(go_at_call 179;(with_reducible refine HB2.out.mono ?_);rintro e w2 ⟨rfl,hq1,hq2⟩;(have HQ1:=q7 hq1;have HQ2:=q7 hq2;clear hq1 hq2))
   go_ret2
   exact⟨rfl,HQ1.out,HQ2.out⟩
 ·have qab:cN N T 17 l st=(3+(xb N T 3 st).1,0,(xb N T 3 st).2):=rfl
  rw[qab];have HB2:=q7 (HBT.out 3 (by omega))
  rw[show((3:Nat):Int)=3 from rfl]at HB2
  have hx:=HXL.out 3;clear qab HC HSL HFL HXL HBT hbk;generalize xb N T 3 st=r at*;obtain⟨a,st2⟩:=r
  go_enter Tryz.func206,Tryz.ntmps206
  go_wp2_with(go_at_call 179;(with_reducible refine HB2.out.mono ?_);rintro e w2 ⟨rfl,hq1,hq2⟩;(have HQ1:=q7 hq1;have HQ2:=q7 hq2;clear hq1 hq2))
  go_ret2
  exact⟨rfl,HQ1.out,HQ2.out⟩
 ·have qab:cN N T 18 l st=(11+(xb N T 7 st).1,0,(xb N T 7 st).2):=rfl
  rw[qab];have HB2:=q7 (HBT.out 7 (by omega))
  rw[show((7:Nat):Int)=7 from rfl]at HB2
  have hx:=HXL.out 7;clear qab HC HSL HFL HXL HBT hbk;generalize xb N T 7 st=r at*;obtain⟨a,st2⟩:=r
  go_enter Tryz.func206,Tryz.ntmps206
  go_wp2_with(go_at_call 179;(with_reducible refine HB2.out.mono ?_);rintro e w2 ⟨rfl,hq1,hq2⟩;(have HQ1:=q7 hq1;have HQ2:=q7 hq2;clear hq1 hq2))
  go_ret2
  exact⟨rfl,HQ1.out,HQ2.out⟩
end Go.Cm
namespace Go.Cm
def je (N T : Nat) (st : Nat × Nat) : Nat × (Nat × Nat) :=
  ((xb N T 16 (st.1, qO st.2)).1,
   if (xb N T 16 (xb N T 16 (st.1, qO st.2)).2).1 + (xb N T 16 (st.1, qO st.2)).1 = 65535 then (xb N T 16 (xb N T 16 (st.1, qO st.2)).2).2
   else xf 6 (xb N T 16 (xb N T 16 (st.1, qO st.2)).2).2)
noncomputable def dynL(N T a b:Nat)(k:List Nat×(Nat×Nat)):List Nat×List Nat×(Nat×Nat):=
 if k.2.1≠0 then([],[],k.2)
 else if bJ (nls k.1) false≠0 then([],[],bJ (nls k.1) false,k.2.2)
 else if(bM N T k.1 (257+a+(1+b)) (257+a+(1+b)+1) [] k.2).2.1≠0 then([],[],(bM N T k.1 (257+a+(1+b)) (257+a+(1+b)+1) [] k.2).2)
 else((bM N T k.1 (257+a+(1+b)) (257+a+(1+b)+1) [] k.2).1.take (257+a),(bM N T k.1 (257+a+(1+b)) (257+a+(1+b)+1) [] k.2).1.drop (257+a),
  cY ((bM N T k.1 (257+a+(1+b)) (257+a+(1+b)+1) [] k.2).1.take (257+a)) ((bM N T k.1 (257+a+(1+b)) (257+a+(1+b)+1) [] k.2).1.drop (257+a)),
  (bM N T k.1 (257+a+(1+b)) (257+a+(1+b)+1) [] k.2).2.2)
noncomputable def dynM(N T a b c:Nat)(st:Nat×Nat):List Nat×List Nat×(Nat×Nat):=
 dynL N T a b (jO N T c 19 (List.replicate 19 0,if 286<257+a\/30<1+b then xf 3 st else st))
noncomputable def dynN(N T:Nat)(st:Nat×Nat):List Nat×List Nat×(Nat×Nat):=
 dynM N T (xb N T 5 st).1 (xb N T 5 (xb N T 5 st).2).1 (xb N T 4 (xb N T 5 (xb N T 5 st).2).2).1 (xb N T 4 (xb N T 5 (xb N T 5 st).2).2).2
noncomputable def dG(N T p:Nat)(fin:Bool)(k:Nat)(st:Nat×Nat):aI×Nat×Nat:=
 if st.1≠0 then(aI.zero,st.1,p)
 else if k=0 then(if(je N T st).2.1≠0 then(aI.zero,(je N T st).2.1,p)else(⟨fin,0,(je N T st).1,[],[]⟩,0,(je N T st).2.2))
 else if k=1 then(⟨fin,1,0,lM,oH⟩,0,st.2)
 else if k=2 then(if(dynN N T st).2.2.1≠0 then(aI.zero,(dynN N T st).2.2.1,p)else(⟨fin,2,0,(dynN N T st).1,(dynN N T st).2.1⟩,0,(dynN N T st).2.2.2))
 else(aI.zero,11,p)
noncomputable def jk(N T p:Nat):aI×Nat×Nat:=
 dG N T p (decide ((xb N T 1 (0,p)).1=1)) (xb N T 2 (xb N T 1 (0,p)).2).1 (xb N T 2 (xb N T 1 (0,p)).2).2
theorem U3{e:Nat}{st:Nat×Nat}(h:st.1≠0):xf e st=st:=if_neg h
theorem nH(N T c:Nat):∀(k:Nat) (x:List Nat×(Nat×Nat)),x.2.1≠0->jO N T c k x=x
 |0,_,_=>rfl
 |k+1,x,h=>by rw[jO,nH N T c k x h,if_neg (fun z=>h z.2)]
end Go.Cm
namespace Go.Cm
open Go.RowKit Go.Proofs
theorem pU{P:Program}{ops:Array Oper}{rest:List Oper}{o:Oper}{a:Act}{w:World}{Q:Exit->Act->World->Prop}(hgd:o.guard=none)(t:TypeId)(F:Array (Nat×Operand))(ho:o.op=.build t F)
  (G:Array (Nat×Value)) (hG:(F.map fun(i,x)=>(i,a.eval x))=G) (C:Array Value) (hb:∀W,(Instr.build t G).run P W=.ok (.agg C) W)
  (h:wpList P ops Q rest (a.put o.dst (.agg C)) w):wpList P ops Q (o::rest) a w:=by
 subst hG;refine wpList_plain hgd fun K hK=>?_
 unfold Oper.wp execOp;simp only[ho,Sem.run_bind,hb,Result.andThen_ok]
 exact hK _ _ h
def z19:Array Value:=(ints (List.replicate 19 0)).toArray
theorem q4v(W:World):(zeroValue 219).run Tryz.prog W=.ok (.agg z19) W:=by kernel_rfl
def q8q:Array (Nat×Value):=((List.range 19).map fun i=>(i,Value.int .i64 (eZ.getD i 0:Nat))).toArray
theorem q0t(W:World):(Instr.build 219 q8q).run Tryz.prog W=.ok (.agg (ints (nls eZ)).toArray) W:=by kernel_rfl
theorem q8r(w:World):Calls Tryz.prog 140 #[] w fun e w'=>e=.returned (.agg (ints (nls eZ)).toArray)/\Below w.heap.size w w':=by
 have hz:=q4v;have hzl:z19.toList=ints (nls (List.replicate 19 0)):=rfl;obtain⟨Z,hZ⟩:∃Z,Z=z19:=⟨_,rfl⟩;rw[<-hZ]at hz hzl;have hb:=rE w 219 Z (nls (List.replicate 19 0)) hzl (by decide)
 rw[show(nls (List.replicate 19 0)).length=19 from rfl]at hb
 have hbd:=q0t;have hl:eZ.length=19:=rfl;obtain⟨O,hO⟩:∃O,O=eZ:=⟨_,rfl⟩;obtain⟨R,hR⟩:∃R,R=List.replicate 19 0:=⟨_,rfl⟩;rw[<-hR]at hb;rw[<-hO]at hbd hl⊢;obtain⟨C,hC⟩:∃C,C=(ints (nls O)).toArray:=⟨_,rfl⟩;rw[<-hC]at hbd;have HC:=q7 hC;have HB:=q7 hb;clear hZ hzl hO hR hC hb
 go_enter Tryz.func140,Tryz.ntmps140
 go_wp2_with(first|(refine pU rfl 219 _ rfl q8q (by kernel_rfl) C hbd ?_)|(refine jD rfl 219 19 _ _ rfl w.heap.size rfl (nls R) (nls O) (congrArg Value.agg HC.out) (by rw[qB];exact hl) (by kernel_rfl) HB.out ?_;intro w2 hB2 hg2;have HB4:=q7 hB2;have HG2:=q7 hg2;clear hB2 hg2))
 refine kC (s:=0) (ad:=⟨w.heap.size,0,none⟩) (x:=.agg (ints (nls O)).toArray) rfl rfl rfl (HB4.out.load _ Tryz.underlying219 rfl (by kernel_rfl)) ?_
 exact⟨rfl,(qn w _).grown HG2.out (by simp) (fun k hk=>by cases hk;exact q9 _)⟩
theorem q6b(u v:Value)(lits dists:List Nat)(w:World)(hu:qT w u (nls lits))(hv:qT w v (nls dists))(q9Y:256<lits.length):
  Calls Tryz.prog 139 #[u,v] w fun e w'=>e=.returned (.int .i64 (cY lits dists:Nat))/\Below w.heap.size w w':=by
 have HF1:=q7 (q0p u (nls lits) true w hu);have HF2:=q7 (fun W (hb:Below w.heap.size w W)=>q0p v (nls dists) true W (hv.up hb))
 obtain⟨oa,cap,b,off,hvv,hd,hc⟩:=hu.open;rw[qB]at hvv hd hc;subst hvv;have hcell:=hc 256 q9Y;rw[jb]at hcell;have hix:=qQ (P:=Tryz.prog) 66 3 Tryz.underlying66 (by kernel_rfl) hd
 have hm:=hd.len;have hbb:=hd.hblk (by omega)
 have hli:(256:Int)<(lits.length:Int):=by omega
 obtain⟨r,hr⟩:∃r,r=cY lits dists:=⟨_,rfl⟩;rw[<-hr];unfold cY at hr;have HR:=q7 hr;clear hc hd hu hv hr;generalize bJ (nls lits) true=e1 at*;generalize bJ (nls dists) true=e2 at*;generalize lits.getD 256 0=y at*;generalize lits.length=m at*
 by_cases hy:y=0
 ·have h21:r=21:=by rw[HR.out];exact if_pos hy
  subst h21 hy;clear HR
  go_enter Tryz.func139,Tryz.ntmps139
  go_wp2;go_ret
  exact⟨rfl,qj _ _⟩
 ·have hy':((y:Int)==0)=false:=by simp;omega
  by_cases he:e1=0
  ·have h2:r=e2:=by rw[HR.out,if_neg hy];exact if_neg (by omega)
   subst h2 he;clear HR hy
   go_enter Tryz.func139,Tryz.ntmps139
   go_wp2_with(first|(go_at_call 169;(with_reducible refine HF1.out.mono ?_);rintro e w1 ⟨rfl,hb1⟩;(have HB1:=q7 hb1;have HFF:=q7 (HF2.out w1 HB1.out);clear hb1))|(go_at_call 169;(with_reducible refine HFF.out.mono ?_);rintro e w2 ⟨rfl,hb2⟩;(have HB2:=q7 (qq HB1.out hb2);clear hb2)))
   go_ret
   exact⟨rfl,HB2.out⟩
  ·have h2:r=e1:=by rw[HR.out,if_neg hy];exact if_pos he
   have he':((e1:Int) != 0)=true:=by simpa using he
   subst h2;clear HR hy he
   go_enter Tryz.func139,Tryz.ntmps139
   go_wp2_with(go_at_call 169;(with_reducible refine HF1.out.mono ?_);rintro e w1 ⟨rfl,hb1⟩;(have HB1:=q7 hb1;clear hb1))
   go_ret
   exact⟨rfl,HB1.out⟩
theorem q4x{w:World}{B g N L:Nat}{vb:Value}(v:Value)(l:List Int)(n:Int)(h0:qT w v l)(hst:∀W vb',Fr g vb vb' w W->qT W v l)(h:pS w B g N L vb)(hL:L<=2147483648-32):
  Calls Tryz.prog 145 #[.pointer (some ⟨g,0,none⟩),v,.int .i64 n] w (M2 pS l n B g N L vb w):=by
 have HP:=q7 (q7j h 0 0 (by decide) (by decide) (by omega))
 rw[Nat.zero_mul,Nat.add_zero,Nat.add_zero]at HP;have hBw:B<=w.heap.size:=by have:=h.ge;have:=h.box.lt;omega
 have HCO:Hid (∀w' vb',Fr g vb vb' w w'->Calls Tryz.prog 174 #[v] w' (aN l w')):=q7 (fun w' vb' hf=>q05 v l w' (hst w' vb' hf))
 obtain⟨oa,cap,b,off,rfl,hd,hc⟩:=h0.open;have hix:=qQ (P:=Tryz.prog) 66 3 Tryz.underlying66 (by kernel_rfl) hd
 have hm:=hd.len;have hbk:=hd.hblk
 have HCW:Hid (∀W vb',Fr g vb vb' w W->∀i,i<l.length->W.cell? ⟨b,off+i,none⟩=w.cell? ⟨b,off+i,none⟩/\b<W.heap.size):=q7 (fun W vb' hf i hi=>by
  obtain⟨oa',cap',b',off',hv',hd',hc'⟩:=(hst W vb' hf).open;injection hv' with e1 e2 e3
  have h1:=hd.hat (by omega)
  have h2:=hd'.hat (by omega)
  rw[<-e1,h1]at h2;injection h2 with h2
  injection h2 with h3 h4 h5
  subst h3 h4
  exact⟨by rw[hc' i hi,hc i hi],hd'.hblk (by omega)⟩)
 have HC:=q7 hc;clear hc h0 hst h hd;unfold aN at HCO
 by_cases he:bE l=0
 ·rw[he]at HCO
  by_cases hn:0<=n/\n<l.length/\l.getD n.toNat 0≠0
  ·have hE:=q07 he hn
   obtain⟨h1,h2,h3⟩:=hn;obtain⟨i,rfl⟩:∃i:Nat,n=(i:Int):=⟨n.toNat,by omega⟩
   rw[Int.toNat_natCast]at h3;obtain⟨M,rfl,hlen,h15,hk⟩:=gL he;have hi:i<M.length:=by rw[qB]at h2;omega
   have hn1:¬(i:Int)<0:=by omega
   have hcell:=HC.out i (by omega)
   have HCI:=q7 (fun W vb' hf=>HCW.out W vb' hf i (by omega))
   clear HCW;rw[jb]at hcell h3;have qae:=h15 _ (jT M i 0 hi);have hcl:=iA h15 hk i hi;unfold M2 fG;rw[hE,if_pos (by trivial),jm,Int.toNat_natCast,jb,Int.toNat_natCast]
   rw[jm,if_pos rfl]at HCO;have HCL:=q7 hcl;have hcg:=eX M i hi;have qcY:=aO M;clear hE he h15 hk hcl HC;rw[qB]at*;generalize M.getD i 0=x at*;generalize jB M i=c at*;have hx0:((x:Int)==0)=false:=by simpa using h3
   have qiN:¬(x:Int)=0:=h3;have hn2:¬(i:Int)≥(M.length:Int):=by omega
   have hb:b<w.heap.size:=hbk (by omega)
   go_enter Tryz.func145,Tryz.ntmps145
   go_wp2_with(first|(go_at_call 96;refine HP.out.mono ?_;rintro e w1 ⟨rfl,vb1,hq1,hq2,hf1⟩;have HQ1:=q7 hq1;have HQ2:=q7 hq2;have HF1:=q7 hf1;clear hq1 hq2 hf1)|(go_at_call 174;refine(HCO.out _ _ HF1.out).mono ?_;rintro e w2 ⟨vc,rfl,hq3,hq4⟩;have HQ3:=q7 hq3;have HQ4:=q7 hq4;have qar:=(HCI.out _ _ (HF1.out.below HQ4.out)).1.trans hcell;clear hq3 hq4;have hb2:b<w2.heap.size:=(HCI.out _ _ (HF1.out.below HQ4.out)).2))
   have qcT:=HQ3.out.sl;obtain⟨oc,cc,bc,fc,rfl,hdc,hcc⟩:=(show qT w2 vc (nls (bA M))from qcT).open
   rw[qB,qcY]at hdc hcc;have qcZ:=hcc i hi;rw[jb,hcg]at qcZ;have qb7:=qQ (P:=Tryz.prog) 66 3 Tryz.underlying66 (by kernel_rfl) hdc
   have hbc:=hdc.hblk (by omega)
   have qfX:Hid (Calls Tryz.prog 141 #[.pointer (some ⟨g,0,none⟩),.int .i64 c,.int .i64 x] w2.drew fun e w'=>e=.returned (.int .i64 0)/\∃vb2,pS w' B g (N+jj c x*2^L) (L+x) vb2/\Below B w2.drew w'/\Fr g vb1 vb2 w2.drew w'):=q7 (by
    exact q61 (HQ1.out.up (qS HQ4.out)) c x HCL.out (by omega) (by omega))
   have HB2:Hid (Below B w w2.drew):=q7 (qS (HQ2.out.trans (HQ4.out.mono (qa hBw HQ2.out.size))));clear hcc qcT hdc hcg qcY;rw[show(nls (bA M)).length=M.length by rw[qB,aO]]
   refine qZ [0,1,2,3,4,5,6,7,8] [] [9,10] (by kernel_rfl) (by kernel_rfl) ?_
   simp only[pk]
   repeat(go_big_quiet_step (fail))
   refine wpQuiet_nil ?_;unfold qy;unfold qy
   go_wp2_with(go_at_call 141;refine qfX.out.mono ?_;rintro e w3 ⟨rfl,vb2,hq5,hq6,hf6⟩;have HQ5:=q7 hq5;have HQ6:=q7 hq6;have HF6:=q7 hf6;clear hq5 hq6 hf6)
   refine⟨trivial,?_⟩;unfold qy;go_wp2;refine⟨trivial,?_⟩;unfold qy;go_wp2;go_ret
   exact⟨rfl,vb2,HQ5.out,HB2.out.trans HQ6.out,(HF1.out.below (qS HQ4.out)).trans HF6.out⟩
  ·have hE:=vP he hn
   have hE0:gK l n≠0:=by omega
   unfold M2;rw[kV hE0,hE];clear hE hE0 he
   by_cases h1:n<0
   ·go_enter Tryz.func145,Tryz.ntmps145
    go_wp2_with(first|(go_at_call 96;refine HP.out.mono ?_;rintro e w1 ⟨rfl,vb1,hq1,hq2,hf1⟩;have HQ1:=q7 hq1;have HQ2:=q7 hq2;have HF1:=q7 hf1;clear hq1 hq2 hf1)|(go_at_call 174;refine(HCO.out _ _ HF1.out).mono ?_;rintro e w2 ⟨vc,rfl,hq3,hq4⟩;have HQ4:=q7 hq4;clear hq3 hq4))
    go_ret
    exact⟨rfl,vb1,HQ1.out.up HQ4.out,HQ2.out.trans (HQ4.out.mono (qa hBw HQ2.out.size)),HF1.out.below HQ4.out⟩
   ·by_cases h2:n≥(l.length:Int)
    ·go_enter Tryz.func145,Tryz.ntmps145
     go_wp2_with(first|(go_at_call 96;refine HP.out.mono ?_;rintro e w1 ⟨rfl,vb1,hq1,hq2,hf1⟩;have HQ1:=q7 hq1;have HQ2:=q7 hq2;have HF1:=q7 hf1;clear hq1 hq2 hf1)|(go_at_call 174;refine(HCO.out _ _ HF1.out).mono ?_;rintro e w2 ⟨vc,rfl,hq3,hq4⟩;have HQ4:=q7 hq4;clear hq3 hq4))
     go_ret
     exact⟨rfl,vb1,HQ1.out.up HQ4.out,HQ2.out.trans (HQ4.out.mono (qa hBw HQ2.out.size)),HF1.out.below HQ4.out⟩
    ·obtain⟨i,rfl⟩:∃i:Nat,n=(i:Int):=⟨n.toNat,by omega⟩
     have hi:i<l.length:=by omega
     have hcell:=HC.out i hi;have HCI:=q7 (fun W vb' hf=>HCW.out W vb' hf i hi)
     clear HCW;have hb:b<w.heap.size:=hbk (by omega)
     have hx:l.getD i 0=0:=by
      apply qf;intro hx
      exact hn ⟨by omega,by omega,hx⟩
     rw[hx]at hcell;have hx0:((0:Int)==0)=true:=rfl;clear hn
     go_enter Tryz.func145,Tryz.ntmps145
     go_wp2_with(first|(go_at_call 96;refine HP.out.mono ?_;rintro e w1 ⟨rfl,vb1,hq1,hq2,hf1⟩;have HQ1:=q7 hq1;have HQ2:=q7 hq2;have HF1:=q7 hf1;clear hq1 hq2 hf1)|(go_at_call 174;refine(HCO.out _ _ HF1.out).mono ?_;rintro e w2 ⟨vc,rfl,hq3,hq4⟩;have HQ4:=q7 hq4;have qar:=(HCI.out _ _ (HF1.out.below HQ4.out)).1.trans hcell;clear hq3 hq4;have hb2:b<w2.heap.size:=(HCI.out _ _ (HF1.out.below HQ4.out)).2))
     go_ret
     exact⟨rfl,vb1,HQ1.out.up HQ4.out,HQ2.out.trans (HQ4.out.mono (qa hBw HQ2.out.size)),HF1.out.below HQ4.out⟩
 ·have hE:=kW (n:=n) he
  have hE0:gK l n≠0:=by omega
  have hne:¬(bE l:Int)=0:=by omega
  unfold M2;rw[kV hE0,hE];clear hE hE0;generalize bE l=q at*
  go_enter Tryz.func145,Tryz.ntmps145
  go_wp2_with(first|(go_at_call 96;refine HP.out.mono ?_;rintro e w1 ⟨rfl,vb1,hq1,hq2,hf1⟩;have HQ1:=q7 hq1;have HQ2:=q7 hq2;have HF1:=q7 hf1;clear hq1 hq2 hf1)|(go_at_call 174;refine(HCO.out _ _ HF1.out).mono ?_;rintro e w2 ⟨vc,rfl,hq3,hq4⟩;have HQ4:=q7 hq4;clear hq3 hq4))
  go_ret
  exact⟨rfl,vb1,HQ1.out.up HQ4.out,HQ2.out.trans (HQ4.out.mono (qa hBw HQ2.out.size)),HF1.out.below HQ4.out⟩
end Go.Cm
namespace Go.Cm
def jh(xs:List (Nat×Nat))(st:Nat×Nat):Nat×Nat:=xs.foldl (fun st x=>(st.1+x.1*2^st.2,st.2+x.2)) st
theorem M7(st:Nat×Nat):jh [] st=st:=rfl
theorem sJ(x:Nat×Nat)(xs:List (Nat×Nat))(st:Nat×Nat):jh (x::xs) st=jh xs (st.1+x.1*2^st.2,st.2+x.2):=rfl
theorem jM(xs ys:List (Nat×Nat))(st:Nat×Nat):jh (xs++ys) st=jh ys (jh xs st):=by unfold jh;rw[List.foldl_append]
theorem cT(xs:List (Nat×Nat))(x:Nat×Nat)(st:Nat×Nat):jh (xs++[x]) st=((jh xs st).1+x.1*2^(jh xs st).2,(jh xs st).2+x.2):=by rw[jM];rfl
theorem jR(xs:List (Nat×Nat)):∀(st:Nat×Nat),(jh xs st).2=st.2+(xs.map Prod.snd).sum:=by
 induction xs with
 |nil=>intro st;simp[M7]
 |cons x xs ih=>intro st;rw[sJ,ih];simp;omega
def aY:List (Nat×Nat):=eZ.map fun s=>(if s<16 then 4 else 0,3)
def aV(l:List Nat):List (Nat×Nat):=l.map fun n=>(jj n 4,4)
def M8(n m:Nat):List (Nat×Nat):=[(n-257,5),(m-1,5),(15,4)]
def pV(l1 l2:List Nat):List (Nat×Nat):=M8 l1.length l2.length++(aY++(aV l1++aV l2))
def jo(st:Nat×Nat):Nat×Nat:=(st.1,qO st.2)
def wC(b:Bool):Nat:=if b then 1 else 0
theorem sK(k:Nat)(h:k<19):aY.take (k+1)=aY.take k++[(if eZ.getD k 0<16 then 4 else 0,3)]:=by
 have:∀k,k<19->aY.take (k+1)=aY.take k++[(if eZ.getD k 0<16 then 4 else 0,3)]:=by decide
 exact this k h
theorem kE(l:List Nat)(k:Nat)(h:k<l.length):aV (l.take (k+1))=aV (l.take k)++[(jj (l.getD k 0) 4,4)]:=by
 unfold aV;rw[bN l k 0 h,List.map_append];rfl
theorem dS(l:List Nat)(st:Nat×Nat):(jh (aV l) st).2=st.2+4*l.length:=by
 rw[jR]
 congr 1
 induction l with
 |nil=>rfl
 |cons x l ih=>simp[aV]at ih⊢;omega
theorem kX(k:Nat)(st:Nat×Nat):(jh (aY.take k) st).2<=st.2+57:=by
 rw[jR]
 have hs:∀k,((aY.take k).map Prod.snd).sum<=57:=fun k=>by
  by_cases h:k<20
  ·have:∀k,k<20->((aY.take k).map Prod.snd).sum<=57:=by decide
   exact this k h
  ·rw[List.take_of_length_le (by show 19<=k;omega)];decide
 have:=hs k;omega
end Go.Cm
namespace Go.Cm
open Go.RowKit Go.Proofs
noncomputable def fxw(w:World)(S:Nat->Prop)(x:World):World:=@ite _ (Fx S w x) (Classical.propDecidable _) x w
theorem pN(w x:World)(S:Nat->Prop):Fx S w (fxw w S x):=by
 unfold fxw;split
 ·assumption
 ·exact Fx.refl _ _
theorem q6Q{w x:World}{S:Nat->Prop}(h:Fx S w x):fxw w S x=x:=by unfold fxw;rw[if_pos h]
theorem bR{w x:World}{S:Nat->Prop}(h:Fx S w x):∃y,x=fxw w S y:=⟨x,(q6Q h).symm⟩
@[go_sem] theorem cell?_fxw(w x:World)(S:Nat->Prop)(b o:Nat)(h:b<w.heap.size)(hr:¬S b):(fxw w S x).cell? ⟨b,o,none⟩=w.cell? ⟨b,o,none⟩:=World.cell?_of_block ((pN w x S).block b h hr)
@[go_sem] theorem frozen?_fxw(w x:World)(S:Nat->Prop)(b o:Nat)(h:b<w.heap.size)(hr:¬S b):(fxw w S x).frozen? ⟨b,o,none⟩=w.frozen? ⟨b,o,none⟩:=World.frozen?_of_block ((pN w x S).block b h hr)
end Go.Cm
