/- Walks of functions and plain facts, joined and squeezed by a program. Conditions: as each says. -/
import Derived.Deep.DeepCutAuto
import Derived.Laws.IdiomStrings
import Derived.Deep.CutBlock
import Derived.Test.YtnelgjehpbjloaaGreatDoorGXC
set_option maxHeartbeats 8000000
set_option maxRecDepth 100000
set_option linter.unusedSimpArgs false
namespace Go.Cm
open Go.RowKit Go.Proofs
structure TxV(w:World)(B g:Nat)(b:qK)(vb:Value):Prop where
 box:Own w g 77 (.slice (some ⟨g,0,none⟩) 1 1) [vb]
 own:Own w B 5 vb (qD b)
 ne:vb.ownBlock≠some g
 ge:B<=g
def Tx(w:World)(B g:Nat)(b:qK):Prop:=∃vb,TxV w B g b vb
theorem TxV.up{w w':World}{B g:Nat}{b:qK}{vb:Value}(h:TxV w B g b vb)(hb:Below w.heap.size w w'):TxV w' B g b vb:=⟨h.box.up hb,h.own.up hb,h.ne,h.ge⟩
theorem Tx.up{w w':World}{B g:Nat}{b:qK}(h:Tx w B g b)(hb:Below w.heap.size w w'):Tx w' B g b:=by obtain⟨vb,h⟩:=h;exact⟨vb,h.up hb⟩
theorem sE(l:qK)(i:Nat)(h:i<l.length):(qD l).getD i undef=.int .u8 ((l.getD i 0).toNat:Nat):=by
 simp[qD,List.getD,h]
theorem vX(l:Nat)(h:l<256):qD [UInt8.ofNat l]=[.int .u8 (l:Nat)]:=by
 simp only[qD,List.map_cons,List.map_nil]
 congr 2
 have:(UInt8.ofNat l).toNat=l:=by simp[Nat.mod_eq_of_lt h]
 rw[this]
theorem TxV.push{w0 w w5:World}{B B0 g:Nat}{b:qK}{vb v':Value}{l:Nat}(hl:l<256)(h:TxV w B g b vb)(hb:Below B w0 w)(hown:Own w5 B 5 v' (qD b++[.int .u8 (l:Nat)]))(hg:w.grownBy w5 vb.ownBlock)(hk:∀k,v'.ownBlock=some k->vb.ownBlock=some k\/w.heap.size<=k)(hB:B<=w.heap.size)(_hB0:B0=B):
  TxV (w5.setCell ⟨g,0,none⟩ v') B g (b++[UInt8.ofNat l]) v'/\Below B w0 (w5.setCell ⟨g,0,none⟩ v'):=by
 have hbx:=h.box.keep hg (.inr (fun e=>h.ne e.symm))
 have hst:=hbx.store 0 v'
 have hne:v'.ownBlock≠some g:=fun e=>by
  rcases hk g e with h1|h1
  ·exact h.ne h1
  ·have:=h.box.blk.2;omega
 refine⟨⟨by simpa using hst.1,?_,hne,h.ge⟩,?_⟩
 ·rw[jC,vX l hl]
  exact hown.keep hst.2 (.inr hne)
 ·exact(jL hb hB h.own hg).grown hst.2 (qa hB hg.size) (fun k e=>by cases e;exact h.ge)
theorem doP{w:World}{B g:Nat}{b:qK}(h:Tx w B g b)(hlen:b.length<=100000000)(l:Nat)(n d:Int)(hl:l<256):
  Calls Tryz.prog 72 #[.pointer (some ⟨g,0,none⟩),.agg #[.int .u8 l,.int .i64 n,.int .i64 d]] w fun e w'=>e=.returned (.int .i64 ((opN 10 b ⟨l,n,d⟩).1:Nat))/\Tx w' B g (opN 10 b ⟨l,n,d⟩).2/\Below B w w':=by
 obtain⟨vb,hx⟩:=h;have hBw:B<=w.heap.size:=by have:=hx.ge;have:=hx.box.blk.2;omega
 obtain⟨w1,hw1⟩:∃w1,w1=w.alloc (.cells #[.int .u8 (l:Nat),.int .i64 n,.int .i64 d] 64):=⟨_,rfl⟩;have hb1:Below w.heap.size w w1:=by rw[hw1];exact qn _ _
 have hop:=M5 w l n d;rw[<-hw1]at hop;have HX:=q7 (hx.up hb1);have HBL:=q7 (hb1.mono hBw);have HOP:=q7 hop;have HLEN:=q7 hlen;have HLB:=q7 hlen;have qaL:=hlen;have hgw:=hx.box.blk.2;have HW1:=q7 hw1;have c0:w1.cell? ⟨g,0,none⟩=some vb:=HX.out.box.cell (by simp)
 have f0:=HX.out.box.free 0;have hg:=HX.out.box.blk.2;have p0:w1.cell? ⟨w.heap.size,0,none⟩=some (.int .u8 (l:Nat)):=hop.cell (by simp[opV])
 have p1:w1.cell? ⟨w.heap.size,1,none⟩=some (.int .i64 n):=hop.cell (by simp[opV])
 have p2:w1.cell? ⟨w.heap.size,2,none⟩=some (.int .i64 d):=hop.cell (by simp[opV])
 have hp:=hop.blk.2;obtain⟨ov,cv,gv,hvb,hdv,hgv,hcv,-⟩:=HX.out.own.cases;rw[qz]at hvb hdv hgv hcv;obtain⟨y,hy⟩:∃y,y=opN 10 b ⟨l,n,d⟩:=⟨_,rfl⟩;rw[<-hy];have HY:=q7 hy;unfold opN at HY;simp only at HY;obtain⟨row,hrow⟩:∃row,row=vb.ownBlock:=⟨_,rfl⟩;have q97:=q7 hrow;have qb2:some g≠row:=fun e=>HX.out.ne (by rw[<-hrow,<-e])
 have q9q:some w.heap.size≠row:=fun e=>by have:=(hx.own.lt _ (by rw[<-hrow,<-e])).2;omega
 clear hy hx hw1 hb1 hop hlen hrow
 by_cases hn0:n=0
 ·rw[if_pos hn0]at HY
  subst hn0;clear hvb hdv hgv hcv
  go_enter Tryz.func72,Tryz.ntmps72
  go_upto_region 2 with fail
  rw[<-HW1.out];have hBg:B<=w1.heap.size:=by have:=HX.out.ge;have:=HX.out.box.blk.2;omega
  refine jw (fun w'=>∃x,w'=chg w1 row x) [0,1,2,3,4,5,6] [7,8,9,10] [11] (by kernel_rfl) (by kernel_rfl) (qW (qV _ _)) ?_
  simp only[pk]
  repeat(go_big_quiet_step (fail))
  refine wpQuiet_nil ?_
  (unfold qy;go_wp2;refine⟨qW (qv (by repeat(first|exact qj _ _|assumption|refine qw ?_ _|refine qk ?_|refine qA ?_ _|refine qs ?_ _)) _),?_⟩)
  unfold qy
  have HXT:Hid (Sl (w1.alloc (.cells #[.int .u8 (l:Nat)] 5)).drew (.slice (some ⟨w1.heap.size,0,none⟩) 1 1) [.int .u8 (l:Nat)]):=q7 (by
   have h1:=(eJ w1 #[.int .u8 (l:Nat)] 5 (by simp)).up (qC _ 1)
   rw[<-World.drew_is_drewN]at h1
   simpa using h1)
  have hlW:Below w1.heap.size w1 (w1.alloc (.cells #[.int .u8 (l:Nat)] 5)).drew:=(by repeat(first|exact qj _ _|assumption|refine qw ?_ _|refine qk ?_|refine qA ?_ _|refine qs ?_ _))
  have HT1:=q7 (HX.out.own.up hlW);have HT3:Hid ((qD b).length+1<=4294967296):=q7 (by rw[qz];have:=HLEN.out;omega)
  have HT2:Hid (∀u∈[Value.int .u8 (l:Nat)],u.oneCell'=true):=q7 (by intro u hu;simp at hu;subst hu;rfl)
  have HT4:Hid (B<=(w1.alloc (.cells #[.int .u8 (l:Nat)] 5)).drew.heap.size):=q7 (qa hBg hlW.size)
  go_wp2_with(at_builtin;refine sD rfl (.tmp 13) (.tmp 16) 49 rfl B 5 (.int .u8 0) 1 Tryz.underlying49 (by kernel_rfl) rfl (by decide) vb (qD b) rfl HT1.out (.slice (some ⟨w1.heap.size,0,none⟩) 1 1) [.int .u8 (l:Nat)] rfl HXT.out HT2.out HT3.out HT4.out ?_;intro v' w5 hown1 hg1 hk1 hc1;rw[<-q97.out]at hg1 hk1 hc1;have HC5:=q7 hc1;clear hc1;have HO1:=q7 hown1;have HG1:=q7 hg1;have HK1:=q7 hk1;clear hown1 hg1 hk1)
  refine⟨qW (qp (qv (by repeat(first|exact qj _ _|assumption|refine qw ?_ _|refine qk ?_|refine qA ?_ _|refine qs ?_ _)) _) HG1.out),?_⟩
  (unfold qy;go_wp2;refine⟨qW (qp (qv (by repeat(first|exact qj _ _|assumption|refine qw ?_ _|refine qk ?_|refine qA ?_ _|refine qs ?_ _)) _) HG1.out),?_⟩)
  (unfold qy;go_wp2;refine⟨qW (qp (qv (by repeat(first|exact qj _ _|assumption|refine qw ?_ _|refine qk ?_|refine qA ?_ _|refine qs ?_ _)) _) HG1.out),?_⟩)
  unfold qy;have HXW:=q7 (HX.out.up hlW);have HPU:=q7 (TxV.push (B0:=B) hl HXW.out (HBL.out.trans (hlW.mono hBg)) HO1.out (by have h:=HG1.out;rw[q97.out]at h;exact h) (by have h:=HK1.out;rw[q97.out]at h;exact h) HT4.out rfl)
  have hb5:=HXW.out.box.keep HG1.out (.inr (by rw[q97.out];exact fun e=>HXW.out.ne e.symm))
  have f0:=hb5.free 0;have c0:w5.cell? ⟨g,0,none⟩=some vb:=hb5.cell (by simp)
  have hg:=hb5.blk.2;obtain⟨o5,k5,g5,hv5,-⟩:=HO1.out.cases;subst hv5;generalize (qD b++[Value.int .u8 (l:Nat)]).length=l5 at*;clear HC5 hb5 HXW HO1 HG1 HK1 HT1 HT2 HT3 HT4 HXT hlW HX;unfold qy;go_wp2;refine⟨trivial,?_⟩;unfold qy;go_wp2;go_ret;rw[HY.out]
  exact⟨rfl,⟨_,HPU.out.1⟩,HPU.out.2⟩
 ·rw[if_neg hn0]at HY
  subst hvb;have qja:(n==0)=false:=by simpa using hn0
  have hm:=hdv.len
  by_cases q93:n<3\/258<n\/d<1\/32768<d
  ·have hor:decide (n<3)=true\/(decide (n<3)=false/\decide (n>258)=true)\/(decide (n<3)=false/\decide (n>258)=false/\decide (d<1)=true)\/(decide (n<3)=false/\decide (n>258)=false/\decide (d<1)=false/\decide (d>32768)=true):=by
    simp only[decide_eq_true_eq,qm];omega
   rw[if_pos q93]at HY;clear q93 hdv hgv hcv qb2 q9q
   rcases hor with h1|⟨h1,h2⟩|⟨h1,h2,h3⟩|⟨h1,h2,h3,h4⟩<;>
   ·go_enter Tryz.func72,Tryz.ntmps72
    go_upto_region 4 with fail
    rw[<-HW1.out];go_wp2;go_ret;rw[HY.out]
    exact⟨rfl,⟨_,HX.out⟩,HBL.out⟩
  ·rw[if_neg q93]at HY
   have h1:decide (n<3)=false:=by rw[qm];omega
   have h2:decide (n>258)=false:=by rw[qm];omega
   have h3:decide (d<1)=false:=by rw[qm];omega
   have h4:decide (d>32768)=false:=by rw[qm];omega
   obtain⟨m,rfl⟩:∃m:Nat,n=m:=⟨n.toNat,by omega⟩
   obtain⟨e,rfl⟩:∃e:Nat,d=e:=⟨d.toNat,by omega⟩
   have hm3:3<=m/\m<=258:=by omega
   have he1:1<=e/\e<=32768:=by omega
   clear q93
   by_cases qaP:(b.length:Int)<e
   ·rw[if_pos qaP]at HY
    have h5:decide ((e:Int)>(b.length:Int))=true:=by rw[decide_eq_true_iff];omega
    have h6:b.length<e:=by omega
    clear hdv hgv hcv qb2 q9q;generalize b.length=L at*
    go_enter Tryz.func72,Tryz.ntmps72
    go_upto_region 6 with fail
    rw[<-HW1.out]
    go_quiet (fail)
    go_wp2;go_ret;rw[HY.out]
    exact⟨rfl,⟨_,HX.out.up (qC _ _)⟩,HBL.out.trans ((qC _ _).mono (qa hBw (by have:=HBL.out.size;exact this)))⟩
   ·rw[if_neg qaP]at HY
    simp only[Int.toNat_natCast]at HY;have h6:e<=b.length:=by omega
    have h5:decide (b.length<e)=false:=by rw[qm];omega
    have hqg:g<w.heap.size:=hgw;have HOV:Hid ((Value.slice ov b.length cv).ownBlock≠some w.heap.size):=q7 (by intro e2;exact q9q (by rw[q97.out,e2]))
    have HLQ:Hid (b.length=b.length):=q7 rfl;have HCP:=q7 (fun k=>jV b e k)
    obtain⟨L,hL⟩:∃L,L=b.length:=⟨_,rfl⟩;rw[<-hL]at h5 c0 h6 HCP qaL;have HX0:=q7 HX.out;clear hdv hgv hcv qb2 q9q q97 hm hL HLQ qaP
    go_enter Tryz.func72,Tryz.ntmps72
    go_upto_region 6 with fail
    rw[<-HW1.out]
    go_quiet (fail)
    have HXD:=q7 (HX.out.up (qC w1 nq));have HBD:Hid (Below B w (w1.drewN nq)):=q7 (HBL.out.trans ((qC _ _).mono (qa hBw HBL.out.size)));have HOD:=q7 (HOP.out.up (qC w1 nq));clear HX HBL HOP HX0;generalize w1.drewN nq=w2 at*;have p1:w2.cell? ⟨w.heap.size,1,none⟩=some (.int .i64 m):=HOD.out.cell (by simp[opV])
    have hp2:=HOD.out.blk.2;go_wp2
    go_loopg [50] m (fun gk iv wr=>∃(k:Nat) (bk:qK) (vb:Value),iv=.int .i64 k/\k<=m/\Hid (bk=ju b e k)/\TxV wr B g bk vb/\Below B w wr/\Own wr w.heap.size 64 (.slice (some ⟨w.heap.size,0,none⟩) 3 3) (opV ⟨l,m,e⟩)/\vb.ownBlock≠some w.heap.size/\gk=m-k)
    case atStart=>exact⟨0,b,_,rfl,qc _,q7 rfl,HXD.out,HBD.out,HOD.out,HOV.out,rfl⟩
    case round=>
     clear HXD HBD HOD HOV;obtain⟨k,bk,vb,rfl,hk,HBK,hx,hbl,hop,hvq,rfl⟩:=hrel;have HX:=q7 hx;have HBL:=q7 hbl;have HOP:=q7 hop
     by_cases hlt:k<m
     ·have q9w:decide ((k:Int)<(m:Int))=true:=by rw[decide_eq_true_iff];omega
      have qaj:bk.length=L+k:=by rw[HBK.out,HCP.out]
      have HBN:Hid (ju b e (k+1)=bk++[bk.getD (L+k-e) 0]):=q7 (by
       show ju b e k++[(ju b e k).getD ((ju b e k).length-e) 0]=_
       rw[<-HBK.out,qaj])
      obtain⟨ov,cv,gv,hvb,hdv,hgv,hcv,-⟩:=hx.own.cases;rw[qz]at hvb hdv hgv hcv;rw[qaj]at hvb hdv hgv hcv;have hix:=qQ (P:=Tryz.prog) 49 5 Tryz.underlying49 (by kernel_rfl) hdv
      have hcell:=hcv (L+k-e) (by omega)
      rw[sE _ _ (by rw[qaj];omega)]at hcell
      have hby:(bk.getD (L+k-e) 0).toNat<256:=UInt8.toNat_lt _;have HOF:Hid (UInt8.ofNat (bk.getD (L+k-e) 0).toNat=bk.getD (L+k-e) 0):=q7 (by simp)
      generalize hxx:(bk.getD (L+k-e) 0).toNat=x at*;have q9j:((L+k:Nat):Int)-(e:Int)=((L+k-e:Nat):Int):=by omega
      have q9a:=fun W=>hix W .i64 ((L+k-e:Nat):Int) (by omega) (by omega)
      simp only[Int.toNat_natCast,Nat.zero_add]at q9a;rw[<-q9j]at q9a;have c0:wr.cell? ⟨g,0,none⟩=some vb:=hx.box.cell (by simp)
      have f0:=hx.box.free 0;have hg:=hx.box.blk.2;have p2:wr.cell? ⟨w.heap.size,2,none⟩=some (.int .i64 e):=hop.cell (by simp[opV])
      have hp:=hop.blk.2;have HLEN:Hid (bk.length<=100001000):=q7 (by rw[qaj];have:=HLB.out;omega)
      have qce:=hdv.hblk (by omega)
      have qgS:=hgv (by omega)
      have hrow:some gv=vb.ownBlock:=qgS.1.symm;have hgn:g≠gv:=fun e=>hx.ne (by rw[<-hrow,<-e])
      have hqn:w.heap.size≠gv:=fun e=>hvq (by rw[<-hrow,<-e])
      have q9q:some w.heap.size≠some gv:=fun e=>hqn (ql e)
      have q97:=q7 hrow;have HVQ:=q7 hvq;obtain⟨M,hM⟩:∃M,M=L+k:=⟨_,rfl⟩;have HMB:Hid (bk.length=M):=q7 (by rw[qaj,hM])
      have qb4:M-e<M:=by omega
      have hM2:M<=100001000:=by omega
      rw[<-hM]at hvb q9j q9a hcell;subst hvb;clear hx hbl hop hdv hgv hcv hix hxx qaj hrow hvq hM q9j qgS
      go_upto_region 10 with fail
      have hBg:B<=wr.heap.size:=by have:=HX.out.ge;have:=HX.out.box.blk.2;omega
      refine jw (fun w'=>∃x,w'=kept wr gv M x) [0,1,2,3,4,5,6,7,8,9,10,11,12,13,14,15,16,17,18] [19,20,21,22] [23] (by kernel_rfl) (by kernel_rfl) (uM (qC _ 1) qce) ?_
      simp only[pk]
      repeat(go_big_quiet_step (fail))
      refine wpQuiet_nil ?_
      (unfold qy;go_wp2;refine⟨uM (by repeat(first|exact qj _ _|assumption|refine qw ?_ _|refine qk ?_|refine qA ?_ _|refine qs ?_ _)) qce,?_⟩)
      unfold qy
      have HXT:Hid (Sl (wr.alloc (.cells #[.int .u8 (x:Nat)] 5)).drew (.slice (some ⟨wr.heap.size,0,none⟩) 1 1) [.int .u8 (x:Nat)]):=q7 (by
       have h1:=(eJ wr #[.int .u8 (x:Nat)] 5 (by simp)).up (qC _ 1)
       rw[<-World.drew_is_drewN]at h1
       simpa using h1)
      have hlW:Below wr.heap.size wr (wr.alloc (.cells #[.int .u8 (x:Nat)] 5)).drew:=(by repeat(first|exact qj _ _|assumption|refine qw ?_ _|refine qk ?_|refine qA ?_ _|refine qs ?_ _))
      have HT1:=q7 (HX.out.own.up hlW);have HT3:Hid ((qD bk).length+1<=4294967296):=q7 (by rw[qz];have:=HLEN.out;omega)
      have HT2:Hid (∀u∈[Value.int .u8 (x:Nat)],u.oneCell'=true):=q7 (by intro u hu;simp at hu;subst hu;rfl)
      have HT4:Hid (B<=(wr.alloc (.cells #[.int .u8 (x:Nat)] 5)).drew.heap.size):=q7 (qa hBg hlW.size)
      go_wp2_with(at_builtin;refine sD rfl (.tmp 56) (.tmp 71) 49 rfl B 5 (.int .u8 0) 1 Tryz.underlying49 (by kernel_rfl) rfl (by decide) (.slice ov M cv) (qD bk) rfl HT1.out (.slice (some ⟨wr.heap.size,0,none⟩) 1 1) [.int .u8 (x:Nat)] rfl HXT.out HT2.out HT3.out HT4.out ?_;intro v' w5 hown1 hg1 hk1 hc1;rw[<-q97.out]at hg1 hk1 hc1;have HC5:=q7 hc1;clear hc1;have HO1:=q7 hown1;have HG1:=q7 hg1;have HK1:=q7 hk1;clear hown1 hg1 hk1)
      refine⟨vW (qp (qv (by repeat(first|exact qj _ _|assumption|refine qw ?_ _|refine qk ?_|refine qA ?_ _|refine qs ?_ _)) _) HG1.out) (fun o ho=>by rw[HC5.out gv o rfl (by rw[qz];have:=HMB.out;omega)];exact hlW.cell (p:=⟨gv,o,none⟩) qce),?_⟩
      (unfold qy;go_wp2;refine⟨vW (qp (qv (by repeat(first|exact qj _ _|assumption|refine qw ?_ _|refine qk ?_|refine qA ?_ _|refine qs ?_ _)) _) HG1.out) (fun o ho=>by rw[HC5.out gv o rfl (by rw[qz];have:=HMB.out;omega)];exact hlW.cell (p:=⟨gv,o,none⟩) qce),?_⟩)
      (unfold qy;go_wp2;refine⟨vW (qp (qv (by repeat(first|exact qj _ _|assumption|refine qw ?_ _|refine qk ?_|refine qA ?_ _|refine qs ?_ _)) _) HG1.out) (fun o ho=>by rw[HC5.out gv o rfl (by rw[qz];have:=HMB.out;omega)];exact hlW.cell (p:=⟨gv,o,none⟩) qce),?_⟩)
      unfold qy;have HXW:=q7 (HX.out.up hlW);have HPU:=q7 (TxV.push (B0:=B) hby HXW.out (HBL.out.trans (hlW.mono hBg)) HO1.out (by have h:=HG1.out;rw[q97.out]at h;exact h) (by have h:=HK1.out;rw[q97.out]at h;exact h) HT4.out rfl)
      have hb5:=HXW.out.box.keep HG1.out (.inr (by rw[q97.out];exact fun e=>HXW.out.ne e.symm))
      have qkr:Hid (Own (w5.setCell ⟨g,0,none⟩ v') w.heap.size 64 (.slice (some ⟨w.heap.size,0,none⟩) 3 3) (opV ⟨l,m,e⟩)):=q7 (((HOP.out.up hlW).keep HG1.out (.inr (fun e=>q9q e))).keep (hb5.store 0 v').2 (.inr (by intro e;have e2:some w.heap.size=some g:=e;injection e2 with e2;omega)))
      have qkv:Hid (v'.ownBlock≠some w.heap.size):=q7 (fun e=>by
       rcases HK1.out _ e with h|h
       ·exact q9q h.symm
       ·have:=hlW.size;omega)
      have f0:=hb5.free 0;have c0:w5.cell? ⟨g,0,none⟩=some (.slice ov M cv):=hb5.cell (by simp)
      have hg:=hb5.blk.2;obtain⟨o5,k5,g5,hv5,-⟩:=HO1.out.cases;subst hv5;generalize (qD bk++[Value.int .u8 (x:Nat)]).length=l5 at*;clear HC5 hb5 HXW HO1 HG1 HK1 HT1 HT2 HT3 HT4 HXT hlW HX;unfold qy;go_wp2;refine⟨trivial,?_⟩;unfold qy;go_wp2
      go_roundg (m-(k+1))
      case measure=>omega
      case rel=>exact⟨k+1,bk++[UInt8.ofNat x],_,by go_num,by omega,q7 (by rw[HBN.out,HOF.out]),HPU.out.1,HPU.out.2,qkr.out,qkv.out,rfl⟩
     ·obtain rfl:k=m:=by omega
      clear hlt;go_wp2;go_ret;rw[HY.out,<-HBK.out]
      exact⟨rfl,⟨_,HX.out⟩,HBL.out⟩
theorem cP{w:World}{v:Value}{l:List OpN}(h:SlK 3 w v (l.map opV)):
  ∃oa cap b off,v=.slice oa l.length cap/\Hd w oa l.length cap b off/\∀i (hi:i<l.length),∀c,c<3->w.cell? ⟨b,off+i*3+c,none⟩=some ((opV (l[i]'hi)).getD c undef):=by
 obtain⟨oa,cap,b,off,rfl,hd,hc⟩:=h;rw[List.length_map]at hd hc⊢;refine⟨oa,cap,b,off,rfl,hd,fun i hi c hcl=>?_⟩
 have:=hc i hi c hcl;rw[this]
 simp[List.getD,hi]
theorem yS{eD:Nat}{b bk:qK}{l:List OpN}{k:Nat}(hk:k<l.length)(h:oG eD b (l.take k)=(0,bk)):
  oG eD b (l.take (k+1))=if(opN eD bk l[k]).1≠0 then opN eD bk l[k]else if 16777216<(opN eD bk l[k]).2.length then(3,(opN eD bk l[k]).2)else opN eD bk l[k]:=by
 rw[List.take_succ_eq_append_getElem hk,Y4,h]
 rfl
theorem TxV.pushS{w0 w w5:World}{B g:Nat}{b:qK}{vb v':Value}{s:ByteArray}(h:TxV w B g b vb)(hb:Below B w0 w)(hown:Own w5 B 5 v' (qD b++qD s.data.toList))(hg:w.grownBy w5 vb.ownBlock)(hk:∀k,v'.ownBlock=some k->vb.ownBlock=some k\/w.heap.size<=k)(hB:B<=w.heap.size):
  TxV (w5.setCell ⟨g,0,none⟩ v') B g (b++s.data.toList) v'/\Below B w0 (w5.setCell ⟨g,0,none⟩ v'):=by
 have hbx:=h.box.keep hg (.inr (fun e=>h.ne e.symm))
 have hst:=hbx.store 0 v'
 have hne:v'.ownBlock≠some g:=fun e=>by
  rcases hk g e with h1|h1
  ·exact h.ne h1
  ·have:=h.box.blk.2;omega
 refine⟨⟨by simpa using hst.1,?_,hne,h.ge⟩,?_⟩
 ·rw[jC]
  exact hown.keep hst.2 (.inr hne)
 ·exact(jL hb hB h.own hg).grown hst.2 (qa hB hg.size) (fun k e=>by cases e;exact h.ge)
theorem TxV.len{w:World}{B g:Nat}{b:qK}{vb:Value}(h:TxV w B g b vb):∃oa cap q,vb=.slice oa b.length cap/\w.cell? ⟨g,0,none⟩=some (.slice oa b.length cap)/\Hd w oa b.length cap q 0:=by
 obtain⟨oa,cap,q,hv,hd,-⟩:=h.own.cases;rw[qz]at hv hd
 exact⟨oa,cap,q,hv,by rw[h.box.cell (by simp),<-hv];rfl,hd⟩
theorem q7C{w:World}{B g:Nat}{b:qK}(h:Tx w B g b)(hlen:b.length<=16777216)(p:PtN)(vo vl vd:Value)(hvo:∀W,Below B w W->SlK 3 W vo (p.ops.map opV))(qbA:∀o∈p.ops,o.lit<256)(hts:p.text.size<=140737488351232)
  (_h1:vl.oneCell'=true) (_h2:vd.oneCell'=true):
  Calls Tryz.prog 33 #[.pointer (some ⟨g,0,none⟩),.agg #[.int .i64 p.kind,.string p.text,vo,vl,vd]] w fun e w'=>e=.returned (.int .i64 ((fN 10 b p).1:Nat))/\Tx w' B g (fN 10 b p).2/\Below B w w':=by
 obtain⟨kd,tx,ops,lits,dists⟩:=p;simp only at hvo qbA hts⊢;obtain⟨y,hy⟩:∃y,y=fN 10 b ⟨kd,tx,ops,lits,dists⟩:=⟨_,rfl⟩;rw[<-hy];have HY:=q7 hy;unfold fN at HY;simp only at HY;clear hy;have HVO:=q7 hvo;obtain⟨oo,oc,ob,off,qiQ,hdo,-⟩:=cP (hvo w (qj _ _));subst qiQ;obtain⟨vb,hx⟩:=h;have hBw:B<=w.heap.size:=by have:=hx.ge;have:=hx.box.blk.2;omega
 have hgw:=hx.box.blk.2;have HX0:=q7 hx;have HA:=q7 (qn w (.cells #[.int .i64 kd,.string tx,.slice oo ops.length oc,vl,vd] 68));have HLEN:=q7 hlen;obtain⟨w1,hw1⟩:∃w1,w1=w.alloc (.cells #[.int .i64 kd,.string tx,.slice oo ops.length oc,vl,vd] 68):=⟨_,rfl⟩;have HW1:=q7 hw1;have hpt:=qE w w.heap.size #[.int .i64 kd,.string tx,.slice oo ops.length oc,vl,vd] 68 (by simp) (q9 _)
 rw[<-hw1]at hpt HA;have HPT:=q7 hpt;have HX:=q7 (hx.up HA.out);have HBL:=q7 (HA.out.mono hBw);have c0:w1.cell? ⟨g,0,none⟩=some vb:=HX.out.box.cell (by simp)
 have f0:=HX.out.box.free 0;have hg:=HX.out.box.blk.2;have p0:w1.cell? ⟨w.heap.size,0,none⟩=some (.int .i64 kd):=hpt.cell (by simp)
 have p1:w1.cell? ⟨w.heap.size,1,none⟩=some (.string tx):=hpt.cell (by simp)
 have p2:w1.cell? ⟨w.heap.size,2,none⟩=some (.slice oo ops.length oc):=hpt.cell (by simp)
 have hp:=hpt.blk.2;have hml:=hdo.len;clear hx hpt hvo hlen hw1 hdo
 by_cases k0:kd=0
 ·rw[if_pos k0]at HY
  subst k0
  by_cases q90:65535<tx.size
  ·rw[if_pos q90]at HY
   have hbi:(tx.size:Int)>65535:=by omega
   clear q90
   go_enter Tryz.func33,Tryz.ntmps33
   go_upto_region 1 with fail
   rw[<-HW1.out];go_wp2;go_ret;rw[HY.out]
   exact⟨rfl,⟨_,HX.out⟩,HBL.out⟩
  ·rw[if_neg q90]at HY
   have hbi:¬(tx.size:Int)>65535:=by omega
   go_enter Tryz.func33,Tryz.ntmps33
   go_upto_region 1 with fail
   rw[<-HW1.out]
   go_upto_region 6 with fail
   obtain⟨row,hrow⟩:∃row,row=vb.ownBlock:=⟨_,rfl⟩;have q97:=q7 hrow;have qb2:some g≠row:=fun e=>HX.out.ne (by rw[<-hrow,<-e])
   have q9q:some w.heap.size≠row:=fun e=>by have:=(HX0.out.own.lt _ (by rw[<-hrow,<-e])).2;omega
   have hT3:(qD b).length+tx.size<=4294967296:=by rw[qz];have:=HLEN.out;omega
   have hB1:B<=w1.drew.heap.size:=qa hBw HA.out.size;have HT1:=q7 (HX.out.own.up (qC w1 1));rw[<-World.drew_is_drewN]at HT1;have HT3:=q7 hT3;have HT4:=q7 hB1;clear hrow hT3 hB1;refine jw (fun w'=>∃x,w'=chg w1 row x) [0,1,2,3,4,5,6] [7,8,9] [10] (by kernel_rfl) (by kernel_rfl) (qW (qV _ _)) ?_
   simp only[pk]
   repeat(go_big_quiet_step (fail))
   refine wpQuiet_nil ?_;unfold qy
   go_wp2_with(at_builtin;refine dQ rfl (.tmp 20) (.tmp 22) 49 9 rfl B 5 (.int .u8 0) 1 Tryz.underlying49 Tryz.underlying9 (by kernel_rfl) rfl (by decide) vb (qD b) rfl HT1.out tx rfl HT3.out HT4.out ?_;intro v' w5 hown1 hg1 hk1;rw[<-q97.out]at hg1 hk1;have HO1:=q7 hown1;have HG1:=q7 hg1;have HK1:=q7 hk1;clear hown1 hg1 hk1)
   refine⟨qW (qp (qV _ _) HG1.out),?_⟩
   (unfold qy;go_wp2;refine⟨qW (qp (qV _ _) HG1.out),?_⟩)
   (unfold qy;go_wp2;refine⟨qW (qp (qV _ _) HG1.out),?_⟩)
   unfold qy;have HXW:=q7 (HX.out.up (qC w1 1));rw[<-World.drew_is_drewN]at HXW;have HPU:=q7 (TxV.pushS HXW.out (qS HBL.out) HO1.out (by have h:=HG1.out;rw[q97.out]at h;exact h) (by have h:=HK1.out;rw[q97.out]at h;exact h) HT4.out)
   have hb5:=HXW.out.box.keep HG1.out (.inr (by rw[q97.out];exact fun e=>HXW.out.ne e.symm))
   have f0:=hb5.free 0;have c0:w5.cell? ⟨g,0,none⟩=some vb:=hb5.cell (by simp)
   have hg:=hb5.blk.2;obtain⟨o5,k5,g5,hv5,-⟩:=HO1.out.cases;subst hv5;have hl5:(qD b++qD tx.data.toList).length=(b++tx.data.toList).length:=by rw[qg,qz,qz,qg]
   rw[hl5]at HPU⊢;generalize qgI:(b++tx.data.toList).length=l5 at*;have hc6:(w5.setCell ⟨g,0,none⟩ (.slice o5 l5 k5)).cell? ⟨g,0,none⟩=some (.slice o5 l5 k5):=HPU.out.1.box.cell (by simp)
   have HL5:=q7 qgI;clear hb5 HXW HO1 HG1 HK1 HT1 HT3 HT4 HX hl5 qgI;unfold qy;go_wp2;refine⟨trivial,?_⟩;unfold qy;generalize w5.setCell ⟨g,0,none⟩ (.slice o5 l5 k5)=w6 at*;have hg6:=HPU.out.1.box.blk.2;unfold yC at HY;simp only at HY;rw[if_neg (fun h=>h rfl),HL5.out]at HY
   have hm6:l5<=16842752:=by rw[<-HL5.out,qg];simp;have:=HLEN.out;omega
   by_cases hmx:16777216<l5
   ·rw[if_pos hmx]at HY
    have hmi:(l5:Int)>16777216:=by omega
    clear hmx;go_wp2;go_ret;rw[HY.out]
    exact⟨rfl,⟨_,HPU.out.1⟩,HPU.out.2⟩
   ·rw[if_neg hmx]at HY
    have hmi:¬(l5:Int)>16777216:=by omega
    clear hmx;go_wp2;go_ret;rw[HY.out]
    exact⟨rfl,⟨_,HPU.out.1⟩,HPU.out.2⟩
 ·rw[if_neg k0]at HY
  have k0i:(kd==0)=false:=by simpa using k0
  by_cases k12:kd=1\/kd=2
  ·rw[if_pos k12]at HY
   have hor:(kd==1)=true\/((kd==1)=false/\(kd==2)=true):=by
    by_cases h1:kd=1
    ·exact .inl (by simpa using h1)
    ·exact .inr ⟨by simpa using h1,by have:kd=2:=(by omega);simpa using this⟩
   have HDO:=q7 (fun(W:World) (bk:qK) (o:OpN) (ho:o∈ops) (ht:Tx W B g bk) (hb:bk.length<=16777216)=>doP ht (by omega) o.lit o.len o.dist (qbA o ho))
   have HST:Hid (∀k bk,(hk:k<ops.length)->oG 10 b (ops.take k)=(0,bk)->oG 10 b (ops.take (k+1))=if(opN 10 bk ops[k]).1≠0 then opN 10 bk ops[k]else if 16777216<(opN 10 bk ops[k]).2.length then(3,(opN 10 bk ops[k]).2)else opN 10 bk ops[k]):=q7 (fun k bk hk h=>yS hk h)
   have q9b:Hid (∀k,(oG 10 b (ops.take k)).1≠0->oG 10 b ops=oG 10 b (ops.take k)):=q7 (fun k h=>yE h)
   have qdj:Hid (∀k,(hk:k<ops.length)->ops[k]∈ops):=q7 (fun k hk=>List.getElem_mem hk)
   clear k12 qbA
   rcases hor with h1|⟨h1,h2⟩<;>
   ·go_enter Tryz.func33,Tryz.ntmps33
    go_upto_region 1 with fail
    rw[<-HW1.out];go_wp2
    go_loopg [32] (ops.length+1) (fun gk iv wr=>∃(k:Nat) (bk:qK),iv=.int .i64 k/\k<=ops.length/\Hid (oG 10 b (ops.take k)=(0,bk))/\bk.length<=16777216/\Tx wr B g bk/\Below B w wr/\gk=ops.length+1-k)
    case atStart=>exact⟨0,b,rfl,qc _,q7 rfl,HLEN.out,⟨_,HX.out⟩,HBL.out,rfl⟩
    case round=>
     clear HX;obtain⟨k,bk,rfl,hk,HK,hbk,htx,hbl,rfl⟩:=hrel;have HT:=q7 htx;have HBW:=q7 hbl;clear htx hbl
     by_cases hlt:k<ops.length
     ·have q9w:(k:Int)<(ops.length:Int):=by omega
      obtain⟨oo',oc',ob',off',hv',hdo,hco⟩:=cP (HVO.out wr HBW.out)
      obtain⟨rfl,-,rfl⟩:oo=oo'/\ops.length=ops.length/\oc=oc':=by
       injection hv' with e1 e2 e3;exact⟨e1,rfl,e3⟩
      have hix:=jy (P:=Tryz.prog) 3 65 64 Tryz.underlying65 (by kernel_rfl) hdo
      have q9a:=fun W kd=>hix W kd (k:Int) (by omega) (by omega)
      simp only[Int.toNat_natCast]at q9a;have hcc:=hco k hlt;have hbb:=hdo.hblk (by omega)
      have hst:=HST.out k bk hlt HK.out;have HDK:=q7 (fun W=>HDO.out W bk ops[k] (qdj.out k hlt))
      have hsk:=q9b.out (k+1);rw[hst]at hsk;have hoe:ops[k]=⟨ops[k].lit,ops[k].len,ops[k].dist⟩:=rfl;generalize ops[k]=o at*;obtain⟨ol,on,od⟩:=o;simp only at HDK;generalize hyo:opN 10 bk ⟨ol,on,od⟩=yo at*;obtain⟨er,b2⟩:=yo;simp only at HDK hst hsk
      have HC3:Hid (∀c,c<3->wr.cell? ⟨ob',off'+k*3+c,none⟩=some ((#[.int .u8 (ol:Nat),.int .i64 on,.int .i64 od]:Array Value).getD c undef)):=q7 (fun c hc=>by
       rw[hcc c hc]
       match c,hc with
       |0,_=>rfl
       |1,_=>rfl
       |2,_=>rfl)
      have q95:=q7 hst;have q9y:=q7 hsk;have HB2:Hid (er=0->b2.length<=bk.length+258):=q7 (fun _=>by have h:=Y5 (eD:=10) (b:=bk) (o:=⟨ol,on,od⟩);rw[hyo]at h;exact h)
      have HD1:=q7 (HDK.out (wr.alloc (.cells #[.int .u8 (ol:Nat),.int .i64 on,.int .i64 od] 64)) (HT.out.up (qn _ _)) hbk);have hwB:B<=wr.heap.size:=qa hBw HBW.out.size;have HAL:Hid (Below B wr (wr.alloc (.cells #[.int .u8 (ol:Nat),.int .i64 on,.int .i64 od] 64))):=q7 ((qn _ _).mono hwB);clear hco hix hdo hv' hoe hcc hst hsk hyo q9b HST qdj HDO HDK
      by_cases her:er=0
      ·subst her
       go_upto_region 15 with(first
        |(refine qG rfl 64 _ rfl ob' (off'+k*3) 3 rfl #[.int .u8 (ol:Nat),.int .i64 on,.int .i64 od] _ HC3.out rfl Tryz.underlying64 rfl (by kernel_rfl) ?_)
        |(go_at_call 72;(with_reducible refine HD1.out.mono ?_);rintro e w5 ⟨rfl,ht5,hb5⟩;have HT5:=q7 ht5;have HB5:=q7 (HBW.out.trans (HAL.out.trans hb5));clear ht5 hb5))
       obtain⟨v5,hx5⟩:=HT5.out;obtain⟨o5,k5,q5,-,hc5,hd5⟩:=hx5.len;have hg5:=hx5.box.blk.2;have hl5:=hd5.len;have hb2:=HB2.out (by trivial)
       clear hx5 hd5;generalize hlb:b2.length=l2 at*;have HLB:=q7 hlb;clear hlb
       by_cases hmx:16777216<l2
       ·have hmi:(l2:Int)>16777216:=by omega
        have HE:Hid (y=(3,b2)):=q7 (by
         have h2:=q9y.out;rw[if_neg (fun h=>h rfl),if_pos hmx]at h2
         rw[HY.out,h2 (by intro h;cases h)]
         rfl)
        clear hmx q9y q95;go_wp2;go_ret;rw[HE.out]
        exact⟨rfl,HT5.out,HB5.out⟩
       ·have hmi:¬(l2:Int)>16777216:=by omega
        have HK2:Hid (oG 10 b (ops.take (k+1))=(0,b2)):=q7 (by
         rw[q95.out,if_neg (fun h=>h rfl),if_neg hmx])
        go_wp2
        go_roundg (ops.length+1-(k+1))
        case measure=>omega
        case rel=>exact⟨k+1,b2,by go_num,by omega,HK2,by rw[HLB.out];omega,HT5.out,HB5.out,rfl⟩
      ·have hei:((er:Int) != 0)=true:=by simpa using her
       have HE:Hid (y=(er,b2)):=q7 (by
        have h2:=q9y.out;rw[if_pos her]at h2;rw[HY.out,h2 her];unfold yC;rw[if_pos her])
       clear her q9y q95
       go_wp2_with(first
        |(refine qG rfl 64 _ rfl ob' (off'+k*3) 3 rfl #[.int .u8 (ol:Nat),.int .i64 on,.int .i64 od] _ HC3.out rfl Tryz.underlying64 rfl (by kernel_rfl) ?_)
        |(go_at_call 72;(with_reducible refine HD1.out.mono ?_);rintro e w5 ⟨rfl,ht5,hb5⟩;have HT5:=q7 ht5;have HB5:=q7 (HBW.out.trans (HAL.out.trans hb5));clear ht5 hb5))
       go_ret;rw[HE.out]
       exact⟨rfl,HT5.out,HB5.out⟩
     ·obtain rfl:k=ops.length:=by omega
      have HE:Hid (y=(0,bk)):=q7 (by
       have h2:=HK.out;rw[List.take_length]at h2;rw[HY.out,h2];unfold yC;rw[if_neg (fun h=>h rfl),if_neg (by simp only;omega)])
      obtain⟨v5,hx5⟩:=HT.out;obtain⟨o5,k5,q5,-,hc5,hd5⟩:=hx5.len;have hg5:=hx5.box.blk.2;clear hx5 hd5;generalize bk.length=l2 at*;have hmi:¬(l2:Int)>16777216:=by omega
      go_wp2;go_ret;rw[HE.out]
      exact⟨rfl,HT.out,HBW.out⟩
  ·rw[if_neg k12]at HY
   have h1i:(kd==1)=false:=by simp;omega
   have h2i:(kd==2)=false:=by simp;omega
   clear k12
   go_enter Tryz.func33,Tryz.ntmps33
   go_upto_region 1 with fail
   rw[<-HW1.out];go_wp2;go_ret;rw[HY.out]
   exact⟨rfl,⟨_,HX.out⟩,HBL.out⟩
def zPt:PtN:=⟨0,⟨#[]⟩,[],[],[]⟩
def fW(w:World)(c:List Value)(p:PtN):Prop:=∃vo vl vd,c=[.int .i64 p.kind,.string p.text,vo,vl,vd]/\SlK 3 w vo (p.ops.map opV)/\qT w vl p.lits/\qT w vd p.dists
def js(w:World)(v:Value)(l:List PtN):Prop:=∃cs,SlK 5 w v cs/\cs.length=l.length/\∀i,i<l.length->fW w (cs.getD i []) (l.getD i zPt)
theorem fW.up{w w':World}{c:List Value}{p:PtN}(h:fW w c p)(hb:Below w.heap.size w w'):fW w' c p:=by
 obtain⟨vo,vl,vd,hc,h1,h2,h3⟩:=h
 exact⟨vo,vl,vd,hc,h1.up hb,h2.up hb,h3.up hb⟩
theorem js.up{w w':World}{v:Value}{l:List PtN}(h:js w v l)(hb:Below w.heap.size w w'):js w' v l:=by
 obtain⟨cs,h1,h2,h3⟩:=h
 exact⟨cs,h1.up hb,h2,fun i hi=>(h3 i hi).up hb⟩
structure yT(p:PtN):Prop where
 lit:∀o∈p.ops,o.lit<256
 text:p.text.size<=140737488351232
theorem js.open{w:World}{v:Value}{l:List PtN}(h:js w v l):
  ∃oa cap b off,v=.slice oa l.length cap/\Hd w oa l.length cap b off/\∀i,i<l.length->
   ∃oo oc o1 c1 o2 c2,(∀c,c<5->w.cell? ⟨b,off+i*5+c,none⟩=some ((#[.int .i64 (l.getD i zPt).kind,.string (l.getD i zPt).text,.slice oo (l.getD i zPt).ops.length oc,.slice o1 (l.getD i zPt).lits.length c1,.slice o2 (l.getD i zPt).dists.length c2]:Array Value).getD c undef))/\
    SlK 3 w (.slice oo (l.getD i zPt).ops.length oc) ((l.getD i zPt).ops.map opV)/\qT w (.slice o1 (l.getD i zPt).lits.length c1) (l.getD i zPt).lits/\qT w (.slice o2 (l.getD i zPt).dists.length c2) (l.getD i zPt).dists:=by
 obtain⟨cs,⟨oa,cap,b,off,rfl,hd,hc⟩,h2,h3⟩:=h;rw[h2]at hd hc⊢;refine⟨oa,cap,b,off,rfl,hd,fun i hi=>?_⟩
 obtain⟨vo,vl,vd,he,g1,g2,g3⟩:=h3 i hi;obtain⟨oo,oc,ob,of,rfl,-⟩:=cP g1;obtain⟨o1,c1,b1,f1,rfl,-⟩:=g2.open;obtain⟨o2,c2,b2,f2,rfl,-⟩:=g3.open;refine⟨oo,oc,o1,c1,o2,c2,fun c hcl=>?_,g1,g2,g3⟩
 rw[hc i hi c hcl,he]
 match c,hcl with
 |0,_=>rfl
 |1,_=>rfl
 |2,_=>rfl
 |3,_=>rfl
 |4,_=>rfl
def bS(y:Nat×qK)(w:World)(e:Ending)(w':World):Prop:=e=.returned (.tuple #[.string ⟨y.2.toArray⟩,.int .i64 (y.1:Nat)])/\∃x,w'=ext w x
theorem uN{eD:Nat}{b:qK}{p:PtN}(h:(fN eD b p).1=0):(fN eD b p).2.length<=16777216:=by
 have hc:∀z:Nat×qK,(yC z).1=0->(yC z).2.length<=16777216:=by
  intro z hz;unfold yC at hz⊢
  by_cases h1:z.1≠0
  ·rw[if_pos h1]at hz;exact absurd hz h1
  ·rw[if_neg h1]at hz⊢
   by_cases h2:16777216<z.2.length
   ·rw[if_pos h2]at hz;exact absurd hz (by intro h;cases h)
   ·rw[if_neg h2];omega
 unfold fN at h⊢
 by_cases h0:p.kind=0
 ·rw[if_pos h0]at h⊢
  by_cases h1:65535<p.text.size
  ·rw[if_pos h1]at h;exact absurd h (by intro h;cases h)
  ·rw[if_neg h1]at h⊢;exact hc _ h
 ·rw[if_neg h0]at h⊢
  by_cases h1:p.kind=1\/p.kind=2
  ·rw[if_pos h1]at h⊢;exact hc _ h
  ·rw[if_neg h1]at h;exact absurd h (by intro h;cases h)
theorem iD{eD:Nat}{b:qK}{l:List PtN}{k:Nat}(hk:k<l.length)(h:jW eD (l.take k)=(0,b)):jW eD (l.take (k+1))=fN eD b (l.getD k zPt):=by
 rw[List.take_succ_eq_append_getElem hk,E6,h]
 simp[hU,List.getD,hk]
theorem q0q{w:World}{v:Value}{l:List PtN}(h:js w v l)(hok:∀p∈l,yT p):Calls Tryz.prog 12 #[v] w (bS (jq 10 17 l) w):=by
 have HH:=q7 h
 have HOK:Hid (∀i,i<l.length->yT (l.getD i zPt)):=q7 (fun i hi=>by
  have:l.getD i zPt=l[i]:=by simp[List.getD,hi]
  rw[this];exact hok _ (List.getElem_mem hi))
 obtain⟨oa,cap,bl,off,rfl,hd,hco⟩:=h.open;have HCO:=q7 hco;have HD:=q7 hd;obtain⟨y,hy⟩:∃y,y=jq 10 17 l:=⟨_,rfl⟩;rw[<-hy];have HY:=q7 hy;unfold jq at HY;have hm:=hd.len;clear hy h hok hd hco
 by_cases hl:l=[]
 ·rw[if_pos hl]at HY
  subst hl
  go_enter Tryz.func12,Tryz.ntmps12
  go_wp2
  go_ret2
  exact⟨by rw[HY.out];rfl,(qt (by repeat(first|exact qj _ _|assumption|refine qw ?_ _|refine qk ?_|refine qA ?_ _|refine qs ?_ _)))⟩
 ·rw[if_neg hl]at HY
  have hl0:0<l.length:=List.length_pos_iff.2 hl;have hl1:((l.length:Int)==0)=false:=by simp;exact hl
  clear hl
  go_enter Tryz.func12,Tryz.ntmps12
  go_wp2;have HT0:Hid (Tx (w.alloc (.cells #[Value.slice none 0 0] 77)) w.heap.size w.heap.size []):=q7 ⟨.slice none 0 0,qE w w.heap.size #[Value.slice none 0 0] 77 (by simp) (q9 _),Own.nil _ _ _,by simp[Value.ownBlock],q9 _⟩
  have HB0:=q7 (qn w (.cells #[Value.slice none 0 0] 77))
  go_loopg [15] (l.length+1) (fun gk iv wr=>∃(k:Nat) (b:qK),iv=.int .i64 k/\k<=l.length/\Hid (jW 10 (l.take k)=(0,b))/\b.length<=16777216/\Tx wr w.heap.size w.heap.size b/\Below w.heap.size w wr/\gk=l.length+1-k)
  case atStart=>exact⟨0,[],rfl,qc _,q7 rfl,qc _,HT0.out,HB0.out,rfl⟩
  case round=>
   clear HT0 HB0;obtain⟨k,b,rfl,hk,HK,hbk,htx,hbl,rfl⟩:=hrel;have HT:=q7 htx;have HBW:=q7 hbl;have hsz:=hbl.size;clear htx hbl
   by_cases hlt:k<l.length
   ·have hix:=jy (P:=Tryz.prog) 5 30 68 Tryz.underlying30 (by kernel_rfl) HD.out
    have q9a:=fun W kd=>hix W kd (k:Int) (by omega) (by omega)
    simp only[Int.toNat_natCast]at q9a;obtain⟨oo,oc,o1,c1,o2,c2,hcc,hs,qgK,qgJ⟩:=HCO.out k hlt;have hok:=HOK.out k hlt;have HSK:=q7 (iD hlt HK.out);have q9b:=q7 (eW (eD:=10) (l:=l) (k:=k+1));have hbb:=HD.out.hblk (by omega)
    have HLN:=q7 (uN (eD:=10) (b:=b) (p:=l.getD k zPt));obtain⟨p,hp⟩:∃p,p=l.getD k zPt:=⟨_,rfl⟩;rw[<-hp]at hcc hs qgK qgJ hok HSK HLN;have HC5:Hid (∀c,c<5->wr.cell? ⟨bl,off+k*5+c,none⟩=some ((#[.int .i64 p.kind,.string p.text,.slice oo p.ops.length oc,.slice o1 p.lits.length c1,.slice o2 p.dists.length c2]:Array Value).getD c undef)):=q7 (fun c hc=>(HBW.out.cell (p:=⟨bl,off+k*5+c,none⟩) hbb).trans (hcc c hc))
    have hAL:=qn wr (.cells #[.int .i64 p.kind,.string p.text,.slice oo p.ops.length oc,.slice o1 p.lits.length c1,.slice o2 p.dists.length c2] 68);have HAL:=q7 (hAL.mono hsz);obtain⟨A,hgA,hsA,hA⟩:=(qE wr wr.heap.size #[.int .i64 p.kind,.string p.text,.slice oo p.ops.length oc,.slice o1 p.lits.length c1,.slice o2 p.dists.length c2] 68 (by simp) (q9 _)).whole
    have hA':A=#[.int .i64 p.kind,.string p.text,.slice oo p.ops.length oc,.slice o1 p.lits.length c1,.slice o2 p.dists.length c2]:=by rw[<-Array.toArray_toList (xs:=A),hA]
    subst hA';have HPC:=q7 (q7C (HT.out.up hAL) hbk p (.slice oo p.ops.length oc) (.slice o1 p.lits.length c1) (.slice o2 p.dists.length c2) (fun W hW=>hs.up ((HBW.out.trans HAL.out).trans hW)) hok.lit hok.text rfl rfl)
    have HX:Hid (∀W',Below w.heap.size (wr.alloc (.cells #[.int .i64 p.kind,.string p.text,.slice oo p.ops.length oc,.slice o1 p.lits.length c1,.slice o2 p.dists.length c2] 68)) W'->Below w.heap.size w W'):=q7 (fun W' h=>(HBW.out.trans HAL.out).trans h)
    generalize hz:fN 10 b p=z at*;obtain⟨er,b2⟩:=z;simp only at HPC HLN;clear hcc hs qgK qgJ hok hAL hA hsA hz hix HAL hp;generalize p.ops.length=n3 at*;generalize p.lits.length=n4 at*;generalize p.dists.length=n5 at*
    by_cases her:er=0
    ·subst her
     have hb2:=HLN.out (by trivial)
     go_wp2_with(first
      |(refine qG rfl 68 _ rfl bl (off+k*5) 5 rfl #[.int .i64 p.kind,.string p.text,.slice oo n3 oc,.slice o1 n4 c1,.slice o2 n5 c2] _ HC5.out rfl Tryz.underlying68 rfl (by kernel_rfl) ?_)
      |(refine qI rfl 68 5 _ rfl wr.heap.size rfl #[.int .i64 p.kind,.string p.text,.slice oo n3 oc,.slice o1 n4 c1,.slice o2 n5 c2] rfl hgA _ Tryz.underlying68 rfl (by kernel_rfl) ?_)
      |(go_at_call 33;(with_reducible refine HPC.out.mono ?_);rintro e w5 ⟨rfl,ht5,hb5⟩;have HT5:=q7 ht5;have HB5:=q7 (HX.out _ hb5);clear ht5 hb5))
     go_roundg (l.length+1-(k+1))
     case measure=>omega
     case rel=>exact⟨k+1,b2,by go_num,by omega,HSK,hb2,HT5.out,HB5.out,rfl⟩
    ·have hei:((er:Int) != 0)=true:=by simpa using her
     have HE:Hid (y=(er,[])):=q7 (by
      have h2:=q9b.out (by rw[HSK.out];exact her)
      rw[HSK.out]at h2;rw[HY.out,h2,if_pos her])
     clear her HSK q9b HLN
     go_wp2_with(first
      |(refine qG rfl 68 _ rfl bl (off+k*5) 5 rfl #[.int .i64 p.kind,.string p.text,.slice oo n3 oc,.slice o1 n4 c1,.slice o2 n5 c2] _ HC5.out rfl Tryz.underlying68 rfl (by kernel_rfl) ?_)
      |(refine qI rfl 68 5 _ rfl wr.heap.size rfl #[.int .i64 p.kind,.string p.text,.slice oo n3 oc,.slice o1 n4 c1,.slice o2 n5 c2] rfl hgA _ Tryz.underlying68 rfl (by kernel_rfl) ?_)
      |(go_at_call 33;(with_reducible refine HPC.out.mono ?_);rintro e w5 ⟨rfl,ht5,hb5⟩;have HT5:=q7 ht5;have HB5:=q7 (HX.out _ hb5);clear ht5 hb5))
     go_ret2
     exact⟨by rw[HE.out];rfl,qt HB5.out⟩
   ·obtain rfl:k=l.length:=by omega
    have HE:Hid (y=(0,b)):=q7 (by
     have h2:=HK.out;rw[List.take_length]at h2;rw[HY.out,h2,if_neg (fun h=>h rfl)])
    obtain⟨v5,hx5⟩:=HT.out;obtain⟨o5,k5,q5,hv5,hc5,hd5⟩:=hx5.len;have hg5:=hx5.box.blk.2;subst hv5;have HCV:=q7 (fun W (h:Below wr.heap.size wr W)=>j7 (P:=Tryz.prog) W 49 9 5 Tryz.underlying49 Tryz.underlying5 Tryz.underlying9 _ b (hx5.own.sl.up h))
    have hcv:=HCV.out wr (qj _ _);clear hx5 hd5 hlt;generalize b.length=l2 at*;go_wp2
    go_ret2
    exact⟨by rw[HE.out];rfl,qt HBW.out⟩
theorem dY(N T:Nat)(L:List Nat)(n f:Nat)(l:List Nat)(st:Nat×Nat)(h:¬(st.1=0/\l.length<n)):bM N T L n f l st=(l,st):=by
 cases f with
 |zero=>rfl
 |succ f=>unfold bM;rw[if_neg h]
theorem q0s(N T sym:Nat)(l:List Nat)(p:Nat)(h:(cN N T sym l (0,p)).2.2.1=0):3<=(cN N T sym l (0,p)).1:=by
 unfold cN at h⊢;split
 ·omega
 ·split
  ·split
   ·rename_i h1 h2 h3
    rw[if_neg h1,if_pos h2,if_pos h3]at h
    cases h
   ·omega
  ·omega
theorem q6a(N T sym:Nat)(l:List Nat)(st:Nat×Nat):(cN N T sym l st).1<=200:=by
 have h7:=tP N T 7 st;have h2:=tP N T 2 st;have h3:=tP N T 3 st;unfold cN;split
 ·show 11+(xb N T 7 st).1<=200
  omega
 ·split
  ·split
   ·exact qc _
   ·show 3+(xb N T 2 st).1<=200
    omega
  ·show 3+(xb N T 3 st).1<=200
   omega
theorem eL.kept{w w':World}{q g:Nat}{s:ByteArray}{st:Nat×Nat}{row:Option Nat}(h:eL w q g s st)(hg:w.grownBy w' row)(h1:row≠some q)(h2:row≠some g):eL w' q g s st:=⟨h.src.keep hg h1,h.box.stay hg h2,h.ne,h.le,h.err⟩
theorem eL.fx{S:Nat->Prop}{w w':World}{q g:Nat}{s:ByteArray}{st:Nat×Nat}(h:eL w q g s st)(hf:Fx S w w')(h1:¬S q)(h2:¬S g):eL w' q g s st:=
 ⟨⟨hf.own h.src.own (fun k hk=>by injection hk with hk;subst hk;exact h1)⟩,⟨hf.own h.box.own (fun k hk=>by injection hk with hk;subst hk;exact h2)⟩,h.ne,h.le,h.err⟩
theorem Fx.far{S S':Nat->Prop}{w w1 w2:World}(h:Fx S w w1)(hg:Fx S' w1 w2)(hr:∀k,S' k->S k\/w.heap.size<=k):Fx S w w2:=
 ⟨hg.os.trans h.os,hg.tape.trans h.tape,hg.output.trans h.output,qa h.size hg.size,fun k hk h1=>by
  rw[hg.block k (qd hk h.size) (fun e=>(hr k e).elim h1 (fun z=>by omega)),h.block k hk h1]⟩
theorem iE(L:List Nat)(V left:Nat):(j9 L V left).2.1<=64/\(j9 L V left).2.2<=left/\((j9 L V left).2.1≠0->(j9 L V left).2.2=0)/\((j9 L V left).2.1=0->(j9 L V left).1<L.length):=by
 rcases dP L V left with⟨h1,h2,h3,h4,h5⟩|⟨h1,h2,h3,h4⟩
 ·rw[h4,h5];exact⟨by omega,h3,fun h=>absurd rfl h,fun _=>h1⟩
 ·rw[h3,h4]
  refine⟨by split<;>omega,qc _,fun _=>rfl,fun h=>?_⟩
  exfalso;split at h<;>cases h
noncomputable def iF(N T:Nat)(L:List Nat)(n f:Nat)(l:List Nat)(p:Nat)(r:Nat×Nat×Nat):List Nat×(Nat×Nat):=
 if r.2.1≠0 then(l,r.2.1,p)
 else if r.1<16 then bM N T L n f (l++[r.1]) (0,p+r.2.2)
 else if n<l.length+(cN N T r.1 l (0,p+r.2.2)).1 then([],xf 3 (cN N T r.1 l (0,p+r.2.2)).2.2)
 else bM N T L n f (l++List.replicate (cN N T r.1 l (0,p+r.2.2)).1 (cN N T r.1 l (0,p+r.2.2)).2.1) (cN N T r.1 l (0,p+r.2.2)).2.2
theorem nG(N T:Nat)(L:List Nat)(n f:Nat)(l:List Nat)(p:Nat)(h:l.length<n):bM N T L n (f+1) l (0,p)=iF N T L n f l p (j9 L (N/2^p) (T-p)):=by
 rw[bM,if_pos ⟨rfl,h⟩];rfl
theorem q8E{w:World}{q g gt:Nat}{s:ByteArray}{st:Nat×Nat}(h:eL w q g s st)(hs:s.size<=4294967296)(n:Nat)(hn:n<=1000)(L:List Nat)(hL:L.length<=19)
  (HRD:∀W p,Two q g w W->cX W g s p->p<=8*s.size->Calls Tryz.prog 200 #[.pointer (some ⟨gt,0,none⟩),.pointer (some ⟨g,0,none⟩)] W (eY cX L s p g W)):
  Calls Tryz.prog 196 #[.pointer (some ⟨q,0,none⟩),.pointer (some ⟨gt,0,none⟩),.int .i64 n] w fun e w'=>∃v,e=.returned v/\Own w' w.heap.size 3 v (ints (nls (bM (qH s) (8*s.size) L n (n+1) [] st).1))/\eL w' q g s (bM (qH s) (8*s.size) L n (n+1) [] st).2/\Two q g w w':=by
 have HH:=q7 h;have hqw:=h.src.lt;have hgw:=h.box.lt
 have qko:Hid (∀W p,Two q g w W->cX W g s p->p<=8*s.size->Calls Tryz.prog 200 #[.pointer (some ⟨gt,0,none⟩),.pointer (some ⟨g,0,none⟩)] W fun e w'=>e=.returned (.tuple #[.int .i64 ((j9 L (qH s/2^p) (8*s.size-p)).1:Nat),.int .i64 ((j9 L (qH s/2^p) (8*s.size-p)).2.1:Nat)])/\cX w' g s (p+(j9 L (qH s/2^p) (8*s.size-p)).2.2)/\W.grownBy w' (some g)):=q7 (fun W p h1 h2 h3=>(HRD W p h1 h2 h3).mono fun e w' ⟨a,er,d,he,hr,hb,hg⟩=>by
  have:=iC hr;rw[this]
  exact⟨he,hb,hg⟩)
 obtain⟨R,hR⟩:∃R,R=bM (qH s) (8*s.size) L n (n+1) [] st:=⟨_,rfl⟩;rw[<-hR];have HR:=q7 hR.symm;have q9b:=q7 (dY (qH s) (8*s.size) L n);have q9h:=q7 (nG (qH s) (8*s.size) L n);clear hR HRD h
 go_enter Tryz.func196,Tryz.ntmps196
 go_wp2
 go_loopg [7] (n+1) (fun gk r wr=>∃l en p,Own wr w.heap.size 3 r (ints (nls l))/\eL wr q g s (en,p)/\Two q g w wr/\Hid (bM (qH s) (8*s.size) L n gk l (en,p)=R)/\l.length<=n/\(en=0->n-l.length<gk))
 case atStart=>exact⟨[],st.1,st.2,Own.nil _ _ _,HH.out,Fx.refl _ _,HR,qc _,fun _=>by simp⟩
 case round=>
  obtain⟨l,en,p,ho,hsr,hfx,HRN,hll,hf⟩:=hrel;have HO:=q7 ho;have HS:=q7 hsr;have HF:=q7 hfx;have hsz:=hfx.size;have c0:=hsr.src.c0;have c1:=hsr.src.c1;have hq1:=hsr.src.lt;have he:(((en,p).1:Nat):Int)=(en:Int):=rfl;rw[he]at c1;have hlen:(ints (nls l)).length=l.length:=by simp[ints,nls]
  obtain⟨oa,cap,b,hv,-⟩:=ho.cases;rw[hlen]at hv;subst hv;have HLEN:=q7 hlen;clear he ho hsr hfx hlen
  by_cases h0:en=0
  ·subst h0
   by_cases hlt:l.length<n
   ·have q9w:(l.length:Int)<(n:Int):=by omega
    have hf':=hf rfl;obtain⟨f,rfl⟩:∃f,gk=f+1:=⟨gk-1,by omega⟩
    have HE:=q7 (q9h.out f l p hlt);rw[HRN.out]at HE;have q9Q:=HS.out.le;have q9L:=qko.out wr p HF.out HS.out.box q9Q;have hfa:=iE L (qH s/2^p) (8*s.size-p);generalize j9 L (qH s/2^p) (8*s.size-p)=rd at*;obtain⟨a,er,d⟩:=rd;obtain⟨hf1,hf2,hf3,hf4⟩:=hfa;have q9H:=q7 q9L;have hpd:p+d<=8*s.size:=by simp at hf2 q9Q;omega
    have HPD:=q7 hpd;clear q9L HRN hf q9h q9b hf2 q9Q hpd
    by_cases hz:er=0
    ·subst hz
     have haL:=hf4 rfl
     simp at haL
     clear hf1 hf3 hf4
     by_cases ha:a<16
     ·have hai:(a:Int)<16:=by omega
      have q95:Hid (R=bM (qH s) (8*s.size) L n f (l++[a]) (0,p+d)):=q7 (by rw[HE.out];unfold iF;rw[if_neg (by simp),if_pos ha])
      have qg7:Hid (ints (nls (l++[a]))=ints (nls l)++ints (nls [a])):=q7 (by simp[ints,nls])
      clear ha HE;have HLL:Hid ((ints (nls l)).length+1<=4294967296):=q7 (by rw[HLEN.out];omega)
      go_wp2_with(first|(go_at_call 200;(with_reducible refine q9H.out.mono ?_);rintro e w4 ⟨rfl,hb1,hb2⟩;(have HS4:Hid (eL w4 q g s (0,p+d)):=q7 ⟨HS.out.src.keep hb2 (fun e=>HS.out.ne (by injection e with e;exact e.symm)),hb1,HS.out.ne,HPD.out,HS.out.err⟩;have HF4:Hid (Two q g w w4):=q7 (HF.out.trans (jn hb2 (fun k e=>.inr (by injection e with e;exact e.symm))));have hs4:=hb2.size;have HO4:=q7 (HO.out.keep hb2 (qM (fun k hk e=>by have:=(HO.out.lt k hk).1;injection e with e;omega)));clear hb1 hb2))|(at_builtin;refine jt rfl (.tmp 60) (.tmp 62) 66 rfl w.heap.size 3 (.int .i64 0) 8 Tryz.underlying66 (by kernel_rfl) rfl (by decide) (.slice oa l.length cap) (ints (nls l)) rfl (HO4.out.up (qn _ _)) (.slice (some ⟨w4.heap.size,0,none⟩) 1 1) (ints (nls [a])) rfl (by simpa[ints,nls]using eJ w4 #[.int .i64 (a:Int)] 3 (by simp)) (cQ _) (by have:=HLL.out;simpa[ints,nls]using this) (qa hsz (qa hs4 (by simp))) ?_;intro v' w5 hown1 hg1 hk1;(have HO5:=q7 hown1;have HG5:=q7 hg1;clear hown1 hg1 hk1)))
      go_roundg f
      case measure=>omega
      case rel=>
       have hr1:(Value.slice oa l.length cap).ownBlock≠some q:=fun e=>by have:=(HO4.out.lt q e).1;omega
       have hr2:(Value.slice oa l.length cap).ownBlock≠some g:=fun e=>by have:=(HO4.out.lt g e).1;omega
       exact⟨l++[a],0,p+d,by rw[qg7.out];exact HO5.out,(HS4.out.up (qn w4 _)).kept HG5.out hr1 hr2,(HF4.out.trans (qP (qn w4 _))).grown HG5.out (fun k hk=>.inr (HO4.out.lt k hk).1),q7 q95.out.symm,by simp;omega,fun _=>by simp;omega⟩
     ·have hai:¬(a:Int)<16:=by omega
      have qaD:a=16\/a=17\/a=18:=by omega
      have hrp:=q0s (qH s) (8*s.size) a l (p+d);have HRP:=q7 (fun W (h:eL W q g s (0,p+d)) (ho:Own W w.heap.size 3 (.slice oa l.length cap) (ints (nls l)))=>q8D h hs a qaD (.slice oa l.length cap) l w.heap.size ho (by omega))
      have q95:Hid (R=if n<l.length+(cN (qH s) (8*s.size) a l (0,p+d)).1 then([],xf 3 (cN (qH s) (8*s.size) a l (0,p+d)).2.2)else bM (qH s) (8*s.size) L n f (l++List.replicate (cN (qH s) (8*s.size) a l (0,p+d)).1 (cN (qH s) (8*s.size) a l (0,p+d)).2.1) (cN (qH s) (8*s.size) a l (0,p+d)).2.2):=q7 (by rw[HE.out];unfold iF;rw[if_neg (by simp),if_neg ha])
      have hrl:=q6a (qH s) (8*s.size) a l (0,p+d);clear ha HE qaD haL;generalize cN (qH s) (8*s.size) a l (0,p+d)=rp at*;obtain⟨m,y,st2⟩:=rp;have HRN:=q7 (fun W (ho:Own W w.heap.size 3 (.slice oa l.length cap) (ints (nls l))) (hB:w.heap.size<=W.heap.size)=>q69 (.slice oa l.length cap) l m y W w.heap.size ho hB (by simp at hrl;omega))
      simp at hrp hrl
      have qkm:=q7 hrp;clear hrp
      by_cases q90:n<l.length+m
      ·have hbi:(l.length:Int)+(m:Int)>(n:Int):=by omega
       have hR:R=([],xf 3 st2):=by rw[q95.out];exact if_pos q90
       have HR2:=q7 hR;clear q90 hR q95
       go_wp2_with(first|(go_at_call 200;(with_reducible refine q9H.out.mono ?_);rintro e w4 ⟨rfl,hb1,hb2⟩;(have HS4:Hid (eL w4 q g s (0,p+d)):=q7 ⟨HS.out.src.keep hb2 (fun e=>HS.out.ne (by injection e with e;exact e.symm)),hb1,HS.out.ne,HPD.out,HS.out.err⟩;have HF4:Hid (Two q g w w4):=q7 (HF.out.trans (jn hb2 (fun k e=>.inr (by injection e with e;exact e.symm))));have hs4:=hb2.size;have HO4:=q7 (HO.out.keep hb2 (qM (fun k hk e=>by have:=(HO.out.lt k hk).1;injection e with e;omega)));have qfs:=q7 (HRP.out w4 HS4.out HO4.out);clear hb1 hb2))|(go_at_call 206;(with_reducible refine qfs.out.mono ?_);rintro e w5 ⟨rfl,hq1,hq2⟩;(have HS5:=q7 hq1;have HF5:=q7 hq2;have hs5:=hq2.size;have HO5:=q7 (hq2.own HO4.out (fun k hk e=>by have:=(HO4.out.lt k hk).1;omega));have qe9:=q7 (F4 HS5.out 3 (by omega));have qhB:=q7 (HRN.out w5 HO5.out (by omega));rw[show((3:Nat):Int)=3 from rfl]at qe9;clear hq1 hq2))|(go_at_call 182;(with_reducible refine qe9.out.mono ?_);rintro e w6 ⟨rfl,hq1,hq2⟩;(have HQ1:=q7 hq1;have HQ2:=q7 hq2;clear hq1 hq2)))
       go_ret;rw[HR2.out]
       exact⟨_,rfl,Own.nil _ _ _,HQ1.out,(HF4.out.trans HF5.out).trans HQ2.out⟩
      ·have hbi:¬(l.length:Int)+(m:Int)>(n:Int):=by omega
       have HR2:Hid (R=bM (qH s) (8*s.size) L n f (l++List.replicate m y) st2):=q7 (by rw[q95.out];exact if_neg q90)
       clear q95;have HBN:=q7 q90;clear q90
       go_wp2_with(first|(go_at_call 200;(with_reducible refine q9H.out.mono ?_);rintro e w4 ⟨rfl,hb1,hb2⟩;(have HS4:Hid (eL w4 q g s (0,p+d)):=q7 ⟨HS.out.src.keep hb2 (fun e=>HS.out.ne (by injection e with e;exact e.symm)),hb1,HS.out.ne,HPD.out,HS.out.err⟩;have HF4:Hid (Two q g w w4):=q7 (HF.out.trans (jn hb2 (fun k e=>.inr (by injection e with e;exact e.symm))));have hs4:=hb2.size;have HO4:=q7 (HO.out.keep hb2 (qM (fun k hk e=>by have:=(HO.out.lt k hk).1;injection e with e;omega)));have qfs:=q7 (HRP.out w4 HS4.out HO4.out);clear hb1 hb2))|(go_at_call 206;(with_reducible refine qfs.out.mono ?_);rintro e w5 ⟨rfl,hq1,hq2⟩;(have HS5:=q7 hq1;have HF5:=q7 hq2;have hs5:=hq2.size;have HO5:=q7 (hq2.own HO4.out (fun k hk e=>by have:=(HO4.out.lt k hk).1;omega));have qe9:=q7 (F4 HS5.out 3 (by omega));have qhB:=q7 (HRN.out w5 HO5.out (by omega));rw[show((3:Nat):Int)=3 from rfl]at qe9;clear hq1 hq2))|(go_at_call 142;(with_reducible refine qhB.out.mono ?_);rintro e w6 ⟨v6,rfl,hq1,hq2,hq3⟩;(have HQ1:=q7 hq1;have HQ2:=q7 hq2;clear hq1 hq2 hq3)))
       have hbn:=HBN.out;have qj0:=qkm.out
       go_roundg f
       case measure=>omega
       case rel=>
        have hr1:(Value.slice oa l.length cap).ownBlock≠some q:=fun e=>by have:=(HO4.out.lt q e).1;omega
        have hr2:(Value.slice oa l.length cap).ownBlock≠some g:=fun e=>by have:=(HO4.out.lt g e).1;omega
        exact⟨l++List.replicate m y,st2.1,st2.2,HQ1.out,HS5.out.fx HQ2.out hr1 hr2,(HF4.out.trans HF5.out).far HQ2.out (fun k hk=>.inr (HO4.out.lt k hk).1),q7 HR2.out.symm,by simp;omega,fun h=>by have:=qj0 h;simp;omega⟩
    ·have hz':((er:Int) != 0)=true:=by simpa using hz
     have hd0:=hf3 hz;have q95:Hid (R=(l,er,p)):=q7 (by rw[HE.out];unfold iF;exact if_pos hz)
     simp at hd0 hf1
     subst hd0;clear hf3 hf4 HE hz
     go_wp2_with(first|(go_at_call 200;(with_reducible refine q9H.out.mono ?_);rintro e w4 ⟨rfl,hb1,hb2⟩;(have HS4:Hid (eL w4 q g s (0,p)):=q7 ⟨HS.out.src.keep hb2 (fun e=>HS.out.ne (by injection e with e;exact e.symm)),hb1,HS.out.ne,HS.out.le,HS.out.err⟩;have HF4:Hid (Two q g w w4):=q7 (HF.out.trans (jn hb2 (fun k e=>.inr (by injection e with e;exact e.symm))));have HO4:=q7 (HO.out.keep hb2 (qM (fun k hk e=>by have:=(HO.out.lt k hk).1;injection e with e;omega)));have HFC:=q7 (F4 HS4.out er hf1);clear hb1 hb2))|(go_at_call 182;(with_reducible refine HFC.out.mono ?_);rintro e w5 ⟨rfl,hq1,hq2⟩;(have HQ1:=q7 hq1;have HQ2:=q7 hq2;clear hq1 hq2)))
     have hzz:er≠0:=by simpa using hz'
     go_roundg f
     case measure=>omega
     case rel=>exact⟨l,er,p,HQ2.out.own HO4.out (fun k hk e=>by have:=(HO4.out.lt k hk).1;omega),HQ1.out,HF4.out.trans HQ2.out,q7 ((dY _ _ _ _ _ _ _ (fun h=>hzz h.1)).trans q95.out.symm),hll,fun h=>absurd h hzz⟩
   ·have q9w:¬(l.length:Int)<(n:Int):=by omega
    have HE:=q7 (q9b.out gk l (0,p) (fun h=>hlt h.2))
    rw[HRN.out]at HE;clear hlt hf;go_wp2;go_ret;rw[HE.out]
    exact⟨_,rfl,HO.out,HS.out,HF.out⟩
  ·have h0':((en:Int)==0)=false:=by simp;omega
   have HE:=q7 (q9b.out gk l (en,p) (fun h=>h0 h.1))
   rw[HRN.out]at HE;clear h0 hf;go_wp2;go_ret;rw[HE.out]
   exact⟨_,rfl,HO.out,HS.out,HF.out⟩
theorem yV(a b:Nat)(ha:a<2^63)(hb:b<2^63):bits .xor .i64 (a:Int) (b:Int)=((a^^^b:Nat):Int):=by
 have hx:a^^^b<2^63:=Nat.xor_lt_two_pow ha hb;have ha':a%2^64=a:=Nat.mod_eq_of_lt (by omega)
 have hb':b%2^64=b:=Nat.mod_eq_of_lt (by omega)
 simp only[bits,BitVec.ofInt_natCast,BitVec.toNat_xor,BitVec.toNat_ofNat,show IntKind.i64.bits=64 from rfl,ha',hb']
 rw[IntKind.wrap_i64];omega
theorem q2w(n:Nat)(h:n<65536):n^^^65535=65535-n:=by
 apply Nat.eq_of_testBit_eq
 intro i;rw[Nat.testBit_xor,show 65535=2^16-1 by decide,Nat.testBit_two_pow_sub_one,show 2^16-1-n=2^16-(n+1) by omega,Nat.testBit_two_pow_sub_succ (by omega)]
 by_cases hi:i<16
 ·simp[hi]
 ·have:n.testBit i=false:=Nat.testBit_lt_two_pow (qd h (by rw[show 65536=2^16 by decide];exact qe (by decide) (by omega)))
  simp[hi,this]
theorem sG(n:Nat)(h:n<65536):bits .xor .i64 (n:Int) 65535=((65535-n:Nat):Int):=by
 have:=yV n 65535 (by omega) (by decide)
 rw[q2w n h]at this
 exact this
structure fA(w:World)(b:Nat)(fin:Bool)(k z:Nat)(v1 v2:Value):Prop where
 own:Own w b 112 (.slice (some ⟨b,0,none⟩) 5 5) [.bool fin,.int .i64 k,.int .i64 z,v1,v2]
section
variable {w w' : World} {b k z : Nat} {fin : Bool} {v1 v2 : Value}
theorem fA.up(h:fA w b fin k z v1 v2)(hb:Below w.heap.size w w'):fA w' b fin k z v1 v2:=⟨h.own.up hb⟩
theorem fA.lt(h:fA w b fin k z v1 v2):b<w.heap.size:=(h.own.lt b rfl).2
theorem fA.c0(h:fA w b fin k z v1 v2):w.cell? ⟨b,0,none⟩=some (.bool fin):=h.own.cell (by simp)
theorem fA.c1(h:fA w b fin k z v1 v2):w.cell? ⟨b,1,none⟩=some (.int .i64 k):=h.own.cell (by simp)
theorem fA.c2(h:fA w b fin k z v1 v2):w.cell? ⟨b,2,none⟩=some (.int .i64 z):=h.own.cell (by simp)
theorem fA.c3(h:fA w b fin k z v1 v2):w.cell? ⟨b,3,none⟩=some v1:=h.own.cell (by simp)
theorem fA.c4(h:fA w b fin k z v1 v2):w.cell? ⟨b,4,none⟩=some v2:=h.own.cell (by simp)
theorem fA.free(h:fA w b fin k z v1 v2)(c:Nat):w.frozen? ⟨b,c,none⟩=false:=h.own.free c
theorem fA.set1(h:fA w b fin k z v1 v2)(r:Nat):fA (w.setCell ⟨b,1,none⟩ (.int .i64 r)) b fin r z v1 v2/\w.grownBy (w.setCell ⟨b,1,none⟩ (.int .i64 r)) (some b):=⟨⟨(h.own.store 1 _).1⟩,(h.own.store 1 _).2⟩
theorem fA.set2(h:fA w b fin k z v1 v2)(r:Nat):fA (w.setCell ⟨b,2,none⟩ (.int .i64 r)) b fin k r v1 v2/\w.grownBy (w.setCell ⟨b,2,none⟩ (.int .i64 r)) (some b):=⟨⟨(h.own.store 2 _).1⟩,(h.own.store 2 _).2⟩
theorem fA.set3(h:fA w b fin k z v1 v2)(u:Value):fA (w.setCell ⟨b,3,none⟩ u) b fin k z u v2/\w.grownBy (w.setCell ⟨b,3,none⟩ u) (some b):=⟨⟨(h.own.store 3 _).1⟩,(h.own.store 3 _).2⟩
theorem fA.set4(h:fA w b fin k z v1 v2)(u:Value):fA (w.setCell ⟨b,4,none⟩ u) b fin k z v1 u/\w.grownBy (w.setCell ⟨b,4,none⟩ u) (some b):=⟨⟨(h.own.store 4 _).1⟩,(h.own.store 4 _).2⟩
theorem fA.stay{row:Option Nat}(h:fA w b fin k z v1 v2)(hg:w.grownBy w' row)(hne:row≠some b):fA w' b fin k z v1 v2:=⟨h.own.keep hg (.inr (fun e=>hne e.symm))⟩
theorem fA.fx{S:Nat->Prop}(h:fA w b fin k z v1 v2)(hf:Fx S w w')(h1:¬S b):fA w' b fin k z v1 v2:=⟨hf.own h.own (fun k hk=>by injection hk with hk;subst hk;exact h1)⟩
end
abbrev aU(q g b:Nat)(w w':World):Prop:=Fx (fun k=>k=q\/k=g\/k=b) w w'
theorem aU.of2{q g b:Nat}{w w':World}(h:Two q g w w'):aU q g b w w':=h.mono fun _ hk=>hk.elim .inl (fun z=>.inr (.inl z))
theorem aU.ofb{q g b:Nat}{w w':World}(h:w.grownBy w' (some b)):aU q g b w w':=jn h (fun k e=>.inr (.inr (by injection e with e;exact e.symm)))
theorem q4u{w:World}{q g b p k z:Nat}{s:ByteArray}{fin:Bool}{v1 v2:Value}(h:eL w q g s (0,p))(hh:fA w b fin k z v1 v2)(hq:q≠b)(hg:g≠b)(hs:s.size<=4294967296):
  Calls Tryz.prog 180 #[.pointer (some ⟨q,0,none⟩),.pointer (some ⟨b,0,none⟩)] w fun e w'=>e=.returned (.tuple #[])/\eL w' q g s (je (qH s) (8*s.size) (0,p)).2/\fA w' b fin k (je (qH s) (8*s.size) (0,p)).1 v1 v2/\aU q g b w w':=by
 have HT:=q7 h;have HH:=q7 hh;have c0:=h.src.c0;have hqw:=h.src.lt;have hbw:=hh.lt;have hp8:qO p<=8*s.size:=by have:=h.le;unfold qO;simp at this;omega
 have HP8:=q7 hp8;have HAL:=q7 (q67 h.box hs h.le);have HSB:Hid (∀(W:World) (st:Nat×Nat),eL W q g s st->Calls Tryz.prog 179 #[.pointer (some ⟨q,0,none⟩),.int .i64 16] W fun e w'=>e=.returned (.int .i64 ((xb (qH s) (8*s.size) 16 st).1:Nat))/\eL w' q g s (xb (qH s) (8*s.size) 16 st).2/\Two q g W w'):=q7 (fun W st h=>vV h hs 16 (by omega))
 have hx1:=tP (qH s) (8*s.size) 16 (0,qO p);have HXL:=q7 (fun st=>tP (qH s) (8*s.size) 16 st)
 have HFA:=q7 (fun(W:World) (st:Nat×Nat) (h:eL W q g s st)=>F4 h 6 (by omega))
 rw[show((6:Nat):Int)=6 from rfl]at HFA
 clear h hh hp8;unfold je
 dsimp only
 generalize qH s=N at*;generalize hT:8*s.size=T at*;obtain⟨a,ha⟩:∃a,a=xb N T 16 (0,qO p):=⟨_,rfl⟩;rw[<-ha]at hx1⊢;have qfp:=q7 (fun W h=>HSB.out W (0,qO p) h)
 rw[<-ha]at qfp;obtain⟨d,hd⟩:∃d,d=xb N T 16 a.2:=⟨_,rfl⟩;have hx2:=HXL.out a.2;have qfo:=q7 (fun W h=>HSB.out W a.2 h)
 rw[<-hd]at hx2 qfo⊢;have HT8:=q7 hT;clear ha hd HXL hT HSB;obtain⟨n,st1⟩:=a;obtain⟨m,st2⟩:=d;simp only at hx1 hx2;have hxr:=sG n (by omega)
 by_cases hc:m+n=65535
 ·have hcc:((m:Int) != ((65535-n:Nat):Int))=false:=by simp;omega
  have HX:Hid ((if m+n=65535 then st2 else xf 6 st2)=st2):=q7 (if_pos hc)
  rw[HX.out];clear hc HFA;generalize 65535-n=nt at*
  go_enter Tryz.func180,Tryz.ntmps180
  go_wp2_with(first|(go_at_call 195;(with_reducible refine HAL.out.mono ?_);rintro e w1 ⟨rfl,hb1,hb2⟩;(have HS1:Hid (eL w1 q g s (0,qO p)):=q7 ⟨HT.out.src.keep hb2 (fun e=>HT.out.ne (by injection e with e;exact e.symm)),hb1,HT.out.ne,(by have:=HP8.out;have:=HT8.out;simp only;omega),HT.out.err⟩;have HF1:Hid (aU q g b w w1):=q7 (aU.of2 (jn hb2 (fun k e=>.inr (by injection e with e;exact e.symm))));have HH1:=q7 (HH.out.stay hb2 (fun e=>hg (by injection e)));have HC2:=q7 (qfp.out w1 HS1.out);clear hb1 hb2))|(go_at_call 179;first|((with_reducible refine HC2.out.mono ?_);rintro e w2 ⟨rfl,hb1,hb2⟩;(have HS2:=q7 hb1;have HF2:=q7 (HF1.out.trans (aU.of2 hb2));have HH2:=q7 (HH1.out.fx hb2 (fun e=>e.elim (fun e=>hq e.symm) (fun e=>hg e.symm)));have HC3:=q7 (qfo.out w2 HS2.out);clear hb1 hb2 HC2))|((with_reducible refine HC3.out.mono ?_);rintro e w3 ⟨rfl,hb1,hb2⟩;(have HS3:=q7 hb1;have HF3:=q7 (HF2.out.trans (aU.of2 hb2));have HH3:=q7 (HH2.out.fx hb2 (fun e=>e.elim (fun e=>hq e.symm) (fun e=>hg e.symm)));have hb3:=HH3.out.lt;have hf3:=HH3.out.free 2;have cc3:=HH3.out.c2;clear hb1 hb2 HC3))))
  have HST:=q7 (HH3.out.set2 n)
  go_end0
  refine⟨rfl,⟨HS3.out.src.keep HST.out.2 (fun e=>hq (by injection e with e;exact e.symm)),HS3.out.box.stay HST.out.2 (fun e=>hg (by injection e with e;exact e.symm)),HS3.out.ne,HS3.out.le,HS3.out.err⟩,HST.out.1,HF3.out.trans (aU.ofb HST.out.2)⟩
 ·have hcc:((m:Int) != ((65535-n:Nat):Int))=true:=by simp;omega
  have HX:Hid ((if m+n=65535 then st2 else xf 6 st2)=xf 6 st2):=q7 (if_neg hc)
  rw[HX.out];clear hc;generalize 65535-n=nt at*
  go_enter Tryz.func180,Tryz.ntmps180
  go_wp2_with(first|(go_at_call 195;(with_reducible refine HAL.out.mono ?_);rintro e w1 ⟨rfl,hb1,hb2⟩;(have HS1:Hid (eL w1 q g s (0,qO p)):=q7 ⟨HT.out.src.keep hb2 (fun e=>HT.out.ne (by injection e with e;exact e.symm)),hb1,HT.out.ne,(by have:=HP8.out;have:=HT8.out;simp only;omega),HT.out.err⟩;have HF1:Hid (aU q g b w w1):=q7 (aU.of2 (jn hb2 (fun k e=>.inr (by injection e with e;exact e.symm))));have HH1:=q7 (HH.out.stay hb2 (fun e=>hg (by injection e)));have HC2:=q7 (qfp.out w1 HS1.out);clear hb1 hb2))|(go_at_call 179;first|((with_reducible refine HC2.out.mono ?_);rintro e w2 ⟨rfl,hb1,hb2⟩;(have HS2:=q7 hb1;have HF2:=q7 (HF1.out.trans (aU.of2 hb2));have HH2:=q7 (HH1.out.fx hb2 (fun e=>e.elim (fun e=>hq e.symm) (fun e=>hg e.symm)));have HC3:=q7 (qfo.out w2 HS2.out);clear hb1 hb2 HC2))|((with_reducible refine HC3.out.mono ?_);rintro e w3 ⟨rfl,hb1,hb2⟩;(have HS3:=q7 hb1;have HF3:=q7 (HF2.out.trans (aU.of2 hb2));have HH3:=q7 (HH2.out.fx hb2 (fun e=>e.elim (fun e=>hq e.symm) (fun e=>hg e.symm)));have HC4:=q7 (HFA.out w3 st2 HS3.out);clear hb1 hb2 HC3)))|(go_at_call 182;(with_reducible refine HC4.out.mono ?_);rintro e w4 ⟨rfl,hb1,hb2⟩;(have HS4:=q7 hb1;have HF4:=q7 (HF3.out.trans (aU.of2 hb2));have HH4:=q7 (HH3.out.fx hb2 (fun e=>e.elim (fun e=>hq e.symm) (fun e=>hg e.symm)));have hb3:=HH4.out.lt;have hf3:=HH4.out.free 2;have cc3:=HH4.out.c2;clear hb1 hb2)))
  have HST:=q7 (HH4.out.set2 n)
  go_end0
  refine⟨rfl,⟨HS4.out.src.keep HST.out.2 (fun e=>hq (by injection e with e;exact e.symm)),HS4.out.box.stay HST.out.2 (fun e=>hg (by injection e with e;exact e.symm)),HS4.out.ne,HS4.out.le,HS4.out.err⟩,HST.out.1,HF4.out.trans (aU.ofb HST.out.2)⟩
theorem vY{P:Program}(t E:TypeId)(ht:P.underlying t=some (.slice E))(hE:(P.info? E).map (·.size)=some 1):P.underlying t=some (.slice (P.elem t))/\∀W:World,(sizeOf (P.elem t)).run P W=.ok 1 W:=by
 have he:P.elem t=E:=by simp[Program.elem,ht]
 refine⟨by rw[he];exact ht,fun W=>?_⟩
 rw[he]
 cases hq:P.info? E with
 |none=>simp[hq]at hE
 |some inf=>
  have:inf.size=1:=by simpa[hq]using hE
  simp[sizeOf,typeInfo,hq,this]
theorem Sl.low{P:Program}{w:World}{v:Value}{l:List Value}(h:Sl w v l)(t E:TypeId)(ht:P.underlying t=some (.slice E))(hE:(P.info? E).map (·.size)=some 1)(n:Nat)(hn:n<=l.length):
  ∃u,(∀W:World,(Instr.sliceAt t v none (some (.int .i64 (n:Int))) none).run P W=.ok u W)/\Sl w u (l.take n):=by
 obtain⟨oa,cap,b,off,rfl,hd,hc⟩:=h;obtain⟨h1,h2⟩:=vY t E ht hE;have hcap:=hd.hcap;have hl:(l.take n).length=n:=by rw[List.length_take];omega
 refine⟨sliced oa 0 n cap 1,fun W=>?_,?_⟩
 ·rw[run_sliceAt_slice (P:=P) (t:=t) (h:=h1),run_slice_h (t:=t) (ht:=h1) (h0:=by omega) (h2:=by omega),h2]
  simp[Result.andThen]
 ·refine⟨if cap=0 then oa else oa.map (·.add (0*1)),cap,b,off,by rw[hl];simp[sliced],⟨fun h0=>?_,by omega,hd.hmax,by have:=hd.hsml;omega,fun h0=>hd.hblk (by omega)⟩,fun i hi=>?_⟩
  ·rw[hl]at h0
   rw[if_neg (by omega),hd.hat (by omega)]
   simp[aZ]
  ·rw[hl]at hi
   rw[hc i (by omega)]
   simp[List.getD,hi]
theorem Sl.high{P:Program}{w:World}{v:Value}{l:List Value}(h:Sl w v l)(t E:TypeId)(ht:P.underlying t=some (.slice E))(hE:(P.info? E).map (·.size)=some 1)(n:Nat)(hn:n<=l.length):
  ∃u,(∀W:World,(Instr.sliceAt t v (some (.int .i64 (n:Int))) none none).run P W=.ok u W)/\Sl w u (l.drop n):=by
 obtain⟨oa,cap,b,off,rfl,hd,hc⟩:=h;obtain⟨h1,h2⟩:=vY t E ht hE;have hcap:=hd.hcap;have hl:(l.drop n).length=l.length-n:=by rw[List.length_drop]
 refine⟨sliced oa n l.length cap 1,fun W=>?_,?_⟩
 ·rw[run_sliceAt_slice (P:=P) (t:=t) (h:=h1),run_slice_l (t:=t) (ht:=h1) (h0:=by omega) (h1:=by omega),h2]
  simp[Result.andThen]
 ·refine⟨if cap=n then oa else oa.map (·.add (n*1)),cap-n,b,off+n,by rw[hl];simp[sliced],⟨fun h0=>?_,by omega,by have:=hd.hmax;omega,by have:=hd.hsml;omega,fun h0=>hd.hblk (by omega)⟩,fun i hi=>?_⟩
  ·rw[hl]at h0
   rw[if_neg (by omega),hd.hat (by omega)]
   simp[aZ]
  ·rw[hl]at hi
   rw[Nat.add_assoc,hc (n+i) (by omega)]
   simp[List.getD]
theorem yW(l:List Nat)(n:Nat):(ints (nls l)).take n=ints (nls (l.take n)):=by simp[ints,nls,List.map_take]
theorem yX(l:List Nat)(n:Nat):(ints (nls l)).drop n=ints (nls (l.drop n)):=by simp[ints,nls,List.map_drop]
theorem cB(l:List Nat):(ints (nls l)).length=l.length:=by simp[ints,nls]
theorem Fx.ownB{S:Nat->Prop}{w w':World}{B E:Nat}{v:Value}{xs:List Value}(h:Fx S w w')(ho:Own w B E v xs)(hS:∀k,S k->k<B):Own w' B E v xs:=
 h.own ho (fun k hk hs=>by have:=(ho.lt k hk).1;have:=hS k hs;omega)
theorem iB.fx{S:Nat->Prop}{w w':World}{B g:Nat}{L:List Nat}(h:iB w B g L)(hf:Fx S w w')(hS:∀k,S k->k<B):iB w' B g L:=by
 obtain⟨E,fs,vf,hM,hok⟩:=h
 exact⟨E,fs,vf,⟨hf.ownB hM.box hS,hf.ownB hM.outer hS,hM.ne,fun k f hk=>⟨hf.ownB (hM.rows k f hk).1 hS,(hM.rows k f hk).2⟩,hM.apart⟩,hok⟩
theorem vZ(l:List Int)(o:Bool):bJ l o<=64:=by
 have hw:jU l<=3:=by
  unfold jU;split
  ·omega
  ·split<;>omega
 have he:bE l<=7:=by
  unfold bE;split
  ·omega
  ·split<;>omega
 unfold bJ;split
 ·omega
 ·split
  ·omega
  ·split
   ·omega
   ·split<;>omega
theorem q2x(a b:List Nat):cY a b<=64:=by
 have h1:=vZ (nls a) true;have h2:=vZ (nls b) true;unfold cY;split
 ·omega
 ·split<;>omega
theorem wA(N T:Nat)(L:List Nat)(n:Nat):∀(f:Nat) (l:List Nat) (st:Nat×Nat),l.length<=n->n-l.length<f->(bM N T L n f l st).2.1=0->(bM N T L n f l st).1.length=n:=by
 intro f
 induction f with
 |zero=>intro l st h1 h2;omega
 |succ f ih=>
  intro l st h1 h2 h
  by_cases hc:st.1=0/\l.length<n
  ·obtain⟨en,p⟩:=st
   obtain⟨h0,hlt⟩:=hc;simp only at h0;subst h0;rw[nG N T L n f l p hlt]at h⊢;obtain⟨f1,-,-,-⟩:=iE L (N/2^p) (T-p);generalize j9 L (N/2^p) (T-p)=r at*;unfold iF at h⊢
   by_cases h1':r.2.1≠0
   ·rw[if_pos h1']at h;exact absurd h h1'
   ·rw[if_neg h1']at h⊢
    by_cases h3:r.1<16
    ·rw[if_pos h3]at h⊢
     exact ih _ _ (by simp;omega) (by simp;omega) h
    ·rw[if_neg h3]at h⊢
     have hrp:=q0s N T r.1 l (p+r.2.2);generalize cN N T r.1 l (0,p+r.2.2)=m at*
     by_cases h4:n<l.length+m.1
     ·rw[if_pos h4]at h
      exfalso
      by_cases h5:m.2.2.1=0
      ·unfold xf at h;rw[if_pos h5]at h;cases h
      ·rw[U3 h5]at h;exact h5 h
     ·rw[if_neg h4]at h⊢
      by_cases h5:m.2.2.1=0
      ·have:=hrp h5
       exact ih _ _ (by simp;omega) (by simp;omega) h
      ·exfalso
       rw[dY _ _ _ _ _ _ _ (fun z=>h5 z.1)]at h
       exact h5 h
  ·rw[dY _ _ _ _ _ _ _ hc]at h⊢
   simp only at h⊢;have:¬l.length<n:=fun z=>hc ⟨h,z⟩
   omega
theorem nI(N T c:Nat)(x:List Nat×(Nat×Nat)):∀k,(jO N T c k x).1.length=x.1.length
 |0=>rfl
 |k+1=>by
  rw[jO];split
  ·simp only[List.length_set];exact nI N T c x k
  ·exact nI N T c x k
def wB(w:World)(B:Nat)(row:Option Nat)(c:List Value)(p:PtN):Prop:=
 ∃vo,c=[.int .i64 p.kind,.string p.text,vo,.slice none 0 0,.slice none 0 0]/\eK 3 w B 64 vo (p.ops.map opV)/\(∀q,vo.ownBlock=some q->row≠some q)/\p.lits=[]/\p.dists=[]
def dR(w:World)(B T:Nat)(v:Value)(l:List PtN):Prop:=∃cs,eK 5 w B T v cs/\cs.length=l.length/\∀i,i<l.length->wB w B v.ownBlock (cs.getD i []) (l.getD i zPt)
theorem dR.nil(w:World)(B T:Nat):dR w B T (.slice none 0 0) []:=⟨[],eK.nil 5 w B T,rfl,fun i hi=>absurd hi (Nat.not_lt_zero i)⟩
theorem wB.keep{w w':World}{B:Nat}{row r2:Option Nat}{c:List Value}{p:PtN}(h:wB w B row c p)(hg:w.grownBy w' row)(h2:∀q,r2=some q->row=some q\/w.heap.size<=q):wB w' B r2 c p:=by
 obtain⟨vo,hc,ho,hn,h3⟩:=h;refine⟨vo,hc,ho.keep hg ?_,fun q hq e=>?_,h3⟩
 ·cases hv:vo.ownBlock with
  |none=>exact .inl rfl
  |some q=>exact .inr (fun e=>hn q hv e.symm)
 ·rcases h2 q e with h4|h4
  ·exact hn q hq h4
  ·have:=(ho.lt q hq).2;omega
theorem dR.up{w w':World}{B T:Nat}{v:Value}{l:List PtN}(h:dR w B T v l)(hb:Below w.heap.size w w'):dR w' B T v l:=by
 obtain⟨cs,h1,h2,h3⟩:=h
 exact⟨cs,h1.up hb,h2,fun i hi=>(h3 i hi).keep (qv hb _) (fun q e=>.inl e)⟩
theorem wB.cells{w:World}{B:Nat}{row:Option Nat}{c:List Value}{p:PtN}(h:wB w B row c p):fW w c p:=by
 obtain⟨vo,hc,ho,-,h1,h2⟩:=h;refine⟨vo,.slice none 0 0,.slice none 0 0,hc,ho.sl,?_,?_⟩
 ·rw[h1];exact Sl.nil w
 ·rw[h2];exact Sl.nil w
theorem dR.at{w:World}{B T:Nat}{v:Value}{l:List PtN}(h:dR w B T v l):js w v l:=by
 obtain⟨cs,h1,h2,h3⟩:=h
 exact⟨cs,h1.sl,h2,fun i hi=>(h3 i hi).cells⟩
theorem mB(s:ByteArray)(a b:Nat):bys (s.extract a b)=((bys s).drop a).take (b-a):=by
 have:s=⟨(bys s).toArray⟩:=by cases s;simp[bys]
 conv=>lhs;rw[this]
 rw[ByteArray.extract_mk]
 simp[bys]
theorem uO(t:qK):bys ⟨t.toArray⟩=t:=by simp[bys]
theorem F6(t:qK)(n:Nat):(qD t).take n=qD (t.take n):=by simp[qD,List.map_take]
theorem iG(t:qK)(n:Nat):(qD t).drop n=qD (t.drop n):=by simp[qD,List.map_drop]
theorem q2y(kd:Int)(tx:ByteArray)(o1:Option Addr)(n1 c1:Nat):∀x∈([[Value.int .i64 kd,.string tx,.slice o1 n1 c1,.slice none 0 0,.slice none 0 0]]:List (List Value)),x.length=5:=by
 intro x hx;simp at hx;subst hx;rfl
theorem q2z(w:World)(T:Nat)(kd:Int)(tx:ByteArray)(o1:Option Addr)(n1 c1:Nat):SlK 5 (w.alloc (.cells #[.int .i64 kd,.string tx,.slice o1 n1 c1,.slice none 0 0,.slice none 0 0] T)) (.slice (some ⟨w.heap.size,0,none⟩) 1 1) [[.int .i64 kd,.string tx,.slice o1 n1 c1,.slice none 0 0,.slice none 0 0]]:=by
 have h:=iY 5 w #[.int .i64 kd,.string tx,.slice o1 n1 c1,.slice none 0 0,.slice none 0 0] T [[.int .i64 kd,.string tx,.slice o1 n1 c1,.slice none 0 0,.slice none 0 0]] rfl (q2y kd tx o1 n1 c1) (by simp)
 simpa using h
theorem iH{P:Program}{ops:Array Oper}{rest:List Oper}{o:Oper}{a:Act}{w:World}{Q:Exit->Act->World->Prop}(hgd:o.guard=none)(x y:Operand)(t1 t2:TypeId)(ho:o.op=.call {callee:=.builtin .min,args:=#[x,y],argTypes:=#[t1,t2]})(m n k:Nat)(hx:a.eval x=.int .i64 m)(hy:a.eval y=.int .i64 n)(hk:k=min m n)
  (h:wpList P ops Q rest (a.put o.dst (.int .i64 k)) w):wpList P ops Q (o::rest) a w:=by
 have hr:=run_min_int2 (P:=P) (w:=w) #[t1,t2] o.type .i64 .i64 (m:Int) (n:Int);have hkk:(if(n:Int)<(m:Int)then(n:Int)else(m:Int))=(k:Int):=by rw[hk];split<;>omega
 rw[hkk]at hr;refine wpList_plain hgd fun K hK=>?_
 unfold Oper.wp execOp;simp only[ho,resolve,invoke,builtin,Sem.run_bind,Sem.run_pure,Result.andThen_ok,List.map_toArray,List.map_cons,List.map_nil,hx,hy,hr]
 exact hK _ _ h
theorem jQ{P:Program}{ops:Array Oper}{rest:List Oper}{o:Oper}{a:Act}{w:World}{Q:Exit->Act->World->Prop}(hgd:o.guard=none)(t:TypeId)(x:Operand)(lo hi mx:Option Operand)(ho:o.op=.slice t x lo hi mx)(v:Value)(hr:(Instr.sliceAt t (a.eval x) (lo.map a.eval) (hi.map a.eval) (mx.map a.eval)).run P w=.ok v w)
  (h:wpList P ops Q rest (a.put o.dst v) w):wpList P ops Q (o::rest) a w:=by
 refine wpList_plain hgd fun K hK=>?_
 unfold Oper.wp execOp;simp only[ho,Sem.run_bind,Sem.run_pure,Result.andThen_ok,hr]
 exact hK _ _ h
theorem aD{P:Program}{ops:Array Oper}{rest:List Oper}{o:Oper}{a:Act}{w:World}{Q:Exit->Act->World->Prop}(hgd:o.guard=none)(s d:TypeId)(x:Operand)(ho:o.op=.convert s d x)(v:Value)(hr:(convert s d (a.eval x)).run P w=.ok v w)
  (h:wpList P ops Q rest (a.put o.dst v) w):wpList P ops Q (o::rest) a w:=by
 refine wpList_plain hgd fun K hK=>?_
 unfold Oper.wp execOp;simp only[ho,Sem.run_bind,Sem.run_pure,Result.andThen_ok,hr]
 exact hK _ _ h
theorem wB.mono{w:World}{B B':Nat}{row:Option Nat}{c:List Value}{p:PtN}(h:wB w B row c p)(hB:B'<=B):wB w B' row c p:=by
 obtain⟨vo,h1,h2,h3⟩:=h
 exact⟨vo,h1,h2.mono hB,h3⟩
theorem dR.mono{w:World}{B B' T:Nat}{v:Value}{l:List PtN}(h:dR w B T v l)(hB:B'<=B):dR w B' T v l:=by
 obtain⟨cs,h1,h2,h3⟩:=h
 exact⟨cs,h1.mono hB,h2,fun i hi=>(h3 i hi).mono hB⟩
theorem eQ{P:Program}(T E n:Nat)(hT:P.underlying T=some (.array n E))(hE:P.underlying E=some (.int .i64))(hs:(P.info? E).map (·.size)=some 1)(A:Array Value)(j:Nat)(hj:j<n)(v:Value)(hv:A[j]? =some v):
  ∀W:World,(Instr.index T (.agg A) (.int .i64 (j:Int))).run P W=.ok v W:=by
 intro W
 have hsz:(sizeOf E).run P W=.ok 1 W:=by
  cases hq:P.info? E with
  |none=>simp[hq]at hs
  |some inf=>
   have:inf.size=1:=by simpa[hq]using hs
   simp[sizeOf,typeInfo,hq,this]
 have hag:(isAgg E).run P W=.ok false W:=by unfold isAgg;rw[Sem.run_bind,run_underlying hE];rfl
 have hc:(0:Int)<=(j:Int)/\(j:Int)<((n:Nat):Int):=by omega
 simp only[Instr.index,asIntOf,Sem.run_bind,Sem.run_pure,Result.andThen_ok,run_underlying hT];rw[if_pos hc];simp only[Sem.run_bind,hsz,Result.andThen_ok,part,hag,Int.toNat_natCast,Nat.mul_one,hv]
 rfl
theorem sL(j:Nat):eZ.getD j 0<19:=by
 by_cases h:j<19
 ·have:∀j,j<19->eZ.getD j 0<19:=by decide
  exact this j h
 ·rw[List.getD_eq_getElem?_getD,List.getElem?_eq_none (by show 19<=j;omega)];decide
theorem q8t(j:Nat)(h:j<19):((ints (nls eZ)).toArray)[j]? =some (.int .i64 (eZ.getD j 0:Nat)):=by
 have hl:j<eZ.length:=h
 simp[ints,nls,List.getD,hl]
theorem gN(N T c k:Nat)(x:List Nat×(Nat×Nat)):jO N T c (k+1) x=if k<4+c/\(jO N T c k x).2.1=0 then((jO N T c k x).1.set (eZ.getD k 0) (xb N T 3 (jO N T c k x).2).1,(xb N T 3 (jO N T c k x).2).2)else jO N T c k x:=rfl
theorem q2A{w:World}{q g b p k z:Nat}{s:ByteArray}{fin:Bool}(h:eL w q g s (0,p))(hh:fA w b fin k z (.slice none 0 0) (.slice none 0 0))(hq:q≠b)(hg:g≠b)(hs:s.size<=4294967296):
  Calls Tryz.prog 181 #[.pointer (some ⟨q,0,none⟩),.pointer (some ⟨b,0,none⟩)] w fun e w'=>e=.returned (.tuple #[])/\eL w' q g s (dynN (qH s) (8*s.size) (0,p)).2.2/\aU q g b w w'/\
   ∃v1 v2,fA w' b fin k z v1 v2/\((dynN (qH s) (8*s.size) (0,p)).2.2.1=0->Own w' w.heap.size 3 v1 (ints (nls (dynN (qH s) (8*s.size) (0,p)).1))/\Own w' w.heap.size 3 v2 (ints (nls (dynN (qH s) (8*s.size) (0,p)).2.1))):=by
 have HT:=q7 h;have HH:=q7 hh;have hqw:=h.src.lt;have hbw:=hh.lt;have hgw:=h.box.lt;have HSB:=q7 (fun(W:World) (st:Nat×Nat) (n:Nat) (hn:n<=32) (h:eL W q g s st)=>vV h hs n hn)
 have HXL:=q7 (fun st n=>tP (qH s) (8*s.size) n st)
 have HFA:=q7 (fun(W:World) (st:Nat×Nat) (er:Nat) (he:er<=64) (h:eL W q g s st)=>F4 h er he)
 have HRS:=q7 (fun(W:World) (gt:Nat) (st:Nat×Nat) (h:eL W q g s st)=>q8E (gt:=gt) h hs)
 have HRP:=q7 (fun(W:World) (B gt p:Nat) (L:List Nat) (hT:iB W B gt L) (h15:∀x∈L,x<=15) (h:cX W g s p) (hp:p<=8*s.size)=>q4t hT h h15 hs hp)
 obtain⟨D,hD⟩:∃D,D=dynN (qH s) (8*s.size) (0,p):=⟨_,rfl⟩;rw[<-hD];unfold dynN at hD;clear h hh;generalize hNN:qH s=N at HSB HXL hD;generalize hTT:8*s.size=T at HSB HXL hD;have HNN:=q7 hNN;have HTT:=q7 hTT;clear hNN hTT;obtain⟨r1,h1⟩:∃r1,r1=xb N T 5 (0,p):=⟨_,rfl⟩;rw[<-h1]at hD;obtain⟨r2,h2⟩:∃r2,r2=xb N T 5 r1.2:=⟨_,rfl⟩;rw[<-h2]at hD;obtain⟨r3,h3⟩:∃r3,r3=xb N T 4 r2.2:=⟨_,rfl⟩;rw[<-h3]at hD;have hx1:=HXL.out (0,p) 5;have hx2:=HXL.out r1.2 5;have hx3:=HXL.out r2.2 4;have HB1:=q7 (fun W h=>HSB.out W (0,p) 5 (by omega) h)
 have HB2:=q7 (fun W h=>HSB.out W r1.2 5 (by omega) h)
 have HB3:=q7 (fun W h=>HSB.out W r2.2 4 (by omega) h)
 have HB4:Hid (∀(W:World) (st:Nat×Nat),eL W q g s st->Calls Tryz.prog 179 #[.pointer (some ⟨q,0,none⟩),.int .i64 3] W fun e w'=>e=.returned (.int .i64 ((xb N T 3 st).1:Nat))/\eL w' q g s (xb N T 3 st).2/\Two q g W w'):=q7 (fun W st h=>HSB.out W st 3 (by omega) h)
 rw[<-h1]at HB1 hx1;rw[<-h2]at HB2 hx2;rw[<-h3]at HB3 hx3;rw[show((5:Nat):Int)=5 from rfl]at HB1 HB2
 rw[show((4:Nat):Int)=4 from rfl]at HB3
 clear h1 h2 h3 HSB;obtain⟨a,s1⟩:=r1;obtain⟨d,s2⟩:=r2;obtain⟨c,s3⟩:=r3;simp only at hx1 hx2 hx3 hD;unfold dynM at hD;obtain⟨la,hla⟩:∃la,la=257+a:=⟨_,rfl⟩;obtain⟨lb,hlb⟩:∃lb,lb=1+d:=⟨_,rfl⟩;obtain⟨st4,h4⟩:∃st4,st4=if 286<la\/30<lb then xf 3 s3 else s3:=⟨_,rfl⟩
 rw[<-hla,<-hlb,<-h4]at hD;have HD:=q7 hD;have HLA:=q7 hla;have HLB:=q7 hlb;have H4:=q7 h4
 have H4E:Hid (st4.1=0->la<=286/\lb<=30):=q7 (fun h=>by
  by_cases hc:286<la\/30<lb
  ·exfalso
   rw[h4,if_pos hc]at h
   by_cases h0:s3.1=0
   ·unfold xf at h;rw[if_pos h0]at h;cases h
   ·rw[U3 h0]at h;exact h0 h
  ·omega)
 clear hD hla hlb h4
 go_enter Tryz.func181,Tryz.ntmps181
 go_upto_region 1 with(go_at_call 179;first|((with_reducible refine(HB1.out w HT.out).mono ?_);rintro e w1 ⟨rfl,hb1,hb2⟩;(have HS1:=q7 hb1;have HF1:=q7 (aU.of2 (b:=b) hb2);have HH1:=q7 (HH.out.fx hb2 (fun e=>e.elim (fun e=>hq e.symm) (fun e=>hg e.symm)));clear hb1 hb2 HB1))|((with_reducible refine(HB2.out w1 HS1.out).mono ?_);rintro e w2 ⟨rfl,hb1,hb2⟩;(have HS2:=q7 hb1;have HF2:=q7 (HF1.out.trans (aU.of2 hb2));have HH2:=q7 (HH1.out.fx hb2 (fun e=>e.elim (fun e=>hq e.symm) (fun e=>hg e.symm)));clear hb1 hb2 HB2))|((with_reducible refine(HB3.out w2 HS2.out).mono ?_);rintro e w3 ⟨rfl,hb1,hb2⟩;(have HS3:=q7 hb1;have HF3:=q7 (HF2.out.trans (aU.of2 hb2));have HH3:=q7 (HH2.out.fx hb2 (fun e=>e.elim (fun e=>hq e.symm) (fun e=>hg e.symm)));clear hb1 hb2 HB3)))
 clear HS1 HF1 HH1 HS2 HF2 HH2;rw[show(257:Int)+(a:Int)=(la:Int) by rw[HLA.out];go_num,show(1:Int)+(d:Int)=(lb:Int) by rw[HLB.out];go_num,show(4:Int)+(c:Int)=((4+c:Nat):Int) by go_num]
 have qlB:la<=300:=by have:=HLA.out;omega
 have qlA:lb<=300:=by have:=HLB.out;omega
 have hsz:=HF3.out.size
 go_cut [4,5,6,28] (fun x4 x5 x6 x28 wx=>x4=.int .i64 (la:Int)/\x5=.int .i64 (lb:Int)/\x6=.int .i64 ((4+c:Nat):Int)/\x28=.bool (decide (286<la\/30<lb))/\wx=w3)
 case first=>
  by_cases hc1:286<la
  ·have hi:(la:Int)>286:=by omega
   go_wp2
   go_meet
   case rel=>exact⟨rfl,rfl,rfl,by simp[hc1],rfl⟩
  ·have hi:¬(la:Int)>286:=by omega
   by_cases hc2:30<lb
   ·have hi2:(lb:Int)>30:=by omega
    go_wp2
    go_meet
    case rel=>exact⟨rfl,rfl,rfl,by simp[hc1,hc2],rfl⟩
   ·have hi2:¬(lb:Int)>30:=by omega
    go_wp2
    go_meet
    case rel=>exact⟨rfl,rfl,rfl,by simp[hc1,hc2],rfl⟩
 case rest=>
 obtain⟨rfl,rfl,rfl,rfl,rfl⟩:=hcut
 go_upto_if 28 with fail
 go_cut [4,5,6] (fun x4 x5 x6 wx=>x4=.int .i64 (la:Int)/\x5=.int .i64 (lb:Int)/\x6=.int .i64 ((4+c:Nat):Int)/\eL wx q g s st4/\aU q g b w wx/\fA wx b fin k z (.slice none 0 0) (.slice none 0 0))
 case first=>
  have HC4:=q7 (HFA.out _ s3 3 (by omega) HS3.out)
  rw[show((3:Nat):Int)=3 from rfl]at HC4
  by_cases hc1:286<la\/30<lb
  ·have HST:Hid (st4=xf 3 s3):=q7 (by rw[H4.out,if_pos hc1])
   have hdt:decide (286<la\/30<lb)=true:=decide_eq_true hc1;rw[hdt]
   go_wp2_with(go_at_call 182;(with_reducible refine HC4.out.mono ?_);rintro e w4 ⟨rfl,hb1,hb2⟩;(have HS4:=q7 hb1;have HF4:=q7 (HF3.out.trans (aU.of2 hb2));have HH4:=q7 (HH3.out.fx hb2 (fun e=>e.elim (fun e=>hq e.symm) (fun e=>hg e.symm)));clear hb1 hb2))
   go_meet
   case rel=>exact⟨rfl,rfl,rfl,by rw[HST.out];exact HS4.out,HF4.out,HH4.out⟩
  ·have HST:Hid (st4=s3):=q7 (by rw[H4.out,if_neg hc1])
   have hdt:decide (286<la\/30<lb)=false:=decide_eq_false hc1;rw[hdt];go_wp2
   go_meet
   case rel=>exact⟨rfl,rfl,rfl,by rw[HST.out];exact HS3.out,HF3.out,HH3.out⟩
 case rest=>
  obtain⟨rfl,rfl,rfl,hs4,hf4,hh4⟩:=hcut;clear HS3 HF3 HH3 HXL;have HS4:=q7 hs4;have HF4:=q7 hf4;have HH4:=q7 hh4;have qiW:=hf4.size;clear hs4 hf4 hh4 hsz;have hmk:∀W:World,(Instr.makeSlice 66 (.int .i64 19) (.int .i64 19)).run Tryz.prog W=.ok (.slice (some ⟨W.heap.size,0,none⟩) 19 19) (W.alloc (.cells (madeCells #[Value.int .i64 0] 19) 3)):=rP (P:=Tryz.prog) 66 3 (.int .i64 0) 8 19 Tryz.underlying66 (by kernel_rfl) rfl (by decide) (by omega)
  have hom:=rD wc w.heap.size 3 (.int .i64 0) 19 qiW (by decide)
  have hzl:List.replicate 19 (Value.int .i64 0)=ints (nls (List.replicate 19 0)):=rfl;rw[hzl]at hom;clear hzl;obtain⟨Z,hZ⟩:∃Z,Z=List.replicate 19 0:=⟨_,rfl⟩;rw[<-hZ]at hom HD;have HZ:Hid (Z.length=19):=q7 (by rw[hZ];rfl)
  have HOM:=q7 hom;clear hZ hom;generalize madeCells #[Value.int .i64 0] 19=MC at*;obtain⟨O,hO⟩:∃O,O=(ints (nls eZ)).toArray:=⟨_,rfl⟩;have HO:Hid (∀j,j<19->O[j]? =some (.int .i64 (eZ.getD j 0:Nat))):=q7 (fun j hj=>by rw[hO];exact q8t j hj)
  have HOR:Hid (∀W:World,Calls Tryz.prog 140 #[] W fun e w'=>e=.returned (.agg O)/\Below W.heap.size W w'):=q7 (fun W=>by rw[hO];exact q8r W)
  clear hO;have q9h:=q7 (fun j=>gN N T c j (Z,st4))
  have HCL:=q7 (fun j=>nI N T c (Z,st4) j)
  have HK0:Hid (jO N T c 0 (Z,st4)=(Z,st4)):=q7 rfl
  go_wp2_with(go_at_call 140;(with_reducible refine(HOR.out _).mono ?_);rintro e w5 ⟨rfl,hb5⟩;(have HB5:=q7 hb5;clear hb5))
  have HO5:=q7 (HOM.out.up HB5.out);have HB4:=q7 (qn wc (.cells MC 3));have HS5:=q7 ((HS4.out.up HB4.out).up HB5.out);have HF5:Hid (aU q g b w w5):=q7 ((HF4.out.trans (qP HB4.out)).trans (qP HB5.out));have HH5:=q7 ((HH4.out.up HB4.out).up HB5.out);have qlV:wc.heap.size<w5.heap.size:=qd (by simp) HB5.out.size
  clear HOM HB4 HB5 HS4 HF4 HH4 hmk HOR;generalize wc.heap.size=gc at*
  go_loopg [33] 20 (fun gk i wr=>∃j,j<=19/\i=.int .i64 (j:Nat)/\Own wr w.heap.size 3 (.slice (some ⟨gc,0,none⟩) 19 19) (ints (nls (jO N T c j (Z,st4)).1))/\eL wr q g s (jO N T c j (Z,st4)).2/\aU q g b w wr/\fA wr b fin k z (.slice none 0 0) (.slice none 0 0)/\gk=20-j)
  case atStart=>exact⟨0,qc _,rfl,by rw[HK0.out];exact HO5.out,by rw[HK0.out];exact HS5.out,HF5.out,HH5.out,rfl⟩
  case round=>
   clear HO5 HS5 HF5 HH5 HK0;obtain⟨j,hj,rfl,ho,hsr,hf,hh,hgk⟩:=hrel;have HOW:=q7 ho;have HSW:=q7 hsr;have HFW:=q7 hf;have HHW:=q7 hh;have qaG:=hf.size;have qjw:=(ho.lt gc rfl).2;have hcl:=HCL.out j;have hst:=q9h.out j;clear ho hsr hf hh
   by_cases hlt:j<19
   ·clear q9h HCL HD
    generalize jO N T c j (Z,st4)=K at*;obtain⟨L,en,p5⟩:=K;have HST:=q7 hst;have hcell:=HO.out j hlt;have hy:=sL j;have hji:(j:Int)<19:=by omega
    have qjn:=eQ (P:=Tryz.prog) 219 3 19 Tryz.underlying219 Tryz.underlying3 (by kernel_rfl) O j hlt _ hcell
    have HLL:Hid (L.length=19):=q7 (by rw[<-HZ.out];exact hcl)
    clear hst hcl;generalize eZ.getD j 0=y at*;have c0:=HSW.out.src.c0;have c1:=HSW.out.src.c1;have he:(((L,en,p5).2.1:Nat):Int)=(en:Int):=rfl;rw[he]at c1;clear he;have hqr:=HSW.out.src.lt
    by_cases hc:j<4+c
    ·have hci:(j:Int)<((4+c:Nat):Int):=by omega
     by_cases h0:en=0
     ·subst h0
      have HK2:Hid (jO N T c (j+1) (Z,st4)=(L.set y (xb N T 3 (0,p5)).1,(xb N T 3 (0,p5)).2)):=q7 (by rw[HST.out];exact if_pos ⟨hc,rfl⟩)
      have HBC:=q7 (HB4.out wr (0,p5) HSW.out);generalize xb N T 3 (0,p5)=r at*;obtain⟨x,st6⟩:=r;clear HST HB4;have hd:Hd wr (some ⟨gc,0,none⟩) 19 19 gc 0:=⟨fun _=>rfl,q9 _,by decide,by decide,fun _=>qjw⟩
      have qbC:=fun W:World=>qQ (P:=Tryz.prog) 66 3 Tryz.underlying66 (by kernel_rfl) hd W .i64 (y:Int) (by omega) (by omega)
      simp only[Nat.zero_add,Int.toNat_natCast]at qbC;have HSL:Hid ((ints (nls L)).set y (.int .i64 (x:Nat))=ints (nls (L.set y x))):=q7 (by rw[mY,i7])
      clear hd
      go_wp2_with(go_at_call 179;(with_reducible refine HBC.out.mono ?_);rintro e w6 ⟨rfl,hb1,hb2⟩;(have HS6:=q7 hb1;have HF6:=q7 (HFW.out.trans (aU.of2 hb2));have HH6:=q7 (HHW.out.fx hb2 (fun e=>e.elim (fun e=>hq e.symm) (fun e=>hg e.symm)));have HO6:=q7 (hb2.ownB HOW.out (fun k hk=>hk.elim (fun e=>by omega) (fun e=>by omega)));have hf6:=HO6.out.free y;have qjx:=(HO6.out.lt gc rfl).2;have qa1:=q7 (HO6.out.store y (.int .i64 (x:Nat)));have qmh:=HO6.out.cell (i:=y) (by rw[cB];show y<L.length;rw[HLL.out];exact hy);clear hb1 hb2))
      go_roundg (20-(j+1))
      case measure=>omega
      case rel=>
       have q9C:=qa1.out;rw[HSL.out]at q9C;refine⟨j+1,by omega,by go_num,?_,?_,?_,?_,rfl⟩
       ·rw[HK2.out];exact q9C.1
       ·rw[HK2.out]
        exact⟨HS6.out.src.keep q9C.2 (fun e=>by injection e with e;omega),HS6.out.box.stay q9C.2 (fun e=>by injection e with e;omega),HS6.out.ne,HS6.out.le,HS6.out.err⟩
       ·exact HF6.out.grown q9C.2 (fun k e=>.inr (by injection e with e;omega))
       ·exact HH6.out.stay q9C.2 (fun e=>by injection e with e;omega)
     ·have h0':((en:Int)==0)=false:=by simp;omega
      have HK2:Hid (jO N T c (j+1) (Z,st4)=(L,en,p5)):=q7 (by rw[HST.out];exact if_neg (fun z=>h0 z.2))
      clear HST HB4 h0;go_wp2
      go_roundg (20-(j+1))
      case measure=>omega
      case rel=>exact⟨j+1,by omega,by go_num,by rw[HK2.out];exact HOW.out,by rw[HK2.out];exact HSW.out,HFW.out,HHW.out,rfl⟩
    ·have hci:¬(j:Int)<((4+c:Nat):Int):=by omega
     have HK2:Hid (jO N T c (j+1) (Z,st4)=(L,en,p5)):=q7 (by rw[HST.out];exact if_neg (fun z=>hc z.1))
     clear HST HB4;go_wp2
     go_roundg (20-(j+1))
     case measure=>omega
     case rel=>exact⟨j+1,by omega,by go_num,by rw[HK2.out];exact HOW.out,by rw[HK2.out];exact HSW.out,HFW.out,HHW.out,rfl⟩
   ·obtain rfl:j=19:=by omega
    clear hlt q9h HB4 HO hst;generalize jO N T c 19 (Z,st4)=K at*;obtain⟨L,en,p5⟩:=K;have qh8:L.length=19:=by rw[<-HZ.out];exact hcl
    have HLL:=q7 qh8;have c0:=HSW.out.src.c0;have c1:=HSW.out.src.c1;have he:(((L,en,p5).2.1:Nat):Int)=(en:Int):=rfl;rw[he]at c1;have hqr:=HSW.out.src.lt;have HLT:Hid (wr.cell? ⟨q,1,none⟩=wr.cell? ⟨q,1,none⟩):=q7 rfl;clear he hcl qh8 HLT HCL HZ H4
    by_cases h0:en=0
    ·subst h0
     have HI:=q7 (show qT wr (.slice (some ⟨gc,0,none⟩) 19 19) (nls L)from HOW.out.sl)
     have HFI:=q7 (fun(W:World) (hb:Below wr.heap.size wr W)=>q0p (.slice (some ⟨gc,0,none⟩) 19 19) (nls L) false W (HI.out.up hb))
     have HNW:=q7 (q7x (.slice (some ⟨gc,0,none⟩) 19 19) (nls L) wr HI.out);unfold yQ at HNW;have HFE:=q7 (fun h=>kD (l:=nls L) false h)
     have HFL:=q7 (vZ (nls L) false);have HEL:=q7 (fun h=>gM (l:=nls L) h)
     have hhd:=HD.out;unfold dynL at hhd
     dsimp only at hhd
     have qcW:¬((0:Nat)≠0):=fun h=>h rfl
     rw[if_neg qcW]at hhd;have HD2:=q7 hhd;clear HD hhd qcW;generalize bJ (nls L) false=F at*;generalize bE (nls L)=E at*
     by_cases hF:F=0
     ·subst hF
      have hE:E=0:=by
       apply qf;intro hn
       exact hn (HFE.out hn).symm
      subst hE;have HD3:Hid (D=if(bM N T L (257+a+(1+d)) (257+a+(1+d)+1) [] (0,p5)).2.1≠0 then([],[],(bM N T L (257+a+(1+d)) (257+a+(1+d)+1) [] (0,p5)).2)else((bM N T L (257+a+(1+d)) (257+a+(1+d)+1) [] (0,p5)).1.take (257+a),(bM N T L (257+a+(1+d)) (257+a+(1+d)+1) [] (0,p5)).1.drop (257+a),cY ((bM N T L (257+a+(1+d)) (257+a+(1+d)+1) [] (0,p5)).1.take (257+a)) ((bM N T L (257+a+(1+d)) (257+a+(1+d)+1) [] (0,p5)).1.drop (257+a)),(bM N T L (257+a+(1+d)) (257+a+(1+d)+1) [] (0,p5)).2.2)):=q7 (by rw[HD2.out,if_neg (fun h=>h rfl)])
      have hla:=HLA.out;have hlb:=HLB.out;rw[<-hla,<-hlb]at HD3;clear hla hlb HD2;obtain⟨L',hL',-,h15,-⟩:=HEL.out rfl
      have qfb:L'=L:=by
       have:=congrArg (List.map Int.toNat) hL';rw[jm,jm]at this
       exact this.symm
      subst qfb;clear hL' HEL HFE;have hnn:=HNN.out;have htt:=HTT.out;subst hnn htt
      have HN:Hid (Calls Tryz.prog 157 #[.slice (some ⟨gc,0,none⟩) 19 19] wr fun e w'=>∃gt,e=.returned (.tuple #[.pointer (some ⟨gt,0,none⟩),.int .i64 0])/\iB w' wr.heap.size gt L'/\Below wr.heap.size wr w'):=q7 (HNW.out.mono fun e w' ⟨hb,h⟩=>by
       rcases h with⟨-,gt,he,hT⟩|⟨hne,-⟩
       ·rw[jm]at hT;exact⟨gt,he,hT,hb⟩
       ·exact absurd rfl hne)
      have H15:=q7 h15;clear HNW h15;obtain⟨r,hr⟩:∃r,r=bM (qH s) (8*s.size) L' (la+lb) (la+lb+1) [] (0,p5):=⟨_,rfl⟩;have HRL:Hid (r.2.1=0->r.1.length=la+lb):=q7 (fun h=>by rw[hr]at h⊢;exact wA _ _ _ _ _ _ _ (qc _) (by simp) h)
      have hq2:=HSW.out.src.lt;have hg2:=HSW.out.box.lt
      have q97:Hid (∀(W:World) (gt:Nat),eL W q g s (0,p5)->iB W wr.heap.size gt L'->Calls Tryz.prog 196 #[.pointer (some ⟨q,0,none⟩),.pointer (some ⟨gt,0,none⟩),.int .i64 ((la:Int)+(lb:Int))] W fun e w'=>∃v,e=.returned v/\Own w' W.heap.size 3 v (ints (nls r.1))/\eL w' q g s r.2/\Two q g W w'):=q7 (fun W gt hW hT=>by
       have:=HRS.out W gt (0,p5) hW (la+lb) (by omega) L' (by rw[HLL.out];decide) (fun W' p' hf hb hp=>HRP.out W' wr.heap.size gt p' L' (hT.fx hf (fun k hk=>hk.elim (fun e=>by omega) (fun e=>by omega))) H15.out hb hp)
       rw[<-hr,Int.natCast_add]at this
       exact this)
      rw[<-hr]at HD3;clear hr HRS HRP;obtain⟨R,en6,p6⟩:=r
      dsimp only at HD3 HRL q97
      by_cases h6:en6=0
      ·subst h6
       have qbR:Hid (R.length=la+lb):=q7 (HRL.out rfl);have HDX:Hid (D=(R.take la,R.drop la,cY (R.take la) (R.drop la),p6)):=q7 (by rw[HD3.out];exact if_neg (fun h=>h rfl))
       have HTB:Hid (∀{w7 w8:World} {gt:Nat},iB w7 wr.heap.size gt L'->Below w7.heap.size w7 w8->iB w8 wr.heap.size gt L'):=q7 (fun h hb=>h.fx (S:=fun _=>False) (qP hb) (fun k hk=>hk.elim))
       clear HD3 HRL
       go_wp2_with(first|(go_at_call 157;(with_reducible refine HN.out.mono ?_);rintro e w7 ⟨gt,rfl,hT7,hb7⟩;(have HT7:=q7 hT7;have HB7:=q7 hb7;have HFC:=q7 (HFI.out w7 hb7);clear hT7 hb7))|(go_at_call 169;(with_reducible refine HFC.out.mono ?_);rintro e w8 ⟨rfl,hb8⟩;(have HB8:=q7 (qq HB7.out hb8);have HS8:=q7 (HSW.out.up (qq HB7.out hb8));have HT8:=q7 (HTB.out HT7.out hb8);have HRC:=q7 (q97.out w8 gt HS8.out HT8.out);clear hb8))|(go_at_call 196;(with_reducible refine HRC.out.mono ?_);rintro e w9 ⟨v9,rfl,hb9,hc9,hd9⟩;(have HR9:=q7 hb9;have HS9:=q7 hc9;have HF9:=q7 hd9;have cc9:=hc9.src.c1;have cq9:=hc9.src.lt;have hee:(((0,p6):Nat×Nat).1:Int)=(0:Int):=rfl;rw[hee]at cc9;clear hb9 hc9 hd9 hee)))
       have qfV:Hid (aU q g b w w9):=q7 ((HFW.out.trans (qP HB8.out)).trans (aU.of2 HF9.out));have HH9:=q7 ((HHW.out.up HB8.out).fx HF9.out (fun e=>e.elim (fun e=>hq e.symm) (fun e=>hg e.symm)))
       have hrl:=qbR.out;obtain⟨u1,hu1,qan⟩:=HR9.out.sl.low (P:=Tryz.prog) 66 3 Tryz.underlying66 (by kernel_rfl) la (by rw[cB];omega)
       obtain⟨u2,hu2,q9v⟩:=HR9.out.sl.high (P:=Tryz.prog) 66 3 Tryz.underlying66 (by kernel_rfl) la (by rw[cB];omega)
       rw[yW]at qan;rw[yX]at q9v;have HL1:=q7 qan;have HL2:=q7 q9v;have HN1:Hid ((ints (nls (R.take la))).length<=4294967296/\(ints (nls (R.drop la))).length<=4294967296):=q7 (by simp[ints,nls];omega)
       have HZ0:Hid (w.heap.size<=w9.heap.size):=q7 qfV.out.size;clear qan q9v hrl HSW HFW HHW HOW HFI HN q97 HB7 HFC HB8 HS8 HT8 HT7 HRC HF9 HTB HI c0 c1;refine jE (C:=fun w'=>∃x,w'=chg w9 (some b) x) (.q 0 (.q 1 (.q 2 (.q 3 (.q 4 (.q 6 (.q 7 (.q 8 (.br 5 (.br 9 (.br 10 (.br 11 (.br 12 (.br 13 (.br 14 (.br 15 .done .no) .no) .no) .no) .no) .no) .no) .no))))))))) (by kernel_rfl) (by kernel_rfl) (qW (qV _ _)) ?_
       have q9i:Hid (Below w9.heap.size w9 w9.drew):=q7 (qS (qj _ _));generalize w9.drew=w10 at*;have qbS:=q7 q9i.out.size
       (repeat((unfold qX;simp only[pk]);go_big_quiet_step (fail);refine wpQuiet_nil ?_))
       ((unfold qX;simp only[pk]);refine⟨?_,by unfold qX;trivial⟩;unfold qy)
       go_wp2_with(at_builtin;refine jt rfl (.const (.slice none 0 0)) (.tmp 91) 66 rfl w.heap.size 3 (.int .i64 0) 8 Tryz.underlying66 (by kernel_rfl) rfl (by decide) (.slice none 0 0) [] rfl (Own.nil _ _ _) u1 (ints (nls (R.take la))) rfl (HL1.out.up q9i.out) (cQ _) (by have:=HN1.out.1;simpa using this) (qa HZ0.out qbS.out) ?_;intro v1 w11 hown1 hg1 hk1;(have qak:=q7 hown1;have qbj:=q7 hg1;clear hown1 hg1 hk1))
       have qai:Hid (Below w9.heap.size w9 w11):=q7 (q9i.out.grown qbj.out qbS.out (fun k hk=>by cases hk))
       refine⟨qW (qv qai.out _),?_⟩;unfold qy
       ((unfold qX;simp only[pk]);refine⟨?_,by unfold qX;trivial⟩;unfold qy)
       go_wp2_with(at_builtin;refine jt rfl (.const (.slice none 0 0)) (.tmp 95) 66 rfl w.heap.size 3 (.int .i64 0) 8 Tryz.underlying66 (by kernel_rfl) rfl (by decide) (.slice none 0 0) [] rfl (Own.nil _ _ _) u2 (ints (nls (R.drop la))) rfl (HL2.out.up qai.out) (cQ _) (by have:=HN1.out.2;simpa using this) (qa HZ0.out qai.out.size) ?_;intro v2 w12 hown1 hg1 hk1;(have q9N:=q7 hown1;have qfR:=q7 hg1;clear hown1 hg1 hk1))
       have q99:Hid (Below w9.heap.size w9 w12):=q7 (qai.out.grown qfR.out qai.out.size (fun k hk=>by cases hk))
       refine⟨qW (qv q99.out _),?_⟩;unfold qy;have q9n:=q7 (qak.out.keep qfR.out (qM (fun k hk e=>by cases e)))
       rw[List.nil_append]at q9N q9n;obtain⟨o1,c1',g1,hv1,-⟩:=q9n.out.cases;obtain⟨o2,c2',g2,hv2,-⟩:=q9N.out.cases;subst hv1 hv2;generalize (ints (nls (R.take la))).length=n1 at*;generalize (ints (nls (R.drop la))).length=n2 at*;have q9A:=q7 (HH9.out.up q99.out);have q9E:=q9A.out.lt;have qjF:=q9A.out.free 3;have qjO:=q9A.out.c3;have HST:=q7 (q9A.out.set3 (.slice o1 n1 c1'));clear qak qbj qfR qai q9i HL1 HL2
       (((unfold qX;simp only[pk]);refine⟨?_,by unfold qX;trivial⟩;unfold qy);go_wp2;refine⟨qW (qv q99.out _),?_⟩)
       unfold qy
       (((unfold qX;simp only[pk]);refine⟨?_,by unfold qX;trivial⟩;unfold qy);go_wp2;refine⟨qW (qv q99.out _),?_⟩)
       unfold qy
       (((unfold qX;simp only[pk]);refine⟨?_,by unfold qX;trivial⟩;unfold qy);go_wp2;refine⟨qW (qp (qv q99.out _) HST.out.2),?_⟩)
       unfold qy;have q9G:=q7 HST.out.1;have qat:=q9G.out.lt;have qeP:=q9G.out.free 4;have qeY:=q9G.out.c4;have q95:=q7 (q9G.out.set4 (.slice o2 n2 c2'));have qaY:=q7 (qp (qv q99.out (some b)) HST.out.2);have qcp:=q7 (q9n.out.keep HST.out.2 (qM (fun k hk e=>by have:=(q9n.out.lt k hk).1;injection e with e;omega)))
       have qco:=q7 (q9N.out.keep HST.out.2 (qM (fun k hk e=>by have:=(q9N.out.lt k hk).1;injection e with e;omega)))
       clear q9E qjF qjO HST q9A q99 q9n q9N;generalize w12.setCell ⟨b,3,none⟩ (.slice o1 n1 c1')=w13 at*
       (((unfold qX;simp only[pk]);refine⟨?_,by unfold qX;trivial⟩;unfold qy);go_wp2;refine⟨qW qaY.out,?_⟩)
       unfold qy
       (((unfold qX;simp only[pk]);refine⟨?_,by unfold qX;trivial⟩;unfold qy);go_wp2;refine⟨qW qaY.out,?_⟩)
       unfold qy
       (((unfold qX;simp only[pk]);refine⟨?_,by unfold qX;trivial⟩;unfold qy);go_wp2;refine⟨qW (qp qaY.out q95.out.2),?_⟩)
       unfold qy;unfold qX
       first|(intro _ hqq;clear hqq)|(intro hqq;clear hqq)
       have qc1:=q7 (qp qaY.out q95.out.2);have qaX:=q7 q95.out.1;have qbU:=q7 (qcp.out.keep q95.out.2 (qM (fun k hk e=>by have:=(qcp.out.lt k hk).1;injection e with e;omega)))
       have qhH:=q7 (qco.out.keep q95.out.2 (qM (fun k hk e=>by have:=(qco.out.lt k hk).1;injection e with e;omega)))
       clear q95 qat qeP qeY q9G qaY qcp qco;generalize w13.setCell ⟨b,4,none⟩ (.slice o2 n2 c2')=w14 at*;have qfr:Hid (eL w14 q g s (0,p6)):=q7 (HS9.out.kept qc1.out (fun e=>hq (by injection e with e;exact e.symm)) (fun e=>hg (by injection e with e;exact e.symm)))
       have qid:Hid (aU q g b w w14):=q7 (qfV.out.trans (aU.ofb qc1.out));clear qc1 qfV HS9 HH9 cc9;have cb3:=qaX.out.c3;have cb4:=qaX.out.c4;have qjV:=qaX.out.lt;have HLE:=q7 (q2x (R.take la) (R.drop la));have HLT:Hid (256<(R.take la).length):=q7 (by have:=qbR.out;have:=HLA.out;simp;omega)
       have HFT:Hid (∀W,Below w14.heap.size w14 W->Calls Tryz.prog 139 #[.slice o1 n1 c1',.slice o2 n2 c2'] W fun e w'=>e=.returned (.int .i64 (cY (R.take la) (R.drop la):Nat))/\Below W.heap.size W w'):=q7 (fun W hb=>q6b _ _ _ _ W (show qT W _ _ from qbU.out.sl.up hb) (show qT W _ _ from qhH.out.sl.up hb) HLT.out)
       have HFG:=q7 (fun(W:World) (hb:Below w14.heap.size w14 W)=>HFA.out W (0,p6) (cY (R.take la) (R.drop la)) HLE.out (qfr.out.up hb))
       clear qbR HLE HLT;generalize cY (R.take la) (R.drop la)=fe at*;have HXF:Hid (xf fe (0,p6)=(fe,p6)):=q7 rfl;rw[HXF.out]at HFG;go_wp2;refine qZ [0,1,2,3,4,5,6,7,8] [9] [10] (by kernel_rfl) (by kernel_rfl) ?_
       simp only[pk]
       repeat(go_big_quiet_step (fail))
       refine wpQuiet_nil ?_;have qbq:Hid (Below w14.heap.size w14 w14.drew):=q7 (qS (qj _ _));generalize w14.drew=w15 at*;unfold qy
       go_wp2_with(go_at_call 139;(with_reducible refine(HFT.out _ qbq.out).mono ?_);rintro e w16 ⟨rfl,qf8⟩;(have qcA:=q7 (qbq.out.trans (qf8.mono qbq.out.size));clear qf8))
       refine⟨qt qcA.out,?_⟩;unfold qy;unfold qy
       go_wp2_with(go_at_call 182;(with_reducible refine(HFG.out _ qcA.out).mono ?_);rintro e w17 ⟨rfl,qgp,qh0⟩;(have qkl:=q7 qgp;have qeb:=q7 qh0;clear qgp qh0))
       refine⟨trivial,?_⟩;unfold qy;go_wp2
       go_end0
       rw[HDX.out];have hwb:w.heap.size<=w14.heap.size:=qid.out.size
       exact⟨rfl,qkl.out,(qid.out.trans (qP qcA.out)).trans (aU.of2 qeb.out),_,_,(qaX.out.up qcA.out).fx qeb.out (fun e=>e.elim (fun e=>hq e.symm) (fun e=>hg e.symm)),fun _=>⟨qeb.out.ownB (qbU.out.up qcA.out) (fun k hk=>hk.elim (fun e=>by omega) (fun e=>by omega)),qeb.out.ownB (qhH.out.up qcA.out) (fun k hk=>hk.elim (fun e=>by omega) (fun e=>by omega))⟩⟩
      ·have h6':((en6:Int) != 0)=true:=by simpa using h6
       have HDX:Hid (D=([],[],(en6,p6))):=q7 (by rw[HD3.out];exact if_pos h6)
       have HTB:Hid (∀{w7 w8:World} {gt:Nat},iB w7 wr.heap.size gt L'->Below w7.heap.size w7 w8->iB w8 wr.heap.size gt L'):=q7 (fun h hb=>h.fx (S:=fun _=>False) (qP hb) (fun k hk=>hk.elim))
       clear HD3 h6 HRL
       go_wp2_with(first|(go_at_call 157;(with_reducible refine HN.out.mono ?_);rintro e w7 ⟨gt,rfl,hT7,hb7⟩;(have HT7:=q7 hT7;have HB7:=q7 hb7;have HFC:=q7 (HFI.out w7 hb7);clear hT7 hb7))|(go_at_call 169;(with_reducible refine HFC.out.mono ?_);rintro e w8 ⟨rfl,hb8⟩;(have HB8:=q7 (qq HB7.out hb8);have HS8:=q7 (HSW.out.up (qq HB7.out hb8));have HT8:=q7 (HTB.out HT7.out hb8);have HRC:=q7 (q97.out w8 gt HS8.out HT8.out);clear hb8))|(go_at_call 196;(with_reducible refine HRC.out.mono ?_);rintro e w9 ⟨v9,rfl,hb9,hc9,hd9⟩;(have HR9:=q7 hb9;have HS9:=q7 hc9;have HF9:=q7 hd9;have cc9:=hc9.src.c1;have cq9:=hc9.src.lt;have hee:(((en6,p6).1:Nat):Int)=(en6:Int):=rfl;rw[hee]at cc9;clear hb9 hc9 hd9 hee)))
       ((try simp only[Exit.inBlock,Exit.then]);refine bodyPost_ret (results_none rfl _ _ _) rfl ?_)
       rw[HDX.out];have h6:en6≠0:=by simpa using h6'
       exact⟨rfl,HS9.out,(HFW.out.trans (qP HB8.out)).trans (aU.of2 HF9.out),_,_,(HHW.out.up HB8.out).fx HF9.out (fun e=>e.elim (fun e=>hq e.symm) (fun e=>hg e.symm)),fun h=>absurd h h6⟩
     ·have HDX:Hid (D=([],[],(F,p5))):=q7 (by rw[HD2.out];exact if_pos hF)
      have HXF:Hid (xf F (0,p5)=(F,p5)):=q7 rfl;have hFi:((F:Int) != 0)=true:=by simpa using hF
      clear HD2 HRS HRP HEL
      by_cases hE:E=0
      ·subst hE
       have HN:Hid (Calls Tryz.prog 157 #[.slice (some ⟨gc,0,none⟩) 19 19] wr fun e w'=>∃gt,e=.returned (.tuple #[.pointer (some ⟨gt,0,none⟩),.int .i64 0])/\Below wr.heap.size wr w'):=q7 (HNW.out.mono fun e w' ⟨hb,h⟩=>by
        rcases h with⟨-,gt,he,-⟩|⟨hne,-⟩
        ·exact⟨gt,he,hb⟩
        ·exact absurd rfl hne)
       have hmx:(F:Int)>0:=by omega
       clear HNW
       go_wp2_with(first|(go_at_call 157;(with_reducible refine HN.out.mono ?_);rintro e w7 ⟨gt,rfl,hb7⟩;(have HB7:=q7 hb7;have HFC:=q7 (HFI.out w7 hb7);clear hb7))|(go_at_call 169;(with_reducible refine HFC.out.mono ?_);rintro e w8 ⟨rfl,hb8⟩;(have HB8:=q7 (qq HB7.out hb8);have HS8:=q7 (HSW.out.up (qq HB7.out hb8));have qfU:=q7 (HFA.out w8 (0,p5) F HFL.out HS8.out);clear hb8))|(go_at_call 182;(with_reducible refine qfU.out.mono ?_);rintro e w9 ⟨rfl,hb9,hc9⟩;(have HS9:=q7 hb9;have HF9:=q7 hc9;clear hb9 hc9)))
       ((try simp only[Exit.inBlock,Exit.then]);refine bodyPost_ret (results_none rfl _ _ _) rfl ?_)
       rw[HXF.out]at HS9;rw[HDX.out]
       exact⟨rfl,HS9.out,(HFW.out.trans (qP HB8.out)).trans (aU.of2 HF9.out),_,_,(HHW.out.up HB8.out).fx HF9.out (fun e=>e.elim (fun e=>hq e.symm) (fun e=>hg e.symm)),fun h=>absurd h hF⟩
      ·have HN:Hid (Calls Tryz.prog 157 #[.slice (some ⟨gc,0,none⟩) 19 19] wr fun e w'=>e=.returned (.tuple #[.pointer none,.int .i64 (F:Nat)])/\Below wr.heap.size wr w'):=q7 (HNW.out.mono fun e w' ⟨hb,h⟩=>by
        rcases h with⟨he,-⟩|⟨hne,he⟩
        ·exact absurd he hE
        ·rw[HFE.out hE];exact⟨he,hb⟩)
       clear HNW hF hE HFE
       go_wp2_with(first|(go_at_call 157;(with_reducible refine HN.out.mono ?_);rintro e w7 ⟨rfl,hb7⟩;(have HB7:=q7 hb7;have HFC:=q7 (HFI.out w7 hb7);clear hb7))|(go_at_call 169;(with_reducible refine HFC.out.mono ?_);rintro e w8 ⟨rfl,hb8⟩;(have HB8:=q7 (qq HB7.out hb8);have HS8:=q7 (HSW.out.up (qq HB7.out hb8));have qfU:=q7 (HFA.out w8 (0,p5) F HFL.out HS8.out);clear hb8))|(go_at_call 182;(with_reducible refine qfU.out.mono ?_);rintro e w9 ⟨rfl,hb9,hc9⟩;(have HS9:=q7 hb9;have HF9:=q7 hc9;clear hb9 hc9)))
       ((try simp only[Exit.inBlock,Exit.then]);refine bodyPost_ret (results_none rfl _ _ _) rfl ?_)
       rw[HXF.out]at HS9;rw[HDX.out];have hF:F≠0:=by simpa using hFi
       exact⟨rfl,HS9.out,(HFW.out.trans (qP HB8.out)).trans (aU.of2 HF9.out),_,_,(HHW.out.up HB8.out).fx HF9.out (fun e=>e.elim (fun e=>hq e.symm) (fun e=>hg e.symm)),fun h=>absurd h hF⟩
    ·have h0':((en:Int) != 0)=true:=by simpa using h0
     have HDX:Hid (D=([],[],(en,p5))):=q7 (by rw[HD.out];unfold dynL;exact if_pos h0)
     have HS9:=q7 HSW.out;clear HD;go_wp2
     ((try simp only[Exit.inBlock,Exit.then]);refine bodyPost_ret (results_none rfl _ _ _) rfl ?_)
     rw[HDX.out]
     exact⟨rfl,HSW.out,HFW.out,_,_,HHW.out,fun h=>absurd h h0⟩
theorem q0w(v:Value)(l:List Nat)(n x:Nat)(w:World)(B:Nat)(h:Own w B 3 v (ints (nls l)))(hB:B<=w.heap.size)(hl:l.length+n<=1000000):
  Calls Tryz.prog 142 #[v,.int .i64 n,.int .i64 x] w fun e w'=>∃v',e=.returned v'/\Own w' B 3 v' (ints (nls (l++List.replicate n x)))/\Below B w w':=
 (q69 v l n x w B h hB hl).mono fun _ _ ⟨v',h1,h2,h3,_⟩=>⟨v',h1,h2,h3.below (qj _ _) hB (fun k hk=>(h.lt k hk).1)⟩
def uQ(l:List Nat)(w:World)(e:Ending)(w':World):Prop:=∃v,e=.returned v/\Own w' w.heap.size 3 v (ints (nls l))/\Below w.heap.size w w'
theorem q0x:(((([]++List.replicate 144 8)++List.replicate 112 9)++List.replicate 24 7)++List.replicate 8 8:List Nat)=lM:=by unfold lM;rw[List.nil_append]
theorem q0y:([]++List.replicate 32 5:List Nat)=oH:=by unfold oH;rw[List.nil_append]
theorem q6d(w:World):Calls Tryz.prog 101 #[] w (uQ lM w):=by
 obtain⟨a1,h1⟩:∃a,a=([]++List.replicate 144 8:List Nat):=⟨_,rfl⟩;obtain⟨a2,h2⟩:∃a,a=a1++List.replicate 112 9:=⟨_,rfl⟩;obtain⟨a3,h3⟩:∃a,a=a2++List.replicate 24 7:=⟨_,rfl⟩;have h4:lM=a3++List.replicate 8 8:=by rw[h3,h2,h1];exact q0x.symm
 have l1:a1.length=144:=by rw[h1];simp
 have l2:a2.length=256:=by rw[h2];simp[l1]
 have l3:a3.length=280:=by rw[h3];simp[l2]
 have C1:Hid (Calls Tryz.prog 142 #[.slice none 0 0,.int .i64 144,.int .i64 8] w fun e w'=>∃v',e=.returned v'/\Own w' w.heap.size 3 v' (ints (nls a1))/\Below w.heap.size w w'):=q7 (by rw[h1];exact q0w (.slice none 0 0) [] 144 8 w w.heap.size (Own.nil _ _ _) (q9 _) (by simp))
 have C2:Hid (∀(W:World) (v:Value),Own W w.heap.size 3 v (ints (nls a1))->w.heap.size<=W.heap.size->Calls Tryz.prog 142 #[v,.int .i64 112,.int .i64 9] W fun e w'=>∃v',e=.returned v'/\Own w' w.heap.size 3 v' (ints (nls a2))/\Below w.heap.size W w'):=q7 (fun W v h hB=>by rw[h2];exact q0w v a1 112 9 W w.heap.size h hB (by omega))
 have C3:Hid (∀(W:World) (v:Value),Own W w.heap.size 3 v (ints (nls a2))->w.heap.size<=W.heap.size->Calls Tryz.prog 142 #[v,.int .i64 24,.int .i64 7] W fun e w'=>∃v',e=.returned v'/\Own w' w.heap.size 3 v' (ints (nls a3))/\Below w.heap.size W w'):=q7 (fun W v h hB=>by rw[h3];exact q0w v a2 24 7 W w.heap.size h hB (by omega))
 have C4:Hid (∀(W:World) (v:Value),Own W w.heap.size 3 v (ints (nls a3))->w.heap.size<=W.heap.size->Calls Tryz.prog 142 #[v,.int .i64 8,.int .i64 8] W fun e w'=>∃v',e=.returned v'/\Own w' w.heap.size 3 v' (ints (nls lM))/\Below w.heap.size W w'):=q7 (fun W v h hB=>by rw[h4];exact q0w v a3 8 8 W w.heap.size h hB (by omega))
 clear h1 h2 h3 h4 l1 l2 l3;generalize lM=L at*
 go_enter Tryz.func101,Tryz.ntmps101
 go_wp2_with(go_at_call 142;first|((with_reducible refine C1.out.mono ?_);rintro e w1 ⟨v1,rfl,ho,hb⟩;(have HO1:=q7 ho;have HB1:=q7 hb;clear ho hb C1))|((with_reducible refine(C2.out _ _ HO1.out HB1.out.size).mono ?_);rintro e w2 ⟨v2,rfl,ho,hb⟩;(have HO2:=q7 ho;have HB2:=q7 (HB1.out.trans hb);clear ho hb C2))|((with_reducible refine(C3.out _ _ HO2.out HB2.out.size).mono ?_);rintro e w3 ⟨v3,rfl,ho,hb⟩;(have HO3:=q7 ho;have HB3:=q7 (HB2.out.trans hb);clear ho hb C3))|((with_reducible refine(C4.out _ _ HO3.out HB3.out.size).mono ?_);rintro e w4 ⟨v4,rfl,ho,hb⟩;(have HO4:=q7 ho;have HB4:=q7 (HB3.out.trans hb);clear ho hb C4)))
 go_ret
 exact⟨_,rfl,HO4.out,HB4.out⟩
theorem q6e(w:World):Calls Tryz.prog 102 #[] w (uQ oH w):=by
 have C1:Hid (Calls Tryz.prog 142 #[.slice none 0 0,.int .i64 32,.int .i64 5] w fun e w'=>∃v',e=.returned v'/\Own w' w.heap.size 3 v' (ints (nls oH))/\Below w.heap.size w w'):=q7 (by rw[<-q0y];exact q0w (.slice none 0 0) [] 32 5 w w.heap.size (Own.nil _ _ _) (q9 _) (by simp))
 generalize oH=L at*
 go_enter Tryz.func102,Tryz.ntmps102
 go_wp2_with(go_at_call 142;(with_reducible refine C1.out.mono ?_);rintro e w1 ⟨v1,rfl,ho,hb⟩;(have HO1:=q7 ho;have HB1:=q7 hb;clear ho hb C1))
 go_ret
 exact⟨_,rfl,HO1.out,HB1.out⟩
theorem q6h{w:World}{g p:Nat}{s:ByteArray}(h:cX w g s p):Calls Tryz.prog 178 #[.pointer (some ⟨g,0,none⟩)] w fun e w'=>∃b,e=.returned (.pointer (some ⟨b,0,none⟩))/\cX w' b s p/\w.heap.size<=b/\Below w.heap.size w w':=by
 have HB:=q7 h;have hg:=h.lt;obtain⟨A,hA,hAs,hAl⟩:=h.own.whole
 have hA1:∀u∈A.toList,u.oneCell'=true:=by
  rw[hAl];intro u hu;simp at hu;rcases hu with rfl|rfl|rfl<;>rfl
 have hz:=q0m;obtain⟨Z,hZ⟩:∃Z,Z=zR:=⟨_,rfl⟩;have hZl:Z.toList.length=3:=by rw[hZ];rfl
 have hZs:Z.size=3:=by rw[hZ];rfl
 rw[<-hZ]at hz;have HAL:=q7 hAl;clear hZ hAl h;have ho:=qE w w.heap.size Z 230 (by omega) (q9 _)
 rw[hZs]at ho;have HO:=q7 ho;clear ho
 go_enter Tryz.func178,Tryz.ntmps178
 go_wp2_with(first|(go_at_call 158;refine(nD HB.out).mono ?_;rintro e w' ⟨rfl,hw'⟩;rw[hw'];clear hw')|(refine qI rfl 230 3 _ rfl g rfl A hAs hA _ Tryz.underlying230 rfl (by kernel_rfl) ?_)|(refine qo rfl 230 _ _ rfl w.heap.size 230 w.heap.size 3 3 rfl A rfl (by rw[hAs];kernel_rfl) Z.toList HO.out (by omega) hA1 ?_;intro w2 hown2 hg2;have HG2:=q7 hg2;have HW2:=q7 hown2;clear hown2 hg2))
 go_ret;have hw2:=HW2.out;rw[HAL.out,hAs,List.drop_of_length_le (by omega),List.append_nil]at hw2
 exact⟨_,rfl,⟨hw2⟩,q9 _,(qn w _).grown HG2.out (by simp) (fun k hk=>by cases hk;exact q9 _)⟩
theorem ji{w w1 w2:World}{row:Option Nat}{r:Nat}(h:w.grownBy w1 row)(hg:w1.grownBy w2 (some r))(hr:w.heap.size<=r):w.grownBy w2 row:=
 ⟨hg.os.trans h.os,hg.tape.trans h.tape,hg.output.trans h.output,qa h.size hg.size,fun k hk hne=>by rw[hg.block k (qd hk h.size) (fun e=>by injection e with e;omega),h.block k hk hne]⟩
def zH:Array Value:=#[Value.bool false,.int .i64 0,.int .i64 0,.slice none 0 0,.slice none 0 0]
theorem eM:∀u∈zH.toList,u.oneCell'=true:=by
 intro u hu
 simp[zH]at hu
 rcases hu with rfl|rfl|rfl<;>rfl
theorem fR(f:Bool)(k z:Int)(o1 o2:Option Addr)(n1 n2 c1 c2:Nat):∀u∈(#[Value.bool f,.int .i64 k,.int .i64 z,.slice o1 n1 c1,.slice o2 n2 c2]:Array Value).toList,u.oneCell'=true:=by
 intro u hu
 simp at hu
 rcases hu with rfl|rfl|rfl|rfl|rfl<;>rfl
def oQ(Bx:World->Nat->ByteArray->Nat->Prop)(s:ByteArray)(p g:Nat)(w:World)(e:Ending)(w':World):Prop:=
 ∃v1 v2,e=.returned (.tuple #[.agg #[.bool (jk (qH s) (8*s.size) p).1.fin,.int .i64 ((jk (qH s) (8*s.size) p).1.kind:Nat),.int .i64 ((jk (qH s) (8*s.size) p).1.size:Nat),v1,v2],.int .i64 ((jk (qH s) (8*s.size) p).2.1:Nat)])/\
  Own w' w.heap.size 3 v1 (ints (nls (jk (qH s) (8*s.size) p).1.lits))/\Own w' w.heap.size 3 v2 (ints (nls (jk (qH s) (8*s.size) p).1.dists))/\Bx w' g s (jk (qH s) (8*s.size) p).2.2/\w.grownBy w' (some g)
theorem q6i{w:World}{g p:Nat}{s:ByteArray}(h:cX w g s p)(hs:s.size<=4294967296)(hp:p<=8*s.size):
  Calls Tryz.prog 155 #[.pointer (some ⟨g,0,none⟩)] w (oQ cX s p g w):=by
 have HB:=q7 h;have hg:=h.lt;have HCP:=q7 (fun(W:World) (hb:Below w.heap.size w W)=>q6h (h.up hb))
 have HSB:=q7 (fun(W:World) (q c:Nat) (st:Nat×Nat) (n:Nat) (hn:n<=32) (h:eL W q c s st)=>vV h hs n hn)
 have hx1:=tP (qH s) (8*s.size) 1 (0,p);have hx2:=tP (qH s) (8*s.size) 2 (xb (qH s) (8*s.size) 1 (0,p)).2;unfold oQ;obtain⟨D,hD⟩:∃D,D=jk (qH s) (8*s.size) p:=⟨_,rfl⟩;rw[<-hD];unfold jk at hD;have HB1:Hid (∀(W:World) (q c:Nat),eL W q c s (0,p)->Calls Tryz.prog 179 #[.pointer (some ⟨q,0,none⟩),.int .i64 1] W fun e w'=>e=.returned (.int .i64 ((xb (qH s) (8*s.size) 1 (0,p)).1:Nat))/\eL w' q c s (xb (qH s) (8*s.size) 1 (0,p)).2/\Two q c W w'):=q7 (fun W q c h=>HSB.out W q c (0,p) 1 (by omega) h)
 obtain⟨r1,h1⟩:∃r1,r1=xb (qH s) (8*s.size) 1 (0,p):=⟨_,rfl⟩;rw[<-h1]at hD HB1 hx1 hx2;have HB2:Hid (∀(W:World) (q c:Nat),eL W q c s r1.2->Calls Tryz.prog 179 #[.pointer (some ⟨q,0,none⟩),.int .i64 2] W fun e w'=>e=.returned (.int .i64 ((xb (qH s) (8*s.size) 2 r1.2).1:Nat))/\eL w' q c s (xb (qH s) (8*s.size) 2 r1.2).2/\Two q c W w'):=q7 (fun W q c h=>HSB.out W q c r1.2 2 (by omega) h)
 obtain⟨r2,h2⟩:∃r2,r2=xb (qH s) (8*s.size) 2 r1.2:=⟨_,rfl⟩;rw[<-h2]at hD HB2 hx2;clear h1 h2 HSB;obtain⟨a,s1⟩:=r1;obtain⟨k,s2⟩:=r2;simp only at hx1 hx2 hD;have HD:=q7 hD;clear hD h
 have hfe:((a:Int)==1)=decide (a=1):=by
  by_cases h:a=1
  ·subst h;rfl
  ·rw[decide_eq_false h];simp;omega
 generalize decide (a=1)=fn at*
 go_enter Tryz.func155,Tryz.ntmps155
 go_upto_block 0 with(first|(go_at_call 178;(with_reducible refine(HCP.out _ (by repeat(first|exact qj _ _|assumption|refine qw ?_ _|refine qk ?_|refine qA ?_ _|refine qs ?_ _))).mono ?_);rintro e w1 ⟨c,rfl,hb1,hc1,hd1⟩;(have hq1:=hb1.lt;have HR1:Hid (fA w1 w.heap.size false 0 0 (.slice none 0 0) (.slice none 0 0)):=q7 ⟨(qE w w.heap.size #[Value.bool false,Value.int .i64 0,Value.int .i64 0,Value.slice none 0 0,Value.slice none 0 0] 112 (by simp) (q9 _)).up hd1⟩;have HW1:Hid (Below w.heap.size w w1):=q7 (qq (qn _ _) hd1);have hc2:w.heap.size<c:=qd (by simp) hc1;have HS2:Hid (eL (w1.alloc (.cells #[Value.pointer (some ⟨c,0,none⟩),Value.int .i64 0] 263)) w1.heap.size c s (0,p)):=q7 ⟨⟨qE w1 w1.heap.size #[Value.pointer (some ⟨c,0,none⟩),Value.int .i64 0] 263 (by simp) (q9 _)⟩,hb1.up (qn _ _),by omega,hp,by simp⟩;clear hb1 hc1 hd1 HCP))|(go_at_call 179;first|((with_reducible refine(HB1.out _ _ _ HS2.out).mono ?_);rintro e w3 ⟨rfl,hs3,hf3⟩;(have HS3:=q7 hs3;have HF3:=q7 hf3;have qiX:=hf3.size;clear hs3 hf3 HB1))|((with_reducible refine(HB2.out _ _ _ (HS3.out.up (qn _ _))).mono ?_);rintro e w5 ⟨rfl,hs5,hf5⟩;(have HH4:Hid (fA (w3.alloc (.cells #[Value.bool fn,Value.int .i64 0,Value.int .i64 0,Value.slice none 0 0,Value.slice none 0 0] 112)) w3.heap.size fn 0 0 (.slice none 0 0) (.slice none 0 0)):=q7 ⟨qE w3 w3.heap.size #[Value.bool fn,Value.int .i64 0,Value.int .i64 0,Value.slice none 0 0,Value.slice none 0 0] 112 (by simp) (q9 _)⟩;have hqq:=HS3.out.src.lt;have hcc:=HS3.out.box.lt;have HH5:=q7 (HH4.out.fx hf5 (fun e=>e.elim (fun e=>by omega) (fun e=>by omega)));have hqw:=HW1.out.size;have HR5:=q7 (((((HR1.out.up (qn _ _)).fx HF3.out (fun e=>e.elim (fun e=>by omega) (fun e=>by omega))).up (qn _ _)).fx hf5 (fun e=>e.elim (fun e=>by omega) (fun e=>by omega))));have hb5:=HH5.out.lt;have cc5:=HH5.out.c1;have ff5:=HH5.out.free 1;have HST:=q7 (HH5.out.set1 k);have HS5:=q7 hs5;have HF5:=q7 hf5;clear hs5 hf5 HB2 HH4))))
 have HS6:Hid (eL (w5.setCell ⟨w3.heap.size,1,none⟩ (.int .i64 (k:Int))) w1.heap.size c s s2):=q7 (HS5.out.kept HST.out.2 (fun e=>by injection e with e;omega) (fun e=>by injection e with e;omega))
 have HH6:=q7 HST.out.1;have HR6:=q7 (HR5.out.stay HST.out.2 (fun e=>by injection e with e;omega))
 have HW5:Hid (Below w.heap.size w w5):=q7 (by
  have h2:Below w.heap.size w (w1.alloc (.cells #[Value.pointer (some ⟨c,0,none⟩),Value.int .i64 0] 263)):=HW1.out.alloc HW1.out.size _;have h3:Below w.heap.size w w3:=HF3.out.below h2 h2.size (fun k hk=>hk.elim (fun e=>by omega) (fun e=>by omega))
  have h4:Below w.heap.size w (w3.alloc (.cells #[Value.bool fn,Value.int .i64 0,Value.int .i64 0,Value.slice none 0 0,Value.slice none 0 0] 112)):=h3.alloc h3.size _
  exact HF5.out.below h4 h4.size (fun k hk=>hk.elim (fun e=>by omega) (fun e=>by omega)))
 have HW6:Hid (Below w.heap.size w (w5.setCell ⟨w3.heap.size,1,none⟩ (.int .i64 (k:Int)))):=q7 (HW5.out.grown HST.out.2 HW5.out.size (fun k e=>by injection e with e;omega))
 have hb6:=HH6.out.lt;clear HST HS5 HH5 HR5 HW5 HF5 HF3 HS3 HS2 HW1 HR1 hb5 cc5 ff5 qiX hcc;have hrc:w.heap.size<w1.heap.size:=by omega
 generalize w5.setCell ⟨w3.heap.size,1,none⟩ (.int .i64 (k:Int))=w6 at*;generalize w1.heap.size=q at*;generalize w3.heap.size=b at*
 go_cut [] (fun wx=>∃kk z v1 v2 en p',eL wx q c s (en,p')/\fA wx b fn kk z v1 v2/\fA wx w.heap.size false 0 0 (.slice none 0 0) (.slice none 0 0)/\Below w.heap.size w wx/\Hid ((en≠0->D=(aI.zero,en,p))/\(en=0->∃L1 L2,D=(⟨fn,kk,z,L1,L2⟩,0,p')/\Own wx w6.heap.size 3 v1 (ints (nls L1))/\Own wx w6.heap.size 3 v2 (ints (nls L2)))))
 case first=>
  clear hfe hx1;obtain⟨en,p2⟩:=s2;have c1:=HS6.out.src.c1;have hee:(((en,p2).1:Nat):Int)=(en:Int):=rfl;rw[hee]at c1;clear hee;have cq:=HH6.out.c1;have hq6:=HS6.out.src.lt;have hle:p2<=8*s.size:=HS6.out.le;have hnb:q≠b:=by omega
  have hcb:c≠b:=by omega
  have HTR:Hid (∀{w7:World},aU q c b w6 w7->fA w7 w.heap.size false 0 0 (.slice none 0 0) (.slice none 0 0)/\Below w.heap.size w w7):=q7 (fun hf=>⟨HR6.out.fx hf (fun e=>e.elim (fun e=>by omega) (fun e=>e.elim (fun e=>by omega) (fun e=>by omega))),hf.below HW6.out HW6.out.size (fun k hk=>hk.elim (fun e=>by omega) (fun e=>e.elim (fun e=>by omega) (fun e=>by omega)))⟩)
  by_cases h0:en=0
  ·subst h0
   have hd:=HD.out;unfold dG at hd;rw[if_neg (fun h=>h rfl)]at hd
   by_cases hk0:k=0
   ·subst hk0
    rw[if_pos rfl]at hd;have HD2:=q7 hd;have HST:=q7 (q4u HS6.out HH6.out hnb hcb hs);clear hd HD;generalize je (qH s) (8*s.size) (0,p2)=r at*;obtain⟨sz,e2,p3⟩:=r
    go_wp2_with(go_at_call 180;(with_reducible refine HST.out.mono ?_);rintro e w7 ⟨rfl,h1,h2,h3⟩;(have H1:=q7 h1;have H2:=q7 h2;have H3:=q7 h3;clear h1 h2 h3))
    go_meet
    case rel=>
     obtain⟨hr,hw⟩:=HTR.out H3.out;refine⟨0,sz,_,_,e2,p3,H1.out,H2.out,hr,hw,q7 ⟨fun h=>by rw[HD2.out];exact if_pos h,fun h=>⟨[],[],by rw[HD2.out];subst h;rfl,Own.nil _ _ _,Own.nil _ _ _⟩⟩⟩
   ·rw[if_neg hk0]at hd
    have hki:((k:Int)==0)=false:=by simpa using hk0
    by_cases hk1:k=1
    ·subst hk1
     rw[if_pos rfl]at hd;have HD2:=q7 hd;clear hd HD;have HFL:=q7 (q6d w6);have HFD:=q7 (fun W=>q6e W)
     unfold uQ at HFL HFD;generalize lM=L1 at*;generalize oH=L2 at*
     go_wp2_with(first|(go_at_call 101;(with_reducible refine HFL.out.mono ?_);rintro e w7 ⟨v1,rfl,ho1,hb1⟩;(have HO1:=q7 ho1;have HB1:=q7 hb1;have hs1:=hb1.size;clear ho1 hb1))|(go_at_call 102;(with_reducible refine(HFD.out w7).mono ?_);rintro e w8 ⟨v2,rfl,ho2,hb2⟩;(have HO2:=q7 (ho2.mono hs1);have q9R:=q7 (HO1.out.up hb2);have HB2:=q7 (qq HB1.out hb2);obtain⟨o1,e1,g1,hv1,-⟩:=HO1.out.cases;obtain⟨o2,e2,g2,hv2,-⟩:=ho2.cases;subst hv1 hv2;generalize (ints (nls L1)).length=n1 at*;generalize (ints (nls L2)).length=n2 at*;have HH8:=q7 (HH6.out.up HB2.out);have hb8:=HH8.out.lt;have qm9:=HH8.out.free 3;have qmk:=HH8.out.c3;have HS3:=q7 (HH8.out.set3 (.slice o1 n1 e1));have hb9:=HS3.out.1.lt;have qm8:=HS3.out.1.free 4;have qmj:=HS3.out.1.c4;have HS4:=q7 (HS3.out.1.set4 (.slice o2 n2 e2));clear ho2 hb2)))
     go_meet
     case rel=>
      have hg:=qp HS3.out.2 HS4.out.2;have hf:aU q c b w6 _:=(qP HB2.out).trans (aU.ofb hg);obtain⟨hr,hw⟩:=HTR.out hf;refine⟨1,0,_,_,0,p2,(HS6.out.up HB2.out).kept hg (fun e=>by injection e with e;omega) (fun e=>by injection e with e;omega),HS4.out.1,hr,hw,q7 ⟨fun h=>absurd rfl h,fun _=>⟨L1,L2,by rw[HD2.out],q9R.out.keep hg (qM (fun k hk e=>by have:=(q9R.out.lt k hk).1;injection e with e;omega)),HO2.out.keep hg (qM (fun k hk e=>by have:=(HO2.out.lt k hk).1;injection e with e;omega))⟩⟩⟩
    ·rw[if_neg hk1]at hd
     have qjh:((k:Int)==1)=false:=by simp;omega
     by_cases hk2:k=2
     ·subst hk2
      rw[if_pos rfl]at hd;have HD2:=q7 hd;have HST:=q7 (q2A HS6.out HH6.out hnb hcb hs);clear hd HD;generalize dynN (qH s) (8*s.size) (0,p2)=r at*;obtain⟨L1,L2,e2,p3⟩:=r
      go_wp2_with(go_at_call 181;(with_reducible refine HST.out.mono ?_);rintro e w7 ⟨rfl,h1,h2,v1,v2,h3,h4⟩;(have H1:=q7 h1;have H2:=q7 h2;have H3:=q7 h3;have H4:=q7 h4;clear h1 h2 h3 h4))
      go_meet
      case rel=>
       obtain⟨hr,hw⟩:=HTR.out H2.out;refine⟨2,0,v1,v2,e2,p3,H1.out,H3.out,hr,hw,q7 ⟨fun h=>by rw[HD2.out];exact if_pos h,fun h=>⟨L1,L2,by rw[HD2.out];subst h;rfl,(H4.out h).1,(H4.out h).2⟩⟩⟩
     ·rw[if_neg hk2]at hd
      have qjg:((k:Int)==2)=false:=by simp;omega
      have HD2:=q7 hd;have HFA:=q7 (F4 HS6.out 11 (by omega))
      rw[show((11:Nat):Int)=11 from rfl]at HFA
      clear hd HD
      go_wp2_with(go_at_call 182;(with_reducible refine HFA.out.mono ?_);rintro e w7 ⟨rfl,h1,h2⟩;(have H1:=q7 h1;have H2:=q7 (aU.of2 (b:=b) h2);have H3:=q7 (HH6.out.fx h2 (fun e=>e.elim (fun e=>by omega) (fun e=>by omega)));clear h1 h2))
      go_meet
      case rel=>
       obtain⟨hr,hw⟩:=HTR.out H2.out;refine⟨k,0,_,_,11,p2,H1.out,H3.out,hr,hw,q7 ⟨fun _=>HD2.out,fun h=>by cases h⟩⟩
  ·have h0':((en:Int) != 0)=true:=by simpa using h0
   have HD2:Hid (D=(aI.zero,en,p)):=q7 (by rw[HD.out];unfold dG;exact if_pos h0)
   clear HD;go_wp2
   go_meet
   case rel=>exact⟨k,0,_,_,en,p2,HS6.out,HH6.out,HR6.out,HW6.out,q7 ⟨fun _=>HD2.out,fun h=>absurd h h0⟩⟩
 case rest=>
  obtain⟨kk,z,v1,v2,en,p',hs7,hh7,hr7,hw7,HE⟩:=hcut;have HS7:=q7 hs7;have HH7:=q7 hh7;have HR7:=q7 hr7;have HW7:=q7 hw7;have c1:=hs7.src.c1;have hq7:=hs7.src.lt;have hee:(((en,p').1:Nat):Int)=(en:Int):=rfl;rw[hee]at c1;clear hs7 hh7 hr7 hw7 hee HS6 HH6 HR6 HW6
  by_cases h0:en=0
  ·subst h0
   obtain⟨L1,L2,hd,ho1,ho2⟩:=HE.out.2 rfl;obtain⟨o1,e1,g1,hv1,-⟩:=ho1.cases;obtain⟨o2,e2,g2,hv2,-⟩:=ho2.cases;have HDX:=q7 hd;have HO1:=q7 ho1;have HO2:=q7 ho2;subst hv1 hv2;clear HE hd ho1 ho2;generalize (ints (nls L1)).length=n1 at*;generalize (ints (nls L2)).length=n2 at*;obtain⟨A,hA,hAs,hAl⟩:=HS7.out.box.own.whole
   have hA1:∀u∈A.toList,u.oneCell'=true:=by
    rw[hAl];intro u hu;simp at hu;rcases hu with rfl|rfl|rfl<;>rfl
   have HAL:=q7 hAl;have HB7:=q7 (HB.out.up HW7.out);clear hAl
   go_wp2_with(first|(refine qI rfl 230 3 _ rfl c rfl A hAs hA _ Tryz.underlying230 rfl (by kernel_rfl) ?_)|(refine qo rfl 230 _ _ rfl g 230 g 3 3 rfl A rfl (by rw[hAs];kernel_rfl) _ HB7.out.own (by rw[hAs];simp) hA1 ?_;intro w8 qao hg8;(have HG8:=q7 hg8;have HB8:=q7 qao;have HH8:=q7 (HH7.out.stay hg8 (fun e=>by injection e with e;omega));have HR8:=q7 (HR7.out.stay hg8 (fun e=>by injection e with e;omega));obtain⟨A5,hA5,qdS,qff⟩:=HH8.out.own.whole;have qla:=q7 qff;have qk9:∀u∈A5.toList,u.oneCell'=true:=(by rw[qff];exact fR fn kk z o1 o2 n1 n2 e1 e2);clear qao hg8 qff))|(refine qI rfl 112 5 _ rfl b rfl A5 qdS hA5 _ Tryz.underlying112 rfl (by kernel_rfl) ?_)|(refine qo rfl 112 _ _ rfl w.heap.size 112 w.heap.size 5 5 rfl A5 rfl (by rw[qdS];kernel_rfl) _ HR8.out.own (by rw[qdS];simp) qk9 ?_;intro w9 q9c hg9;(have HG9:=q7 hg9;have HR9:=q7 q9c;clear q9c hg9)))
   have hr9:=HR9.out;rw[qdS,List.drop_of_length_le (by simp),List.append_nil]at hr9
   have hb8:=HB8.out;rw[hAs,List.drop_of_length_le (by simp),List.append_nil,HAL.out]at hb8
   have qbS:=q7 hr9;have q9i:=q7 hb8;clear hr9 hb8;refine qR (s:=2) (b:=3) (ad:=⟨w.heap.size,0,none⟩) (x:=.agg A5) (y:=.int .i64 0) rfl rfl rfl rfl (jd (n:=5) qbS.out _ Tryz.underlying112 rfl (by kernel_rfl)) ?_
   have qk8:A5=#[.bool fn,.int .i64 (kk:Nat),.int .i64 (z:Nat),.slice o1 n1 e1,.slice o2 n2 e2]:=by
    rw[<-Array.toArray_toList (xs:=A5),qla.out]
   have qgg:∀{v:Value} {xs:List Value},Own wc w6.heap.size 3 v xs->Own w9 w.heap.size 3 v xs:=fun ho=>
    ((ho.keep HG8.out (qM (fun k hk e=>by have:=(ho.lt k hk).1;injection e with e;omega))).keep HG9.out (qM (fun k hk e=>by have:=(ho.lt k hk).1;injection e with e;omega))).mono (by omega)
   rw[HDX.out,qk8]
   exact⟨_,_,rfl,qgg HO1.out,qgg HO2.out,⟨q9i.out.keep HG9.out (.inr (fun e=>by have e2:some g=some w.heap.size:=e;injection e2 with e2;omega))⟩,ji (qp (qv HW7.out _) HG8.out) HG9.out (q9 _)⟩
  ·have h0':((en:Int) != 0)=true:=by simpa using h0
   have HDX:=q7 (HE.out.1 h0);clear HE h0;go_wp2;refine jE (C:=fun w'=>∃x,w'=chg wc (some w.heap.size) x) (.q 0 (.q 1 (.q 2 (.q 3 (.q 4 (.br 5 (.q 6 .done) .no)))))) (by kernel_rfl) (by kernel_rfl) (qW (qV _ _)) ?_
   have HG8:Hid (wc.grownBy wc.drew (some w.heap.size)):=q7 (qV _ _);have HR8:Hid (fA wc.drew w.heap.size false 0 0 (.slice none 0 0) (.slice none 0 0)):=q7 (HR7.out.up (qS (qj _ _)));have hqr:some q≠some w.heap.size:=fun e=>by injection e with e;omega
   generalize wc.drew=w8 at*
   (repeat((unfold qX;simp only[pk]);go_big_quiet_step (fail);refine wpQuiet_nil ?_))
   ((unfold qX;simp only[pk]);refine⟨?_,by unfold qX;trivial⟩;unfold qy)
   go_wp2_with(refine qo rfl 112 _ _ rfl w.heap.size 112 w.heap.size 5 5 rfl zH rfl (by kernel_rfl) _ HR8.out.own (by simp[zH]) eM ?_;intro w9 q9c hg9;(have HG9:=q7 (qp HG8.out hg9);have HR9:Hid (Own w9 w.heap.size 112 (.slice (some ⟨w.heap.size,0,none⟩) 5 5) zH.toList):=q7 q9c;clear q9c hg9))
   refine⟨qW HG9.out,?_⟩;unfold qy
   (repeat((unfold qX;simp only[pk]);go_big_quiet_step (fail);refine wpQuiet_nil ?_))
   unfold qX
   first|(intro _ hqq;clear hqq)|(intro hqq;clear hqq)
   go_wp2;refine qR (s:=2) (b:=3) (ad:=⟨w.heap.size,0,none⟩) (x:=.agg zH) (y:=.int .i64 (en:Nat)) rfl rfl rfl rfl (jd (n:=5) HR9.out _ Tryz.underlying112 rfl (by kernel_rfl)) ?_
   rw[HDX.out]
   exact⟨_,_,rfl,Own.nil _ _ _,Own.nil _ _ _,(HB.out.up HW7.out).stay HG9.out (fun e=>by injection e with e;omega),ji (qv HW7.out _) HG9.out (q9 _)⟩
def q4O(c:List Value):Prop:=∃kd tx oo no co o1 n1 c1 o2 n2 c2,c=[.int .i64 kd,.string tx,.slice oo no co,.slice o1 n1 c1,.slice o2 n2 c2]
theorem xE(s:ByteArray)(k:Nat)(h:k<=s.size):∃x:ByteArray,bys x=(bys s).take k/\∀W:World,(Instr.sliceAt 9 (.string s) none (some (.int .i64 (k:Int))) none).run Tryz.prog W=.ok (.string x) W:=by
 refine⟨s.extract 0 k,by rw[mB];simp,fun W=>?_⟩
 rw[run_sliceAt_string (P:=Tryz.prog) (t:=9) (h:=Tryz.underlying9),run_slice_string_h (P:=Tryz.prog) (ht:=Tryz.underlying9) (h0:=by omega) (h2:=by omega)]
 simp
theorem vC(s:ByteArray)(k:Nat)(h:k<=s.size):∃x:ByteArray,bys x=(bys s).drop k/\∀W:World,(Instr.sliceAt 9 (.string s) (some (.int .i64 (k:Int))) none none).run Tryz.prog W=.ok (.string x) W:=by
 refine⟨s.extract k s.size,by rw[mB,List.take_of_length_le (by rw[List.length_drop,qF];omega)],fun W=>?_⟩
 rw[run_sliceAt_string (P:=Tryz.prog) (t:=9) (h:=Tryz.underlying9),run_slice_string_l (P:=Tryz.prog) (ht:=Tryz.underlying9) (h0:=by omega) (h1:=by omega)]
 simp
theorem q5e(x:ByteArray):x=⟨(bys x).toArray⟩:=by cases x;simp[bys]
end Go.Cm
