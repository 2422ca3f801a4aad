/- Walks of functions and plain facts, joined and squeezed by a program. Conditions: as each says. -/
import Derived.Laws.Closers25b
import Derived.Test.YtnelgjehpbjloaaGreatDoorGXK
import Derived.Test.YtnelgjehpbjloaaGreatDoorGXI
import Derived.Test.YtnelgjehpbjloaaGreatDoorGXJ
set_option maxHeartbeats 8000000
set_option maxRecDepth 100000
set_option linter.unusedSimpArgs false
namespace Go.Cm
open Go.RowKit Go.Proofs
theorem RSt.from2{w0 W W':World}{B g:Nat}{vb0 vb:Value}{st':Nat×Nat}(h1:Below B w0 W)(h2:Fr g vb0 vb w0 W)(h:RSt W B g vb st' W'):RSt w0 B g vb0 st' W':=by
 obtain⟨vb',a,b,c⟩:=h
 exact⟨vb',a,h1.trans b,h2.trans c⟩
theorem RSt.lt{w0 W:World}{B g:Nat}{vb0:Value}{st:Nat×Nat}(h:RSt w0 B g vb0 st W):g<W.heap.size/\B<=g:=by
 obtain⟨vb,h1,h2,h3⟩:=h;exact⟨h1.box.blk.2,h1.ge⟩
theorem Fr.lowR{w0 w W:World}{B g N L:Nat}{vb vb':Value}(hf:Fr g vb vb' w W)(hw:aJ w B g N L vb)(hB0:w0.heap.size<=B)(hb0:Below w0.heap.size w0 w):(∀k,k<w0.heap.size->W.heap[k]? =w0.heap[k]?)/\w0.heap.size<=W.heap.size:=by
 refine⟨fun k hk=>?_,qa hb0.size hf.2.2⟩
 rw[hf.1 k (qd hk hb0.size) (by have:=hw.ge;omega) (fun e=>by have:=(hw.own.lt k e).1;omega),hb0.block k hk]
theorem mC.low{w0 w:World}{B g N L:Nat}{vb v:Value}{l:List Int}(h:qT w0 v l)(hw:aJ w B g N L vb)(hB0:w0.heap.size<=B)(hb0:Below w0.heap.size w0 w):mC g vb w v l:=fun W vb' hf=>by
 obtain⟨h1,h2⟩:=hf.lowR hw hB0 hb0
 exact q0I h h1 h2
theorem mC.own{w:World}{B' g:Nat}{vb v:Value}{l:List Int}(h:Own w B' 3 v (ints l))(hk:∀k,v.ownBlock=some k->k≠g/\vb.ownBlock≠some k):mC g vb w v l:=fun W _vb' hf=>
 (h.of_blk (w':=W) fun k e=>hf.1 k (h.lt k e).2 (hk k e).1 (hk k e).2).sl
theorem G8{l:List PtN}(h:zJ l):∀p∈l,q6x p:=fun p hp=>by
 obtain⟨i,hi,rfl⟩:=List.getElem_of_mem hp;have:=h.2 i hi
 simpa[List.getD,hi]using this
theorem q3V{l:List PtN}(h:zJ l):∀p∈l,q5W p:=fun p hp=>by
 obtain⟨h1,h2,-,-⟩:=G8 h p hp
 exact⟨by omega,by omega⟩
theorem q0P{l:List PtN}(h:zJ l):∀k,k<=l.length->(aX l k).2.2<=90000000:=fun k hk=>by
 have h1:=wI (l:=l) (M:=580700) (fun p hp=>by obtain⟨h1,h2,-,-⟩:=G8 h p hp;omega) k hk
 have h2:k*580700<=30*580700:=Nat.mul_le_mul_right _ (qa hk h.1);omega
theorem q6y{w:World}{c:List Value}{p:PtN}(h:fW w c p):q4O c:=by
 obtain⟨vo,vl,vd,rfl,h1,h2,h3⟩:=h;obtain⟨oo,oc,ob,of,rfl,-⟩:=cP h1;obtain⟨o1,c1,b1,f1,rfl,-⟩:=h2.open;obtain⟨o2,c2,b2,f2,rfl,-⟩:=h3.open
 exact⟨_,_,_,_,_,_,_,_,_,_,_,rfl⟩
theorem js.rows{w:World}{v:Value}{l:List PtN}(h:js w v l):∃cs,SlK 5 w v cs/\cs.length=l.length/\(∀i,i<l.length->fW w (cs.getD i []) (l.getD i zPt))/\∀c∈cs,q4O c:=by
 obtain⟨cs,h1,h2,h3⟩:=h;refine⟨cs,h1,h2,h3,fun c hc=>?_⟩
 obtain⟨i,hi,rfl⟩:=List.getElem_of_mem hc;have:=h3 i (by omega)
 rw[show cs.getD i []=cs[i] by simp[List.getD,hi]]at this
 exact q6y this
def cJ(h:GH):Nat:=h.flags.toNat+(if h.text then 1 else 0)+(if h.sum then 2 else 0)
def gh0(h:GH):qK:=[31,139,8]++leB (cJ h) 1++leB h.time.toNat 4++leB h.level.toNat 1++leB h.os.toNat 1
def gh1(h:GH):qK:=if jF h.flags 4 then gh0 h++leB h.extra.size 2++bys h.extra else gh0 h
def gh2(h:GH):qK:=if jF h.flags 8 then gh1 h++bys h.name++[0]else gh1 h
def gh3(h:GH):qK:=if jF h.flags 16 then gh2 h++bys h.note++[0]else gh2 h
def dH(h:GH):qK:=if h.sum then gh3 h++leB (bL (gh3 h)%65536) 2 else gh3 h
theorem mG(h:GH):(gh0 h).length=10:=by simp[gh0,leB]
theorem sR(h:GH):(gh1 h).length<=12+h.extra.size:=by
 unfold gh1;split
 ·simp only[qg,mG,jf,qF];omega
 ·rw[mG];omega
theorem sS(h:GH):(gh2 h).length<=13+h.extra.size+h.name.size:=by
 have:=sR h;unfold gh2;split
 ·simp only[qg,List.length_singleton,qF];omega
 ·omega
theorem sU(h:GH):(gh3 h).length<=14+h.extra.size+h.name.size+h.note.size:=by
 have:=sS h;unfold gh3;split
 ·simp only[qg,List.length_singleton,qF];omega
 ·omega
theorem wV(h:GH):(dH h).length<=16+h.extra.size+h.name.size+h.note.size:=by
 have:=sU h;unfold dH;split
 ·simp only[qg,jf];omega
 ·omega
theorem wW{s:ByteArray}:s.toList=[]↔bys s=[]:=by
 rw[toList_nil_iff_emptyBytes]
 constructor
 ·rintro rfl;rfl
 ·intro h
  cases s with
  |mk d=>unfold bys at h;simp only[Array.toList_eq_nil_iff]at h;subst h;rfl
theorem fY{h:GH}(hr:jG h=true):fC h.flags=true/\(0<=h.time/\h.time<=4294967295)/\(0<=h.level/\h.level<=255)/\(0<=h.os/\h.os<=255)/\h.extra.size<=65535/\no0 (bys h.name)=true/\no0 (bys h.note)=true/\(jF h.flags 4=true\/bys h.extra=[])/\(jF h.flags 8=true\/bys h.name=[])/\(jF h.flags 16=true\/bys h.note=[]):=by
 unfold jG iU at hr;simp only[Bool.and_eq_true,decide_eq_true_eq,Bool.or_eq_true,List.isEmpty_iff]at hr;obtain⟨⟨⟨⟨⟨⟨⟨⟨⟨a,b⟩,c⟩,d⟩,e⟩,f⟩,g⟩,i⟩,j⟩,k⟩:=hr
 exact⟨a,b,c,d,i,j,k,by rwa [wW]at e,by rwa [wW]at f,by rwa [wW]at g⟩
theorem V1{f:Int}(h:fC f=true)(t s:Bool):bits .or .i64 f 1=f+1/\bits .or .i64 (f+(if t then 1 else 0)) 2=f+(if t then 1 else 0)+2/\(bits .and .i64 (f+(if t then 1 else 0)+(if s then 2 else 0)) 4 != 0)=jF f 4/\(bits .and .i64 (f+(if t then 1 else 0)+(if s then 2 else 0)) 8 != 0)=jF f 8/\(bits .and .i64 (f+(if t then 1 else 0)+(if s then 2 else 0)) 16 != 0)=jF f 16:=by
 rcases gS h with rfl|rfl|rfl|rfl|rfl|rfl|rfl|rfl<;>cases t<;>cases s<;>decide+kernel
theorem q7N{n W:Nat}(hW:W=1\/W=2\/W=4)(hn:n<256^W)(w:World):Calls Tryz.prog 26 #[.int .i64 n,.int .i64 W] w fun e w'=>e=.returned (.tuple #[.string ⟨(leB n W).toArray⟩,.int .i64 0])/\∃x,w'=ext w x:=by
 rcases hW with rfl|rfl|rfl
 ·exact q4Z hn w
 ·exact q50 hn w
 ·exact I1 hn w
structure StB(w0 w:World)(g:Nat)(p:qK):Prop where
 own:Own w w0.heap.size 9 (.slice (some ⟨g,0,none⟩) 1 1) [.string ⟨p.toArray⟩]
 bel:Below w0.heap.size w0 w
theorem q7O{w0 w:World}{g n W:Nat}{p:qK}(hW:W=1\/W=2\/W=4)(hn:n<256^W)(h:StB w0 w g p)(hp:p.length<=10000000):Calls Tryz.prog 50 #[.int .i64 n,.int .i64 W,.pointer (some ⟨g,0,none⟩)] w fun e w'=>e=.returned (.tuple #[])/\StB w0 w' g (p++leB n W)/\w.grownBy w' (some g):=by
 have HN:=q7 (fun W'=>q7N hW hn W')
 have z1:(⟨p.toArray⟩:ByteArray).size<=10000000:=by rw[qN];exact hp
 have z2:(⟨(leB n W).toArray⟩:ByteArray).size<=4:=by rw[qN,jf];omega
 have HZ:=q7 (jA p (leB n W));have HS:=q7 h;generalize leB n W=q at*;clear h
 go_enter Tryz.func50,Tryz.ntmps50
 go_wp2_with((with_reducible go_at_call 26);(with_reducible refine(HN.out _).mono ?_);rintro en w2 ⟨rfl,hx⟩;have hb2:=qr hx;have K2:=HS.out.own.up hb2;have HB2:=q7 hb2;have c2:w2.cell? ⟨g,0,none⟩=some (.string ⟨p.toArray⟩):=K2.cell (i:=0) (by simp);have f2:w2.frozen? ⟨g,0,none⟩=false:=K2.free 0;have l2:=K2.blk.2;have HK2:=q7 K2;clear hx hb2 K2)
 obtain⟨ho,hgr⟩:=HK2.out.store 0 (.string (⟨p.toArray⟩++⟨q.toArray⟩));have hbz:=(HS.out.bel.trans (HB2.out.mono HS.out.bel.size)).setCell (p:=⟨g,0,none⟩) HK2.out.blk.1 (.string (⟨p.toArray⟩++⟨q.toArray⟩));have qbD:=qp (qv HB2.out (some g)) hgr
 go_end0
 refine⟨rfl,⟨?_,hbz⟩,qbD⟩
 simpa[HZ.out]using ho
def pY(h:GH)(w:World)(e:Ending)(w':World):Prop:=e=.returned (.tuple #[.string ⟨(if jG h then dH h else []).toArray⟩,.int .i64 (if jG h then 0 else 4)])/\∃x,w'=ext w x
theorem mH(h:GH):∀u∈(ghC h).toList,u.oneCell'=true:=by intro u hu;simp[ghC]at hu;rcases hu with rfl|rfl|rfl|rfl|rfl|rfl|rfl|rfl|rfl<;>rfl
theorem zV(p:qK)(s:ByteArray):(⟨p.toArray⟩:ByteArray)++s=⟨(p++bys s).toArray⟩:=by
 have:s=⟨(bys s).toArray⟩:=by cases s;rfl
 conv=>lhs;rw[this]
 exact jA p (bys s)
theorem wX(s:ByteArray):s++(⟨#[0]⟩:ByteArray)=⟨(bys s++[0]).toArray⟩:=by
 have:s=⟨(bys s).toArray⟩:=by cases s;rfl
 conv=>lhs;rw[this]
 exact jA (bys s) [0]
theorem StB.put{w0 w:World}{g:Nat}{p q:qK}{s:ByteArray}(h:StB w0 w g p)(e:s=⟨q.toArray⟩):StB w0 (w.setCell ⟨g,0,none⟩ (.string s)) g q/\w.grownBy (w.setCell ⟨g,0,none⟩ (.string s)) (some g):=by
 subst e;obtain⟨ho,hgr⟩:=h.own.store 0 (.string ⟨q.toArray⟩)
 exact⟨⟨by simpa using ho,h.bel.setCell h.own.blk.1 _⟩,hgr⟩
theorem q8v{s:ByteArray}(hs:s.size<=4611686018427387904)(w:World):Calls Tryz.prog 51 #[.string s] w fun e w'=>e=.returned (.int .i64 (bL (bys s)%65536:Nat))/\∃x,w'=ext w x:=by
 have HC:=q7 (fun W=>q55 hs W)
 have hc:=oS (bys s);have ha:=u32_and_nat (bL (bys s)) 65535 hc (by decide)
 rw[show(65535:Nat)=2^16-1 from rfl,Nat.and_two_pow_sub_one_eq_mod]at ha
 have ha2:bits .and .u32 (bL (bys s):Int) 65535=((bL (bys s)%65536:Nat):Int):=ha;have hm:bL (bys s)%65536<65536:=Nat.mod_lt _ (by decide)
 generalize bL (bys s)%65536=R at*;generalize bL (bys s)=c at*;clear ha
 go_enter Tryz.func51,Tryz.ntmps51
 go_wp2_with((with_reducible go_at_call 27);(with_reducible refine(HC.out _).mono ?_);rintro en w2 ⟨rfl,x2,rfl⟩)
 go_ret
 exact⟨rfl,(qt (by repeat(first|exact qj _ _|assumption|refine qw ?_ _|refine qk ?_|refine qA ?_ _|refine qs ?_ _)))⟩
theorem q7P{w0 w:World}{g n:Nat}{p:qK}(hn:n<256)(h:StB w0 w g p)(hp:p.length<=10000000):Calls Tryz.prog 50 #[.int .i64 n,.int .i64 1,.pointer (some ⟨g,0,none⟩)] w fun e w'=>e=.returned (.tuple #[])/\StB w0 w' g (p++leB n 1)/\w.grownBy w' (some g):=q7O (W:=1) (.inl rfl) hn h hp
theorem q8w{w0 w:World}{g n:Nat}{p:qK}(hn:n<65536)(h:StB w0 w g p)(hp:p.length<=10000000):Calls Tryz.prog 50 #[.int .i64 n,.int .i64 2,.pointer (some ⟨g,0,none⟩)] w fun e w'=>e=.returned (.tuple #[])/\StB w0 w' g (p++leB n 2)/\w.grownBy w' (some g):=q7O (W:=2) (.inr (.inl rfl)) hn h hp
theorem q8M{w0 w:World}{g n:Nat}{p:qK}(hn:n<4294967296)(h:StB w0 w g p)(hp:p.length<=10000000):Calls Tryz.prog 50 #[.int .i64 n,.int .i64 4,.pointer (some ⟨g,0,none⟩)] w fun e w'=>e=.returned (.tuple #[])/\StB w0 w' g (p++leB n 4)/\w.grownBy w' (some g):=q7O (W:=4) (.inr (.inr rfl)) hn h hp
theorem bZ{w:World}{B T g:Nat}{h:GH}(ho:Own w B T (.slice (some ⟨g,0,none⟩) 9 9) (ghC h).toList):w.cell? ⟨g,0,none⟩=some (.int .i64 h.time)/\w.cell? ⟨g,1,none⟩=some (.string h.extra)/\w.cell? ⟨g,2,none⟩=some (.string h.name)/\w.cell? ⟨g,3,none⟩=some (.string h.note)/\w.cell? ⟨g,4,none⟩=some (.int .i64 h.level)/\w.cell? ⟨g,5,none⟩=some (.int .i64 h.os)/\w.cell? ⟨g,6,none⟩=some (.bool h.text)/\w.cell? ⟨g,7,none⟩=some (.bool h.sum)/\w.cell? ⟨g,8,none⟩=some (.int .i64 h.flags):=
 ⟨ho.cell (i:=0) (by simp[ghC]),ho.cell (i:=1) (by simp[ghC]),ho.cell (i:=2) (by simp[ghC]),ho.cell (i:=3) (by simp[ghC]),ho.cell (i:=4) (by simp[ghC]),ho.cell (i:=5) (by simp[ghC]),ho.cell (i:=6) (by simp[ghC]),ho.cell (i:=7) (by simp[ghC]),ho.cell (i:=8) (by simp[ghC])⟩
theorem q6L{h:GH}(hok:X9 h)(hs:h.extra.size<=100000/\h.name.size<=100000/\h.note.size<=100000)(w:World):Calls Tryz.prog 24 #[.agg (ghC h)] w (pY h w):=by
 have HRP:=q7 (fun W=>q2Y hok ⟨by omega,by omega⟩ W)
 have hox:=qE w w.heap.size (ghC h) 23 (by simp[ghC]) (q9 _)
 have hC9:(ghC h).size=9:=rfl;rw[hC9]at hox;have HBX:=q7 hox;have q9f:=qn w (.cells (ghC h) 23);have HB0:=q7 q9f;have e0:w.alloc (.cells (ghC h) 23)=w.alloc (.cells #[.int .i64 h.time,.string h.extra,.string h.name,.string h.note,.int .i64 h.level,.int .i64 h.os,.bool h.text,.bool h.sum,.int .i64 h.flags] 23):=rfl;clear hox q9f
 cases hR:jG h
 ·rw[hR]at HRP
  have HQ:Hid (∀e w',(e=.returned (.tuple #[.string ⟨#[]⟩,.int .i64 4])/\∃x,w'=ext w x)->pY h w e w'):=q7 (fun e w' hh=>by unfold pY;rw[hR];exact hh)
  refine Calls.mono ?_ HQ.out;clear HQ hR;unfold ghC
  go_enter Tryz.func24,Tryz.ntmps24
  go_upto_region 1 with(fail)
  rw[<-e0];clear e0;have hl0:w.heap.size<(w.alloc (.cells (ghC h) 23)).heap.size:=by simp
  generalize w.alloc (.cells (ghC h) 23)=w1 at*;obtain⟨A,hgA,hsA,hA⟩:=HBX.out.whole;have hAe:A=ghC h:=Array.ext' hA;subst hAe;have HGA:=q7 hgA;clear hgA hsA hA
  go_wp2_with(first
   |(refine qI rfl 23 9 _ rfl w.heap.size rfl (ghC h) rfl HGA.out _ Tryz.underlying23 rfl (by kernel_rfl) ?_)
   |((with_reducible go_at_call 49);(with_reducible refine(HRP.out _).mono ?_);rintro en w2 ⟨rfl,hx⟩;have HB2:=q7 (qq HB0.out (qr hx));clear hx))
  go_ret2
  exact⟨rfl,qt HB2.out⟩
 ·rw[hR]at HRP
  obtain⟨R,hRR⟩:∃R,R=(⟨(dH h).toArray⟩:ByteArray):=⟨_,rfl⟩;have HQ:Hid (∀e w',(e=.returned (.tuple #[.string R,.int .i64 0])/\∃x,w'=ext w x)->pY h w e w'):=q7 (fun e w' hh=>by unfold pY;rw[hR,hRR]at*;exact hh)
  refine Calls.mono ?_ HQ.out;have HRR:=q7 hRR;clear HQ hRR;obtain⟨p1,p2,p3,p4,p5,p6,p7,p8,p9,p10⟩:=fY hR;have HP:=q7 (⟨p5,p6,p7,p8,p9,p10⟩:h.extra.size<=65535/\no0 (bys h.name)=true/\no0 (bys h.note)=true/\(jF h.flags 4=true\/bys h.extra=[])/\(jF h.flags 8=true\/bys h.name=[])/\(jF h.flags 16=true\/bys h.note=[]));obtain⟨b1,b2,b3,b4,b5⟩:=V1 p1 h.text h.sum;have hfl:=gS p1;clear hR p6 p7 p8 p9 p10 p1;unfold ghC
  go_enter Tryz.func24,Tryz.ntmps24
  go_upto_region 1 with(fail)
  rw[<-e0];clear e0;generalize w.alloc (.cells (ghC h) 23)=w1 at*;obtain⟨A,hgA,hsA,hA⟩:=HBX.out.whole;have hAe:A=ghC h:=Array.ext' hA;subst hAe;have HGA:=q7 hgA;clear hgA hsA hA
  go_upto_region 4 with(first
   |(refine qI rfl 23 9 _ rfl w.heap.size rfl (ghC h) rfl HGA.out _ Tryz.underlying23 rfl (by kernel_rfl) ?_)
   |((with_reducible go_at_call 49);(with_reducible refine(HRP.out _).mono ?_);rintro en w2 ⟨rfl,hx⟩;have hb2:=qr hx;have HB2:=q7 (qq HB0.out hb2);have HX2:=q7 (HBX.out.up hb2);clear hx hb2))
  have ho4:=qE w2 w.heap.size #[.string ⟨#[31,139,8]⟩] 9 (by simp) HB2.out.size
  have hbl:=qn w2 (.cells #[.string ⟨#[31,139,8]⟩] 9);have hx4:=HX2.out.up hbl;have hb4:=qq HB2.out hbl;have hg4:w.heap.size<w2.heap.size:=HX2.out.blk.2;clear hbl;generalize w2.alloc (.cells #[.string ⟨#[31,139,8]⟩] 9)=w3 at*;generalize w2.heap.size=g at*;have HS3:Hid (StB w w3 g [31,139,8]):=q7 ⟨ho4,hb4⟩;have HX3:=q7 hx4;have hg1:w.heap.size≠g:=by omega
  obtain⟨d0,d1,d2,d3,d4,d5,d6,d7,d8⟩:=bZ hx4;clear ho4 hx4 hb4 hg4 HX2 HB2 HGA HBX HB0 HRP d0 d1 d2 d3 d4 d5
  go_upto_if 14 with(fail)
  go_cut [6] (fun x6 wx=>x6=.int .i64 (h.flags+(if h.text then 1 else 0))/\wx=w3)
  case first=>
   generalize h.text=tx at*
   cases tx
   all_goals
    go_wp2
    go_meet
    case rel=>exact⟨by simp,rfl⟩
  case rest=>
   obtain⟨rfl,hwc⟩:=hcut;subst hwc;have ht1:(0:Int)<=(if h.text=true then 1 else 0)/\(if h.text=true then(1:Int)else 0)<=1:=by split<;>omega
   have hft:(cJ h:Int)=h.flags+(if h.text=true then 1 else 0)+(if h.sum=true then 2 else 0):=by
    unfold cJ
    rcases hfl with e|e|e|e|e|e|e|e<;>rw[e]<;>split<;>split<;>rfl
   have hfi:0<=h.flags/\h.flags<=28:=by omega
   generalize (if h.text=true then(1:Int)else 0)=t1 at*
   clear d6 b1
   go_upto_if 18 with(fail)
   go_cut [6] (fun x6 wx=>x6=.int .i64 (h.flags+t1+(if h.sum=true then 2 else 0))/\wx=wc)
   case first=>
    generalize h.sum=tx at*
    cases tx
    all_goals
     go_wp2
     go_meet
     case rel=>exact⟨by simp,rfl⟩
   case rest=>
    obtain⟨rfl,hwc⟩:=hcut;subst hwc;rw[<-hft]at b3 b4 b5⊢
    have hF:cJ h<256:=by
     have h2:(if h.sum=true then(2:Int)else 0)<=2:=by split<;>omega
     omega
    have hne:(Value.slice (some ⟨w.heap.size,0,none⟩) 9 9).ownBlock≠some g:=by simpa[Value.ownBlock]using hg1
    obtain⟨T,q1⟩:∃T:Nat,T=h.time.toNat:=⟨_,rfl⟩;obtain⟨L,q2⟩:∃T:Nat,T=h.level.toNat:=⟨_,rfl⟩;obtain⟨O,q3⟩:∃T:Nat,T=h.os.toNat:=⟨_,rfl⟩;have HQ:=q7 (⟨by omega,by omega,by omega⟩:h.time=(T:Nat)/\h.level=(L:Nat)/\h.os=(O:Nat))
    have HQ2:Hid (gh0 h=[31,139,8]++leB (cJ h) 1++leB T 4++leB L 1++leB O 1):=q7 (by rw[q1,q2,q3];rfl)
    have HP0:=q7 (q7P hF HS3.out (by decide))
    have HN1:Hid (T<4294967296):=q7 (by omega)
    have HN2:Hid (L<256):=q7 (by omega)
    have HN3:Hid (O<256):=q7 (by omega)
    have HB:=q7 (⟨b3,b4,b5⟩:_/\_/\_);have HFT:=q7 hft;clear q1 q2 q3 b2 b3 b4 b5 hft ht1 hfi hfl d7 d8 p2 p3 p4 p5
    go_upto_region 11 with((with_reducible go_at_call 50);(with_reducible refine HP0.out.mono ?_);rintro en w4 ⟨rfl,hs,hgr⟩;have hx:=HX3.out.keep hgr (.inr hne);have HS4:=q7 hs;have HX4:=q7 hx;clear hs hgr hx HS3 HX3)
    have HP1:=q7 (q8M HN1.out HS4.out (by simp[leB]))
    have d0:w4.cell? ⟨w.heap.size,0,none⟩=some (.int .i64 (T:Nat)):=by rw[<-HQ.out.1];exact(bZ HX4.out).1
    go_upto_region 12 with((with_reducible go_at_call 50);(with_reducible refine HP1.out.mono ?_);rintro en w5 ⟨rfl,hs,hgr⟩;have hx:=HX4.out.keep hgr (.inr hne);have HS5:=q7 hs;have HX5:=q7 hx;clear hs hgr hx HS4 HX4)
    clear d0;have HP2:=q7 (q7P HN2.out HS5.out (by simp[leB]))
    have d4:w5.cell? ⟨w.heap.size,4,none⟩=some (.int .i64 (L:Nat)):=by rw[<-HQ.out.2.1];exact(bZ HX5.out).2.2.2.2.1
    go_upto_region 13 with((with_reducible go_at_call 50);(with_reducible refine HP2.out.mono ?_);rintro en w6 ⟨rfl,hs,hgr⟩;have hx:=HX5.out.keep hgr (.inr hne);have HS6:=q7 hs;have HX6:=q7 hx;clear hs hgr hx HS5 HX5)
    clear d4;have HP3:=q7 (q7P HN3.out HS6.out (by simp[leB]))
    have d5:w6.cell? ⟨w.heap.size,5,none⟩=some (.int .i64 (O:Nat)):=by rw[<-HQ.out.2.2];exact(bZ HX6.out).2.2.2.2.2.1
    obtain⟨b3,b4,b5⟩:=HB.out
    go_upto_if 38 with((with_reducible go_at_call 50);(with_reducible refine HP3.out.mono ?_);rintro en w7 ⟨rfl,hs,hgr⟩;have hx:=HX6.out.keep hgr (.inr hne);have HS7:=q7 hs;have HX7:=q7 hx;clear hs hgr hx HS6 HX6)
    clear d5 HP0 HP1 HP2 HP3;have HS7:Hid (StB w w7 g (gh0 h)):=q7 (by rw[HQ2.out];exact HS7.out)
    clear HQ HQ2 HFT HB HN1 HN2 HN3 hF
    go_cut [] (fun wx=>Hid (StB w wx g (gh1 h))/\Hid (Own wx w.heap.size 23 (.slice (some ⟨w.heap.size,0,none⟩) 9 9) (ghC h).toList))
    case first=>
     generalize hc4:jF h.flags 4=c4 at*;have HC4:=q7 hc4;clear hc4
     cases c4
     ·go_wp2
      go_meet
      case rel=>exact⟨q7 (by unfold gh1;rw[HC4.out];exact HS7.out),HX7⟩
     ·have HP4:=q7 (q8w (n:=h.extra.size) (by have:=HP.out.1;omega) HS7.out (by rw[mG];decide))
      obtain⟨-,d1,-⟩:=bZ HX7.out
      go_upto_region 16 with((with_reducible go_at_call 50);(with_reducible refine HP4.out.mono ?_);rintro en w8 ⟨rfl,hs,hgr⟩;have hx:=HX7.out.keep hgr (.inr hne);have HS8:=q7 hs;have HX8:=q7 hx;clear hs hgr hx HP4)
      clear d1;obtain⟨-,d1,-⟩:=bZ HX8.out;have c0:w8.cell? ⟨g,0,none⟩=some (.string ⟨(gh0 h++leB h.extra.size 2).toArray⟩):=HS8.out.own.cell (i:=0) (by simp)
      have f0:w8.frozen? ⟨g,0,none⟩=false:=HS8.out.own.free 0;have z1:(⟨(gh0 h++leB h.extra.size 2).toArray⟩:ByteArray).size<=100:=by rw[qN,qg,mG,jf];decide
      obtain⟨hs9,hg9⟩:=HS8.out.put (s:=⟨(gh0 h++leB h.extra.size 2).toArray⟩++h.extra) (q:=gh1 h) (by rw[zV];unfold gh1;rw[HC4.out];rfl)
      have HS9:=q7 hs9;have HX9:=q7 (HX8.out.keep hg9 (.inr hne));clear hs9 hg9;go_wp2
      go_meet
      case rel=>exact⟨HS9,HX9⟩
    case rest=>
     obtain⟨HS9,HX9⟩:=hcut
     go_upto_if 50 with(fail)
     go_cut [] (fun wx=>Hid (StB w wx g (gh2 h))/\Hid (Own wx w.heap.size 23 (.slice (some ⟨w.heap.size,0,none⟩) 9 9) (ghC h).toList))
     case first=>
      generalize hc:jF h.flags 8=c4 at*;have HC4:=q7 hc;clear hc
      cases c4
      ·go_wp2
       go_meet
       case rel=>exact⟨q7 (by unfold gh2;rw[HC4.out];exact HS9.out),HX9⟩
      ·obtain⟨-,-,d1,-⟩:=bZ HX9.out
       have c0:wc.cell? ⟨g,0,none⟩=some (.string ⟨(gh1 h).toArray⟩):=HS9.out.own.cell (i:=0) (by simp)
       have f0:wc.frozen? ⟨g,0,none⟩=false:=HS9.out.own.free 0;have z1:(⟨(gh1 h).toArray⟩:ByteArray).size<=400000:=by rw[qN];have:=sR h;omega
       have z2:(h.name++(⟨#[0]⟩:ByteArray)).size<=100001:=by rw[wX,qN,qg,qF,List.length_singleton];omega
       obtain⟨hs9,hg9⟩:=HS9.out.put (s:=⟨(gh1 h).toArray⟩++(h.name++⟨#[0]⟩)) (q:=gh2 h) (by rw[wX,jA];unfold gh2;rw[HC4.out,if_pos rfl,qh])
       have HSn:=q7 hs9;have HXn:=q7 (HX9.out.keep hg9 (.inr hne));clear hs9 hg9;go_wp2
       go_meet
       case rel=>exact⟨HSn,HXn⟩
     case rest=>
      obtain⟨qbQ,qcl⟩:=hcut
      go_upto_if 58 with(fail)
      go_cut [] (fun wx=>Hid (StB w wx g (gh3 h))/\Hid (Own wx w.heap.size 23 (.slice (some ⟨w.heap.size,0,none⟩) 9 9) (ghC h).toList))
      case first=>
       generalize hc:jF h.flags 16=c4 at*;have HC4:=q7 hc;clear hc
       cases c4
       ·go_wp2
        go_meet
        case rel=>exact⟨q7 (by unfold gh3;rw[HC4.out];exact qbQ.out),qcl⟩
       ·obtain⟨-,-,-,d1,-⟩:=bZ qcl.out
        have c0:wc.cell? ⟨g,0,none⟩=some (.string ⟨(gh2 h).toArray⟩):=qbQ.out.own.cell (i:=0) (by simp)
        have f0:wc.frozen? ⟨g,0,none⟩=false:=qbQ.out.own.free 0;have z1:(⟨(gh2 h).toArray⟩:ByteArray).size<=400000:=by rw[qN];have:=sS h;omega
        have z2:(h.note++(⟨#[0]⟩:ByteArray)).size<=100001:=by rw[wX,qN,qg,qF,List.length_singleton];omega
        obtain⟨hs9,hg9⟩:=qbQ.out.put (s:=⟨(gh2 h).toArray⟩++(h.note++⟨#[0]⟩)) (q:=gh3 h) (by rw[wX,jA];unfold gh3;rw[HC4.out,if_pos rfl,qh])
        have HSn:=q7 hs9;have HXn:=q7 (qcl.out.keep hg9 (.inr hne));clear hs9 hg9;go_wp2
        go_meet
        case rel=>exact⟨HSn,HXn⟩
      case rest=>
       obtain⟨qbc,qdT⟩:=hcut;obtain⟨-,-,-,-,-,-,-,d7,-⟩:=bZ qdT.out;have c0:wc.cell? ⟨g,0,none⟩=some (.string ⟨(gh3 h).toArray⟩):=qbc.out.own.cell (i:=0) (by simp)
       have HSM:=q7 (fun W=>q8v (s:=⟨(gh3 h).toArray⟩) (by rw[qN];have:=sU h;omega) W)
       have hbg:bys ⟨(gh3 h).toArray⟩=gh3 h:=rfl;rw[hbg]at HSM;have hm:bL (gh3 h)%65536<65536:=Nat.mod_lt _ (by decide)
       have HPF:Hid (∀W,StB w W g (gh3 h)->Calls Tryz.prog 50 #[.int .i64 (bL (gh3 h)%65536:Nat),.int .i64 2,.pointer (some ⟨g,0,none⟩)] W fun e w'=>e=.returned (.tuple #[])/\StB w w' g (gh3 h++leB (bL (gh3 h)%65536) 2)/\W.grownBy w' (some g)):=q7 (fun W hW=>q8w hm hW (by have:=sU h;omega))
       have HR2:Hid (R=⟨(if h.sum=true then gh3 h++leB (bL (gh3 h)%65536) 2 else gh3 h).toArray⟩):=q7 (by rw[HRR.out];rfl)
       generalize bL (gh3 h)%65536=cs at*;generalize gh3 h=G at*;generalize h.sum=sm at*;clear hm hbg HRR HP
       cases sm
       ·go_wp2
        go_ret2
        exact⟨by rw[HR2.out];rfl,qt qbc.out.bel⟩
       ·go_wp2_with(first
         |((with_reducible go_at_call 51);(with_reducible refine(HSM.out _).mono ?_);rintro en w12 ⟨rfl,hx⟩;have q9E:=qr hx;have qaT:Hid (StB w w12 g G):=q7 ⟨qbc.out.own.up q9E,qq qbc.out.bel q9E⟩;clear hx q9E c0)
         |((with_reducible go_at_call 50);(with_reducible refine(HPF.out _ qaT.out).mono ?_);rintro en w13 ⟨rfl,hs,hgr⟩;have qbP:=q7 hs;have c13:w13.cell? ⟨g,0,none⟩=some (.string ⟨(G++leB cs 2).toArray⟩):=hs.own.cell (i:=0) (by simp);clear hs hgr))
        go_ret2
        exact⟨by rw[HR2.out];rfl,qt qbP.out.bel⟩
def mJ(s:ByteArray)(W:Nat):Option Nat->Nat×Option Nat
 |none=>(0,none)
 |some p=>if p+W<=s.size then(qJ s p W,some (p+W))else(0,none)
def nU(s:ByteArray)(p n:Nat):qK:=((bys s).drop p).take n
def dZ(s:ByteArray)(o:Option Nat):qK×Option Nat:=
 match mJ s 2 o with
 |(_,none)=>([],none)
 |(n,some p)=>if s.size-p<n then([],none)else(nU s p n,some (p+n))
def zIx(s:ByteArray)(p:Nat):Nat:=((bys s).drop p).findIdx (· ==0)
def lK(s:ByteArray):Option Nat->qK×Option Nat
 |none=>([],none)
 |some p=>if p+zIx s p<s.size then(nU s p (zIx s p),some (p+zIx s p+1))else([],none)
def wY(b:Bool)(f:Option Nat->qK×Option Nat)(o:Option Nat):qK×Option Nat:=if b then f o else([],o)
def zGH:GH:=⟨0,⟨#[]⟩,⟨#[]⟩,⟨#[]⟩,0,0,false,false,0⟩
def yB(s:ByteArray)(f:Nat):qK×qK×qK×Option Nat:=
 let a:=wY (jF f 4) (dZ s) (some 10)
 let b:=wY (jF f 8) (lK s) a.2
 let c:=wY (jF f 16) (lK s) b.2
 (a.1,b.1,c.1,c.2)
def iP(s:ByteArray)(y:qK×qK×qK×Option Nat):GH:=
 ⟨(qJ s 4 4:Nat),⟨y.1.toArray⟩,⟨y.2.1.toArray⟩,⟨y.2.2.1.toArray⟩,(qJ s 8 1:Nat),(qJ s 9 1:Nat),jF (qJ s 3 1:Nat) 1,jF (qJ s 3 1:Nat) 2,((qJ s 3 1/4*4:Nat):Int)⟩
def q26(s:ByteArray)(y:qK×qK×qK×Option Nat):Nat×GH×Nat:=
 match y.2.2.2 with
 |none=>(2,zGH,0)
 |some p=>if jF (qJ s 3 1:Nat) 2 then(if p+2<=s.size then(if qJ s p 2≠bL ((bys s).take p)%65536 then(5,zGH,0)else(0,iP s y,p+2))else(2,zGH,0))else(0,iP s y,p)
def qU(s:ByteArray):Nat×GH×Nat:=
 if s.size<10 then(2,zGH,0)else if(bys s).take 3≠[31,139,8]then(12,zGH,0)else if 32<=qJ s 3 1 then(13,zGH,0)
 else q26 s (yB s (qJ s 3 1))
theorem q13(s:ByteArray)(p:Nat):zIx s p<=s.size-p:=by
 unfold zIx;have:=List.findIdx_le_length (p:=(· ==0)) (xs:=(bys s).drop p)
 rw[List.length_drop,qF]at this
 exact this
theorem q42{s:ByteArray}{p:Nat}(h:p+zIx s p<s.size):(bys s).getD (p+zIx s p) 0=0:=by
 have hl:zIx s p<((bys s).drop p).length:=by rw[List.length_drop,qF];omega
 have hx:(((bys s).drop p)[zIx s p]'hl==0)=true:=List.findIdx_getElem (p:=(· ==(0:UInt8))) (xs:=(bys s).drop p) (w:=hl)
 have e:((bys s).drop p)[zIx s p]'hl=(bys s).getD (p+zIx s p) 0:=by
  rw[List.getElem_drop,List.getD_eq_getElem?_getD,List.getElem?_eq_getElem (by rw[qF];exact h)];rfl
 rw[e]at hx
 simpa using hx
theorem q43{s:ByteArray}{p i:Nat}(h:i<zIx s p):(bys s).getD (p+i) 0≠0:=by
 have hz:=q13 s p;have hl:i<((bys s).drop p).length:=by rw[List.length_drop,qF];omega
 have hx:(((bys s).drop p)[i]'hl==0)=false:=by
  have:=List.not_of_lt_findIdx (p:=(· ==(0:UInt8))) (xs:=(bys s).drop p) h
  simpa using this
 have e:((bys s).drop p)[i]'hl=(bys s).getD (p+i) 0:=by
  rw[List.getElem_drop,List.getD_eq_getElem?_getD,List.getElem?_eq_getElem (by rw[qF];omega)];rfl
 rw[e]at hx
 simpa using hx
def sV(w:World)(B g:Nat)(s:ByteArray)(o:Option Nat):Prop:=∃p:Nat,p<=s.size/\(∀q,o=some q->q=p)/\Own w B 134 (.slice (some ⟨g,0,none⟩) 3 3) [.string s,.int .i64 p,.bool o.isNone]
theorem sV.keep{w w':World}{B g:Nat}{s:ByteArray}{o:Option Nat}{row:Option Nat}(h:sV w B g s o)(hg:w.grownBy w' row)(hne:row≠some g):sV w' B g s o:=by
 obtain⟨p,h1,h2,h3⟩:=h
 exact⟨p,h1,h2,h3.keep hg (.inr (by simpa[Value.ownBlock]using fun e=>hne e.symm))⟩
theorem sV.up{w w':World}{B g:Nat}{s:ByteArray}{o:Option Nat}(h:sV w B g s o)(hb:Below w.heap.size w w'):sV w' B g s o:=by
 obtain⟨p,h1,h2,h3⟩:=h
 exact⟨p,h1,h2,h3.up hb⟩
theorem q6M{s:ByteArray}{a W:Nat}(hW:W=1\/W=2\/W=4)(ha:a<=s.size)(h:s.size<a+W)(hs:s.size<=4611686018427387904)(w:World):Calls Tryz.prog 83 #[.string s,.int .i64 a,.int .i64 W] w fun e w'=>e=.returned (.tuple #[.int .i64 0,.int .i64 2])/\∃x,w'=ext w x:=by
 have HW:=q7 (fun w=>I0 hW w)
 have c1:decide ((a:Int)>(s.size:Nat))=false:=by rw[qm];omega
 have c2:((s.size:Int)-(a:Nat)<(W:Nat)):=by omega
 have c3:decide (s.size<a)=false:=by rw[qm];omega
 go_enter Tryz.func83,Tryz.ntmps83
 go_wp2_with((with_reducible go_at_call 57);refine(HW.out _).mono ?_;rintro en w2 ⟨rfl,x2,rfl⟩)
 go_ret2
 exact⟨rfl,(qt (by repeat(first|exact qj _ _|assumption|refine qw ?_ _|refine qk ?_|refine qA ?_ _|refine qs ?_ _)))⟩
theorem q30{s:ByteArray}{a W:Nat}(hW:W=1\/W=2\/W=4)(ha:a<=s.size)(hs:s.size<=4611686018427387904)(w:World):Calls Tryz.prog 83 #[.string s,.int .i64 a,.int .i64 W] w fun e w'=>e=.returned (.tuple #[.int .i64 (if a+W<=s.size then qJ s a W else 0:Nat),.int .i64 (if a+W<=s.size then 0 else 2:Nat)])/\∃x,w'=ext w x:=by
 by_cases h:a+W<=s.size
 ·rw[if_pos h,if_pos h]
  rcases hW with rfl|rfl|rfl
  ·exact q2S h hs w
  ·exact q2T h hs w
  ·exact wO h hs w
 ·rw[if_neg h,if_neg h]
  exact q6M hW ha (by omega) hs w
theorem q7Q{w:World}{B g W:Nat}{s:ByteArray}{o:Option Nat}(hW:W=1\/W=2\/W=4)(hs:s.size<=4294967296)(h:sV w B g s o):Calls Tryz.prog 74 #[.pointer (some ⟨g,0,none⟩),.int .i64 W] w fun e w'=>e=.returned (.int .i64 ((mJ s W o).1:Nat))/\sV w' B g s (mJ s W o).2/\w.grownBy w' (some g):=by
 obtain⟨p,hp,hq,ho⟩:=h;obtain⟨R,hR⟩:∃R,R=mJ s W o:=⟨_,rfl⟩;rw[<-hR];have HR0:=q7 hR;clear hR;have HN:=q7 (fun W'=>q30 hW hp (by omega) W')
 have c0:w.cell? ⟨g,0,none⟩=some (.string s):=ho.cell (i:=0) (by simp)
 have c1:w.cell? ⟨g,1,none⟩=some (.int .i64 (p:Nat)):=ho.cell (i:=1) (by simp)
 have hlt:=ho.blk.2;have HO:=q7 ho
 go_enter Tryz.func74,Tryz.ntmps74
 go_wp2;refine qY (by kernel_rfl) (by kernel_rfl) ?_
 repeat(go_big_quiet_step ((go_at_call 83;(with_reducible exact jx (HN.out _)))))
 refine wpQuiet_nil ?_;intro w2 hw2;have hb2:=qr hw2;have K2:=HO.out.up hb2;have HB2:=q7 hb2;have e0:w2.cell? ⟨g,0,none⟩=some (.string s):=K2.cell (i:=0) (by simp)
 have e1:w2.cell? ⟨g,1,none⟩=some (.int .i64 (p:Nat)):=K2.cell (i:=1) (by simp)
 have e2:w2.cell? ⟨g,2,none⟩=some (.bool o.isNone):=K2.cell (i:=2) (by simp)
 have f1:w2.frozen? ⟨g,1,none⟩=false:=K2.free 1;have f2:w2.frozen? ⟨g,2,none⟩=false:=K2.free 2;have l2:=K2.blk.2;have HK2:=q7 K2;clear hb2 K2 hw2 c0 c1 hlt HN
 cases o with
 |none=>
  obtain⟨ho,hgr⟩:=HK2.out.store 2 (.bool true);have qbD:=qp (qv HB2.out (some g)) hgr;simp only[Option.isNone_none]at e2;generalize (if p+W<=s.size then qJ s p W else 0)=v at*
  generalize (if p+W<=s.size then 0 else 2)=er at*
  go_wp2;go_ret;have hR:R=(0,none):=HR0.out;rw[hR]
  exact⟨rfl,⟨p,hp,fun q hq=>(by cases hq),by simpa using ho⟩,qbD⟩
 |some q=>
  obtain rfl:=hq q rfl;simp only[Option.isNone_some]at e2
  by_cases hf:q+W<=s.size
  ·have HR:Hid (R=(qJ s q W,some (q+W))):=q7 (by rw[HR0.out];exact if_pos hf)
   obtain⟨ho,hgr⟩:=HK2.out.store 2 (.bool false);obtain⟨ho2,qbD⟩:=ho.store 1 (.int .i64 ((q:Int)+(W:Int)));have qjq:=qp (qp (qv HB2.out (some g)) hgr) qbD;simp only[if_pos hf];have hWb:W<=4:=by omega
   generalize qJ s q W=v at*;go_wp2;go_ret;rw[HR.out];refine⟨rfl,⟨q+W,hf,fun x hx=>(by cases hx;rfl),by simpa using ho2⟩,qjq⟩
  ·have HR:Hid (R=(0,none)):=q7 (by rw[HR0.out];exact if_neg hf)
   obtain⟨ho,hgr⟩:=HK2.out.store 2 (.bool true);have qbD:=qp (qv HB2.out (some g)) hgr;simp only[if_neg hf];go_wp2;go_ret;rw[HR.out];refine⟨rfl,⟨q,hp,fun x hx=>(by cases hx),by simpa using ho⟩,qbD⟩
theorem q7V{w:World}{B g:Nat}{s:ByteArray}{o:Option Nat}(hs:s.size<=4294967296)(h:sV w B g s o):Calls Tryz.prog 74 #[.pointer (some ⟨g,0,none⟩),.int .i64 1] w fun e w'=>e=.returned (.int .i64 ((mJ s 1 o).1:Nat))/\sV w' B g s (mJ s 1 o).2/\w.grownBy w' (some g):=q7Q (W:=1) (.inl rfl) hs h
theorem q7p{w:World}{B g:Nat}{s:ByteArray}{o:Option Nat}(hs:s.size<=4294967296)(h:sV w B g s o):Calls Tryz.prog 74 #[.pointer (some ⟨g,0,none⟩),.int .i64 2] w fun e w'=>e=.returned (.int .i64 ((mJ s 2 o).1:Nat))/\sV w' B g s (mJ s 2 o).2/\w.grownBy w' (some g):=q7Q (W:=2) (.inr (.inl rfl)) hs h
theorem q8P{w:World}{B g:Nat}{s:ByteArray}{o:Option Nat}(hs:s.size<=4294967296)(h:sV w B g s o):Calls Tryz.prog 74 #[.pointer (some ⟨g,0,none⟩),.int .i64 4] w fun e w'=>e=.returned (.int .i64 ((mJ s 4 o).1:Nat))/\sV w' B g s (mJ s 4 o).2/\w.grownBy w' (some g):=q7Q (W:=4) (.inr (.inr rfl)) hs h
theorem q5g(s:ByteArray)(o:Option Nat):(mJ s 2 o).1<65536:=by
 unfold mJ;split
 ·decide
 ·split
  ·exact dU _ _ 2
  ·decide
theorem sZ(s:ByteArray)(a n:Nat)(h:a+n<=s.size)(W:World):(Instr.sliceAt 9 (.string s) (some (.int .i64 (a:Int))) (some (.int .i64 ((a:Int)+(n:Int)))) none).run Tryz.prog W=.ok (.string ⟨(nU s a n).toArray⟩) W:=by
 rw[run_sliceAt_string (P:=Tryz.prog) (t:=9) (h:=Tryz.underlying9),run_slice_string_if (P:=Tryz.prog) (t:=9) (h:=Tryz.underlying9),if_pos ⟨by omega,by omega⟩,if_pos ⟨by omega,by omega⟩]
 rw[bY (l:=nU s a n) (by unfold nU;rw[show((a:Int)+(n:Int)).toNat-((a:Int)).toNat=n by omega,show((a:Int)).toNat=a by omega])]
def q6P(B g:Nat)(s:ByteArray)(y:qK×Option Nat)(w:World)(e:Ending)(w':World):Prop:=e=.returned (.string ⟨y.1.toArray⟩)/\sV w' B g s y.2/\w.grownBy w' (some g)
theorem q7W{w:World}{B g:Nat}{s:ByteArray}{o:Option Nat}(hs:s.size<=4294967296)(h:sV w B g s o):Calls Tryz.prog 120 #[.pointer (some ⟨g,0,none⟩)] w (q6P B g s (dZ s o) w):=by
 have HN:=q7 (q7p hs h);obtain⟨R,hR⟩:∃R,R=dZ s o:=⟨_,rfl⟩;rw[<-hR];have hRe:R=(match(mJ s 2 o)with|(_,none)=>([],none)|(n,some p)=>if s.size-p<n then([],none)else(nU s p n,some (p+n))):=hR
 have HR:=q7 hRe;have hnl:=q5g s o;clear hR hRe h;generalize mJ s 2 o=y at*;obtain⟨n,o2⟩:=y;simp only at hnl
 go_enter Tryz.func120,Tryz.ntmps120
 go_wp2_with((with_reducible go_at_call 74);(with_reducible refine HN.out.mono ?_);rintro en w2 ⟨rfl,⟨p,hp,hq,ho⟩,hg2⟩;have HG2:=q7 hg2;have HO:=q7 ho;clear hg2 ho)
 have e0:w2.cell? ⟨g,0,none⟩=some (.string s):=HO.out.cell (i:=0) (by simp)
 have e1:w2.cell? ⟨g,1,none⟩=some (.int .i64 (p:Nat)):=HO.out.cell (i:=1) (by simp)
 have e2:w2.cell? ⟨g,2,none⟩=some (.bool o2.isNone):=HO.out.cell (i:=2) (by simp)
 have f1:w2.frozen? ⟨g,1,none⟩=false:=HO.out.free 1;have f2:w2.frozen? ⟨g,2,none⟩=false:=HO.out.free 2;have l2:=HO.out.blk.2
 cases o2 with
 |none=>
  have hR2:R=([],none):=HR.out;simp only[Option.isNone_none]at e2;obtain⟨ho,hgr⟩:=HO.out.store 2 (.bool true);have HO3:=q7 (ho.up (qC _ 1));have HG3:=q7 (qp HG2.out (qp hgr (qV _ (some g))));clear ho hgr;refine qZ [0,1,2,3,4,5,6,7,8,9,10,11,12,13,14,15,16,17,18,19,20] [] [21] (by kernel_rfl) (by kernel_rfl) ?_
  simp only[pk]
  repeat(go_big_quiet_step (fail))
  refine wpQuiet_nil ?_;unfold qy;unfold qy;go_wp2;refine⟨trivial,?_⟩;unfold qy;rw[show(w2.setCell ⟨g,2,none⟩ (.bool true)).drewN 1=(w2.setCell ⟨g,2,none⟩ (.bool true)).drew from rfl]at HO3
  generalize (w2.setCell ⟨g,2,none⟩ (.bool true)).drew=w3 at*;have k0:w3.cell? ⟨g,0,none⟩=some (.string s):=HO3.out.cell (i:=0) (by simp)
  have k1:w3.cell? ⟨g,1,none⟩=some (.int .i64 (p:Nat)):=HO3.out.cell (i:=1) (by simp)
  have k2:w3.cell? ⟨g,2,none⟩=some (.bool true):=HO3.out.cell (i:=2) (by simp)
  have j1:w3.frozen? ⟨g,1,none⟩=false:=HO3.out.free 1;have m3:=HO3.out.blk.2;clear e0 e1 e2 f1 f2 l2;go_wp2;go_ret;rw[hR2]
  exact⟨rfl,⟨p,hp,fun x hx=>(by cases hx),by simpa using HO3.out⟩,HG3.out⟩
 |some q=>
  obtain rfl:=hq q rfl;simp only[Option.isNone_some]at e2
  by_cases hf:s.size-q<n
  ·have hR2:R=([],none):=by rw[HR.out];exact if_pos hf
   have hfi:(n:Int)>(s.size:Nat)-(q:Nat):=by omega
   obtain⟨ho,hgr⟩:=HO.out.store 2 (.bool true);have HO3:=q7 (ho.up (qC _ 1));have HG3:=q7 (qp HG2.out (qp hgr (qV _ (some g))));clear ho hgr;refine qZ [0,1,2,3,4,5,6,7,8,9,10,11,12,13,14,15,16,17,18,19,20] [] [21] (by kernel_rfl) (by kernel_rfl) ?_
   simp only[pk]
   repeat(go_big_quiet_step (fail))
   refine wpQuiet_nil ?_;unfold qy;unfold qy;go_wp2;refine⟨trivial,?_⟩;unfold qy;rw[show(w2.setCell ⟨g,2,none⟩ (.bool true)).drewN 1=(w2.setCell ⟨g,2,none⟩ (.bool true)).drew from rfl]at HO3
   generalize (w2.setCell ⟨g,2,none⟩ (.bool true)).drew=w3 at*;have k0:w3.cell? ⟨g,0,none⟩=some (.string s):=HO3.out.cell (i:=0) (by simp)
   have k1:w3.cell? ⟨g,1,none⟩=some (.int .i64 (q:Nat)):=HO3.out.cell (i:=1) (by simp)
   have k2:w3.cell? ⟨g,2,none⟩=some (.bool true):=HO3.out.cell (i:=2) (by simp)
   have j1:w3.frozen? ⟨g,1,none⟩=false:=HO3.out.free 1;have m3:=HO3.out.blk.2;clear e0 e1 e2 f1 f2 l2;go_wp2;go_ret;rw[hR2]
   exact⟨rfl,⟨q,hp,fun x hx=>(by cases hx),by simpa using HO3.out⟩,HG3.out⟩
  ·have hR2:R=(nU s q n,some (q+n)):=by rw[HR.out];exact if_neg hf
   have hfi:decide ((n:Int)>(s.size:Nat)-(q:Nat))=false:=by rw[qm];omega
   obtain⟨ho,hgr⟩:=HO.out.store 2 (.bool false);have HO3:=q7 (ho.up (qC _ 1));have HG3:=q7 (qp HG2.out (qp hgr (qV _ (some g))));clear ho hgr;refine qZ [0,1,2,3,4,5,6,7,8,9,10,11,12,13,14,15,16,17,18,19,20] [] [21] (by kernel_rfl) (by kernel_rfl) ?_
   simp only[pk]
   repeat(go_big_quiet_step (fail))
   refine wpQuiet_nil ?_;unfold qy;unfold qy;go_wp2;refine⟨trivial,?_⟩;unfold qy;rw[show(w2.setCell ⟨g,2,none⟩ (.bool false)).drewN 1=(w2.setCell ⟨g,2,none⟩ (.bool false)).drew from rfl]at HO3
   generalize (w2.setCell ⟨g,2,none⟩ (.bool false)).drew=w3 at*;have k0:w3.cell? ⟨g,0,none⟩=some (.string s):=HO3.out.cell (i:=0) (by simp)
   have k1:w3.cell? ⟨g,1,none⟩=some (.int .i64 (q:Nat)):=HO3.out.cell (i:=1) (by simp)
   have k2:w3.cell? ⟨g,2,none⟩=some (.bool false):=HO3.out.cell (i:=2) (by simp)
   have j1:w3.frozen? ⟨g,1,none⟩=false:=HO3.out.free 1;have m3:=HO3.out.blk.2;clear e0 e1 e2 f1 f2 l2;have HR2:=q7 hR2;clear hR2
   go_upto_region 6 with(fail)
   obtain⟨ho,hgr⟩:=HO3.out.store 1 (.int .i64 ((q:Int)+(n:Int)));have HO4:=q7 ho;have HG4:=q7 (qp HG3.out hgr);clear ho hgr k0 k1 k2 j1 m3;generalize w3.setCell ⟨g,1,none⟩ (.int .i64 ((q:Int)+(n:Int)))=w4 at*;have k0:w4.cell? ⟨g,0,none⟩=some (.string s):=HO4.out.cell (i:=0) (by simp)
   have k1:w4.cell? ⟨g,1,none⟩=some (.int .i64 ((q:Int)+(n:Int))):=HO4.out.cell (i:=1) (by simp)
   have m4:=HO4.out.blk.2;have HSL:=q7 (fun W=>sZ s q n (by omega) W)
   refine qY (by kernel_rfl) (by kernel_rfl) ?_
   repeat(first
    |(go_big_quiet_want;(with_reducible show Oper.quiet _ (Oper.mk _ (.slice _ _ _ _ _) _ _ _ _) _ _ _);refine mN 9 _ (some _) (some _) none rfl _ (fun w' _=>HSL.out w') ?_;go_simp;go_big_quiet_on)
    |go_big_quiet_step (fail))
   refine wpQuiet_nil ?_;intro w5 hw5;have hb5:=qr hw5;have HO5:=q7 (HO4.out.up hb5);have HG5:=q7 (qp HG4.out (qv hb5 (some g)));clear hb5 hw5;go_wp2;go_ret;rw[HR2.out]
   exact⟨rfl,⟨q+n,by omega,fun x hx=>(by cases hx;rfl),by simpa using HO5.out⟩,HG5.out⟩
theorem q1c(s:ByteArray)(a i n:Nat)(hi:i=a+n)(h:i<=s.size)(W:World):(Instr.sliceAt 9 (.string s) (some (.int .i64 (a:Int))) (some (.int .i64 (i:Int))) none).run Tryz.prog W=.ok (.string ⟨(nU s a n).toArray⟩) W:=by
 subst hi
 exact sZ s a n h W
theorem q8x{w:World}{B g:Nat}{s:ByteArray}{o:Option Nat}(hs:s.size<=4294967296)(h:sV w B g s o):Calls Tryz.prog 121 #[.pointer (some ⟨g,0,none⟩)] w (q6P B g s (lK s o) w):=by
 obtain⟨R,hR⟩:∃R,R=lK s o:=⟨_,rfl⟩;rw[<-hR];have HR:=q7 hR;clear hR;obtain⟨p,hp,hq,ho⟩:=h;have e0:w.cell? ⟨g,0,none⟩=some (.string s):=ho.cell (i:=0) (by simp)
 have e1:w.cell? ⟨g,1,none⟩=some (.int .i64 (p:Nat)):=ho.cell (i:=1) (by simp)
 have e2:w.cell? ⟨g,2,none⟩=some (.bool o.isNone):=ho.cell (i:=2) (by simp)
 have f1:w.frozen? ⟨g,1,none⟩=false:=ho.free 1;have f2:w.frozen? ⟨g,2,none⟩=false:=ho.free 2;have l2:=ho.blk.2;obtain⟨hst,hgt⟩:=ho.store 2 (.bool true);have HST:=q7 hst;have HGT:=q7 hgt;have HO:=q7 ho;clear ho hst hgt
 cases o with
 |none=>
  simp only[Option.isNone_none]at e2;have hR2:R=([],none):=HR.out
  go_enter Tryz.func121,Tryz.ntmps121
  go_wp2;refine wp_loop_rounds 1 ?_;rw[rounds_succ];go_wp2
  all_goals
   go_ret;rw[hR2]
   exact⟨rfl,⟨p,hp,fun x hx=>(by cases hx),by simpa using HST.out⟩,HGT.out⟩
 |some q=>
  obtain rfl:=hq q rfl;simp only[Option.isNone_some]at e2;have HIX:=q7 (fun(i:Nat) (h:i<s.size) (W:World)=>jS (P:=Tryz.prog) 9 Tryz.underlying9 h W)
  have HZL:=q7 (q13 s q);have HZA:=q7 (q42 (s:=s) (p:=q));have HZT:=q7 (fun i=>q43 (s:=s) (p:=q) (i:=i))
  have HR3:Hid (R=if q+zIx s q<s.size then(nU s q (zIx s q),some (q+zIx s q+1))else([],none)):=q7 (by rw[HR.out];rfl)
  generalize zIx s q=z at*;clear HR
  go_enter Tryz.func121,Tryz.ntmps121
  go_wp2
  go_loopg [3] z (fun gk iv wr=>∃(i:Nat),i<=z/\iv=.int .i64 ((q+i:Nat):Int)/\gk=z-i/\wr=w)
  case atStart=>exact⟨0,qc _,rfl,rfl,rfl⟩
  case round=>
   obtain⟨i,hi,rfl,rfl,rfl⟩:=hrel;have hzl:=HZL.out
   by_cases h1:q+i<s.size
   ·have h1i:((q+i:Nat):Int)<(s.size:Nat):=by omega
    have hix:=HIX.out (q+i) h1
    by_cases h2:i<z
    ·have hne:=rQ (HZT.out i h2)
     simp only[show((UInt8.toNat 0:Nat):Int)=0 from rfl]at hne
     generalize ((bys s).getD (q+i) 0).toNat=y at*;generalize hqi:q+i=qi at*;have HQI:=q7 hqi;clear HIX hqi;go_wp2
     go_roundg (z-(i+1))
     case measure=>omega
     case rel=>exact⟨i+1,by omega,by congr 1;have:=HQI.out;omega,rfl,rfl⟩
    ·obtain rfl:i=z:=by omega
     have hz0:=HZA.out h1;rw[hz0]at hix;simp only[show((UInt8.toNat 0:Nat):Int)=0 from rfl]at hix
     have hR2:R=(nU s q i,some (q+i+1)):=by rw[HR3.out,if_pos h1]
     have HR2:=q7 hR2;have HSL:=q7 (fun W=>q1c s q (q+i) i rfl (by omega) W)
     clear HIX hz0 hR2 HZL HZA HZT HR3 HST HGT;have HQI:Hid (q+i+1<=s.size):=q7 h1;generalize q+i=qi at*
     go_upto_region 5 with(fail)
     refine qY (by kernel_rfl) (by kernel_rfl) ?_
     repeat(first
      |(go_big_quiet_want;(with_reducible show Oper.quiet _ (Oper.mk _ (.slice _ _ _ _ _) _ _ _ _) _ _ _);refine mN 9 _ (some _) (some _) none rfl _ (fun w' _=>HSL.out w') ?_;go_simp;go_big_quiet_on)
      |go_big_quiet_step (fail))
     refine wpQuiet_nil ?_;intro w5 hw5;have hb5:=qr hw5;have K5:=HO.out.up hb5;obtain⟨ho6,hg6⟩:=K5.store 1 (.int .i64 ((qi:Int)+1));have HG6:=q7 (qp (qv hb5 (some g)) hg6);have HO6:=q7 ho6;have d1:w5.cell? ⟨g,1,none⟩=some (.int .i64 (q:Nat)):=K5.cell (i:=1) (by simp)
     have j1:w5.frozen? ⟨g,1,none⟩=false:=K5.free 1;have m5:=K5.blk.2;clear hw5 hb5 K5 ho6 hg6 e0 e1 e2 f1 f2 l2;go_wp2;go_ret;rw[HR2.out]
     exact⟨rfl,⟨qi+1,HQI.out,fun x hx=>(by cases hx;rfl),by simpa using HO6.out⟩,HG6.out⟩
   ·have h1i:decide (((q+i:Nat):Int)<(s.size:Nat))=false:=by rw[qm];omega
    have hR2:R=([],none):=by rw[HR3.out,if_neg (by omega)]
    have HR2:=q7 hR2;clear hR2;generalize q+i=qi at*;go_wp2;go_ret;rw[HR2.out]
    exact⟨rfl,⟨q,hp,fun x hx=>(by cases hx),by simpa using HST.out⟩,HGT.out⟩
theorem q38:∀f:Nat,f<32->(bits .and .i64 (f:Int) 4 != 0)=jF f 4/\(bits .and .i64 (f:Int) 8 != 0)=jF f 8/\(bits .and .i64 (f:Int) 16 != 0)=jF f 16:=by decide+kernel
def hC(tm:Int)(y:qK×qK×qK×Option Nat)(lv os:Int)(tx sm:Bool)(fl:Int):List Value:=[.int .i64 tm,.string ⟨y.1.toArray⟩,.string ⟨y.2.1.toArray⟩,.string ⟨y.2.2.1.toArray⟩,.int .i64 lv,.int .i64 os,.bool tx,.bool sm,.int .i64 fl]
def fs1(s:ByteArray)(f:Nat)(o:Option Nat):qK×qK×qK×Option Nat:=((wY (jF f 4) (dZ s) o).1,[],[],(wY (jF f 4) (dZ s) o).2)
def fs2(s:ByteArray)(f:Nat)(o:Option Nat):qK×qK×qK×Option Nat:=((fs1 s f o).1,(wY (jF f 8) (lK s) (fs1 s f o).2.2.2).1,[],(wY (jF f 8) (lK s) (fs1 s f o).2.2.2).2)
def fs3(s:ByteArray)(f:Nat)(o:Option Nat):qK×qK×qK×Option Nat:=((fs2 s f o).1,(fs2 s f o).2.1,(wY (jF f 16) (lK s) (fs2 s f o).2.2.2).1,(wY (jF f 16) (lK s) (fs2 s f o).2.2.2).2)
def fsO(s:ByteArray)(f:Nat)(o:Option Nat)(i:Nat):qK×qK×qK×Option Nat:=if i=0 then([],[],[],o)else if i=1 then fs1 s f o else if i=2 then fs2 s f o else fs3 s f o
theorem q1d(s:ByteArray)(f:Nat):fs3 s f (some 10)=yB s f:=rfl
theorem q7X(g:Option Nat->qK×Option Nat)(o:Option Nat):wY false g o=([],o):=rfl
theorem q7Y(g:Option Nat->qK×Option Nat)(o:Option Nat):wY true g o=g o:=rfl
theorem oW(S:Nat->Prop)(w:World):Fx S w w.drew:=qP (qS (qj _ _))
theorem q1e{s:ByteArray}{f:Nat}{o:Option Nat}(h:jF f 4=false):fsO s f o 1=fsO s f o 0:=by simp[fsO,fs1,h,q7X]
theorem q1f{s:ByteArray}{f:Nat}{o:Option Nat}(h:jF f 8=false):fsO s f o 2=fsO s f o 1:=by simp[fsO,fs1,fs2,h,q7X]
theorem q1g{s:ByteArray}{f:Nat}{o:Option Nat}(h:jF f 16=false):fsO s f o 3=fsO s f o 2:=by simp[fsO,fs1,fs2,fs3,h,q7X]
theorem q46{s:ByteArray}{f:Nat}{o:Option Nat}(h:jF f 4=true)(tm lv os:Int)(tx sm:Bool)(fl:Int):(fsO s f o 1).2.2.2=(dZ s (fsO s f o 0).2.2.2).2/\hC tm (fsO s f o 1) lv os tx sm fl=(hC tm (fsO s f o 0) lv os tx sm fl).set 1 (.string ⟨(dZ s (fsO s f o 0).2.2.2).1.toArray⟩):=by simp[fsO,fs1,h,q7Y,hC]
theorem q47{s:ByteArray}{f:Nat}{o:Option Nat}(h:jF f 8=true)(tm lv os:Int)(tx sm:Bool)(fl:Int):(fsO s f o 2).2.2.2=(lK s (fsO s f o 1).2.2.2).2/\hC tm (fsO s f o 2) lv os tx sm fl=(hC tm (fsO s f o 1) lv os tx sm fl).set 2 (.string ⟨(lK s (fsO s f o 1).2.2.2).1.toArray⟩):=by simp[fsO,fs1,fs2,h,q7Y,hC]
theorem q48{s:ByteArray}{f:Nat}{o:Option Nat}(h:jF f 16=true)(tm lv os:Int)(tx sm:Bool)(fl:Int):(fsO s f o 3).2.2.2=(lK s (fsO s f o 2).2.2.2).2/\hC tm (fsO s f o 3) lv os tx sm fl=(hC tm (fsO s f o 2) lv os tx sm fl).set 3 (.string ⟨(lK s (fsO s f o 2).2.2.2).1.toArray⟩):=by simp[fsO,fs1,fs2,fs3,h,q7Y,hC]
def flC(g gh:Nat):Array Value:=#[.int .i64 4,.func (.func 120) #[.pointer (some ⟨g,0,none⟩)] #[],.pointer (some ⟨gh,1,none⟩),.int .i64 8,.func (.func 121) #[.pointer (some ⟨g,0,none⟩)] #[],.pointer (some ⟨gh,2,none⟩),.int .i64 16,.func (.func 121) #[.pointer (some ⟨g,0,none⟩)] #[],.pointer (some ⟨gh,3,none⟩)]
def flO(i:Nat)(g gh:Nat):Array Value:=#[(flC g gh).getD (i*3) undef,(flC g gh).getD (i*3+1) undef,(flC g gh).getD (i*3+2) undef]
theorem xF{w:World}{B T sl g gh:Nat}(h:Own w B T (.slice (some ⟨sl,0,none⟩) 9 9) (flC g gh).toList){i:Nat}(hi:i<3):∀c,c<3->w.cell? ⟨sl,i*3+c,none⟩=some ((flO i g gh).getD c undef):=fun c hc=>by
 rw[h.cell (by simp[flC];omega)]
 have e:∀i,i<3->∀c,c<3->(flC g gh).toList.getD (i*3+c) undef=(flO i g gh).getD c undef:=fun i hi c hc=>by
  have:(i=0\/i=1\/i=2)/\(c=0\/c=1\/c=2):=⟨by omega,by omega⟩
  obtain⟨rfl|rfl|rfl,rfl|rfl|rfl⟩:=this<;>rfl
 rw[e i hi c hc]
theorem q5h{w:World}{B g gh f:Nat}{s:ByteArray}{o:Option Nat}{tm lv os fl:Int}{tx sm:Bool}(hf:f<32)(hs:s.size<=4294967296)(h:sV w B g s o)(hh:Own w B 23 (.slice (some ⟨gh,0,none⟩) 9 9) (hC tm ([],[],[],none) lv os tx sm fl))(hne:g≠gh):
  Calls Tryz.prog 75 #[.pointer (some ⟨g,0,none⟩),.int .i64 f,.pointer (some ⟨gh,0,none⟩)] w fun e w'=>e=.returned (.tuple #[])/\sV w' B g s (fs3 s f o).2.2.2/\Own w' B 23 (.slice (some ⟨gh,0,none⟩) 9 9) (hC tm (fs3 s f o) lv os tx sm fl)/\Two g gh w w':=by
 obtain⟨hb4,hb8,qf8⟩:=q38 f hf;have HHD:=q7 hh;have HSR:=q7 h;have hgw:g<w.heap.size:=by obtain⟨p,-,-,ho⟩:=h;exact ho.blk.2
 have hhw:=hh.blk.2;clear h hh
 go_enter Tryz.func75,Tryz.ntmps75
 go_wp2;refine tN [0,1,2,3,4,5,6,7,8,9,10,11,12,13,14,15,16,17,20] [18,19] (by kernel_rfl) (by kernel_rfl) ?_
 simp only[pk]
 repeat(go_big_quiet_step (fail))
 refine wpQuiet_nil ?_;unfold qy;go_wp2;refine⟨qt (by first|exact qs (qS (qj _ _)) _|exact qS (qn _ _)),?_⟩
 unfold qy;go_wp2;refine⟨qt (by first|exact qs (qS (qj _ _)) _|exact qS (qn _ _)),?_⟩
 unfold qy;intro hz;clear hz;have hbw:Below w.heap.size w (w.alloc (.cells (flC g gh) 188)).drew:=qS (qn _ _);have hob:Own (w.alloc (.cells (flC g gh) 188)).drew w.heap.size 188 (.slice (some ⟨w.heap.size,0,none⟩) 9 9) (flC g gh).toList:=(qE w w.heap.size (flC g gh) 188 (by simp[flC]) (q9 _)).up (qS (qj _ _))
 have e0:(w.alloc (.cells (flC g gh) 188)).drew=(w.alloc (.cells #[.int .i64 4,.func (.func 120) #[.pointer (some ⟨g,0,none⟩)] #[],.pointer (some ⟨gh,1,none⟩),.int .i64 8,.func (.func 121) #[.pointer (some ⟨g,0,none⟩)] #[],.pointer (some ⟨gh,2,none⟩),.int .i64 16,.func (.func 121) #[.pointer (some ⟨g,0,none⟩)] #[],.pointer (some ⟨gh,3,none⟩)] 188)).drew:=rfl;rw[<-e0];clear e0;have HS1:=q7 (HSR.out.up hbw);have HH1:=q7 (HHD.out.up hbw);have HF1:Hid (Two g gh w (w.alloc (.cells (flC g gh) 188)).drew):=q7 (qP hbw);have HO1:=q7 hob;clear hbw hob HSR HHD;generalize (w.alloc (.cells (flC g gh) 188)).drew=w1 at*;obtain⟨sl,hsl⟩:∃sl,sl=w.heap.size:=⟨_,rfl⟩;have qmv:=q7 hsl;have HO2:Hid (Own w1 sl 188 (.slice (some ⟨sl,0,none⟩) 9 9) (flC g gh).toList):=q7 (by rw[hsl];exact HO1.out)
 have hsg:sl≠g:=by omega
 have hsh:sl≠gh:=by omega
 rw[<-hsl];clear HO1 hsl;go_wp2
 go_loopg [28] 3 (fun gk iv wr=>∃(i:Nat),i<=3/\iv=.int .i64 i/\gk=3-i/\Hid (sV wr B g s (fsO s f o i).2.2.2)/\Hid (Own wr B 23 (.slice (some ⟨gh,0,none⟩) 9 9) (hC tm (fsO s f o i) lv os tx sm fl))/\Hid (Own wr sl 188 (.slice (some ⟨sl,0,none⟩) 9 9) (flC g gh).toList)/\Hid (Two g gh w wr))
 case atStart=>exact⟨0,by omega,rfl,rfl,HS1,HH1,HO2,HF1⟩
 case round=>
  obtain⟨i,hi,rfl,rfl,HSr,HHr,HOr,HFr⟩:=hrel;have qd0:i=0\/i=1\/i=2\/i=3:=by omega
  rcases qd0 with rfl|rfl|rfl|rfl
  ·have HCE:Hid (∀c,c<3->wr.cell? ⟨sl,0+c,none⟩=some ((#[.int .i64 4,.func (.func 120) #[.pointer (some ⟨g,0,none⟩)] #[],.pointer (some ⟨gh,1,none⟩)]:Array Value).getD c undef)):=q7 (xF HOr.out (i:=0) (by decide))
   have hlr:=HOr.out.blk.2;have hbt:=qn wr (.cells #[.int .i64 0,.nilFunc,.pointer none] 188);have HZ:Hid (Own (wr.alloc (.cells #[.int .i64 0,.nilFunc,.pointer none] 188)) wr.heap.size 188 (.slice (some ⟨wr.heap.size,0,none⟩) 3 3) [.int .i64 0,.nilFunc,.pointer none]):=q7 (qE wr wr.heap.size #[.int .i64 0,.nilFunc,.pointer none] 188 (by simp) (q9 _))
   have HSa:=q7 (HSr.out.up hbt);have HHa:=q7 (HHr.out.up hbt);have HOa:=q7 (HOr.out.up hbt);have HFa:=q7 (HFr.out.trans (qP hbt));have hgt:g≠wr.heap.size:=by have:=HFr.out.size;omega
   have hht:gh≠wr.heap.size:=by have:=HFr.out.size;omega
   have hlt:sl≠wr.heap.size:=by omega
   have HWS:=q7 HFr.out.size;clear hbt
   go_upto_if 36 with(first|(refine qG rfl 188 _ rfl sl 0 3 rfl #[.int .i64 4,.func (.func 120) #[.pointer (some ⟨g,0,none⟩)] #[],.pointer (some ⟨gh,1,none⟩)] _ HCE.out rfl Tryz.underlying188 rfl (by kernel_rfl) ?_)|(refine qo rfl 188 _ _ rfl wr.heap.size 188 wr.heap.size 3 3 rfl #[.int .i64 4,.func (.func 120) #[.pointer (some ⟨g,0,none⟩)] #[],.pointer (some ⟨gh,1,none⟩)] rfl (by kernel_rfl) [.int .i64 0,.nilFunc,.pointer none] HZ.out (by simp) (by intro u hu;simp at hu;rcases hu with rfl|rfl|rfl<;>rfl) ?_;intro w2 ho2 hg2;have t0:w2.cell? ⟨wr.heap.size,0,none⟩=some (.int .i64 4):=ho2.cell (i:=0) (by simp);have HT:Hid (Own w2 wr.heap.size 188 (.slice (some ⟨wr.heap.size,0,none⟩) 3 3) [.int .i64 4,.func (.func 120) #[.pointer (some ⟨g,0,none⟩)] #[],.pointer (some ⟨gh,1,none⟩)]):=q7 ho2;have HG:=q7 hg2;clear ho2 hg2))
   have HGw:=q7 (qp (qv (qn wr (.cells #[.int .i64 0,.nilFunc,.pointer none] 188)) (some wr.heap.size)) HG.out);have HS2:=q7 (HSa.out.keep HG.out (by intro e;cases e;exact hgt rfl))
   have HH2:=q7 (HHa.out.keep HG.out (.inr (by intro e;cases e;exact hht rfl)))
   have HO2:=q7 (HOa.out.keep HG.out (.inr (by intro e;cases e;exact hlt rfl)))
   have HF2:=q7 (HFa.out.grown HG.out (fun k e=>by cases e;exact .inr HWS.out))
   have tb1:w2.cell? ⟨wr.heap.size,1,none⟩=some (.func (.func 120) #[.pointer (some ⟨g,0,none⟩)] #[]):=HT.out.cell (i:=1) (by simp)
   have tb2:w2.cell? ⟨wr.heap.size,2,none⟩=some (.pointer (some ⟨gh,1,none⟩)):=HT.out.cell (i:=2) (by simp)
   have tbl:=HT.out.blk.2;generalize wr.heap.size=tb at*;clear t0 HCE HSa HHa HOa HFa HSr HHr HOr HFr HG HZ hlr;have HFF:=q7 (q1e (s:=s) (f:=f) (o:=o));have HTT:=q7 (fun h=>q46 (s:=s) (f:=f) (o:=o) h tm lv os tx sm fl)
   generalize jF (f:Int) 4=c at*
   cases c
   ·have HFE:=q7 (HFF.out rfl)
    clear HFF HTT;go_wp2
    go_roundg 2
    case measure=>simp
    case rel=>exact⟨1,by omega,rfl,rfl,q7 (by rw[HFE.out];exact HS2.out),q7 (by rw[HFE.out];exact HH2.out),HO2,HF2⟩
   ·obtain⟨q1,q2⟩:=HTT.out rfl
    have HQ1:=q7 q1;have HQ2:=q7 q2;have HCL:=q7 (q7W hs (HS2.out.up (qS (qj _ _))));clear q1 q2 HFF HTT;obtain⟨Y,hY⟩:∃Y,Y=dZ s (fsO s f o 0).2.2.2:=⟨_,rfl⟩;rw[<-hY]at HQ1 HQ2 HCL;have HH3:=q7 (HH2.out.up (qS (qj _ _)));clear hY
    go_upto_region 4 with(fail)
    obtain⟨S,hS⟩:∃S:Nat->Prop,S=fun k=>k=g\/k=gh:=⟨_,rfl⟩
    have HSS:=q7 hS;have hnS:¬S tb:=by rw[hS];rintro(e|e);exact hgt e.symm;exact hht e.symm
    clear hS;refine jE (C:=fun w'=>∃x,w'=fxw w2 S x) (.q 0 (.q 1 (.q 2 (.q 3 (.br 4 (.br 5 (.br 6 .done .no) .no) .no))))) (by kernel_rfl) (by kernel_rfl) (bR (oW _ _)) ?_
    (repeat((unfold qX;simp only[pk]);go_big_quiet_step (fail);refine wpQuiet_nil ?_))
    have HD:=q7 (oW S w2);have HO3:=q7 (HO2.out.up (qS (qj _ _)));generalize w2.drew=w3 at*
    (unfold qX;simp only[pk])
    refine⟨?_,by exact True.intro⟩
    unfold qy
    go_wp2_with((with_reducible go_at_call 120);(with_reducible refine HCL.out.mono ?_);rintro en w4 ⟨rfl,hs4,hg4⟩;have HS4:=q7 hs4;have HG4:=q7 hg4;clear hs4 hg4)
    have HD4:=q7 (HD.out.grown HG4.out (fun k e=>by cases e;exact .inl (by rw[HSS.out];exact .inl rfl)))
    refine⟨bR HD4.out,?_⟩;unfold qy
    (unfold qX;simp only[pk])
    refine⟨?_,by exact True.intro⟩
    unfold qy;go_wp2;refine⟨bR HD4.out,?_⟩;unfold qy;have hh4:=HH3.out.keep HG4.out (.inr (by intro e;cases e;exact hne rfl))
    have u0:w4.cell? ⟨gh,1,none⟩=some (.string ⟨#[]⟩):=hh4.cell (i:=1) (by simp[hC])
    have uf:w4.frozen? ⟨gh,1,none⟩=false:=hh4.free 1;have ul:=hh4.blk.2;obtain⟨ho5,hg5⟩:=hh4.store 1 (.string ⟨Y.1.toArray⟩);have HH5:=q7 ho5;have HG5:=q7 hg5;clear ho5 hg5 hh4
    (unfold qX;simp only[pk])
    refine⟨?_,by exact True.intro⟩
    unfold qy;go_wp2;have HD5:=q7 (HD4.out.grown HG5.out (fun k e=>by cases e;exact .inl (by rw[HSS.out];exact .inr rfl)))
    refine⟨bR HD5.out,?_⟩;unfold qy;unfold qX;intro hz;clear hz;have HS5:=q7 (HS4.out.keep HG5.out (by intro e;cases e;exact hne rfl))
    have HO5:=q7 ((HO3.out.keep HG4.out (.inr (by intro e;cases e;exact hsg rfl))).keep HG5.out (.inr (by intro e;cases e;exact hsh rfl)))
    have HF5:Hid (Two g gh w _):=q7 (HF2.out.trans (by have:=HD5.out;rw[HSS.out]at this;exact this))
    go_wp2
    go_roundg 2
    case measure=>simp
    case rel=>exact⟨1,by omega,rfl,rfl,q7 (by rw[HQ1.out];exact HS5.out),q7 (by rw[HQ2.out];exact HH5.out),HO5,HF5⟩
  ·have HCE:Hid (∀c,c<3->wr.cell? ⟨sl,3+c,none⟩=some ((#[.int .i64 8,.func (.func 121) #[.pointer (some ⟨g,0,none⟩)] #[],.pointer (some ⟨gh,2,none⟩)]:Array Value).getD c undef)):=q7 (xF HOr.out (i:=1) (by decide))
   have hlr:=HOr.out.blk.2;have hbt:=qn wr (.cells #[.int .i64 0,.nilFunc,.pointer none] 188);have HZ:Hid (Own (wr.alloc (.cells #[.int .i64 0,.nilFunc,.pointer none] 188)) wr.heap.size 188 (.slice (some ⟨wr.heap.size,0,none⟩) 3 3) [.int .i64 0,.nilFunc,.pointer none]):=q7 (qE wr wr.heap.size #[.int .i64 0,.nilFunc,.pointer none] 188 (by simp) (q9 _))
   have HSa:=q7 (HSr.out.up hbt);have HHa:=q7 (HHr.out.up hbt);have HOa:=q7 (HOr.out.up hbt);have HFa:=q7 (HFr.out.trans (qP hbt));have hgt:g≠wr.heap.size:=by have:=HFr.out.size;omega
   have hht:gh≠wr.heap.size:=by have:=HFr.out.size;omega
   have hlt:sl≠wr.heap.size:=by omega
   have HWS:=q7 HFr.out.size;clear hbt
   go_upto_if 36 with(first|(refine qG rfl 188 _ rfl sl 3 3 rfl #[.int .i64 8,.func (.func 121) #[.pointer (some ⟨g,0,none⟩)] #[],.pointer (some ⟨gh,2,none⟩)] _ HCE.out rfl Tryz.underlying188 rfl (by kernel_rfl) ?_)|(refine qo rfl 188 _ _ rfl wr.heap.size 188 wr.heap.size 3 3 rfl #[.int .i64 8,.func (.func 121) #[.pointer (some ⟨g,0,none⟩)] #[],.pointer (some ⟨gh,2,none⟩)] rfl (by kernel_rfl) [.int .i64 0,.nilFunc,.pointer none] HZ.out (by simp) (by intro u hu;simp at hu;rcases hu with rfl|rfl|rfl<;>rfl) ?_;intro w2 ho2 hg2;have t0:w2.cell? ⟨wr.heap.size,0,none⟩=some (.int .i64 8):=ho2.cell (i:=0) (by simp);have HT:Hid (Own w2 wr.heap.size 188 (.slice (some ⟨wr.heap.size,0,none⟩) 3 3) [.int .i64 8,.func (.func 121) #[.pointer (some ⟨g,0,none⟩)] #[],.pointer (some ⟨gh,2,none⟩)]):=q7 ho2;have HG:=q7 hg2;clear ho2 hg2))
   have HGw:=q7 (qp (qv (qn wr (.cells #[.int .i64 0,.nilFunc,.pointer none] 188)) (some wr.heap.size)) HG.out);have HS2:=q7 (HSa.out.keep HG.out (by intro e;cases e;exact hgt rfl))
   have HH2:=q7 (HHa.out.keep HG.out (.inr (by intro e;cases e;exact hht rfl)))
   have HO2:=q7 (HOa.out.keep HG.out (.inr (by intro e;cases e;exact hlt rfl)))
   have HF2:=q7 (HFa.out.grown HG.out (fun k e=>by cases e;exact .inr HWS.out))
   have tb1:w2.cell? ⟨wr.heap.size,1,none⟩=some (.func (.func 121) #[.pointer (some ⟨g,0,none⟩)] #[]):=HT.out.cell (i:=1) (by simp)
   have tb2:w2.cell? ⟨wr.heap.size,2,none⟩=some (.pointer (some ⟨gh,2,none⟩)):=HT.out.cell (i:=2) (by simp)
   have tbl:=HT.out.blk.2;generalize wr.heap.size=tb at*;clear t0 HCE HSa HHa HOa HFa HSr HHr HOr HFr HG HZ hlr;have HFF:=q7 (q1f (s:=s) (f:=f) (o:=o));have HTT:=q7 (fun h=>q47 (s:=s) (f:=f) (o:=o) h tm lv os tx sm fl)
   generalize jF (f:Int) 8=c at*
   cases c
   ·have HFE:=q7 (HFF.out rfl)
    clear HFF HTT;go_wp2
    go_roundg 1
    case measure=>simp
    case rel=>exact⟨2,by omega,rfl,rfl,q7 (by rw[HFE.out];exact HS2.out),q7 (by rw[HFE.out];exact HH2.out),HO2,HF2⟩
   ·obtain⟨q1,q2⟩:=HTT.out rfl
    have HQ1:=q7 q1;have HQ2:=q7 q2;have HCL:=q7 (q8x hs (HS2.out.up (qS (qj _ _))));clear q1 q2 HFF HTT;obtain⟨Y,hY⟩:∃Y,Y=lK s (fsO s f o 1).2.2.2:=⟨_,rfl⟩;rw[<-hY]at HQ1 HQ2 HCL;have HH3:=q7 (HH2.out.up (qS (qj _ _)));clear hY
    go_upto_region 4 with(fail)
    obtain⟨S,hS⟩:∃S:Nat->Prop,S=fun k=>k=g\/k=gh:=⟨_,rfl⟩
    have HSS:=q7 hS;have hnS:¬S tb:=by rw[hS];rintro(e|e);exact hgt e.symm;exact hht e.symm
    clear hS;refine jE (C:=fun w'=>∃x,w'=fxw w2 S x) (.q 0 (.q 1 (.q 2 (.q 3 (.br 4 (.br 5 (.br 6 .done .no) .no) .no))))) (by kernel_rfl) (by kernel_rfl) (bR (oW _ _)) ?_
    (repeat((unfold qX;simp only[pk]);go_big_quiet_step (fail);refine wpQuiet_nil ?_))
    have HD:=q7 (oW S w2);have HO3:=q7 (HO2.out.up (qS (qj _ _)));generalize w2.drew=w3 at*
    (unfold qX;simp only[pk])
    refine⟨?_,by exact True.intro⟩
    unfold qy
    go_wp2_with((with_reducible go_at_call 121);(with_reducible refine HCL.out.mono ?_);rintro en w4 ⟨rfl,hs4,hg4⟩;have HS4:=q7 hs4;have HG4:=q7 hg4;clear hs4 hg4)
    have HD4:=q7 (HD.out.grown HG4.out (fun k e=>by cases e;exact .inl (by rw[HSS.out];exact .inl rfl)))
    refine⟨bR HD4.out,?_⟩;unfold qy
    (unfold qX;simp only[pk])
    refine⟨?_,by exact True.intro⟩
    unfold qy;go_wp2;refine⟨bR HD4.out,?_⟩;unfold qy;have hh4:=HH3.out.keep HG4.out (.inr (by intro e;cases e;exact hne rfl))
    have u0:w4.cell? ⟨gh,2,none⟩=some (.string ⟨#[]⟩):=hh4.cell (i:=2) (by simp[hC])
    have uf:w4.frozen? ⟨gh,2,none⟩=false:=hh4.free 2;have ul:=hh4.blk.2;obtain⟨ho5,hg5⟩:=hh4.store 2 (.string ⟨Y.1.toArray⟩);have HH5:=q7 ho5;have HG5:=q7 hg5;clear ho5 hg5 hh4
    (unfold qX;simp only[pk])
    refine⟨?_,by exact True.intro⟩
    unfold qy;go_wp2;have HD5:=q7 (HD4.out.grown HG5.out (fun k e=>by cases e;exact .inl (by rw[HSS.out];exact .inr rfl)))
    refine⟨bR HD5.out,?_⟩;unfold qy;unfold qX;intro hz;clear hz;have HS5:=q7 (HS4.out.keep HG5.out (by intro e;cases e;exact hne rfl))
    have HO5:=q7 ((HO3.out.keep HG4.out (.inr (by intro e;cases e;exact hsg rfl))).keep HG5.out (.inr (by intro e;cases e;exact hsh rfl)))
    have HF5:Hid (Two g gh w _):=q7 (HF2.out.trans (by have:=HD5.out;rw[HSS.out]at this;exact this))
    go_wp2
    go_roundg 1
    case measure=>simp
    case rel=>exact⟨2,by omega,rfl,rfl,q7 (by rw[HQ1.out];exact HS5.out),q7 (by rw[HQ2.out];exact HH5.out),HO5,HF5⟩
  ·have HCE:Hid (∀c,c<3->wr.cell? ⟨sl,6+c,none⟩=some ((#[.int .i64 16,.func (.func 121) #[.pointer (some ⟨g,0,none⟩)] #[],.pointer (some ⟨gh,3,none⟩)]:Array Value).getD c undef)):=q7 (xF HOr.out (i:=2) (by decide))
   have hlr:=HOr.out.blk.2;have hbt:=qn wr (.cells #[.int .i64 0,.nilFunc,.pointer none] 188);have HZ:Hid (Own (wr.alloc (.cells #[.int .i64 0,.nilFunc,.pointer none] 188)) wr.heap.size 188 (.slice (some ⟨wr.heap.size,0,none⟩) 3 3) [.int .i64 0,.nilFunc,.pointer none]):=q7 (qE wr wr.heap.size #[.int .i64 0,.nilFunc,.pointer none] 188 (by simp) (q9 _))
   have HSa:=q7 (HSr.out.up hbt);have HHa:=q7 (HHr.out.up hbt);have HOa:=q7 (HOr.out.up hbt);have HFa:=q7 (HFr.out.trans (qP hbt));have hgt:g≠wr.heap.size:=by have:=HFr.out.size;omega
   have hht:gh≠wr.heap.size:=by have:=HFr.out.size;omega
   have hlt:sl≠wr.heap.size:=by omega
   have HWS:=q7 HFr.out.size;clear hbt
   go_upto_if 36 with(first|(refine qG rfl 188 _ rfl sl 6 3 rfl #[.int .i64 16,.func (.func 121) #[.pointer (some ⟨g,0,none⟩)] #[],.pointer (some ⟨gh,3,none⟩)] _ HCE.out rfl Tryz.underlying188 rfl (by kernel_rfl) ?_)|(refine qo rfl 188 _ _ rfl wr.heap.size 188 wr.heap.size 3 3 rfl #[.int .i64 16,.func (.func 121) #[.pointer (some ⟨g,0,none⟩)] #[],.pointer (some ⟨gh,3,none⟩)] rfl (by kernel_rfl) [.int .i64 0,.nilFunc,.pointer none] HZ.out (by simp) (by intro u hu;simp at hu;rcases hu with rfl|rfl|rfl<;>rfl) ?_;intro w2 ho2 hg2;have t0:w2.cell? ⟨wr.heap.size,0,none⟩=some (.int .i64 16):=ho2.cell (i:=0) (by simp);have HT:Hid (Own w2 wr.heap.size 188 (.slice (some ⟨wr.heap.size,0,none⟩) 3 3) [.int .i64 16,.func (.func 121) #[.pointer (some ⟨g,0,none⟩)] #[],.pointer (some ⟨gh,3,none⟩)]):=q7 ho2;have HG:=q7 hg2;clear ho2 hg2))
   have HGw:=q7 (qp (qv (qn wr (.cells #[.int .i64 0,.nilFunc,.pointer none] 188)) (some wr.heap.size)) HG.out);have HS2:=q7 (HSa.out.keep HG.out (by intro e;cases e;exact hgt rfl))
   have HH2:=q7 (HHa.out.keep HG.out (.inr (by intro e;cases e;exact hht rfl)))
   have HO2:=q7 (HOa.out.keep HG.out (.inr (by intro e;cases e;exact hlt rfl)))
   have HF2:=q7 (HFa.out.grown HG.out (fun k e=>by cases e;exact .inr HWS.out))
   have tb1:w2.cell? ⟨wr.heap.size,1,none⟩=some (.func (.func 121) #[.pointer (some ⟨g,0,none⟩)] #[]):=HT.out.cell (i:=1) (by simp)
   have tb2:w2.cell? ⟨wr.heap.size,2,none⟩=some (.pointer (some ⟨gh,3,none⟩)):=HT.out.cell (i:=2) (by simp)
   have tbl:=HT.out.blk.2;generalize wr.heap.size=tb at*;clear t0 HCE HSa HHa HOa HFa HSr HHr HOr HFr HG HZ hlr;have HFF:=q7 (q1g (s:=s) (f:=f) (o:=o));have HTT:=q7 (fun h=>q48 (s:=s) (f:=f) (o:=o) h tm lv os tx sm fl)
   generalize jF (f:Int) 16=c at*
   cases c
   ·have HFE:=q7 (HFF.out rfl)
    clear HFF HTT;go_wp2
    go_roundg 0
    case measure=>simp
    case rel=>exact⟨3,by omega,rfl,rfl,q7 (by rw[HFE.out];exact HS2.out),q7 (by rw[HFE.out];exact HH2.out),HO2,HF2⟩
   ·obtain⟨q1,q2⟩:=HTT.out rfl
    have HQ1:=q7 q1;have HQ2:=q7 q2;have HCL:=q7 (q8x hs (HS2.out.up (qS (qj _ _))));clear q1 q2 HFF HTT;obtain⟨Y,hY⟩:∃Y,Y=lK s (fsO s f o 2).2.2.2:=⟨_,rfl⟩;rw[<-hY]at HQ1 HQ2 HCL;have HH3:=q7 (HH2.out.up (qS (qj _ _)));clear hY
    go_upto_region 4 with(fail)
    obtain⟨S,hS⟩:∃S:Nat->Prop,S=fun k=>k=g\/k=gh:=⟨_,rfl⟩
    have HSS:=q7 hS;have hnS:¬S tb:=by rw[hS];rintro(e|e);exact hgt e.symm;exact hht e.symm
    clear hS;refine jE (C:=fun w'=>∃x,w'=fxw w2 S x) (.q 0 (.q 1 (.q 2 (.q 3 (.br 4 (.br 5 (.br 6 .done .no) .no) .no))))) (by kernel_rfl) (by kernel_rfl) (bR (oW _ _)) ?_
    (repeat((unfold qX;simp only[pk]);go_big_quiet_step (fail);refine wpQuiet_nil ?_))
    have HD:=q7 (oW S w2);have HO3:=q7 (HO2.out.up (qS (qj _ _)));generalize w2.drew=w3 at*
    (unfold qX;simp only[pk])
    refine⟨?_,by exact True.intro⟩
    unfold qy
    go_wp2_with((with_reducible go_at_call 121);(with_reducible refine HCL.out.mono ?_);rintro en w4 ⟨rfl,hs4,hg4⟩;have HS4:=q7 hs4;have HG4:=q7 hg4;clear hs4 hg4)
    have HD4:=q7 (HD.out.grown HG4.out (fun k e=>by cases e;exact .inl (by rw[HSS.out];exact .inl rfl)))
    refine⟨bR HD4.out,?_⟩;unfold qy
    (unfold qX;simp only[pk])
    refine⟨?_,by exact True.intro⟩
    unfold qy;go_wp2;refine⟨bR HD4.out,?_⟩;unfold qy;have hh4:=HH3.out.keep HG4.out (.inr (by intro e;cases e;exact hne rfl))
    have u0:w4.cell? ⟨gh,3,none⟩=some (.string ⟨#[]⟩):=hh4.cell (i:=3) (by simp[hC])
    have uf:w4.frozen? ⟨gh,3,none⟩=false:=hh4.free 3;have ul:=hh4.blk.2;obtain⟨ho5,hg5⟩:=hh4.store 3 (.string ⟨Y.1.toArray⟩);have HH5:=q7 ho5;have HG5:=q7 hg5;clear ho5 hg5 hh4
    (unfold qX;simp only[pk])
    refine⟨?_,by exact True.intro⟩
    unfold qy;go_wp2;have HD5:=q7 (HD4.out.grown HG5.out (fun k e=>by cases e;exact .inl (by rw[HSS.out];exact .inr rfl)))
    refine⟨bR HD5.out,?_⟩;unfold qy;unfold qX;intro hz;clear hz;have HS5:=q7 (HS4.out.keep HG5.out (by intro e;cases e;exact hne rfl))
    have HO5:=q7 ((HO3.out.keep HG4.out (.inr (by intro e;cases e;exact hsg rfl))).keep HG5.out (.inr (by intro e;cases e;exact hsh rfl)))
    have HF5:Hid (Two g gh w _):=q7 (HF2.out.trans (by have:=HD5.out;rw[HSS.out]at this;exact this))
    go_wp2
    go_roundg 0
    case measure=>simp
    case rel=>exact⟨3,by omega,rfl,rfl,q7 (by rw[HQ1.out];exact HS5.out),q7 (by rw[HQ2.out];exact HH5.out),HO5,HF5⟩
  ·go_wp2
   go_end0
   exact⟨rfl,HSr.out,HHr.out,HFr.out⟩
theorem q5i:∀f:Nat,f<256->(bits .andNot .i64 (f:Int) 31 != 0)=decide (32<=f):=by decide+kernel
theorem q6R:∀f:Nat,f<32->(bits .and .i64 (f:Int) 1 != 0)=jF f 1/\(bits .and .i64 (f:Int) 2 != 0)=jF f 2/\bits .and .i64 (f:Int) 28=((f/4*4:Nat):Int):=by decide+kernel
def q39(y:Nat×GH×Nat)(w:World)(e:Ending)(w':World):Prop:=e=.returned (.tuple #[.agg (ghC y.2.1),.int .i64 (y.2.2:Nat),.int .i64 (y.1:Nat)])/\∃x,w'=ext w x
theorem I8{P:Program}{fn:Func}{tmps:Array Value}{w:World}{a t b c:Nat}{ad:Addr}{v:Value}(hf:fn.results=#[.cell a t,.tmp b,.tmp c])(ha:tmps.getD a undef=.pointer (some ad))(hl:(loadVar t ad).run P w=.ok v w):
  (results fn tmps).run P w=.ok (.tuple #[v,tmps.getD b undef,tmps.getD c undef]) w:=by
 have ha':tmps[a]?.getD undef=.pointer (some ad):=by simpa using ha
 simp[results,hf,asAddr,ha',hl]
theorem aQ{P:Program}{fn:Func}{tmps:Array Value}{w:World}{ds:List Deferred}{s t b c:Nat}{ad:Addr}{x y z:Value}{R:Ending->World->Prop}(hf:fn.results=#[.cell s t,.tmp b,.tmp c])(ha:tmps.getD s undef=.pointer (some ad))(hb:tmps.getD b undef=y)(hc:tmps.getD c undef=z)(hd:ds=[])
  (hl:(loadVar t ad).run P w=.ok x w) (h:R (.returned (.tuple #[x,y,z])) w):bodyPost P fn R .ret ⟨tmps,ds⟩ w:=by
 subst hb hc
 exact bodyPost_ret (v:=.tuple #[x,tmps.getD b undef,tmps.getD c undef]) (I8 hf ha hl) hd h
theorem aR{w:World}{B g:Nat}{A:Array Value}(_hA:A.size=9)(h:Own w B 23 (.slice (some ⟨g,0,none⟩) 9 9) A.toList):(loadVar 23 ⟨g,0,none⟩).run Tryz.prog w=.ok (.agg A) w:=by
 have:=bD (P:=Tryz.prog) h _ Tryz.underlying23 rfl (by kernel_rfl)
 simpa using this
theorem q5j{w w':World}{g h k B T n:Nat}{xs:List Value}(hf:Two g h w w')(ho:Own w B T (.slice (some ⟨k,0,none⟩) n n) xs)(h1:k≠g)(h2:k≠h):Own w' B T (.slice (some ⟨k,0,none⟩) n n) xs:=hf.own ho (fun q e=>by cases e;rintro(rfl|rfl);exact h1 rfl;exact h2 rfl)
theorem q1h{w w1 w2:World}{g h:Nat}(hf:Two g h w1 w2)(hb:Below w.heap.size w w1)(h1:w.heap.size<=g)(h2:w.heap.size<=h):Below w.heap.size w w2:=hf.below hb hb.size (fun k e=>by rcases e with rfl|rfl;exact h1;exact h2)
theorem jY{A:Array Value}{X:List Value}(hA:A.size=9)(hX:X.length=9):A.toList++X.drop A.size=A.toList:=by
 rw[List.drop_eq_nil_of_le (by omega),List.append_nil]
theorem q49(tm:Int)(y:qK×qK×qK×Option Nat)(lv os:Int)(tx sm:Bool)(fl:Int):hC tm y lv os tx sm fl=(ghC ⟨tm,⟨y.1.toArray⟩,⟨y.2.1.toArray⟩,⟨y.2.2.1.toArray⟩,lv,os,tx,sm,fl⟩).toList:=rfl
theorem q1i(w:World):∃w1,w.alloc (.cells (ghC zGH) 23)=w1/\Own w1 w.heap.size 23 (.slice (some ⟨w.heap.size,0,none⟩) 9 9) (ghC zGH).toList/\Below w.heap.size w w1:=
 ⟨_,rfl,qE w w.heap.size (ghC zGH) 23 (by simp[ghC]) (q9 _),qn w _⟩
theorem q6S{s:ByteArray}(hs:s.size<=4294967296)(w:World):Calls Tryz.prog 35 #[.string s,.int .i64 0] w (q39 (qU s) w):=by
 obtain⟨R,hR⟩:∃R,R=qU s:=⟨_,rfl⟩;rw[<-hR];unfold qU at hR
 go_enter Tryz.func35,Tryz.ntmps35
 go_upto_region 1 with(fail)
 obtain⟨w1,he,ho,hb⟩:=q1i w;have he2:w.alloc (.cells #[.int .i64 0,.string ⟨#[]⟩,.string ⟨#[]⟩,.string ⟨#[]⟩,.int .i64 0,.int .i64 0,.bool false,.bool false,.int .i64 0] 23)=w1:=he;rw[he2];have HO1:=q7 ho;have HB1:=q7 hb;clear he he2 ho hb;obtain⟨g4,hg4⟩:∃g4,g4=w.heap.size:=⟨_,rfl⟩;have HG4:=q7 hg4;have HO2:Hid (Own w1 g4 23 (.slice (some ⟨g4,0,none⟩) 9 9) (ghC zGH).toList):=q7 (by rw[hg4];exact HO1.out)
 rw[<-hg4];clear HO1 hg4;have HZ:Hid (∀u∈(ghC zGH).toList,u.oneCell'=true):=q7 (mH zGH)
 by_cases h1:s.size<10
 ·rw[if_pos h1]at hR
  have HR:=q7 hR;have h1i:(s.size:Int)<10:=by omega
  clear hR
  go_wp2_with(refine qo rfl 23 _ _ rfl g4 23 g4 9 9 rfl (ghC zGH) rfl (by kernel_rfl) (ghC zGH).toList HO2.out (by simp[ghC]) HZ.out ?_;intro w9 ho2 hg2;rw[jY rfl rfl]at ho2;have HO9:=q7 ho2;have HG9:=q7 hg2;clear ho2 hg2)
  exact aQ rfl rfl rfl rfl rfl (aR rfl (A:=ghC zGH) HO9.out) ⟨by rw[HR.out];rfl,qt (HB1.out.grown HG9.out HB1.out.size (by intro k e;cases e;rw[HG4.out];exact q9 _))⟩
 rw[if_neg h1]at hR;have h1i:decide ((s.size:Int)<10)=false:=by rw[qm];omega
 have hex:s.extract 0 3=⟨((bys s).take 3).toArray⟩:=bY (by simp)
 by_cases h2:(bys s).take 3≠[31,139,8]
 ·rw[if_pos h2]at hR
  have HR:=q7 hR;have h2i:((bys s).take 3==[31,139,8])=false:=by simpa using h2
  generalize (bys s).take 3=T at*;clear hR h2;have h10:10<=s.size:=by omega
  go_wp2_with(refine qo rfl 23 _ _ rfl g4 23 g4 9 9 rfl (ghC zGH) rfl (by kernel_rfl) (ghC zGH).toList HO2.out (by simp[ghC]) HZ.out ?_;intro w9 ho2 hg2;rw[jY rfl rfl]at ho2;have HO9:=q7 ho2;have HG9:=q7 hg2;clear ho2 hg2)
  exact aQ rfl rfl rfl rfl rfl (aR rfl (A:=ghC zGH) HO9.out) ⟨by rw[HR.out];rfl,qt (HB1.out.grown HG9.out HB1.out.size (by intro k e;cases e;rw[HG4.out];exact q9 _))⟩
 rw[if_neg h2]at hR;have h2i:((bys s).take 3==[31,139,8])=true:=by simpa using h2
 generalize (bys s).take 3=T at*;clear h2;have h10:10<=s.size:=by omega
 have hf:qJ s 3 1<256:=dU _ _ 1;have HF:=q7 (q5i _ hf)
 go_upto_region 8 with(fail)
 have hb2:=qn w1 (.cells #[.string s,.int .i64 3,.bool false] 134);have HO3:=q7 (HO2.out.up hb2);have HB3:=q7 (qq HB1.out hb2);have qdP:g4≠w1.heap.size:=by have:=HO2.out.blk.2;omega
 have HS3:Hid (sV (w1.alloc (.cells #[.string s,.int .i64 3,.bool false] 134)) g4 w1.heap.size s (some 3)):=q7 ⟨3,by omega,fun q e=>(by cases e;rfl),(qE w1 w1.heap.size #[.string s,.int .i64 3,.bool false] 134 (by simp) (q9 _)).mono (Nat.le_of_lt HO2.out.blk.2)⟩
 have HG7:Hid (w.heap.size<=w1.heap.size):=q7 HB1.out.size;generalize w1.alloc (.cells #[.string s,.int .i64 3,.bool false] 134)=w3 at*;generalize w1.heap.size=g7 at*;have qaJ:(Value.slice (some ⟨g4,0,none⟩) 9 9).ownBlock≠some g7:=by intro e;cases e;exact qdP rfl
 clear hb2 HO2;have HN0:=q7 (q7V hs HS3.out);have q0:mJ s 1 (some 3)=(qJ s 3 1,some 4):=if_pos (show 3+1<=s.size by omega)
 have q1:mJ s 4 (some 4)=(qJ s 4 4,some 8):=if_pos (show 4+4<=s.size by omega)
 have q2:mJ s 1 (some 8)=(qJ s 8 1,some 9):=if_pos (show 8+1<=s.size by omega)
 have q3:mJ s 1 (some 9)=(qJ s 9 1,some 10):=if_pos (show 9+1<=s.size by omega)
 rw[q0]at HN0;have hRe:R=if 32<=qJ s 3 1 then(13,zGH,0)else q26 s (yB s (qJ s 3 1)):=hR
 have hed:∀y,q26 s y=match y.2.2.2 with
  |none=>(2,zGH,0)
  |some p=>if jF (qJ s 3 1:Nat) 2 then(if p+2<=s.size then(if qJ s p 2≠bL ((bys s).take p)%65536 then(5,zGH,0)else(0,iP s y,p+2))else(2,zGH,0))else(0,iP s y,p):=fun _=>rfl
 have hho:∀y,iP s y=⟨(qJ s 4 4:Nat),⟨y.1.toArray⟩,⟨y.2.1.toArray⟩,⟨y.2.2.1.toArray⟩,(qJ s 8 1:Nat),(qJ s 9 1:Nat),jF (qJ s 3 1:Nat) 1,jF (qJ s 3 1:Nat) 2,((qJ s 3 1/4*4:Nat):Int)⟩:=fun _=>rfl
 have HED:=q7 hed;have HHO:=q7 hho;clear hR hed hho;generalize qJ s 3 1=f at*;generalize qJ s 4 4=tm at*;generalize qJ s 8 1=lv at*;generalize qJ s 9 1=os at*
 by_cases h3:32<=f
 ·rw[if_pos h3]at hRe
  have HR:=q7 hRe;have h3i:decide (32<=f)=true:=decide_eq_true h3;have hff:=HF.out;rw[h3i]at hff;clear hRe
  go_wp2_with(first
   |((with_reducible go_at_call 74);(with_reducible refine HN0.out.mono ?_);rintro en w4 ⟨rfl,hs1,hgr⟩;have HS4:=q7 hs1;have HO4:=q7 (HO3.out.keep hgr (.inr qaJ));have HB4:=q7 (HB3.out.grown hgr HB3.out.size (by intro k e;cases e;exact HG7.out));clear hs1 hgr)
   |(refine qo rfl 23 _ _ rfl g4 23 g4 9 9 rfl (ghC zGH) rfl (by kernel_rfl) (ghC zGH).toList HO4.out (by simp[ghC]) HZ.out ?_;intro w9 ho2 hg2;rw[jY rfl rfl]at ho2;have HO9:=q7 ho2;have HG9:=q7 hg2;clear ho2 hg2))
  exact aQ rfl rfl rfl rfl rfl (aR rfl (A:=ghC zGH) HO9.out) ⟨by rw[HR.out];rfl,qt (HB4.out.grown HG9.out HB4.out.size (by intro k e;cases e;rw[HG4.out];exact q9 _))⟩
 rw[if_neg h3]at hRe;have h3i:decide (32<=f)=false:=decide_eq_false h3;have hff:=HF.out;rw[h3i]at hff;obtain⟨fb1,fb2,fb28⟩:=q6R f (by omega)
 have HRE:=q7 hRe;clear hRe
 go_upto_region 11 with(first
  |((with_reducible go_at_call 74);(with_reducible refine HN0.out.mono ?_);rintro en w4 ⟨rfl,hs1,hgr⟩;have HS4:=q7 hs1;have HO4:=q7 (HO3.out.keep hgr (.inr qaJ));have HB4:=q7 (HB3.out.grown hgr HB3.out.size (by intro k e;cases e;exact HG7.out));clear hs1 hgr))
 have HN1:=q7 (q8P hs HS4.out);rw[q1]at HN1;have HFD:=q7 (fun(W:World) (B g gh:Nat) (h:sV W B g s (some 10)) (tx sm:Bool) (fl:Int) (hh:Own W B 23 (.slice (some ⟨gh,0,none⟩) 9 9) (hC tm ([],[],[],none) lv os tx sm fl)) (hne:g≠gh)=>q5h (show f<32 by omega) hs h hh hne)
 have HZC:Hid (∀W:World,Own (W.alloc (.cells (ghC zGH) 23)) W.heap.size 23 (.slice (some ⟨W.heap.size,0,none⟩) 9 9) (ghC zGH).toList):=q7 (fun W=>qE W W.heap.size (ghC zGH) 23 (by simp[ghC]) (q9 _))
 generalize hx1:jF (f:Int) 1=x1 at*;generalize hx2:jF (f:Int) 2=x2 at*;generalize hfl:f/4*4=fl at*;have HX:=q7 (⟨hx1,hx2,hfl⟩:jF (f:Int) 1=x1/\jF (f:Int) 2=x2/\f/4*4=fl);clear hx1 hx2 hfl hff h3i HF h1i h2i hex
 go_upto_region 12 with(first
  |((with_reducible go_at_call 74);(with_reducible refine HN1.out.mono ?_);rintro en w5 ⟨rfl,hs1,hgr⟩;have HS5:=q7 hs1;have HO5:=q7 (HO4.out.keep hgr (.inr qaJ));have HB5:=q7 (HB4.out.grown hgr HB4.out.size (by intro k e;cases e;exact HG7.out));clear hs1 hgr)
  |(refine qo rfl 23 _ _ rfl w5.heap.size 23 w5.heap.size 9 9 rfl #[.int .i64 (tm:Nat),.string ⟨#[]⟩,.string ⟨#[]⟩,.string ⟨#[]⟩,.int .i64 0,.int .i64 0,.bool x1,.bool x2,.int .i64 (fl:Nat)] rfl (by kernel_rfl) (ghC zGH).toList (HZC.out w5) (by simp[ghC]) (by intro u hu;simp at hu;rcases hu with rfl|rfl|rfl|rfl|rfl|rfl|rfl|rfl|rfl<;>rfl) ?_;intro w6 ho6 hg6;rw[jY rfl rfl]at ho6;have HH6:=q7 ho6;have HG6:=q7 hg6;clear ho6 hg6))
 have hb5:=qn w5 (.cells (ghC zGH) 23);have h57:g7<w5.heap.size:=by obtain⟨p,-,-,hx⟩:=HS5.out;exact hx.blk.2
 have h54:=HO5.out.blk.2;have HS6:=q7 ((HS5.out.up hb5).keep HG6.out (by intro e;cases e;exact absurd h57 (Nat.lt_irrefl _)))
 have HO6:=q7 ((HO5.out.up hb5).keep HG6.out (.inr (by intro e;cases e;exact absurd h54 (Nat.lt_irrefl _))))
 have HG9:Hid (w.heap.size<=w5.heap.size):=q7 HB5.out.size;have HB6:=q7 ((qs HB5.out (.cells (ghC zGH) 23)).grown HG6.out (qa HB5.out.size hb5.size) (by intro k e;cases e;exact HG9.out))
 have qdM:g7≠w5.heap.size:=Nat.ne_of_lt h57;have qdN:g4≠w5.heap.size:=Nat.ne_of_lt h54;have qkO:Hid (g4<=w5.heap.size):=q7 (Nat.le_of_lt h54);have qi0:Hid (Own w6 w5.heap.size 23 (.slice (some ⟨w5.heap.size,0,none⟩) 9 9) (hC tm ([],[],[],none) 0 0 x1 x2 fl)):=HH6;clear hb5 h57 h54 HG6 HH6 HS5 HO5 HB5 HS4 HO4 HB4 HS3 HO3 HB3 HN0 HN1;generalize w5.heap.size=g9 at*;have qcb:(Value.slice (some ⟨g9,0,none⟩) 9 9).ownBlock≠some g7:=by intro e;cases e;exact qdM rfl
 have qgD:(Value.slice (some ⟨g4,0,none⟩) 9 9).ownBlock≠some g9:=by intro e;cases e;exact qdN rfl
 have HN2:=q7 (q7V hs HS6.out);rw[q2]at HN2;have HH6:=qi0
 go_upto_region 13 with((with_reducible go_at_call 74);(with_reducible refine HN2.out.mono ?_);rintro en w7 ⟨rfl,hs1,hgr⟩;have HS7:=q7 hs1;have HO7:=q7 (HO6.out.keep hgr (.inr qaJ));have HH7:=q7 (HH6.out.keep hgr (.inr qcb));have HB7:=q7 (HB6.out.grown hgr HB6.out.size (by intro k e;cases e;exact HG7.out));have c4:w7.cell? ⟨g9,4,none⟩=some (.int .i64 0):=HH7.out.cell (i:=4) (by simp[hC]);have f4:w7.frozen? ⟨g9,4,none⟩=false:=HH7.out.free 4;have l9:=HH7.out.blk.2;clear hs1 hgr)
 obtain⟨ho8,hg8⟩:=HH7.out.store 4 (.int .i64 (lv:Nat));have HH8:Hid (Own _ g9 23 (.slice (some ⟨g9,0,none⟩) 9 9) (hC tm ([],[],[],none) lv 0 x1 x2 fl)):=q7 ho8;have HS8:=q7 (HS7.out.keep hg8 (by intro e;cases e;exact qdM rfl))
 have HO8:=q7 (HO7.out.keep hg8 (.inr qgD));have HB8:=q7 (HB7.out.grown hg8 HB7.out.size (by intro k e;cases e;exact HG9.out))
 clear ho8 hg8 c4 f4 l9;generalize w7.setCell ⟨g9,4,none⟩ (.int .i64 (lv:Nat))=w8 at*;have HN3:=q7 (q7V hs HS8.out);rw[q3]at HN3
 go_upto_region 14 with((with_reducible go_at_call 74);(with_reducible refine HN3.out.mono ?_);rintro en w9 ⟨rfl,hs1,hgr⟩;have HS9:=q7 hs1;have HO9:=q7 (HO8.out.keep hgr (.inr qaJ));have HH9:=q7 (HH8.out.keep hgr (.inr qcb));have HB9:=q7 (HB8.out.grown hgr HB8.out.size (by intro k e;cases e;exact HG7.out));have c4:w9.cell? ⟨g9,5,none⟩=some (.int .i64 0):=HH9.out.cell (i:=5) (by simp[hC]);have f4:w9.frozen? ⟨g9,5,none⟩=false:=HH9.out.free 5;have l9:=HH9.out.blk.2;clear hs1 hgr)
 obtain⟨qgB,qaO⟩:=HH9.out.store 5 (.int .i64 (os:Nat));have qal:Hid (Own _ g9 23 (.slice (some ⟨g9,0,none⟩) 9 9) (hC tm ([],[],[],none) lv os x1 x2 fl)):=q7 qgB;have qbQ:=q7 (HS9.out.keep qaO (by intro e;cases e;exact qdM rfl))
 have qa3:=q7 (HO9.out.keep qaO (.inr qgD));have q9i:=q7 (HB9.out.grown qaO HB9.out.size (by intro k e;cases e;exact HG9.out))
 clear qgB qaO c4 f4 l9 HN2 HN3 qi0 HH6 HS6 HO6 HB6 HS7 HO7 HB7 HH7 HS9 HO9 HB9 HH9 HS8 HO8 HB8 HH8;generalize w9.setCell ⟨g9,5,none⟩ (.int .i64 (os:Nat))=w10 at*;have HFC:=q7 (HFD.out w10 g4 g7 g9 qbQ.out x1 x2 fl (qal.out.mono qkO.out) qdM);rw[q1d]at HFC;have HY:=q7 (HED.out (yB s f));rw[<-HRE.out]at HY;have HHY:=q7 (HHO.out (yB s f));generalize hy:yB s f=y at*;have HYE:=q7 hy;clear hy HFD HED HHO HRE q0 q1 q2 q3
 go_upto_region 15 with((with_reducible go_at_call 75);(with_reducible refine HFC.out.mono ?_);rintro en w11 ⟨rfl,qdE,qgR,qeQ⟩;have qbc:=q7 qdE;have qaz:=q7 qgR;have qak:=q7 (q5j qeQ qa3.out qdP qdN);have qai:=q7 (q1h qeQ q9i.out HG7.out HG9.out);clear qdE qgR qeQ)
 obtain⟨p,hp,hpq,hso⟩:=qbc.out;have k1:w11.cell? ⟨g7,1,none⟩=some (.int .i64 (p:Nat)):=hso.cell (i:=1) (by simp)
 have kl:=hso.blk.2;have qh2:s.extract 0 p=⟨((bys s).take p).toArray⟩:=bY (by simp)
 have qbM:=q7 (fun W=>q8v (s:=⟨((bys s).take p).toArray⟩) (by rw[qN,List.length_take,qF];omega) W)
 rw[show bys ⟨((bys s).take p).toArray⟩=(bys s).take p from rfl]at qbM
 have HPQ:=q7 hpq;have hpi:(p:Int)<=(s.size:Nat):=by omega
 generalize hcs:bL ((bys s).take p)%65536=cs at*;have HCS:=q7 hcs;generalize hTP:(bys s).take p=TP at*;have HTP:=q7 hTP;clear hcs hpq hso hTP
 go_upto_region 16 with((with_reducible go_at_call 51);(with_reducible refine(qbM.out _).mono ?_);rintro en w12 ⟨rfl,hx⟩;have q9E:=qr hx;have qaT:=q7 (qbc.out.up q9E);have q9A:=q7 (qaz.out.up q9E);have q9N:=q7 (qak.out.up q9E);have q99:=q7 (qq qai.out q9E);clear hx q9E)
 have c7:w12.cell? ⟨g9,7,none⟩=some (.bool x2):=q9A.out.cell (i:=7) (by simp[hC])
 clear k1 kl qbM qh2 qbQ qa3 q9i qal HFC qbc qaz qak qai;obtain⟨ya,yb,yc,yo⟩:=y
 cases yo with
 |none=>
  have HRn:Hid (R=(2,zGH,0)):=q7 HY.out;obtain⟨pz,-,-,hz⟩:=qaT.out;have z2:w12.cell? ⟨g7,2,none⟩=some (.bool true):=hz.cell (i:=2) (by simp)
  have zl:=hz.blk.2
  cases x2
  ·clear hz
   go_wp2_with(refine qo rfl 23 _ _ rfl g4 23 g4 9 9 rfl (ghC zGH) rfl (by kernel_rfl) (ghC zGH).toList q9N.out (by simp[ghC]) HZ.out ?_;intro w19 ho2 hg2;rw[jY rfl rfl]at ho2;have qbT:=q7 ho2;have qc0:=q7 hg2;clear ho2 hg2)
   exact aQ rfl rfl rfl rfl rfl (aR rfl (A:=ghC zGH) qbT.out) ⟨by rw[HRn.out];rfl,qt (q99.out.grown qc0.out q99.out.size (by intro k e;cases e;rw[HG4.out];exact q9 _))⟩
  ·have HN4:Hid (Calls Tryz.prog 74 #[.pointer (some ⟨g7,0,none⟩),.int .i64 2] w12 fun e w'=>e=.returned (.int .i64 0)/\sV w' g4 g7 s none/\w12.grownBy w' (some g7)):=q7 (q7p hs qaT.out)
   clear hz z2 zl
   go_upto_region 18 with((with_reducible go_at_call 74);(with_reducible refine HN4.out.mono ?_);rintro en w13 ⟨rfl,hs1,hgr⟩;have qbP:=q7 hs1;have q9n:=q7 (q9N.out.keep hgr (.inr qaJ));have q9G:=q7 (q9A.out.keep hgr (.inr qcb));have q9d:=q7 (q99.out.grown hgr q99.out.size (by intro k e;cases e;exact HG7.out));obtain⟨pz,-,-,hz⟩:=id hs1;have z2:w13.cell? ⟨g7,2,none⟩=some (.bool true):=hz.cell (i:=2) (by simp);have zl:=hz.blk.2;clear hs1 hgr)
   go_wp2_with(refine qo rfl 23 _ _ rfl g4 23 g4 9 9 rfl (ghC zGH) rfl (by kernel_rfl) (ghC zGH).toList q9n.out (by simp[ghC]) HZ.out ?_;intro w19 ho2 hg2;rw[jY rfl rfl]at ho2;have qbT:=q7 ho2;have qc0:=q7 hg2;clear ho2 hg2)
   exact aQ rfl rfl rfl rfl rfl (aR rfl (A:=ghC zGH) qbT.out) ⟨by rw[HRn.out];rfl,qt (q9d.out.grown qc0.out q9d.out.size (by intro k e;cases e;rw[HG4.out];exact q9 _))⟩
 |some q=>
  have hqp:q=p:=HPQ.out q rfl;subst hqp;have hRs:R=if x2=true then(if q+2<=s.size then(if qJ s q 2≠cs then(5,zGH,0)else(0,iP s (ya,yb,yc,some q),q+2))else(2,zGH,0))else(0,iP s (ya,yb,yc,some q),q):=by rw[HY.out,<-HCS.out,<-HTP.out]
  have HRS:=q7 hRs;clear hRs;have qgc:w12.cell? ⟨g7,2,none⟩=some (.bool false):=by obtain⟨pz,-,-,hz⟩:=qaT.out;exact hz.cell (i:=2) (by simp)
  have hzl:g7<w12.heap.size:=by obtain⟨pz,-,-,hz⟩:=qaT.out;exact hz.blk.2
  cases x2
  ·go_upto_region 22 with(fail)
   clear qgc hzl;obtain⟨pp,-,hpp,hss⟩:=qaT.out;have qes:=hpp _ rfl;subst qes;have s1:w12.cell? ⟨g7,1,none⟩=some (.int .i64 ((q:Nat):Int)):=hss.cell (i:=1) (by simp)
   have s2:w12.cell? ⟨g7,2,none⟩=some (.bool false):=hss.cell (i:=2) (by simp)
   have sl:=hss.blk.2;obtain⟨A,hgA,hsA,hA⟩:=q9A.out.whole;rw[q49,<-HHY.out]at hA;have hAe:A=ghC (iP s (ya,yb,yc,some q)):=Array.ext' hA;subst hAe;have h9l:=q9A.out.blk.2;have HA7:Hid (∀w',(∃x,w'=chg w12 (some g4) x)->w'.heap[g9]? =some (.cells (ghC (iP s (ya,yb,yc,some q))) 23 (0,0))):=q7 (by rintro _ ⟨x,rfl⟩;rw[(mW _ _ _).block g9 h9l (by intro e;cases e;exact qdN rfl)];exact hgA)
   have hr7:some g7≠some g4:=by intro e;cases e;exact qdP rfl
   have qaU:=q7 (mH (iP s (ya,yb,yc,some q)));have HSZ:Hid ((ghC (iP s (ya,yb,yc,some q))).size=9):=q7 rfl;have hR2:R=(0,iP s (ya,yb,yc,some q),q):=by rw[HRS.out];rfl
   have HR2:=q7 hR2;clear hR2 hgA hsA hA hpp hss;generalize hHD:iP s (ya,yb,yc,some q)=hd at*;have HHD:=q7 hHD;clear hHD;generalize hCD:ghC hd=cd at*;have HCD:=q7 hCD;clear hCD
   go_upto_region 22 with(fail)
   refine gY (some g4) [0,1,2,3,4] [5,6,7] (by kernel_rfl) (by kernel_rfl) ?_
   simp only[pk]
   repeat(first
    |(go_big_quiet_want;(with_reducible show Oper.quiet _ (Oper.mk _ (.load _ _) _ _ _ _) _ _ _);refine jg 23 9 _ rfl g9 rfl cd HSZ.out HA7.out _ Tryz.underlying23 rfl (by kernel_rfl) ?_;go_simp;go_big_quiet_on)
    |go_big_quiet_step (fail))
   refine wpQuiet_nil ?_;have HOd:=q7 (q9N.out.up (qS (qj _ _)));have HBd:=q7 (qS q99.out);have HGd:=q7 (qV w12 (some g4));generalize w12.drew=w20 at*;unfold qy
   go_wp2_with(refine qo rfl 23 _ _ rfl g4 23 g4 9 9 rfl cd rfl (by rw[HSZ.out];kernel_rfl) (ghC zGH).toList HOd.out (by rw[HSZ.out];simp[ghC]) qaU.out ?_;intro w21 ho2 hg2;rw[jY HSZ.out rfl]at ho2;have qdf:=q7 ho2;have qbZ:=q7 hg2;clear ho2 hg2)
   have HGz:=q7 (qp HGd.out qbZ.out);refine⟨qW HGz.out,?_⟩;unfold qy;go_wp2;refine⟨qW HGz.out,?_⟩;unfold qy;go_wp2;refine⟨qW HGz.out,?_⟩;unfold qy;intro hz hz2;clear hz2 hz;go_wp2
   exact aQ rfl rfl rfl rfl rfl (aR HSZ.out (A:=cd) qdf.out) ⟨by rw[HR2.out,<-HCD.out];rfl,qt (HBd.out.grown qbZ.out HBd.out.size (by intro k e;cases e;rw[HG4.out];exact q9 _))⟩
  ·clear qgc hzl
   by_cases hf2:q+2<=s.size
   ·have q4:mJ s 2 (some q)=(qJ s q 2,some (q+2)):=if_pos hf2
    have HN4:=q7 (q7p hs qaT.out);rw[q4]at HN4
    by_cases hcc:qJ s q 2=cs
    ·have hR3:R=(0,iP s (ya,yb,yc,some q),q+2):=by rw[HRS.out,if_pos rfl,if_pos hf2,if_neg (by simpa using hcc)]
     have HR3:=q7 hR3;rw[hcc]at HN4;clear q4 hR3 hcc
     go_upto_region 18 with((with_reducible go_at_call 74);(with_reducible refine HN4.out.mono ?_);rintro en w13 ⟨rfl,hs1,hgr⟩;have qbP:=q7 hs1;have q9n:=q7 (q9N.out.keep hgr (.inr qaJ));have q9G:=q7 (q9A.out.keep hgr (.inr qcb));have q9d:=q7 (q99.out.grown hgr q99.out.size (by intro k e;cases e;exact HG7.out));obtain⟨pz,-,-,hz⟩:=id hs1;have z2:w13.cell? ⟨g7,2,none⟩=some (.bool false):=hz.cell (i:=2) (by simp);have zl:=hz.blk.2;clear hs1 hgr)
     clear z2 hz;have z2:w13.cell? ⟨g7,2,none⟩=some (.bool false):=by obtain⟨pz,-,-,hz⟩:=qbP.out;exact hz.cell (i:=2) (by simp)
     obtain⟨pp,-,hpp,hss⟩:=qbP.out;have qes:=hpp _ rfl;subst qes;have s1:w13.cell? ⟨g7,1,none⟩=some (.int .i64 ((q+2:Nat):Int)):=hss.cell (i:=1) (by simp)
     have s2:w13.cell? ⟨g7,2,none⟩=some (.bool false):=hss.cell (i:=2) (by simp)
     have sl:=hss.blk.2;obtain⟨A,hgA,hsA,hA⟩:=q9G.out.whole;rw[q49,<-HHY.out]at hA;have hAe:A=ghC (iP s (ya,yb,yc,some q)):=Array.ext' hA;subst hAe;have h9l:=q9G.out.blk.2;have HA7:Hid (∀w',(∃x,w'=chg w13 (some g4) x)->w'.heap[g9]? =some (.cells (ghC (iP s (ya,yb,yc,some q))) 23 (0,0))):=q7 (by rintro _ ⟨x,rfl⟩;rw[(mW _ _ _).block g9 h9l (by intro e;cases e;exact qdN rfl)];exact hgA)
     have hr7:some g7≠some g4:=by intro e;cases e;exact qdP rfl
     have qaU:=q7 (mH (iP s (ya,yb,yc,some q)));have HSZ:Hid ((ghC (iP s (ya,yb,yc,some q))).size=9):=q7 rfl;have hR2:R=(0,iP s (ya,yb,yc,some q),q+2):=HR3.out;have HR2:=q7 hR2;clear hR2 hgA hsA hA hpp hss;generalize hHD:iP s (ya,yb,yc,some q)=hd at*;have HHD:=q7 hHD;clear hHD;generalize hCD:ghC hd=cd at*;have HCD:=q7 hCD;clear hCD
     go_upto_region 22 with(fail)
     refine gY (some g4) [0,1,2,3,4] [5,6,7] (by kernel_rfl) (by kernel_rfl) ?_
     simp only[pk]
     repeat(first
      |(go_big_quiet_want;(with_reducible show Oper.quiet _ (Oper.mk _ (.load _ _) _ _ _ _) _ _ _);refine jg 23 9 _ rfl g9 rfl cd HSZ.out HA7.out _ Tryz.underlying23 rfl (by kernel_rfl) ?_;go_simp;go_big_quiet_on)
      |go_big_quiet_step (fail))
     refine wpQuiet_nil ?_;have HOd:=q7 (q9n.out.up (qS (qj _ _)));have HBd:=q7 (qS q9d.out);have HGd:=q7 (qV w13 (some g4));generalize w13.drew=w20 at*;unfold qy
     go_wp2_with(refine qo rfl 23 _ _ rfl g4 23 g4 9 9 rfl cd rfl (by rw[HSZ.out];kernel_rfl) (ghC zGH).toList HOd.out (by rw[HSZ.out];simp[ghC]) qaU.out ?_;intro w21 ho2 hg2;rw[jY HSZ.out rfl]at ho2;have qdf:=q7 ho2;have qbZ:=q7 hg2;clear ho2 hg2)
     have HGz:=q7 (qp HGd.out qbZ.out);refine⟨qW HGz.out,?_⟩;unfold qy;go_wp2;refine⟨qW HGz.out,?_⟩;unfold qy;go_wp2;refine⟨qW HGz.out,?_⟩;unfold qy;intro hz hz2;clear hz2 hz;go_wp2
     exact aQ rfl rfl rfl rfl rfl (aR HSZ.out (A:=cd) qdf.out) ⟨by rw[HR2.out,<-HCD.out];rfl,qt (HBd.out.grown qbZ.out HBd.out.size (by intro k e;cases e;rw[HG4.out];exact q9 _))⟩
    ·have hR3:R=(5,zGH,0):=by rw[HRS.out,if_pos rfl,if_pos hf2,if_pos hcc]
     have HR3:=q7 hR3;have qcZ:(((qJ s q 2:Nat):Int) != ((cs:Nat):Int))=true:=by simp;omega
     generalize qJ s q 2=nn at*;clear q4 hR3 hcc
     go_upto_region 18 with((with_reducible go_at_call 74);(with_reducible refine HN4.out.mono ?_);rintro en w13 ⟨rfl,hs1,hgr⟩;have qbP:=q7 hs1;have q9n:=q7 (q9N.out.keep hgr (.inr qaJ));have q9G:=q7 (q9A.out.keep hgr (.inr qcb));have q9d:=q7 (q99.out.grown hgr q99.out.size (by intro k e;cases e;exact HG7.out));obtain⟨pz,-,-,hz⟩:=id hs1;have z2:w13.cell? ⟨g7,2,none⟩=some (.bool false):=hz.cell (i:=2) (by simp);have zl:=hz.blk.2;clear hs1 hgr)
     go_wp2_with(refine qo rfl 23 _ _ rfl g4 23 g4 9 9 rfl (ghC zGH) rfl (by kernel_rfl) (ghC zGH).toList q9n.out (by simp[ghC]) HZ.out ?_;intro w19 ho2 hg2;rw[jY rfl rfl]at ho2;have qbT:=q7 ho2;have qc0:=q7 hg2;clear ho2 hg2)
     exact aQ rfl rfl rfl rfl rfl (aR rfl (A:=ghC zGH) qbT.out) ⟨by rw[HR3.out];rfl,qt (q9d.out.grown qc0.out q9d.out.size (by intro k e;cases e;rw[HG4.out];exact q9 _))⟩
   ·have q4:mJ s 2 (some q)=(0,none):=if_neg hf2
    have HN4:=q7 (q7p hs qaT.out);rw[q4]at HN4;have hR3:R=(2,zGH,0):=by rw[HRS.out,if_pos rfl,if_neg hf2]
    have HR3:=q7 hR3;clear q4 hR3
    go_upto_region 18 with((with_reducible go_at_call 74);(with_reducible refine HN4.out.mono ?_);rintro en w13 ⟨rfl,hs1,hgr⟩;have qbP:=q7 hs1;have q9n:=q7 (q9N.out.keep hgr (.inr qaJ));have q9G:=q7 (q9A.out.keep hgr (.inr qcb));have q9d:=q7 (q99.out.grown hgr q99.out.size (by intro k e;cases e;exact HG7.out));obtain⟨pz,-,-,hz⟩:=id hs1;have z2:w13.cell? ⟨g7,2,none⟩=some (.bool true):=hz.cell (i:=2) (by simp);have zl:=hz.blk.2;clear hs1 hgr)
    go_wp2_with(refine qo rfl 23 _ _ rfl g4 23 g4 9 9 rfl (ghC zGH) rfl (by kernel_rfl) (ghC zGH).toList q9n.out (by simp[ghC]) HZ.out ?_;intro w19 ho2 hg2;rw[jY rfl rfl]at ho2;have qbT:=q7 ho2;have qc0:=q7 hg2;clear ho2 hg2)
    exact aQ rfl rfl rfl rfl rfl (aR rfl (A:=ghC zGH) qbT.out) ⟨by rw[HR3.out];rfl,qt (q9d.out.grown qc0.out q9d.out.size (by intro k e;cases e;rw[HG4.out];exact q9 _))⟩
theorem I9{s:ByteArray}{p q:Nat}(h:(lK s (some p)).2=some q):q<=s.size:=by
 have h':(if p+zIx s p<s.size then(nU s p (zIx s p),some (p+zIx s p+1))else(([],none):qK×Option Nat)).2=some q:=h
 by_cases h1:p+zIx s p<s.size
 ·rw[if_pos h1]at h'
  have h2:p+zIx s p+1=q:=ql h';omega
 ·rw[if_neg h1]at h'
  cases h'
def q27(h:GH):Prop:=h.extra.size<=70000/\h.name.size<=2000/\h.note.size<=2000
theorem oX(eD eE:Nat)(l:List PtN):(jq eD eE l).2.length<=16777216:=by
 have key:∀(l:List PtN) (y:Nat×qK),(y.1=0->y.2.length<=16777216)->(l.foldl (hU eD) y).1=0->(l.foldl (hU eD) y).2.length<=16777216:=by
  intro l
  induction l with
  |nil=>intro y h1 h2;exact h1 h2
  |cons p l ih=>
   intro y h1 h2;rw[List.foldl_cons]at h2⊢;refine ih _ (fun h=>?_) h2
   unfold hU at h⊢;split
   ·rename_i h3;rw[if_pos h3]at h;exact absurd h h3
   ·rename_i h3;rw[if_neg h3]at h;exact uN h
 unfold jq;split
 ·exact qc _
 ·split
  ·exact qc _
  ·rename_i h1
   exact key l (0,[]) (fun _=>qc _) (by have:(jW eD l).1=0:=(by omega);exact this)
def q3a(t:qK):qK:=leB (bL t) 4++leB t.length 4
def aW(h:GH)(l:List PtN):Nat×qK:=
 if jG h then(if(eN l).1≠0 then((eN l).1,[])else(0,dH h++(eN l).2++q3a (jq 10 17 l).2))else(4,[])
theorem P5{l:List PtN}(h:zJ l):(eN l).2.length<=11250001:=by
 have h1:=q0P h l.length (q9 _);unfold eN;split
 ·exact qc _
 ·split
  ·exact qc _
  ·show(fI _ _).length<=_
   unfold fI;rw[List.length_map,List.length_range];omega
theorem xG{h:GH}(hf:q27 h):h.extra.size<=100000/\h.name.size<=100000/\h.note.size<=100000:=by
 obtain⟨h1,h2,h3⟩:=hf;omega
theorem q1l(a b c d:qK):(⟨a.toArray⟩:ByteArray)++⟨b.toArray⟩++⟨c.toArray⟩++⟨d.toArray⟩=⟨(a++b++(c++d)).toArray⟩:=by
 rw[jA,jA,jA];simp
theorem J0{w:World}{v:Value}{l:List PtN}{h:GH}(hok:X9 h)(hp:js w v l)(hpo:∀p∈l,yT p)(q9e:∀p∈l,∀o∈p.ops,pL o)(hfl:zJ l)(hfh:q27 h):Calls Tryz.prog 9 #[.agg (ghC h),v] w (bS (aW h l) w):=by
 obtain⟨R,hR⟩:∃R,R=aW h l:=⟨_,rfl⟩;rw[<-hR];have HR:=q7 hR;clear hR;have q9f:=qn w (.cells (ghC h) 23);have HB0:=q7 q9f;have hox:=qE w w.heap.size (ghC h) 23 (by simp[ghC]) (q9 _)
 have hC9:(ghC h).size=9:=rfl;rw[hC9]at hox;have HPA:=q7 (hp.up q9f);have e0:w.alloc (.cells (ghC h) 23)=w.alloc (.cells #[.int .i64 h.time,.string h.extra,.string h.name,.string h.note,.int .i64 h.level,.int .i64 h.os,.bool h.text,.bool h.sum,.int .i64 h.flags] 23):=rfl;have HBX:=q7 hox;have HBD:=q7 (fun W=>q6L hok (xG hfh) W)
 have HEN:=q7 (fun W (hb:Below w.heap.size w W)=>q2K (hp.up hb) hpo q9e (q3V hfl) (q0P hfl))
 have HTX:=q7 (fun W (hb:Below w.heap.size w W)=>q0q (hp.up hb) hpo)
 have hlt:=oX 10 17 l;have hle:=P5 hfl;have hlg:=wV h;have hgs:=xG hfh;have HRB:Hid (aW h l=if jG h then(if(eN l).1≠0 then((eN l).1,[])else(0,dH h++(eN l).2++(leB (bL (jq 10 17 l).2) 4++leB (jq 10 17 l).2.length 4)))else(4,[])):=q7 rfl
 unfold pY at HBD;unfold bS at HEN HTX⊢;obtain⟨oa,cap,bl,off,rfl,-⟩:=hp.open;clear q9f hox hC9 hp hpo q9e hok;generalize dH h=GB at*;generalize hGR:jG h=gr at*;generalize eN l=E at*;generalize jq 10 17 l=T at*;obtain⟨e1,e2⟩:=E;obtain⟨t1,t2⟩:=T;simp only at hlt hle HEN HTX;have HCR:=q7 (fun W=>q55 (s:=⟨t2.toArray⟩) (by rw[qN];omega) W)
 rw[show bys ⟨t2.toArray⟩=t2 from rfl]at HCR
 have hcl:=oS t2;have HF1:=q7 (fun W=>I1 hcl W)
 have HF2:=q7 (fun W=>I1 (n:=t2.length) (by omega) W)
 rw[HRB.out]at HR;clear HRB;have l4:(leB (bL t2) 4).length=4:=jf _ _;have l5:(leB t2.length 4).length=4:=jf _ _;generalize leB (bL t2) 4=c4 at*;generalize leB t2.length 4=d4 at*;generalize bL t2=cc at*;have hsz:(⟨t2.toArray⟩:ByteArray).size=t2.length:=qN _;generalize t2.length=tl at*
 go_enter Tryz.func9,Tryz.ntmps9
 go_upto_region 1 with(fail)
 rw[<-e0];clear e0;generalize w.alloc (.cells (ghC h) 23)=w1 at*;obtain⟨A,hgA,hsA,hA⟩:=HBX.out.whole;have hAe:A=ghC h:=Array.ext' hA;subst hAe;have HGA:=q7 hgA;have HSZ:Hid ((ghC h).size=9):=q7 rfl;clear hgA hsA hA HBX hGR;generalize ghC h=cd at*
 cases gr
 ·have HR1:Hid (R=(4,[])):=q7 (by rw[HR.out];rfl)
  simp only[Bool.false_eq_true,if_false]at HBD
  go_wp2_with(first
   |(refine qI rfl 23 9 _ rfl w.heap.size rfl cd HSZ.out HGA.out _ Tryz.underlying23 rfl (by kernel_rfl) ?_)
   |((with_reducible go_at_call 24);(with_reducible refine(HBD.out _).mono ?_);rintro en w2 ⟨rfl,hx⟩;have HB2:=q7 (qq HB0.out (qr hx));clear hx))
  go_ret2
  rw[HR1.out]
  exact⟨rfl,qt HB2.out⟩
 ·simp only[if_true]at HBD
  by_cases he:e1=0
  ·subst he
   have HR1:Hid (R=(0,GB++e2++(c4++d4))):=q7 (by rw[HR.out];rfl)
   have z1:(⟨GB.toArray⟩:ByteArray).size=GB.length:=qN _;have z2:(⟨e2.toArray⟩:ByteArray).size=e2.length:=qN _;have z3:(⟨c4.toArray⟩:ByteArray).size=4:=by rw[qN,l4]
   have z4:(⟨d4.toArray⟩:ByteArray).size=4:=by rw[qN,l5]
   have HC3:=q7 (q1l GB e2 c4 d4);have HZ2:Hid (((⟨GB.toArray⟩:ByteArray)++⟨e2.toArray⟩).size<=20000000):=q7 (by rw[jA,qN,qg];omega)
   have HZ3:Hid (((⟨GB.toArray⟩:ByteArray)++⟨e2.toArray⟩++⟨c4.toArray⟩).size<=20000004):=q7 (by rw[jA,jA,qN,qg,qg];omega)
   have HZL:Hid (GB.length<=300100):=q7 (by omega)
   clear HR
   go_upto_region 10 with(first
    |(refine qI rfl 23 9 _ rfl w.heap.size rfl cd HSZ.out HGA.out _ Tryz.underlying23 rfl (by kernel_rfl) ?_)
    |((with_reducible go_at_call 24);(with_reducible refine(HBD.out _).mono ?_);rintro en w2 ⟨rfl,hx⟩;have HB2:=q7 (qq HB0.out (qr hx));clear hx)
    |((with_reducible go_at_call 25);(with_reducible refine(HEN.out _ HB2.out).mono ?_);rintro en w3 ⟨rfl,hx⟩;have HB3:=q7 (qq HB2.out (qr hx));clear hx)
    |((with_reducible go_at_call 12);(with_reducible refine(HTX.out _ HB3.out).mono ?_);rintro en w4 ⟨rfl,hx⟩;have HB4:=q7 (qq HB3.out (qr hx));clear hx)
    |((with_reducible go_at_call 27);(with_reducible refine(HCR.out _).mono ?_);rintro en w5 ⟨rfl,hx⟩;have HB5:=q7 (qq HB4.out (qr hx));clear hx)
    |((with_reducible go_at_call 26);(with_reducible refine(HF1.out _).mono ?_);rintro en w6 ⟨rfl,hx⟩;have HB6:=q7 (qq HB5.out (qr hx));clear hx)
    |((with_reducible go_at_call 26);(with_reducible refine(HF2.out _).mono ?_);rintro en w7 ⟨rfl,hx⟩;have HB7:=q7 (qq HB6.out (qr hx));clear hx))
   clear hlt hlg hgs hcl;have y2:=HZ2.out;have y3:=HZ3.out;have y4:=HZL.out;go_wp2
   go_ret2
   rw[HC3.out,HR1.out]
   exact⟨rfl,qt HB7.out⟩
  ·have HR1:Hid (R=(e1,[])):=q7 (by rw[HR.out,if_pos rfl,if_pos he])
   have hei:(((e1:Nat):Int) != 0)=true:=by simp;omega
   go_wp2_with(first
    |(refine qI rfl 23 9 _ rfl w.heap.size rfl cd HSZ.out HGA.out _ Tryz.underlying23 rfl (by kernel_rfl) ?_)
    |((with_reducible go_at_call 24);(with_reducible refine(HBD.out _).mono ?_);rintro en w2 ⟨rfl,hx⟩;have HB2:=q7 (qq HB0.out (qr hx));clear hx)
    |((with_reducible go_at_call 25);(with_reducible refine(HEN.out _ HB2.out).mono ?_);rintro en w3 ⟨rfl,hx⟩;have HB3:=q7 (qq HB2.out (qr hx));clear hx))
   go_ret2
   rw[HR1.out]
   exact⟨rfl,qt HB3.out⟩
theorem bK.if2{w:World}:∀{l:List (Nat×Nat)} {v:Value},bK w l v->∃t u,v=.iface t u
 |[],_,⟨_,h⟩=>⟨_,_,h⟩
 |_::_,_,⟨_,_,h,_⟩=>⟨_,_,h⟩
theorem bK.keep{w w':World}{g:Nat}(hg:w.grownBy w' (some g))(h2:∀t u,w.cell? ⟨g,2,none⟩≠some (.iface t u)):∀{l:List (Nat×Nat)} {v:Value},bK w l v->bK w' l v
 |[],_,h=>h
 |x::l,v,⟨p,u,h1,hp,h3,h4,h5,h6⟩=>by
  have hne:p≠g:=by
   rintro rfl;obtain⟨t,u',rfl⟩:=h6.if2
   exact h2 t u' h5
  have hb:=hg.block p hp (by intro e;cases e;exact hne rfl)
  exact⟨p,u,h1,qd hp hg.size,by rw[World.cell?_of_block hb];exact h3,by rw[World.cell?_of_block hb];exact h4,by rw[World.cell?_of_block hb];exact h5,bK.keep hg h2 h6⟩
theorem bT{w w':World}{g:Nat}{l:List (Nat×Nat)}{v:Value}(hg:w.grownBy w' (some g))(h2:∀t u,w.cell? ⟨g,2,none⟩≠some (.iface t u))(h:cH w l v):cH w' l v:=by
 unfold cH at h⊢;split at h
 ·rename_i h0;rw[if_pos h0];exact h
 ·rename_i h0;rw[if_neg h0];exact h.keep hg h2
theorem dJ{w:World}{B g T:Nat}{v:Value}(h:Own w B T (.slice (some ⟨g,0,none⟩) 1 1) [v]):∀t u,w.cell? ⟨g,2,none⟩≠some (.iface t u):=by
 intro t u e;obtain⟨A,hgA,hsA,hA⟩:=h.whole;have hz:A.size=1:=by rw[<-Array.length_toList,hA];rfl
 unfold World.cell? at e;simp only[hgA]at e
 simp[hz]at e
theorem gU{fn:Func}{tmps:Array Value}{ds:List Deferred}{w0 w w':World}{s g B:Nat}{e:Value}{l:List (Nat×Nat)}(hf:fn.results=#[.cell s 42])(ha:tmps.getD s undef=.pointer (some ⟨g,0,none⟩))(hd:ds=[])
  (ho:Own w' B 42 (.slice (some ⟨g,0,none⟩) 1 1) [e]) (hb:Below w0.heap.size w0 w) (hg:w.grownBy w' (some g)) (hge:w0.heap.size<=g) (h2:∀t u,w.cell? ⟨g,2,none⟩≠some (.iface t u)) (he:cH w l e):
  bodyPost Tryz.prog fn (cU l w0) .ret ⟨tmps,ds⟩ w':=
 bC hf ha hd (x:=.agg #[e]) (by simpa using bD (P:=Tryz.prog) (T:=42) ho _ Tryz.underlying42 rfl (by kernel_rfl))
  ⟨_,rfl,⟨_,rfl,bT hg h2 he⟩,qt (hb.grown hg hb.size (by intro k e;cases e;exact hge))⟩
theorem P6{c at_:Nat}{w:World}(hL:jK w)(hc:c<=27)(hc0:c≠0):Calls Tryz.prog 82 #[.int .i64 c,.int .i64 at_] w (cU [(c,at_)] w):=by
 have HL:=q7 (hL.up (qn w (.cells #[.nilIface] 42)));clear hL
 go_enter Tryz.func82,Tryz.ntmps82
 go_upto_region 1 with(fail)
 have H4:=q7 (qE w w.heap.size #[.nilIface] 42 (by simp) (q9 _))
 have HB:=q7 (qn w (.cells #[.nilIface] 42));generalize w.alloc (.cells #[.nilIface] 42)=w1 at*
 go_wp2_with(first
  |((with_reducible go_at_call 34);refine(q7o HL.out hc hc0).mono ?_;rintro en w2 ⟨v,rfl,⟨e,rfl,he⟩,hx⟩;have hb2:=qr hx;have HE:=q7 he;have K4:=q7 (H4.out.up hb2);have HB2:=q7 (qq HB.out hb2);clear hx he hb2)
  |(refine qo rfl 42 _ _ rfl w.heap.size 42 w.heap.size 1 1 rfl #[e] rfl (by kernel_rfl) [.nilIface] K4.out (by simp) (by intro u hu;simp at hu;rw[hu];exact HE.out.one) ?_;intro w9 ho2 hg2;have HO9:=q7 ho2;have HG9:=q7 hg2;clear ho2 hg2))
 exact gU rfl rfl rfl HO9.out HB2.out HG9.out (q9 _) (dJ K4.out) HE.out
def cZ(s:ByteArray)(q:Nat)(t:qK):List (Nat×Nat):=
 if s.size<(q+7)/8+8 then [(2,s.size)]
 else if qJ s ((q+7)/8) 4≠bL t then [(5,(q+7)/8)]
 else if qJ s ((q+7)/8+4) 4≠t.length then [(6,(q+7)/8)]
 else if(q+7)/8+8<s.size then [(14,(q+7)/8+8)]else []
def ifC(h:GH)(p q:Int)(v:Value)(c:ByteArray):Array Value:=
 #[.int .i64 h.time,.string h.extra,.string h.name,.string h.note,.int .i64 h.level,.int .i64 h.os,.bool h.text,.bool h.sum,.int .i64 h.flags,.int .i64 p,.int .i64 q,v,.string c]
theorem q82{h:GH}{p:Int}{q:Nat}{oa:Option Addr}{n k:Nat}{c s:ByteArray}{w:World}(hL:jK w)(hq:q<=8*s.size)(hs:s.size<=4294967296)(hc:c.size<=16777216):Calls Tryz.prog 37 #[.string s,.agg (ifC h p q (.slice oa n k) c)] w (cU (cZ s q (bys c)) w):=by
 obtain⟨R,hR⟩:∃R,R=cZ s q (bys c):=⟨_,rfl⟩;rw[<-hR];have HR:=q7 hR;clear hR;have hI:=qE w w.heap.size (ifC h p q (.slice oa n k) c) 38 (by simp[ifC]) (q9 _)
 have hB1:=qn w (.cells (ifC h p q (.slice oa n k) c) 38);have h4:=qE (w.alloc (.cells (ifC h p q (.slice oa n k) c) 38)) w.heap.size #[.nilIface] 42 (by simp) hB1.size
 have hbb:=qn (w.alloc (.cells (ifC h p q (.slice oa n k) c) 38)) (.cells #[.nilIface] 42);obtain⟨w2,hw2⟩:∃w2,w2=(w.alloc (.cells (ifC h p q (.slice oa n k) c) 38)).alloc (.cells #[.nilIface] 42):=⟨_,rfl⟩;have HI:=q7 (hI.up hbb);have HB:=q7 (qq hB1 hbb);have HL2:=q7 (hL.up (qq hB1 hbb));have H4:=q7 h4;have e0:w2=(w.alloc (.cells #[.int .i64 h.time,.string h.extra,.string h.name,.string h.note,.int .i64 h.level,.int .i64 h.os,.bool h.text,.bool h.sum,.int .i64 h.flags,.int .i64 p,.int .i64 q,.slice oa n k,.string c] 38)).alloc (.cells #[.nilIface] 42):=hw2;rw[<-hw2]at HI HB HL2 H4;clear hI hB1 h4 hbb hw2 hL;have HG4:Hid (w.heap.size<=w.heap.size+1):=q7 (by omega)
 unfold ifC
 go_enter Tryz.func37,Tryz.ntmps37
 go_upto_region 1 with(fail)
 rw[<-e0];clear e0;have hsz:(w.alloc (.cells (ifC h p q (.slice oa n k) c) 38)).heap.size=w.heap.size+1:=by simp
 rw[hsz]at H4;clear hsz;have H4b:Hid (Own w2 w.heap.size 42 (.slice (some ⟨w.heap.size+1,0,none⟩) 1 1) [.nilIface]):=H4;clear H4;have c10:w2.cell? ⟨w.heap.size,10,none⟩=some (.int .i64 q):=HI.out.cell (i:=10) (by simp[ifC])
 have c12:w2.cell? ⟨w.heap.size,12,none⟩=some (.string c):=HI.out.cell (i:=12) (by simp[ifC])
 have l3:=HI.out.blk.2;obtain⟨g4,hg4⟩:∃g4,g4=w.heap.size+1:=⟨_,rfl⟩;rw[<-hg4]at H4b HG4⊢;clear hg4;obtain⟨a,ha⟩:∃a,a=(q+7)/8:=⟨_,rfl⟩;have hai:((q:Int)+8-1)/8=(a:Nat):=by omega
 have qjW:((q:Int)+7)/8=(a:Nat):=by omega
 have has:a<=s.size:=by omega
 have hR:R=if s.size<a+8 then [(2,s.size)]else if qJ s a 4≠bL (bys c)then [(5,a)]else if qJ s (a+4) 4≠(bys c).length then [(6,a)]else if a+8<s.size then [(14,a+8)]else []:=by rw[HR.out,ha];rfl
 have HRr:=q7 hR;clear hR HR ha
 go_upto_region 3 with(fail)
 rw[hai];clear hai qjW c10;have HB2:=HB;have HI2:=HI;have K2:=H4b;clear HB HI H4b;have HWR:=q7 (fun(c p:Nat) (W:World) (hL:jK W) (hc:c<=27) (h0:c≠0)=>P6 (c:=c) (at_:=p) hL hc h0)
 by_cases h1:s.size<a+8
 ·have HRn:Hid (R=[(2,s.size)]):=q7 (by rw[HRr.out,if_pos h1])
  have h1i:(s.size:Int)-(a:Nat)<8:=by omega
  clear c12 l3
  go_wp2_with(first
   |((with_reducible go_at_call 82);refine(HWR.out 2 s.size _ HL2.out (by decide) (by decide)).mono ?_;rintro en w8 ⟨v,rfl,⟨e,rfl,he⟩,hx⟩;have hb2:=qr hx;have HE:=q7 he;have K8:=q7 (K2.out.up hb2);have HB8:=q7 (qq HB2.out hb2);clear hx he hb2)
   |(refine qo rfl 42 _ _ rfl w.heap.size 42 g4 1 1 rfl #[e] rfl (by kernel_rfl) [.nilIface] K8.out (by simp) (by intro u hu;simp at hu;rw[hu];exact HE.out.one) ?_;intro w9 ho2 hg2;have HO9:=q7 ho2;have HG9:=q7 hg2;clear ho2 hg2))
  rw[HRn.out]
  exact gU rfl rfl rfl HO9.out HB8.out HG9.out HG4.out (dJ K8.out) HE.out
 ·have h1i:decide ((s.size:Int)-(a:Nat)<8)=false:=by rw[qm];omega
  have HN1:=q7 (fun W=>wO (s:=s) (a:=a) (by omega) (by omega) W)
  have HN2:Hid (∀W,Calls Tryz.prog 83 #[.string s,.int .i64 ((a:Int)+4),.int .i64 4] W fun e w'=>e=.returned (.tuple #[.int .i64 (qJ s (a+4) 4:Nat),.int .i64 0])/\∃x,w'=ext W x):=q7 (fun W=>by rw[show(a:Int)+4=((a+4:Nat):Int) by omega];exact wO (by omega) (by omega) W)
  have HCR:=q7 (fun W=>q55 (s:=c) (by omega) W)
  have b1:qJ s a 4<4294967296:=dU _ _ 4;have b3:=oS (bys c);have hR:R=if qJ s a 4≠bL (bys c)then [(5,a)]else if qJ s (a+4) 4≠c.size then [(6,a)]else if a+8<s.size then [(14,a+8)]else []:=by rw[HRr.out,if_neg h1,qF]
  have HR2:=q7 hR;clear hR HRr;generalize qJ s a 4=n1 at*;generalize qJ s (a+4) 4=n2 at*;generalize bL (bys c)=cr at*;clear c12 l3
  by_cases h2:n1=cr
  ·subst h2
   by_cases h3:n2=c.size
   ·by_cases h4:a+8<s.size
    ·have HRn:Hid (R=[(14,a+8)]):=q7 (by rw[HR2.out,if_neg (fun h=>h rfl),if_neg (fun h=>h h3),if_pos h4])
     have h4i:(s.size:Int)-(a:Nat)>8:=by omega
     have HWX:Hid (∀W,jK W->Calls Tryz.prog 82 #[.int .i64 14,.int .i64 ((a:Int)+8)] W (cU [(14,a+8)] W)):=q7 (fun W hL=>by rw[show(a:Int)+8=((a+8:Nat):Int) by omega];exact P6 hL (by decide) (by decide))
     subst h3
     go_wp2_with(first|((with_reducible go_at_call 83);(with_reducible refine(HN1.out _).mono ?_);rintro en w3 ⟨rfl,hx⟩;have hb2:=qr hx;have qbW:=q7 (HL2.out.up hb2);have qaE:=q7 (qq HB2.out hb2);have Kw3:=q7 (K2.out.up hb2);have qbX:=q7 (HI2.out.up hb2);clear hx hb2)|((with_reducible go_at_call 83);(with_reducible refine(HN2.out _).mono ?_);rintro en w4 ⟨rfl,hx⟩;have hb2:=qr hx;have qbV:=q7 (qbW.out.up hb2);have qc7:=q7 (qq qaE.out hb2);have Kw4:=q7 (Kw3.out.up hb2);have qa5:=q7 (qbX.out.up hb2);have c12:w4.cell? ⟨w.heap.size,12,none⟩=some (.string c):=qa5.out.cell (i:=12) (by simp[ifC]);have l3:=qa5.out.blk.2;clear hx hb2)|((with_reducible go_at_call 27);(with_reducible refine(HCR.out _).mono ?_);rintro en w5 ⟨rfl,hx⟩;have hb2:=qr hx;have qcr:=q7 (qbV.out.up hb2);have qc6:=q7 (qq qc7.out hb2);have Kw5:=q7 (Kw4.out.up hb2);have qay:=q7 (qa5.out.up hb2);have c12:w5.cell? ⟨w.heap.size,12,none⟩=some (.string c):=qay.out.cell (i:=12) (by simp[ifC]);have l3:=qay.out.blk.2;clear hx hb2)|((with_reducible go_at_call 82);(with_reducible refine(HWX.out _ qcr.out).mono ?_);rintro en w8 ⟨v,rfl,⟨e,rfl,he⟩,hx⟩;have hb2:=qr hx;have HE:=q7 he;have K8:=q7 (Kw5.out.up hb2);have HB8:=q7 (qq qc6.out hb2);clear hx he hb2)|(refine qo rfl 42 _ _ rfl w.heap.size 42 g4 1 1 rfl #[e] rfl (by kernel_rfl) [.nilIface] K8.out (by simp) (by intro u hu;simp at hu;rw[hu];exact HE.out.one) ?_;intro w9 ho2 hg2;have HO9:=q7 ho2;have HG9:=q7 hg2;clear ho2 hg2))
     rw[HRn.out]
     exact gU rfl rfl rfl HO9.out HB8.out HG9.out HG4.out (dJ K8.out) HE.out
    ·have HRn:Hid (R=[]):=q7 (by rw[HR2.out,if_neg (fun h=>h rfl),if_neg (fun h=>h h3),if_neg h4])
     have h4i:decide ((s.size:Int)-(a:Nat)>8)=false:=by rw[qm];omega
     subst h3
     go_wp2_with(first|((with_reducible go_at_call 83);(with_reducible refine(HN1.out _).mono ?_);rintro en w3 ⟨rfl,hx⟩;have hb2:=qr hx;have qbW:=q7 (HL2.out.up hb2);have qaE:=q7 (qq HB2.out hb2);have Kw3:=q7 (K2.out.up hb2);have qbX:=q7 (HI2.out.up hb2);clear hx hb2)|((with_reducible go_at_call 83);(with_reducible refine(HN2.out _).mono ?_);rintro en w4 ⟨rfl,hx⟩;have hb2:=qr hx;have qbV:=q7 (qbW.out.up hb2);have qc7:=q7 (qq qaE.out hb2);have Kw4:=q7 (Kw3.out.up hb2);have qa5:=q7 (qbX.out.up hb2);have c12:w4.cell? ⟨w.heap.size,12,none⟩=some (.string c):=qa5.out.cell (i:=12) (by simp[ifC]);have l3:=qa5.out.blk.2;clear hx hb2)|((with_reducible go_at_call 27);(with_reducible refine(HCR.out _).mono ?_);rintro en w5 ⟨rfl,hx⟩;have hb2:=qr hx;have qcr:=q7 (qbV.out.up hb2);have qc6:=q7 (qq qc7.out hb2);have Kw5:=q7 (Kw4.out.up hb2);have qay:=q7 (qa5.out.up hb2);have c12:w5.cell? ⟨w.heap.size,12,none⟩=some (.string c):=qay.out.cell (i:=12) (by simp[ifC]);have l3:=qay.out.blk.2;clear hx hb2)|(refine qo rfl 42 _ _ rfl w.heap.size 42 g4 1 1 rfl #[.nilIface] rfl (by kernel_rfl) [.nilIface] Kw5.out (by simp) (by intro u hu;simp at hu;rw[hu];rfl) ?_;intro w9 ho2 hg2;have HO9:=q7 ho2;have HG9:=q7 hg2;clear ho2 hg2))
     rw[HRn.out]
     exact gU rfl rfl rfl HO9.out qc6.out HG9.out HG4.out (dJ Kw5.out) rfl
   ·have HRn:Hid (R=[(6,a)]):=q7 (by rw[HR2.out,if_neg (fun h=>h rfl),if_pos h3])
    have HWX:Hid (∀W,jK W->Calls Tryz.prog 82 #[.int .i64 6,.int .i64 a] W (cU [(6,a)] W)):=q7 (fun W hL=>P6 hL (by decide) (by decide))
    have h3i:(((n2:Nat):Int) != ((c.size:Nat):Int))=true:=by simp;omega
    go_wp2_with(first|((with_reducible go_at_call 83);(with_reducible refine(HN1.out _).mono ?_);rintro en w3 ⟨rfl,hx⟩;have hb2:=qr hx;have qbW:=q7 (HL2.out.up hb2);have qaE:=q7 (qq HB2.out hb2);have Kw3:=q7 (K2.out.up hb2);have qbX:=q7 (HI2.out.up hb2);clear hx hb2)|((with_reducible go_at_call 83);(with_reducible refine(HN2.out _).mono ?_);rintro en w4 ⟨rfl,hx⟩;have hb2:=qr hx;have qbV:=q7 (qbW.out.up hb2);have qc7:=q7 (qq qaE.out hb2);have Kw4:=q7 (Kw3.out.up hb2);have qa5:=q7 (qbX.out.up hb2);have c12:w4.cell? ⟨w.heap.size,12,none⟩=some (.string c):=qa5.out.cell (i:=12) (by simp[ifC]);have l3:=qa5.out.blk.2;clear hx hb2)|((with_reducible go_at_call 27);(with_reducible refine(HCR.out _).mono ?_);rintro en w5 ⟨rfl,hx⟩;have hb2:=qr hx;have qcr:=q7 (qbV.out.up hb2);have qc6:=q7 (qq qc7.out hb2);have Kw5:=q7 (Kw4.out.up hb2);have qay:=q7 (qa5.out.up hb2);have c12:w5.cell? ⟨w.heap.size,12,none⟩=some (.string c):=qay.out.cell (i:=12) (by simp[ifC]);have l3:=qay.out.blk.2;clear hx hb2)|((with_reducible go_at_call 82);(with_reducible refine(HWX.out _ qcr.out).mono ?_);rintro en w8 ⟨v,rfl,⟨e,rfl,he⟩,hx⟩;have hb2:=qr hx;have HE:=q7 he;have K8:=q7 (Kw5.out.up hb2);have HB8:=q7 (qq qc6.out hb2);clear hx he hb2)|(refine qo rfl 42 _ _ rfl w.heap.size 42 g4 1 1 rfl #[e] rfl (by kernel_rfl) [.nilIface] K8.out (by simp) (by intro u hu;simp at hu;rw[hu];exact HE.out.one) ?_;intro w9 ho2 hg2;have HO9:=q7 ho2;have HG9:=q7 hg2;clear ho2 hg2))
    rw[HRn.out]
    exact gU rfl rfl rfl HO9.out HB8.out HG9.out HG4.out (dJ K8.out) HE.out
  ·have HRn:Hid (R=[(5,a)]):=q7 (by rw[HR2.out,if_pos h2])
   have HWX:Hid (∀W,jK W->Calls Tryz.prog 82 #[.int .i64 5,.int .i64 a] W (cU [(5,a)] W)):=q7 (fun W hL=>P6 hL (by decide) (by decide))
   have h2i:(((n1:Nat):Int) != ((cr:Nat):Int))=true:=by simp;omega
   go_wp2_with(first|((with_reducible go_at_call 83);(with_reducible refine(HN1.out _).mono ?_);rintro en w3 ⟨rfl,hx⟩;have hb2:=qr hx;have qbW:=q7 (HL2.out.up hb2);have qaE:=q7 (qq HB2.out hb2);have Kw3:=q7 (K2.out.up hb2);have qbX:=q7 (HI2.out.up hb2);clear hx hb2)|((with_reducible go_at_call 83);(with_reducible refine(HN2.out _).mono ?_);rintro en w4 ⟨rfl,hx⟩;have hb2:=qr hx;have qbV:=q7 (qbW.out.up hb2);have qc7:=q7 (qq qaE.out hb2);have Kw4:=q7 (Kw3.out.up hb2);have qa5:=q7 (qbX.out.up hb2);have c12:w4.cell? ⟨w.heap.size,12,none⟩=some (.string c):=qa5.out.cell (i:=12) (by simp[ifC]);have l3:=qa5.out.blk.2;clear hx hb2)|((with_reducible go_at_call 27);(with_reducible refine(HCR.out _).mono ?_);rintro en w5 ⟨rfl,hx⟩;have hb2:=qr hx;have qcr:=q7 (qbV.out.up hb2);have qc6:=q7 (qq qc7.out hb2);have Kw5:=q7 (Kw4.out.up hb2);have qay:=q7 (qa5.out.up hb2);have c12:w5.cell? ⟨w.heap.size,12,none⟩=some (.string c):=qay.out.cell (i:=12) (by simp[ifC]);have l3:=qay.out.blk.2;clear hx hb2)|((with_reducible go_at_call 82);(with_reducible refine(HWX.out _ qcr.out).mono ?_);rintro en w8 ⟨v,rfl,⟨e,rfl,he⟩,hx⟩;have hb2:=qr hx;have HE:=q7 he;have K8:=q7 (Kw5.out.up hb2);have HB8:=q7 (qq qc6.out hb2);clear hx he hb2)|(refine qo rfl 42 _ _ rfl w.heap.size 42 g4 1 1 rfl #[e] rfl (by kernel_rfl) [.nilIface] K8.out (by simp) (by intro u hu;simp at hu;rw[hu];exact HE.out.one) ?_;intro w9 ho2 hg2;have HO9:=q7 ho2;have HG9:=q7 hg2;clear ho2 hg2))
   rw[HRn.out]
   exact gU rfl rfl rfl HO9.out HB8.out HG9.out HG4.out (dJ K8.out) HE.out
structure GI where
 h:GH
 p:Nat
 q:Nat
 st:List (Nat×Nat)
 t:qK
def zGI:GI:=⟨zGH,0,0,[],[]⟩
noncomputable def jI(s:ByteArray):GI×List (Nat×Nat):=
 if 16777216<s.size then(zGI,[(3,16777216)])
 else if(qU s).1≠0 then(zGI,[((qU s).1,0)])
 else if erI s [] (8*(qU s).2.2)≠0 then(zGI,[(4,(qU s).2.2),(erI s [] (8*(qU s).2.2),(txI s [] (8*(qU s).2.2)).length)])
 else if cZ s (enI s [] (8*(qU s).2.2)) (txI s [] (8*(qU s).2.2))≠[]then(zGI,cZ s (enI s [] (8*(qU s).2.2)) (txI s [] (8*(qU s).2.2)))
 else(⟨(qU s).2.1,8*(qU s).2.2,enI s [] (8*(qU s).2.2),bgI s [] (8*(qU s).2.2),txI s [] (8*(qU s).2.2)⟩,[])
theorem SlK.keep{k g:Nat}{w w':World}{v:Value}{l:List (List Value)}(h:SlK k w v l)(hg:w.grownBy w' (some g))(hne:v.ownBlock≠some g):SlK k w' v l:=by
 obtain⟨oa,cap,b,off,rfl,hd,hc⟩:=h;refine⟨oa,cap,b,off,rfl,⟨hd.hat,hd.hcap,hd.hmax,hd.hsml,fun h=>qd (hd.hblk h) hg.size⟩,fun i hi c hcl=>?_⟩
 have hb:=hd.hblk (by omega)
 have hoa:=hd.hat (by omega)
 subst hoa;have hbk:=hg.block b hb (by intro e;cases e;exact hne rfl)
 rw[World.cell?_of_block hbk]
 exact hc i hi c hcl
def zIf:Array Value:=ifC zGH 0 0 (.slice none 0 0) ⟨#[]⟩
theorem fE:∀u∈zIf.toList,u.oneCell'=true:=by intro u hu;simp[zIf,ifC]at hu;rcases hu with rfl|rfl|rfl|rfl|rfl|rfl|rfl|rfl|rfl|rfl|rfl|rfl|rfl<;>rfl
structure dB(w:World)(B gk gr:Nat)(vb:Value)(s:ByteArray)(p:Nat)(H:qK)(pre:Nat):Prop where
 box:Own w B 152 (.slice (some ⟨gk,0,none⟩) 3 3) [.pointer (some ⟨gr,0,none⟩),vb,.int .i64 (pre:Nat)]
 rd:aS w gr s p
 own:lN w B 5 vb (qD H)
 n1:gk≠gr
 b1:vb.ownBlock≠some gk
 b2:vb.ownBlock≠some gr
 Br:B<=gr
abbrev mO(gk gr:Nat)(vb:Value)(k:Nat):Prop:=k=gk\/k=gr\/vb.ownBlock=some k
theorem dB.up{w w':World}{B gk gr p pre:Nat}{vb:Value}{s:ByteArray}{H:qK}(h:dB w B gk gr vb s p H pre)(hb:Below w.heap.size w w'):dB w' B gk gr vb s p H pre:=
 ⟨h.box.up hb,h.rd.up hb,h.own.fx (qP (S:=fun _=>False) hb) (fun _ _ e=>e),h.n1,h.b1,h.b2,h.Br⟩
theorem dB.read{w w':World}{B gk gr p q pre:Nat}{vb:Value}{s:ByteArray}{H:qK}(h:dB w B gk gr vb s p H pre)(hr:aS w' gr s q)(hg:w.grownBy w' (some gr)):dB w' B gk gr vb s q H pre/\Fx (mO gk gr vb) w w':=by
 have hf:Fx (fun k=>k=gr) w w':=jn hg (fun k e=>by injection e with e;exact e.symm)
 exact⟨⟨hf.own h.box (fun k e z=>by cases e;exact h.n1 z),hr,h.own.fx hf (fun k e z=>h.b2 (by rw[e,z])),h.n1,h.b1,h.b2,h.Br⟩,hf.mono (fun k e=>.inr (.inl e))⟩
theorem dB.lt{w:World}{B gk gr p pre:Nat}{vb:Value}{s:ByteArray}{H:qK}(h:dB w B gk gr vb s p H pre):gk<w.heap.size/\gr<w.heap.size/\B<=gk/\B<=w.heap.size:=by
 have h1:=h.box.lt gk rfl
 exact⟨h1.2,h.rd.lt,h1.1,by have:=h.Br;have:=h.rd.lt;omega⟩
theorem lN.head{w:World}{B E:Nat}{v:Value}{xs:List Value}(h:lN w B E v xs):∃o c b f,v=.slice o xs.length c/\Hd w o xs.length c b f/\∀i,i<xs.length->w.cell? ⟨b,f+i,none⟩=some (xs.getD i undef):=h.sl
end Go.Cm
namespace Go.Cm
open Go.RowKit Go.Proofs
attribute [local irreducible] j8
theorem lN.mono{w:World}{B B' E:Nat}{v:Value}{xs:List Value}(h:lN w B E v xs)(hB:B'<=B):lN w B' E v xs:=by
 obtain⟨h1,h2⟩:=h;refine⟨h1,h2.imp id ?_⟩;rintro⟨g,cap,cur,fz,a,b,c⟩
 exact⟨g,cap,cur,fz,a,qa hB b,c⟩
theorem KFx.below{w0 w w':World}{g6 gk gr:Nat}{vb:Value}(h:Fx (mO gk gr vb) w w')(hb:Below g6 w0 w)(hB:g6<=w.heap.size)(h1:g6<=gk)(h2:g6<=gr)(h3:∀q,vb.ownBlock=some q->g6<=q):Below g6 w0 w':=
 Fx.below h hb hB (fun q e=>by rcases e with e|e|e;omega;omega;exact h3 q e)
end Go.Cm
namespace Go.Cm
open Go.RowKit Go.Proofs
theorem q3h{s:ByteArray}{o:Option Nat}{q:Nat}(h:(dZ s o).2=some q):q<=s.size:=by
 unfold dZ at h;generalize hy:mJ s 2 o=y at*;obtain⟨n,o2⟩:=y
 cases o2 with
 |none=>cases h
 |some p=>
  have hp:p<=s.size:=by
   unfold mJ at hy
   cases o with
   |none=>cases hy
   |some a=>
    have hy':(if a+2<=s.size then(qJ s a 2,some (a+2))else(0,none))=(n,some p):=hy
    by_cases h1:a+2<=s.size
    ·rw[if_pos h1]at hy'
     have:=ql (Prod.mk.inj hy').2;omega
    ·rw[if_neg h1]at hy'
     cases(Prod.mk.inj hy').2
  have h':(if s.size-p<n then(([],none):qK×Option Nat)else(nU s p n,some (p+n))).2=some q:=h
  by_cases h1:s.size-p<n
  ·rw[if_pos h1]at h';cases h'
  ·rw[if_neg h1]at h'
   have:=ql h';omega
theorem Q4{s:ByteArray}{o:Option Nat}{q:Nat}(h:(lK s o).2=some q):q<=s.size:=by
 cases o with
 |none=>cases h
 |some p=>exact I9 h
theorem q1B{b:Bool}{N:Nat}{g:Option Nat->qK×Option Nat}{o:Option Nat}(hg:∀q,(g o).2=some q->q<=N)(ho:∀q,o=some q->q<=N):∀q,(wY b g o).2=some q->q<=N:=by
 cases b
 ·exact ho
 ·exact hg
theorem q74{s:ByteArray}{f:Nat}(h:10<=s.size):∀q,(yB s f).2.2.2=some q->q<=s.size:=
 q1B (fun _=>Q4) (q1B (fun _=>Q4) (q1B (fun _=>q3h) (by rintro q ⟨⟩;exact h)))
theorem o6{s:ByteArray}:(qU s).2.2<=s.size:=by
 unfold qU;split
 ·exact qc _
 ·split
  ·exact qc _
  ·split
   ·exact qc _
   ·rename_i h1 _ _
    have hl:=q74 (s:=s) (f:=qJ s 3 1) (by omega)
    generalize yB s (qJ s 3 1)=y at*;obtain⟨a,b,c,o⟩:=y
    cases o with
    |none=>exact qc _
    |some q=>
     have hq:=hl q rfl
     show(if jF (qJ s 3 1:Nat) 2 then(if q+2<=s.size then(if qJ s q 2≠bL ((bys s).take q)%65536 then(5,zGH,0)else(0,iP s (a,b,c,some q),q+2))else(2,zGH,0))else(0,iP s (a,b,c,some q),q)).2.2<=s.size
     split
     ·split
      ·split
       ·exact qc _
       ·rename_i h2 _;exact h2
      ·exact qc _
     ·exact hq
theorem Q5{s:ByteArray}{t:qK}{p:Nat}(hp:p<=8*s.size)(h0:erI s t p=0):enI s t p<=8*s.size:=
 ((cW (N:=qH s) (bs:=bys s) (t8 s) (cA (t:=t) hp) (2*(8*s.size)+2)).2.1 h0).1.p
end Go.Cm
namespace Go.Cm
section
variable {s s' : ByteArray} {m : Nat} (hm : m ≤ s'.size) (hb : (bys s').take m = (bys s).take m)
include hb
theorem pA{p n:Nat}(h:p+n<=m):((bys s').drop p).take n=((bys s).drop p).take n:=by
 have e:∀l:qK,(l.drop p).take n=((l.take m).drop p).take n:=fun l=>by
  rw[List.drop_take,List.take_take,Nat.min_eq_left (by omega)]
 rw[e,hb,<-e]
theorem gW{p n:Nat}(h:p+n<=m):qJ s' p n=qJ s p n:=by unfold qJ;rw[pA hb h]
include hm
theorem q3i{W:Nat}{o:Option Nat}{q:Nat}(h:(mJ s W o).2=some q)(hq:q<=m):mJ s' W o=mJ s W o/\∃p,o=some p/\p<=q:=by
 cases o with
 |none=>cases h
 |some p=>
  have e:∀s:ByteArray,mJ s W (some p)=if p+W<=s.size then(qJ s p W,some (p+W))else(0,none):=fun _=>rfl
  rw[e]at h
  by_cases h1:p+W<=s.size
  ·rw[if_pos h1]at h
   have hp:=ql h;rw[e s',e s,if_pos h1,if_pos (by omega),gW hb (by omega)]
   exact⟨rfl,p,rfl,by omega⟩
  ·rw[if_neg h1]at h;cases h
theorem q1D{o:Option Nat}{q:Nat}(h:(dZ s o).2=some q)(hq:q<=m):dZ s' o=dZ s o/\∃p,o=some p/\p<=q:=by
 have e:∀(s:ByteArray) (n p:Nat),mJ s 2 o=(n,some p)->dZ s o=if s.size-p<n then([],none)else(nU s p n,some (p+n)):=fun s n p h=>by unfold dZ;rw[h]
 cases hy:mJ s 2 o with
 |mk n o2=>
  cases o2 with
  |none=>unfold dZ at h;rw[hy]at h;cases h
  |some p=>
   rw[e s n p hy]at h
   by_cases h1:s.size-p<n
   ·rw[if_pos h1]at h;cases h
   rw[if_neg h1]at h;have hpn:p+n=q:=ql h;obtain⟨a1,a,a2,a3⟩:=q3i hm hb (q:=p) (by rw[hy]) (by omega)
   rw[e s' n p (by rw[a1,hy]),e s n p hy,if_neg h1,if_neg (by omega)]
   refine⟨?_,a,a2,by omega⟩
   unfold nU;rw[pA hb (by omega)]
theorem Q6{o:Option Nat}{q:Nat}(h:(lK s o).2=some q)(hq:q<=m):lK s' o=lK s o/\∃p,o=some p/\p<=q:=by
 cases o with
 |none=>cases h
 |some p=>
  have e:∀s:ByteArray,lK s (some p)=if p+zIx s p<s.size then(nU s p (zIx s p),some (p+zIx s p+1))else([],none):=fun _=>rfl
  rw[e]at h
  by_cases h1:p+zIx s p<s.size
  ·rw[if_pos h1]at h
   have hpn:p+zIx s p+1=q:=ql h
   have hz:zIx s' p=zIx s p:=by
    have hc:=pA hb (p:=p) (n:=zIx s p+1) (by omega)
    have h2:∀s:ByteArray,∀n,(((bys s).drop p).take n).findIdx (· ==0)=min n (zIx s p):=fun s n=>List.findIdx_take
    have h3:=h2 s' (zIx s p+1);rw[hc,h2]at h3;omega
   rw[e s',e s,hz,if_pos h1,if_pos (by omega)]
   refine⟨?_,p,rfl,by omega⟩
   unfold nU;rw[pA hb (by omega)]
  ·rw[if_neg h1]at h;cases h
omit hm hb in
theorem J4{b:Bool}{f f':Option Nat->qK×Option Nat}(hf:∀o q,(f o).2=some q->q<=m->f' o=f o/\∃p,o=some p/\p<=q){o:Option Nat}{q:Nat}(h:(wY b f o).2=some q)(hq:q<=m):wY b f' o=wY b f o/\∃p,o=some p/\p<=q:=by
 cases b
 ·exact⟨rfl,q,h,q9 _⟩
 ·exact hf o q h hq
theorem q5C{f q:Nat}(h:(yB s f).2.2.2=some q)(hq:q<=m):yB s' f=yB s f/\10<=q:=by
 unfold yB at h⊢;simp only at h⊢;obtain⟨c1,pc,c2,c3⟩:=J4 (m:=m) (f':=lK s') (fun _ _=>Q6 hm hb) h hq
 obtain⟨b1,pb,b2,b3⟩:=J4 (m:=m) (f':=lK s') (fun _ _=>Q6 hm hb) c2 (by omega)
 obtain⟨a1,pa,a2,a3⟩:=J4 (m:=m) (f':=dZ s') (fun _ _=>q1D hm hb) b2 (by omega)
 rw[a1,b1,c1];have:=ql a2
 exact⟨rfl,by omega⟩
theorem t7(h:(qU s).1=0)(hq:(qU s).2.2<=m):qU s'=qU s/\10<=(qU s).2.2:=by
 unfold qU at h hq⊢
 by_cases h1:s.size<10
 ·rw[if_pos h1]at h;cases h
 simp only[if_neg h1]at h hq⊢
 by_cases h2:(bys s).take 3≠[31,139,8]
 ·rw[if_pos h2]at h;cases h
 simp only[if_neg h2]at h hq⊢
 by_cases h3:32<=qJ s 3 1
 ·rw[if_pos h3]at h;cases h
 simp only[if_neg h3]at h hq⊢
 cases hy:(yB s (qJ s 3 1)).2.2.2 with
 |none=>
  have e:q26 s (yB s (qJ s 3 1))=(2,zGH,0):=by unfold q26;rw[hy]
  rw[e]at h;cases h
 |some p=>
  have e:∀(s:ByteArray) (y:qK×qK×qK×Option Nat),y.2.2.2=some p->q26 s y=if jF (qJ s 3 1:Nat) 2 then(if p+2<=s.size then(if qJ s p 2≠bL ((bys s).take p)%65536 then(5,zGH,0)else(0,iP s y,p+2))else(2,zGH,0))else(0,iP s y,p):=fun s y h=>by unfold q26;rw[h]
  rw[e s _ hy]at h hq⊢
  have key:p<=m/\(jF (qJ s 3 1:Nat) 2=true->p+2<=s.size/\¬qJ s p 2≠bL ((bys s).take p)%65536/\p+2<=m):=by
   cases hb2:jF (qJ s 3 1:Nat) 2
   ·rw[hb2]at hq
    exact⟨hq,fun h=>by cases h⟩
   ·simp only[hb2,if_true]at h hq
    by_cases h5:p+2<=s.size
    ·simp only[if_pos h5]at h hq
     by_cases h6:qJ s p 2≠bL ((bys s).take p)%65536
     ·rw[if_pos h6]at h;cases h
     ·simp only[if_neg h6]at hq
      exact⟨by omega,fun _=>⟨h5,h6,hq⟩⟩
    ·rw[if_neg h5]at h;cases h
  obtain⟨hpm,hk⟩:=key;obtain⟨f1,f2⟩:=q5C hm hb hy hpm;have n1:qJ s' 3 1=qJ s 3 1:=gW hb (by omega)
  have hdd:∀y,iP s' y=iP s y:=fun y=>by
   unfold iP;rw[gW hb (p:=4) (by omega),gW hb (p:=8) (by omega),gW hb (p:=9) (by omega),n1]
  have ht:(bys s').take 3=(bys s).take 3:=by have:=pA hb (p:=0) (n:=3) (by omega);simpa using this
  have htp:(bys s').take p=(bys s).take p:=by have:=pA hb (p:=0) (n:=p) (by omega);simpa using this
  rw[if_neg (by omega),ht,if_neg h2,n1,if_neg h3,f1,e s' _ hy,n1,hdd,htp]
  cases hb2:jF (qJ s 3 1:Nat) 2
  ·exact⟨rfl,f2⟩
  ·obtain⟨k1,k2,k3⟩:=hk hb2
   rw[gW hb k3];simp only[if_pos k1,if_neg k2,if_pos (show p+2<=s'.size by omega),if_true]
   exact⟨trivial,by show 10<=p+2;omega⟩
end
theorem eB{s:ByteArray}{A R:qK}{n W:Nat}(hs:bys s=A++(leB n W++R))(hn:n<256^W):qJ s A.length W=n:=by
 unfold qJ;rw[hs,List.drop_left,List.take_left' (jf _ _),q0Y _ _ hn]
theorem q3j{x R:qK}(h:no0 x=true):(x++(0::R)).findIdx (· ==0)=x.length:=by
 induction x with
 |nil=>rw[List.nil_append,List.findIdx_cons];rfl
 |cons a x ih=>
  unfold no0 at h;rw[List.all_cons,Bool.and_eq_true]at h;have ha:(a==0)=false:=by have:=h.1;simp only[bne,Bool.not_eq_true']at this;exact this
  rw[List.cons_append,List.findIdx_cons,ha,ih h.2];rfl
theorem q1E{s:ByteArray}{A x R:qK}(hs:bys s=A++(leB x.length 2++(x++R)))(hx:x.length<65536):dZ s (some A.length)=(x,some (A.length+2+x.length)):=by
 have hsz:s.size=A.length+2+x.length+R.length:=by rw[<-qF,hs];simp only[qg,jf];omega
 have hn:mJ s 2 (some A.length)=(x.length,some (A.length+2)):=by
  show(if A.length+2<=s.size then(qJ s A.length 2,some (A.length+2))else(0,none))=_
  rw[if_pos (by omega),eB hs hx]
 unfold dZ;rw[hn]
 show(if s.size-(A.length+2)<x.length then(([],none):qK×Option Nat)else(nU s (A.length+2) x.length,some (A.length+2+x.length)))=_
 rw[if_neg (by omega)]
 have:nU s (A.length+2) x.length=x:=by
  unfold nU;rw[hs,<-qh,show A.length+2=(A++leB x.length 2).length by rw[qg,jf],List.drop_left,List.take_left]
 rw[this]
theorem Q7{s:ByteArray}{A x R:qK}(hs:bys s=A++(x++(0::R)))(hx:no0 x=true):lK s (some A.length)=(x,some (A.length+x.length+1)):=by
 have hsz:s.size=A.length+x.length+1+R.length:=by rw[<-qF,hs];simp only[qg,List.length_cons];omega
 have hz:zIx s A.length=x.length:=by
  unfold zIx;rw[hs,List.drop_left,q3j hx]
 show(if A.length+zIx s A.length<s.size then(nU s A.length (zIx s A.length),some (A.length+zIx s A.length+1))else([],none))=_
 rw[hz,if_pos (by omega)]
 have:nU s A.length x.length=x:=by
  unfold nU;rw[hs,List.drop_left,List.take_left]
 rw[this]
theorem q1F{f:Int}(h:fC f=true)(t s:Bool):f.toNat+(if t then 1 else 0)+(if s then 2 else 0)<32/\jF ((f.toNat+(if t then 1 else 0)+(if s then 2 else 0):Nat):Int) 1=t/\jF ((f.toNat+(if t then 1 else 0)+(if s then 2 else 0):Nat):Int) 2=s/\
  jF ((f.toNat+(if t then 1 else 0)+(if s then 2 else 0):Nat):Int) 4=jF f 4/\jF ((f.toNat+(if t then 1 else 0)+(if s then 2 else 0):Nat):Int) 8=jF f 8/\jF ((f.toNat+(if t then 1 else 0)+(if s then 2 else 0):Nat):Int) 16=jF f 16/\
  (((f.toNat+(if t then 1 else 0)+(if s then 2 else 0))/4*4:Nat):Int)=f:=by
 rcases gS h with rfl|rfl|rfl|rfl|rfl|rfl|rfl|rfl<;>cases t<;>cases s<;>decide+kernel
theorem pB{x:ByteArray}:(⟨(bys x).toArray⟩:ByteArray)=x:=by cases x;simp[bys]
theorem q1G{h:GH}{s:ByteArray}(hr:jG h=true)(hs:bys s=dH h):qU s=(0,h,(dH h).length):=by
 obtain⟨r1,r2,r3,r4,r5,r6,r7,r8,r9,r10⟩:=fY hr;obtain⟨q0,q1,q2,q3,q4,q5,q6⟩:=q1F r1 h.text h.sum;have hsz:s.size=(dH h).length:=by rw[<-qF,hs]
 obtain⟨C,hC⟩:∃C,dH h=gh3 h++C:=by unfold dH;split;exact⟨_,rfl⟩;exact⟨[],by simp⟩
 obtain⟨D,hD⟩:∃D,gh3 h=gh2 h++D:=by
  unfold gh3;split
  ·exact⟨_,qh _ _ _⟩
  ·exact⟨[],by simp⟩
 obtain⟨E,hE⟩:∃E,gh2 h=gh1 h++E:=by
  unfold gh2;split
  ·exact⟨_,qh _ _ _⟩
  ·exact⟨[],by simp⟩
 obtain⟨F,hF⟩:∃F,gh1 h=gh0 h++F:=by
  unfold gh1;split
  ·exact⟨_,qh _ _ _⟩
  ·exact⟨[],by simp⟩
 have s3:bys s=gh3 h++C:=by rw[hs,hC]
 have s2:bys s=gh2 h++(D++C):=by rw[s3,hD,qh]
 have s1:bys s=gh1 h++(E++(D++C)):=by rw[s2,hE,qh]
 have s0:bys s=gh0 h++(F++(E++(D++C))):=by rw[s1,hF,qh]
 have l0:=mG h
 have hf:qJ s 3 1=cJ h:=by
  have:=eB (s:=s) (A:=[31,139,8]) (n:=cJ h) (W:=1) (R:=leB h.time.toNat 4++(leB h.level.toNat 1++(leB h.os.toNat 1++(F++(E++(D++C)))))) (by rw[s0];unfold gh0;simp only[qh]) (by unfold cJ;omega)
  exact this
 have ht:qJ s 4 4=h.time.toNat:=by
  have:=eB (s:=s) (A:=[31,139,8]++leB (cJ h) 1) (n:=h.time.toNat) (W:=4) (R:=leB h.level.toNat 1++(leB h.os.toNat 1++(F++(E++(D++C))))) (by rw[s0];unfold gh0;simp only[qh]) (by omega)
  rwa [show([31,139,8]++leB (cJ h) 1:qK).length=4 by rw[qg,jf];rfl]at this
 have hl:qJ s 8 1=h.level.toNat:=by
  have:=eB (s:=s) (A:=[31,139,8]++leB (cJ h) 1++leB h.time.toNat 4) (n:=h.level.toNat) (W:=1) (R:=leB h.os.toNat 1++(F++(E++(D++C)))) (by rw[s0];unfold gh0;simp only[qh]) (by omega)
  rwa [show([31,139,8]++leB (cJ h) 1++leB h.time.toNat 4:qK).length=8 by rw[qg,qg,jf,jf];rfl]at this
 have ho:qJ s 9 1=h.os.toNat:=by
  have:=eB (s:=s) (A:=[31,139,8]++leB (cJ h) 1++leB h.time.toNat 4++leB h.level.toNat 1) (n:=h.os.toNat) (W:=1) (R:=F++(E++(D++C))) (by rw[s0];unfold gh0;simp only[qh]) (by omega)
  rwa [show([31,139,8]++leB (cJ h) 1++leB h.time.toNat 4++leB h.level.toNat 1:qK).length=9 by simp only[qg,jf];rfl]at this
 have hty:(bys s).take 3=[31,139,8]:=by rw[s0];unfold gh0;simp only[qh];rfl
 have ha:wY (jF h.flags 4) (dZ s) (some 10)=(bys h.extra,some (gh1 h).length):=by
  cases hb:jF h.flags 4
  ·have hn:=(r8.resolve_left (by rw[hb];decide))
   have:gh1 h=gh0 h:=by unfold gh1;rw[hb];rfl
   rw[this,l0,hn];rfl
  ·have hg:gh1 h=gh0 h++leB h.extra.size 2++bys h.extra:=by unfold gh1;rw[hb];rfl
   have:=q1E (s:=s) (A:=gh0 h) (x:=bys h.extra) (R:=E++(D++C)) (by rw[s1,hg,qF];simp only[qh]) (by rw[qF];omega)
   rw[l0]at this
   show dZ s (some 10)=_
   rw[this,hg];simp only[qg,l0,jf]
 have hbn:wY (jF h.flags 8) (lK s) (some (gh1 h).length)=(bys h.name,some (gh2 h).length):=by
  cases hb:jF h.flags 8
  ·have hn:=(r9.resolve_left (by rw[hb];decide))
   have:gh2 h=gh1 h:=by unfold gh2;rw[hb];rfl
   rw[this,hn];rfl
  ·have hg:gh2 h=gh1 h++bys h.name++[0]:=by unfold gh2;rw[hb];rfl
   have:=Q7 (s:=s) (A:=gh1 h) (x:=bys h.name) (R:=D++C) (by rw[s2,hg];simp only[qh];rfl) r6
   show lK s (some (gh1 h).length)=_
   rw[this,hg];simp only[qg,List.length_singleton]
 have hcn:wY (jF h.flags 16) (lK s) (some (gh2 h).length)=(bys h.note,some (gh3 h).length):=by
  cases hb:jF h.flags 16
  ·have hn:=(r10.resolve_left (by rw[hb];decide))
   have:gh3 h=gh2 h:=by unfold gh3;rw[hb];rfl
   rw[this,hn];rfl
  ·have hg:gh3 h=gh2 h++bys h.note++[0]:=by unfold gh3;rw[hb];rfl
   have:=Q7 (s:=s) (A:=gh2 h) (x:=bys h.note) (R:=C) (by rw[s3,hg];simp only[qh];rfl) r7
   show lK s (some (gh2 h).length)=_
   rw[this,hg];simp only[qg,List.length_singleton]
 have hfl:yB s (cJ h)=(bys h.extra,bys h.name,bys h.note,some (gh3 h).length):=by
  unfold yB;simp only;rw[show jF (cJ h:Nat) 4=jF h.flags 4 from q3,show jF (cJ h:Nat) 8=jF h.flags 8 from q4,show jF (cJ h:Nat) 16=jF h.flags 16 from q5,ha,hbn,hcn]
 have hhd:iP s (bys h.extra,bys h.name,bys h.note,some (gh3 h).length)=h:=by
  unfold iP;simp only;rw[hf,ht,hl,ho,pB,pB,pB,show jF (cJ h:Nat) 1=h.text from q1,show jF (cJ h:Nat) 2=h.sum from q2,show((cJ h/4*4:Nat):Int)=h.flags from q6,Int.toNat_of_nonneg r2.1,Int.toNat_of_nonneg r3.1,Int.toNat_of_nonneg r4.1]
 have hlen:10<=(gh3 h).length:=by rw[hD,hE,hF];simp only[qg,l0];omega
 have h10:¬s.size<10:=by rw[hsz,hC,qg];omega
 unfold qU;rw[if_neg h10,hty,if_neg (fun h=>h rfl),hf,if_neg (by have:cJ h<32:=q0;omega),hfl]
 show(if jF (qJ s 3 1:Nat) 2 then(if(gh3 h).length+2<=s.size then(if qJ s (gh3 h).length 2≠bL ((bys s).take (gh3 h).length)%65536 then(5,zGH,0)else(0,iP s (bys h.extra,bys h.name,bys h.note,some (gh3 h).length),(gh3 h).length+2))else(2,zGH,0))else(0,iP s (bys h.extra,bys h.name,bys h.note,some (gh3 h).length),(gh3 h).length))=_
 rw[hf,show jF (cJ h:Nat) 2=h.sum from q2,hhd]
 cases qca:h.sum
 ·have:dH h=gh3 h:=by unfold dH;rw[qca];rfl
  rw[this];rfl
 ·have hg:dH h=gh3 h++leB (bL (gh3 h)%65536) 2:=by unfold dH;rw[qca];rfl
  have hn:=eB (s:=s) (A:=gh3 h) (n:=bL (gh3 h)%65536) (W:=2) (R:=[]) (by rw[hs,hg,List.append_nil]) (by omega)
  have htk:(bys s).take (gh3 h).length=gh3 h:=by rw[s3,List.take_left]
  have hgl:(dH h).length=(gh3 h).length+2:=by rw[hg,qg,jf]
  rw[if_pos rfl,if_pos (by omega),hn,htk,if_neg (fun c=>c rfl),hgl]
end Go.Cm
namespace Go.Cm
structure Agr(N T:Nat)(bs:qK)(N' T':Nat)(bs':qK)(d Q:Nat):Prop where
 bit:∀p n,p+n<=Q->N'/2^(p+d)%2^n=N/2^p%2^n
 le:Q+d<=T'
 d8:8∣d
 byt:∀i n,8*(i+n)<=Q->(bs'.drop (i+d/8)).take n=(bs.drop i).take n
theorem W1{p d:Nat}(h:8∣d):qO (p+d)=qO p+d:=by
 obtain⟨k,rfl⟩:=h;unfold qO;omega
section
variable {N T : Nat} {bs : qK} {N' T' : Nat} {bs' : qK} {d Q : Nat} (hA : Agr N T bs N' T' bs' d Q)
include hA
theorem Agr.bits{p n:Nat}(h:(jl N T p n).2.1=0)(hq:(jl N T p n).2.2<=Q):jl N' T' (p+d) n=((jl N T p n).1,(jl N T p n).2.1,(jl N T p n).2.2+d):=by
 obtain⟨h1,h2⟩:=fT h;rw[h1]at hq;have:=hA.le;unfold jl;rw[if_pos (show p+d+n<=T' by omega),if_pos h2]
 unfold dF;rw[hA.bit p n hq,show p+d+n=p+n+d by omega]
theorem Agr.xb{n:Nat}{st:Nat×Nat}(h:(xb N T n st).2.1=0)(hq:(xb N T n st).2.2<=Q):xb N' T' n (st.1,st.2+d)=((xb N T n st).1,(xb N T n st).2.1,(xb N T n st).2.2+d)/\st.1=0/\st.2<=(xb N T n st).2.2:=by
 obtain⟨e,p⟩:=st;unfold Go.Cm.xb at h hq⊢;simp only at h hq⊢
 by_cases h0:e=0
 ·rw[if_pos h0]at h hq⊢
  rw[if_pos h0];simp only at h hq⊢;refine⟨by rw[hA.bits h hq],h0,?_⟩
  rw[(fT h).1];omega
 ·rw[if_neg h0]at h;exact absurd h h0
theorem Agr.sym{L:List Nat}{p:Nat}(h:(j9 L (N/2^p) (T-p)).2.1=0)(hq:p+(j9 L (N/2^p) (T-p)).2.2<=Q):j9 L (N'/2^(p+d)) (T'-(p+d))=j9 L (N/2^p) (T-p):=by
 have hr:=dP L (N/2^p) (T-p);generalize j9 L (N/2^p) (T-p)=r at*;obtain⟨a,e,l⟩:=r
 rcases hr with⟨h1,h2,h3,h4,h5⟩|⟨h1,h2,h3,h4⟩
 ·simp only at*
  subst h4 h5;refine iC (.inl ⟨h1,?_,?_,rfl,rfl⟩)
  ·rw[<-lR (m:=L.getD a 0) (q9 _)]at h2⊢
   rw[hA.bit p _ hq];exact h2
  ·have:=hA.le;omega
 ·simp only at*
  rw[h4]at h;split at h<;>cases h
omit hA in
theorem xM{e:Nat}{st:Nat×Nat}(he:e≠0):(xf e st).1≠0:=by
 unfold xf;split
 ·exact he
 ·assumption
theorem Agr.stored{st:Nat×Nat}(h:(je N T st).2.1=0)(hq:(je N T st).2.2<=Q):je N' T' (st.1,st.2+d)=((je N T st).1,(je N T st).2.1,(je N T st).2.2+d)/\st.1=0/\st.2<=(je N T st).2.2:=by
 unfold je at h hq⊢;simp only at h hq⊢;rw[W1 hA.d8];have hal:st.2<=qO st.2:=by unfold qO;omega
 by_cases hc:(Go.Cm.xb N T 16 (Go.Cm.xb N T 16 (st.1,qO st.2)).2).1+(Go.Cm.xb N T 16 (st.1,qO st.2)).1=65535
 ·rw[if_pos hc]at h hq⊢
  obtain⟨a1,a2,a3⟩:=hA.xb h hq;obtain⟨b1,b2,b3⟩:=hA.xb (st:=(st.1,qO st.2)) a2 (qa a3 hq);simp only at b1 b2 b3;rw[b1,a1,if_pos hc]
  exact⟨rfl,b2,by omega⟩
 ·rw[if_neg hc]at h;exact absurd h (xM (by decide))
theorem Agr.code{c:Nat}:∀(k:Nat) {x:List Nat×(Nat×Nat)},(jO N T c k x).2.1=0->(jO N T c k x).2.2<=Q->jO N' T' c k (x.1,x.2.1,x.2.2+d)=((jO N T c k x).1,(jO N T c k x).2.1,(jO N T c k x).2.2+d)/\x.2.1=0/\x.2.2<=(jO N T c k x).2.2
 |0,x,h,_=>⟨rfl,h,q9 _⟩
 |k+1,x,h,hq=>by
  have e:∀(N T:Nat) (x:List Nat×(Nat×Nat)),jO N T c (k+1) x=if k<4+c/\(jO N T c k x).2.1=0 then((jO N T c k x).1.set (eZ.getD k 0) (Go.Cm.xb N T 3 (jO N T c k x).2).1,(Go.Cm.xb N T 3 (jO N T c k x).2).2)else jO N T c k x:=fun _ _ _=>rfl
  have hX:=e N T x
  by_cases hc:k<4+c/\(jO N T c k x).2.1=0
  ·rw[if_pos hc]at hX
   rw[hX]at h hq⊢;simp only at h hq⊢;obtain⟨h1,h2,h3⟩:=hA.xb h hq;obtain⟨i1,i2,i3⟩:=Agr.code k hc.2 (qa h3 hq);rw[e N' T',i1];simp only;rw[if_pos hc,h1]
   exact⟨rfl,i2,qa i3 h3⟩
  ·rw[if_neg hc]at hX
   rw[hX]at h hq⊢;obtain⟨i1,i2,i3⟩:=Agr.code k h hq;refine⟨?_,i2,i3⟩;rw[e N' T',i1];simp only;rw[if_neg hc]
theorem Agr.rep{sy:Nat}{l:List Nat}{st:Nat×Nat}(h:(cN N T sy l st).2.2.1=0)(hq:(cN N T sy l st).2.2.2<=Q):cN N' T' sy l (st.1,st.2+d)=((cN N T sy l st).1,(cN N T sy l st).2.1,(cN N T sy l st).2.2.1,(cN N T sy l st).2.2.2+d)/\st.1=0/\st.2<=(cN N T sy l st).2.2.2:=by
 unfold cN at h hq⊢
 by_cases h1:sy=18
 ·simp only[if_pos h1]at h hq⊢
  obtain⟨a,b,c⟩:=hA.xb h hq;rw[a];exact⟨rfl,b,c⟩
 ·simp only[if_neg h1]at h hq⊢
  by_cases h2:sy=16
  ·simp only[if_pos h2]at h hq⊢
   by_cases h3:l=[]
   ·simp only[if_pos h3]at h
    exact absurd h (xM (by decide))
   ·simp only[if_neg h3]at h hq⊢
    obtain⟨a,b,c⟩:=hA.xb h hq;rw[a];exact⟨rfl,b,c⟩
  ·simp only[if_neg h2]at h hq⊢
   obtain⟨a,b,c⟩:=hA.xb h hq;rw[a];exact⟨rfl,b,c⟩
theorem Agr.row{code:List Nat}{n:Nat}:∀(f:Nat) (l:List Nat) (st:Nat×Nat),(bM N T code n f l st).2.1=0->(bM N T code n f l st).2.2<=Q->bM N' T' code n f l (st.1,st.2+d)=((bM N T code n f l st).1,(bM N T code n f l st).2.1,(bM N T code n f l st).2.2+d)/\st.1=0/\st.2<=(bM N T code n f l st).2.2
 |0,l,st,h,_=>⟨rfl,h,q9 _⟩
 |f+1,l,st,h,hq=>by
  have e:∀(N T:Nat) (st:Nat×Nat),bM N T code n (f+1) l st=if st.1=0/\l.length<n then
    if(j9 code (N/2^st.2) (T-st.2)).2.1≠0 then(l,(j9 code (N/2^st.2) (T-st.2)).2.1,st.2)
    else if(j9 code (N/2^st.2) (T-st.2)).1<16 then bM N T code n f (l++[(j9 code (N/2^st.2) (T-st.2)).1]) (0,st.2+(j9 code (N/2^st.2) (T-st.2)).2.2)
    else if n<l.length+(cN N T (j9 code (N/2^st.2) (T-st.2)).1 l (0,st.2+(j9 code (N/2^st.2) (T-st.2)).2.2)).1 then
     ([],xf 3 (cN N T (j9 code (N/2^st.2) (T-st.2)).1 l (0,st.2+(j9 code (N/2^st.2) (T-st.2)).2.2)).2.2)
    else bM N T code n f (l++List.replicate (cN N T (j9 code (N/2^st.2) (T-st.2)).1 l (0,st.2+(j9 code (N/2^st.2) (T-st.2)).2.2)).1 (cN N T (j9 code (N/2^st.2) (T-st.2)).1 l (0,st.2+(j9 code (N/2^st.2) (T-st.2)).2.2)).2.1)
     (cN N T (j9 code (N/2^st.2) (T-st.2)).1 l (0,st.2+(j9 code (N/2^st.2) (T-st.2)).2.2)).2.2
   else(l,st):=fun N T st=>by rw[bM]
  have hX:=e N T st
  by_cases hc:st.1=0/\l.length<n
  ·rw[if_pos hc]at hX
   by_cases he:(j9 code (N/2^st.2) (T-st.2)).2.1≠0
   ·rw[if_pos he]at hX;rw[hX]at h;exact absurd h he
   rw[if_neg he]at hX;have he0:(j9 code (N/2^st.2) (T-st.2)).2.1=0:=by simpa using he
   by_cases hs:(j9 code (N/2^st.2) (T-st.2)).1<16
   ·rw[if_pos hs]at hX
    rw[hX]at h hq⊢;obtain⟨i1,i2,i3⟩:=Agr.row f _ _ h hq;simp only at i1 i2 i3;have hr:=hA.sym he0 (qa i3 hq);refine⟨?_,hc.1,by omega⟩
    rw[e N' T'];simp only;rw[if_pos hc,hr,if_neg he,if_pos hs,Nat.add_right_comm st.2 d,i1]
   ·rw[if_neg hs]at hX
    by_cases hn:n<l.length+(cN N T (j9 code (N/2^st.2) (T-st.2)).1 l (0,st.2+(j9 code (N/2^st.2) (T-st.2)).2.2)).1
    ·rw[if_pos hn]at hX;rw[hX]at h;exact absurd h (xM (by decide))
    rw[if_neg hn]at hX;rw[hX]at h hq⊢;obtain⟨i1,i2,i3⟩:=Agr.row f _ _ h hq;obtain⟨j1,j2,j3⟩:=hA.rep i2 (qa i3 hq);simp only at j1 j2 j3;have hr:=hA.sym he0 (qa j3 (qa i3 hq));refine⟨?_,hc.1,by omega⟩
    rw[e N' T'];simp only;rw[if_pos hc,hr,if_neg he,if_neg hs,Nat.add_right_comm st.2 d,j1];simp only;rw[if_neg hn,i1]
  ·rw[if_neg hc]at hX
   rw[hX]at h hq⊢;refine⟨?_,h,q9 _⟩;rw[e N' T'];simp only;rw[if_neg hc]
theorem Agr.dynL{a b:Nat}{k:List Nat×(Nat×Nat)}(h:(dynL N T a b k).2.2.1=0)(hq:(dynL N T a b k).2.2.2<=Q):dynL N' T' a b (k.1,k.2.1,k.2.2+d)=((dynL N T a b k).1,(dynL N T a b k).2.1,(dynL N T a b k).2.2.1,(dynL N T a b k).2.2.2+d)/\k.2.1=0/\k.2.2<=(dynL N T a b k).2.2.2:=by
 unfold Go.Cm.dynL at h hq⊢
 by_cases h1:k.2.1≠0
 ·rw[if_pos h1]at h;exact absurd h h1
 rw[if_neg h1]at h hq⊢
 by_cases h2:bJ (nls k.1) false≠0
 ·rw[if_pos h2]at h;exact absurd h h2
 rw[if_neg h2]at h hq⊢
 by_cases h3:(bM N T k.1 (257+a+(1+b)) (257+a+(1+b)+1) [] k.2).2.1≠0
 ·rw[if_pos h3]at h;exact absurd h h3
 rw[if_neg h3]at h hq⊢;simp only at h hq⊢;obtain⟨i1,i2,i3⟩:=hA.row _ _ _ (by simpa using h3) hq
 rw[if_neg h1,if_neg h2,i1];simp only;rw[if_neg h3]
 exact⟨rfl,i2,i3⟩
theorem Agr.dynM{a b c:Nat}{st:Nat×Nat}(h:(dynM N T a b c st).2.2.1=0)(hq:(dynM N T a b c st).2.2.2<=Q):dynM N' T' a b c (st.1,st.2+d)=((dynM N T a b c st).1,(dynM N T a b c st).2.1,(dynM N T a b c st).2.2.1,(dynM N T a b c st).2.2.2+d)/\st.1=0/\st.2<=(dynM N T a b c st).2.2.2:=by
 unfold Go.Cm.dynM at h hq⊢;obtain⟨i1,i2,i3⟩:=hA.dynL h hq;obtain⟨j1,j2,j3⟩:=hA.code 19 i2 (qa i3 hq)
 by_cases hb:286<257+a\/30<1+b
 ·simp only[if_pos hb]at j2
  exact absurd j2 (xM (by decide))
 ·simp only[if_neg hb]at i1 i2 i3 j1 j2 j3⊢
  rw[j1,i1]
  exact⟨rfl,j2,qa j3 i3⟩
theorem Agr.dynN{st:Nat×Nat}(h:(dynN N T st).2.2.1=0)(hq:(dynN N T st).2.2.2<=Q):dynN N' T' (st.1,st.2+d)=((dynN N T st).1,(dynN N T st).2.1,(dynN N T st).2.2.1,(dynN N T st).2.2.2+d)/\st.1=0/\st.2<=(dynN N T st).2.2.2:=by
 unfold Go.Cm.dynN at h hq⊢;obtain⟨i1,i2,i3⟩:=hA.dynM h hq;obtain⟨a1,a2,a3⟩:=hA.xb i2 (qa i3 hq);obtain⟨b1,b2,b3⟩:=hA.xb a2 (qa a3 (qa i3 hq));obtain⟨c1,c2,c3⟩:=hA.xb b2 (qa b3 (qa a3 (qa i3 hq)));rw[c1];simp only;rw[b1];simp only;rw[a1];simp only;rw[i1]
 exact⟨rfl,c2,qa c3 (qa b3 (qa a3 i3))⟩
theorem Agr.kind{p:Nat}{fin:Bool}{k:Nat}{st:Nat×Nat}(h:(dG N T p fin k st).2.1=0)(hq:(dG N T p fin k st).2.2<=Q):dG N' T' (p+d) fin k (st.1,st.2+d)=((dG N T p fin k st).1,0,(dG N T p fin k st).2.2+d)/\st.1=0/\st.2<=(dG N T p fin k st).2.2:=by
 unfold dG at h hq⊢
 by_cases h1:st.1≠0
 ·rw[if_pos h1]at h;exact absurd h h1
 rw[if_neg h1]at h hq⊢;have h10:st.1=0:=by simpa using h1
 by_cases h2:k=0
 ·simp only[if_pos h2,if_neg h1]at h hq⊢
  by_cases h3:(je N T st).2.1≠0
  ·rw[if_pos h3]at h;exact absurd h h3
  rw[if_neg h3]at h hq⊢;simp only at h hq⊢;obtain⟨i1,i2,i3⟩:=hA.stored (by simpa using h3) hq
  rw[i1];simp only;rw[if_neg h3]
  exact⟨rfl,i2,i3⟩
 simp only[if_neg h2,if_neg h1]at h hq⊢
 by_cases h4:k=1
 ·simp only[if_pos h4]at h hq⊢
  exact⟨by first|rfl|trivial,h10,q9 _⟩
 simp only[if_neg h4]at h hq⊢
 by_cases h5:k=2
 ·simp only[if_pos h5]at h hq⊢
  by_cases h3:(Go.Cm.dynN N T st).2.2.1≠0
  ·rw[if_pos h3]at h;exact absurd h h3
  rw[if_neg h3]at h hq⊢;simp only at h hq⊢;obtain⟨i1,i2,i3⟩:=hA.dynN (by simpa using h3) hq
  rw[i1];simp only;rw[if_neg h3]
  exact⟨rfl,i2,i3⟩
 ·simp only[if_neg h5]at h
  cases h
theorem Agr.head{p:Nat}(h:(jk N T p).2.1=0)(hq:(jk N T p).2.2<=Q):jk N' T' (p+d)=((jk N T p).1,0,(jk N T p).2.2+d)/\p<=(jk N T p).2.2:=by
 unfold jk at h hq⊢;obtain⟨i1,i2,i3⟩:=hA.kind h hq;obtain⟨a1,a2,a3⟩:=hA.xb i2 (qa i3 hq);obtain⟨b1,b2,b3⟩:=hA.xb (st:=(0,p)) a2 (qa a3 (qa i3 hq));simp only at b1 b3;rw[b1];simp only;rw[a1];simp only;rw[i1]
 exact⟨rfl,qa b3 (qa a3 i3)⟩
theorem Agr.numB{p:Nat}{y:Nat×Nat×Bool}(h:(numB N T p y).2.1=0)(hq:(numB N T p y).2.2<=Q):numB N' T' (p+d) y=((numB N T p y).1,0,(numB N T p y).2.2+d)/\p<=(numB N T p y).2.2:=by
 unfold Go.Cm.numB at h hq⊢
 by_cases h1:y.2.2=false
 ·rw[if_pos h1]at h;cases h
 rw[if_neg h1]at h hq⊢;rw[if_neg h1];simp only at h hq⊢;rw[hA.bits h hq,h,(fT h).1]
 exact⟨rfl,by omega⟩
end
def shI(d:Nat)(z:IS):IS:={z with p:=z.p+d,st:=z.st.map fun x=>(x.1+d,x.2)}
section
variable {N T : Nat} {bs : qK} {N' T' : Nat} {bs' : qK} {d Q : Nat} (hA : Agr N T bs N' T' bs' d Q)
include hA
theorem Agr.cpy{s p:Nat}{z:IS}(h:(iQ N T z s p).1=0)(hq:(iQ N T z s p).2.p<=Q)(_hp:z.p<=p):iQ N' T' (shI d z) s (p+d)=(0,shI d (iQ N T z s p).2)/\p<=(iQ N T z s p).2.p:=by
 unfold iQ at h hq⊢
 by_cases h1:(Go.Cm.numB N T p (bP s)).2.1≠0
 ·rw[if_pos h1]at h;exact absurd h h1
 rw[if_neg h1]at h hq⊢;have h10:(Go.Cm.numB N T p (bP s)).2.1=0:=by simpa using h1
 unfold pZ at h hq⊢
 by_cases h2:(j9 z.di (N/2^(Go.Cm.numB N T p (bP s)).2.2) (T-(Go.Cm.numB N T p (bP s)).2.2)).2.1≠0
 ·rw[if_pos h2]at h;exact absurd h h2
 rw[if_neg h2]at h hq⊢;have h20:(j9 z.di (N/2^(Go.Cm.numB N T p (bP s)).2.2) (T-(Go.Cm.numB N T p (bP s)).2.2)).2.1=0:=by simpa using h2
 unfold nV at h hq⊢
 by_cases h3:(Go.Cm.numB N T ((Go.Cm.numB N T p (bP s)).2.2+(j9 z.di (N/2^(Go.Cm.numB N T p (bP s)).2.2) (T-(Go.Cm.numB N T p (bP s)).2.2)).2.2) (gX (j9 z.di (N/2^(Go.Cm.numB N T p (bP s)).2.2) (T-(Go.Cm.numB N T p (bP s)).2.2)).1)).2.1≠0
 ·rw[if_pos h3]at h;exact absurd h h3
 rw[if_neg h3]at h hq⊢;have h30:=Classical.not_not.1 h3
 by_cases h4:min z.h.length 32768<(Go.Cm.numB N T ((Go.Cm.numB N T p (bP s)).2.2+(j9 z.di (N/2^(Go.Cm.numB N T p (bP s)).2.2) (T-(Go.Cm.numB N T p (bP s)).2.2)).2.2) (gX (j9 z.di (N/2^(Go.Cm.numB N T p (bP s)).2.2) (T-(Go.Cm.numB N T p (bP s)).2.2)).1)).1
 ·rw[if_pos h4]at h;cases h
 rw[if_neg h4]at h hq⊢;simp only at hq⊢;obtain⟨a1,a2⟩:=hA.numB h30 hq;have hs:=hA.sym h20 (qa a2 hq);obtain⟨b1,b2⟩:=hA.numB h10 (qa (Nat.le_add_right _ _) (qa a2 hq));rw[b1];simp only;rw[if_neg (by decide)]
 rw[show(shI d z).di=z.di from rfl,show(shI d z).h=z.h from rfl,hs,if_neg h2,Nat.add_right_comm (Go.Cm.numB N T p (bP s)).2.2 d,a1]
 simp only;rw[if_neg (by decide)]
 show(if min z.h.length 32768<_ then _ else _)=_/\_
 rw[if_neg h4]
 exact⟨rfl,by omega⟩
theorem Agr.cod{z:IS}(h:(oU N T z).1=0)(hq:(oU N T z).2.p<=Q):oU N' T' (shI d z)=(0,shI d (oU N T z).2):=by
 unfold oU oT at h hq⊢
 by_cases h1:(j9 z.li (N/2^z.p) (T-z.p)).2.1≠0
 ·rw[if_pos h1]at h;exact absurd h h1
 rw[if_neg h1]at h hq⊢;have h10:=Classical.not_not.1 h1
 by_cases h2:(j9 z.li (N/2^z.p) (T-z.p)).1=256
 ·rw[if_pos h2]at h hq⊢
  have hs:=hA.sym h10 hq
  show(if(j9 z.li (N'/2^(z.p+d)) (T'-(z.p+d))).2.1≠0 then _ else _)=_
  rw[show(shI d z).p=z.p+d from rfl,show(shI d z).li=z.li from rfl,hs,if_neg h1,if_pos h2,Nat.add_right_comm z.p d]
  rfl
 rw[if_neg h2]at h hq⊢
 by_cases h3:256<(j9 z.li (N/2^z.p) (T-z.p)).1
 ·rw[if_pos h3]at h hq⊢
  obtain⟨c1,c2⟩:=hA.cpy h hq (Nat.le_add_right _ _);have hs:=hA.sym h10 (qa c2 hq);rw[show(shI d z).p=z.p+d from rfl,show(shI d z).li=z.li from rfl,hs,if_neg h1,if_neg h2,if_pos h3,Nat.add_right_comm z.p d,c1]
 ·rw[if_neg h3]at h hq⊢
  have hs:=hA.sym h10 hq;rw[show(shI d z).p=z.p+d from rfl,show(shI d z).li=z.li from rfl,hs,if_neg h1,if_neg h2,if_neg h3,Nat.add_right_comm z.p d]
  rfl
theorem Agr.step{pre:Nat}{z:IS}(h:(stI N T pre bs z).1=0)(hq:(stI N T pre bs z).2.p<=Q)(hl:z.md=1->z.left<=(T-z.p)/8/\z.p%8=0):stI N' T' pre bs' (shI d z)=(0,shI d (stI N T pre bs z).2):=by
 unfold stI at h hq⊢
 show(if z.md=0 then _ else if z.md=1 then _ else if z.md=2 then _ else _)=_
 by_cases h0:z.md=0
 ·rw[if_pos h0]at h hq⊢
  rw[if_pos h0];unfold iR at h hq⊢
  by_cases h1:(jk N T z.p).2.1≠0
  ·rw[if_pos h1]at h;exact absurd h h1
  rw[if_neg h1]at h hq⊢;simp only at hq⊢;obtain⟨a1,a2⟩:=hA.head (Classical.not_not.1 h1) hq;rw[show(shI d z).p=z.p+d from rfl,a1]
  simp only;rw[if_neg (by decide)]
  unfold shI
  simp
 rw[if_neg h0]at h hq⊢;rw[if_neg h0]
 by_cases h1:z.md=1
 ·rw[if_pos h1]at h hq⊢
  rw[if_pos h1];obtain⟨hl,h8⟩:=hl h1;unfold dI at h hq⊢;have qb3:min z.left ((T-z.p)/8)=z.left:=by omega
  rw[qb3]at h hq⊢
  show(if z.left=0 then _ else if min z.left ((T'-(z.p+d))/8)=0 then _ else _)=_
  by_cases h2:z.left=0
  ·rw[if_pos h2,if_pos h2];rfl
  rw[if_neg h2,if_neg h2]at h hq;rw[if_neg h2,if_neg h2,if_neg h2];simp only at hq;have hT:=hA.le;have qey:min z.left ((T'-(z.p+d))/8)=z.left:=by omega
  obtain⟨e,hd⟩:=hA.d8;have hby:=hA.byt (z.p/8) z.left (by omega)
  show(if min z.left ((T'-(z.p+d))/8)=0 then _ else _)=_
  simp only[show(shI d z).p=z.p+d from rfl,show(shI d z).left=z.left from rfl,show(shI d z).h=z.h from rfl,qey]
  rw[if_neg h2,show(z.p+d)/8=z.p/8+d/8 by omega,hby]
  unfold shI;simp only;rw[Nat.add_right_comm]
 rw[if_neg h1]at h hq⊢;rw[if_neg h1]
 by_cases h2:z.md=2
 ·rw[if_pos h2]at h hq⊢
  rw[if_pos h2]
  exact hA.cod h hq
 ·rw[if_neg h2,if_neg h2]
theorem Agr.play{pre:Nat}{z0:IS}(h8:8∣T)(hi:IOk T pre z0){K:Nat}(hK:(j5 N T pre bs z0 K).1=0)(h3:(j5 N T pre bs z0 K).2.md=3)(hQ:(j5 N T pre bs z0 K).2.p<=Q):∀k,k<=K->j5 N' T' pre bs' (shI d z0) k=(0,shI d (j5 N T pre bs z0 k).2):=by
 have hz:∀m k,k+m=K->(j5 N T pre bs z0 k).1=0:=by
  intro m
  induction m with
  |zero=>intro k e;rw[Nat.add_zero]at e;rw[e];exact hK
  |succ m ih=>intro k e;exact C5 (ih (k+1) (by omega))
 have hz2:∀k,k<=K->(j5 N T pre bs z0 k).1=0:=fun k hk=>hz (K-k) k (by omega)
 have qbx:∀k,k<K->(j5 N T pre bs z0 k).2.p<=(j5 N T pre bs z0 (k+1)).2.p:=by
  intro k hk
  by_cases hs:aK (j5 N T pre bs z0 k)
  ·rw[bQ hs 1];exact q9 _
  ·obtain⟨g1,g2,-⟩:=o9 (hz2 (k+1) hk) hs
   obtain⟨-,q,-⟩:=cW (N:=N) (bs:=bs) h8 hi k;have iok:=(q (hz2 k (by omega))).1
   have ok:=q17 (bs:=bs) (N:=N) h8 iok (fun e=>hs (.inr e)) g1
   rw[g2];have h1:=ok.mu;have h2:=ok.p;have h4:=iok.p;unfold muI at h1;split at h1<;>split at h1<;>omega
 have hp:∀m k,k+m=K->(j5 N T pre bs z0 k).2.p<=Q:=by
  intro m
  induction m with
  |zero=>intro k e;rw[Nat.add_zero]at e;rw[e];exact hQ
  |succ m ih=>intro k e;exact qa (qbx k (by omega)) (ih (k+1) (by omega))
 intro k
 induction k with
 |zero=>intro _;rfl
 |succ k ih=>
  intro hk;have e:=ih (by omega)
  by_cases hs:aK (j5 N T pre bs z0 k)
  ·have hs':aK (j5 N' T' pre bs' (shI d z0) k):=by
    rw[e]
    rcases hs with h|h
    ·exact absurd (hz2 k (by omega)) h
    ·exact .inr h
   rw[bQ hs' 1,bQ hs 1];exact e
  ·obtain⟨g1,g2,g3⟩:=o9 (hz2 (k+1) hk) hs
   obtain⟨-,q,-⟩:=cW (N:=N) (bs:=bs) h8 hi k;have iok:=(q (hz2 k (by omega))).1
   have hs':¬aK (j5 N' T' pre bs' (shI d z0) k):=by
    rw[e];rintro(h|h)
    ·exact h rfl
    ·exact hs (.inr h)
   have hq1:=hp (K-(k+1)) (k+1) (by omega)
   rw[g2]at hq1
   have hst:=hA.step (pre:=pre) (z:=(j5 N T pre bs z0 k).2) g1 hq1 (fun hm=>by
    refine⟨?_,iok.al hm⟩
    apply qf
    intro hn;have hg1:=g1;have hg2:=g2;unfold stI at hg1 hg2;rw[if_neg (by rw[hm];decide),if_pos hm]at hg1 hg2
    unfold dI at hg1 hg2;rw[if_neg (by omega)]at hg1 hg2
    by_cases hv:min (j5 N T pre bs z0 k).2.left ((T-(j5 N T pre bs z0 k).2.p)/8)=0
    ·rw[if_pos hv]at hg1;cases hg1
    rw[if_neg hv]at hg2
    have hlt:k+1<K:=by
     apply qf;intro hc
     have:K=k+1:=by omega
     rw[this,hg2]at h3;simp only at h3;rw[hm]at h3;cases h3
    have hz3:=hz2 (k+1+1) hlt
    have hs1:¬aK (j5 N T pre bs z0 (k+1)):=by
     rw[hg2];rintro(h|h)
     ·exact h rfl
     ·simp only at h;rw[hm]at h;cases h
    obtain⟨f1,-,-⟩:=o9 hz3 hs1;rw[hg2]at f1;unfold stI dI at f1;simp only at f1;rw[if_neg (by rw[hm];decide),if_pos hm,if_neg (by omega),if_pos (by omega)]at f1
    cases f1)
   rw[fD hs',e]
   show lF pre (stI N' T' pre bs' (shI d (j5 N T pre bs z0 k).2))=_
   rw[hst,g2];unfold lF;generalize (16777216:Nat)=M at*;rw[if_neg (fun h=>h rfl),if_neg (by show¬M<(stI N T pre bs (j5 N T pre bs z0 k).2).2.h.length-pre;omega)]
end
end Go.Cm
namespace Go.Cm
theorem q3s{bs:qK}{i:Nat}(h:i<bs.length):(bs[i]).toNat=dF (kB bs) (8*i) 8:=by
 rw[<-s8 bs i h,dW]
 rfl
theorem vE{N T:Nat}:∀(l:qK) (p:Nat),C6 N T (l.map fun b=>(b.toNat,8)) p->∀i,(h:i<l.length)->dF N (p+8*i) 8=(l[i]).toNat
 |[],_,_,i,h=>absurd h (Nat.not_lt_zero i)
 |b::l,p,hs,0,_=>by
  have:=hs.1
  simpa using this
 |b::l,p,hs,i+1,h=>by
  have:=vE l (p+8) hs.2.2 i (by simpa using h)
  rw[show p+8*(i+1)=p+8+8*i by omega,this]
  rfl
theorem W6{bs l:qK}{N T:Nat}{st:Nat×Nat}(hN:N=kB bs)(hT:T=8*bs.length)(h0:st.1<2^st.2)(h8:st.2%8=0)(hp:Pre N T (iT l st)):(bs.drop (st.2/8)).take l.length=l/\st.2+8*l.length<=T:=by
 have hlt:∀x∈l.map (fun b:UInt8=>(b.toNat,8)),x.1<2^x.2:=fun x hx=>by
  obtain⟨b,-,rfl⟩:=List.mem_map.1 hx
  exact b.toNat_lt
 have hs:=iL N T (l.map fun b:UInt8=>(b.toNat,8)) st h0 hlt hp.low hp.le
 have hle:=hp.le;rw[rI]at hle;refine⟨List.ext_getElem (by rw[List.length_take,List.length_drop];omega) fun i h1 h2=>?_,hle⟩
 rw[List.getElem_take,List.getElem_drop]
 apply UInt8.toNat_inj.1
 rw[q3s (by omega),<-hN,show 8*(st.2/8+i)=st.2+8*i by omega]
 exact vE l st.2 hs i h2
theorem q1P{l:qK}{st:Nat×Nat}(h:st.1<2^st.2):pD st (iT l st):=by
 unfold iT
 exact fF h fun x hx=>by
  obtain⟨b,-,rfl⟩:=List.mem_map.1 hx
  exact b.toNat_lt
theorem R7{y:Nat×qK}(h:(yC y).1=0):y.1=0/\yC y=y/\y.2.length<=16777216:=by
 unfold yC at h⊢;generalize (16777216:Nat)=M at*
 by_cases h1:y.1≠0
 ·rw[if_pos h1]at h;exact absurd h h1
 rw[if_neg h1]at h⊢
 by_cases h2:M<y.2.length
 ·rw[if_pos h2]at h;cases h
 rw[if_neg h2]
 exact⟨by simpa using h1,rfl,by omega⟩
theorem q75(b:qK)(o:OpN):b.length<=(opN 10 b o).2.length:=by
 unfold opN;split
 ·simp
 ·split
  ·exact q9 _
  ·split
   ·exact q9 _
   ·rw[jV];exact Nat.le_add_right _ _
theorem q76(y:Nat×qK)(o:OpN):y.2.length<=(opS 10 y o).2.length:=by
 have:=q75 y.2 o;unfold opS;split
 ·exact q9 _
 ·split
  ·exact this
  ·split
   ·exact this
   ·exact this
theorem q4e:∀(ops:List OpN) (y:Nat×qK),y.2.length<=(ops.foldl (opS 10) y).2.length
 |[],_=>q9 _
 |o::ops,y=>qa (q76 y o) (q4e ops (opS 10 y o))
theorem tC{bs:qK}{N T n i:Nat}{z0 z:IS}{p:PtN}{st:Nat×Nat}(hN:N=kB bs)(hT:T=8*bs.length)(h0:st.1<2^st.2)(hl:∀o∈p.ops,o.lit<256)(hpt:(fN 10 z.h p).1=0)(he:(tQ n i p st).1=0):
  pD st (tQ n i p st).2/\(Pre N T (tQ n i p st).2->z.md=0->z.p=st.2->Rch N T bs z0 z->∃z',Rch N T bs z0 z'/\z'.p=(tQ n i p st).2.2/\z'.h=(fN 10 z.h p).2/\z'.md=(if i+1=n then 3 else 0)/\z'.st=z.st++[(st.2,z.h.length)]):=by
 unfold tQ at he⊢
 by_cases hm:fH p.kind p.text.size p.lits p.dists≠0
 ·rw[if_pos hm]at he;exact absurd he hm
 rw[if_neg hm]at he⊢;have hm0:fH p.kind p.text.size p.lits p.dists=0:=by simpa using hm
 obtain⟨g1,hb⟩:=W4 (f:=decide (i+1=n)) (N:=N) (T:=T) h0 hm0
 have qcU:Pre N T (wrI (decide (i+1=n)) p.kind p.text.size p.lits p.dists st)->z.md=0->z.p=st.2->Rch N T bs z0 z->z.h.length<=16777216->
   Rch N T bs z0 ⟨if(mQ (decide (i+1=n)) p.kind p.text.size p.lits p.dists).kind=0 then 1 else 2,(mQ (decide (i+1=n)) p.kind p.text.size p.lits p.dists).fin,(mQ (decide (i+1=n)) p.kind p.text.size p.lits p.dists).size,(mQ (decide (i+1=n)) p.kind p.text.size p.lits p.dists).lits,(mQ (decide (i+1=n)) p.kind p.text.size p.lits p.dists).dists,(wrI (decide (i+1=n)) p.kind p.text.size p.lits p.dists st).2,z.h,z.st++[(st.2,z.h.length)]⟩:=fun hp hmd hzp hr hz=>by
  refine hr.step (by rw[hmd];decide) ?_ hz
  unfold stI;rw[if_pos hmd];unfold iR;rw[hzp,hb hp];rw[if_neg (by simp)]
  rfl
 unfold fN at hpt⊢
 by_cases k0:p.kind=0
 ·rw[if_pos k0]at he hpt⊢
  rw[if_pos k0]
  have hal:(wrI (decide (i+1=n)) p.kind p.text.size p.lits p.dists st).2%8=0:=by
   rw[k0];unfold wrI;rw[if_pos rfl,jR]
   show(qO _+(16+(16+0)))%8=0
   unfold qO;omega
  by_cases hsz:65535<p.text.size
  ·rw[if_pos hsz]at hpt;cases hpt
  rw[if_neg hsz]at hpt⊢;obtain⟨-,hc,hlen⟩:=R7 hpt;rw[hc];simp only at hlen⊢
  have haw:jo (wrI (decide (i+1=n)) p.kind p.text.size p.lits p.dists st)=wrI (decide (i+1=n)) p.kind p.text.size p.lits p.dists st:=by
   unfold jo qO;refine Prod.ext rfl ?_;simp only;omega
  rw[haw];have g2:=q1P (l:=bys p.text) g1.lt;refine⟨g1.trans g2,fun hp hmd hzp hr=>?_⟩
  have hr1:=qcU (hp.of g2) hmd hzp hr (by rw[qg]at hlen;omega)
  have hbk:mQ (decide (i+1=n)) p.kind p.text.size p.lits p.dists=⟨decide (i+1=n),0,p.text.size,[],[]⟩:=by
   unfold mQ;rw[if_pos k0,Int.toNat_natCast]
  rw[hbk]at hr1;simp only[if_true]at hr1;obtain⟨hby,hle⟩:=W6 (l:=bys p.text) hN hT g1.lt hal hp;have hW:=rI (bys p.text) (wrI (decide (i+1=n)) p.kind p.text.size p.lits p.dists st);rw[qF]at hby hle hW;generalize wrI (decide (i+1=n)) p.kind p.text.size p.lits p.dists st=s1 at*;generalize hzs:z.st++[(st.2,z.h.length)]=zs at*
  have fin:Rch N T bs z0 ⟨1,decide (i+1=n),0,[],[],s1.2+8*p.text.size,z.h++bys p.text,zs⟩:=by
   by_cases hz:p.text.size=0
   ·have hnil:bys p.text=[]:=List.length_eq_zero_iff.1 (by rw[qF];exact hz)
    rw[hz]at hr1⊢;rw[hnil,List.append_nil]
    exact hr1
   ·refine hr1.step (show¬(1:Nat)=3 by decide) ?_ hlen
    have qb3:min p.text.size ((T-s1.2)/8)=p.text.size:=by omega
    unfold stI dI;rw[if_neg (show¬(1:Nat)=0 by decide),if_pos rfl]
    simp only;rw[qb3,if_neg hz,if_neg hz,hby,Nat.sub_self]
  refine⟨cE ⟨1,decide (i+1=n),0,[],[],s1.2+8*p.text.size,z.h++bys p.text,zs⟩,fin.step (show¬(1:Nat)=3 by decide) ?_ hlen,hW.symm,rfl,?_,rfl⟩
  ·unfold stI dI
   rw[if_neg (show¬(1:Nat)=0 by decide),if_pos rfl,if_pos rfl]
  ·show(if decide (i+1=n)=true then 3 else 0)=_
   by_cases hin:i+1=n<;>simp[hin]
 ·rw[if_neg k0]at he hpt⊢
  rw[if_neg k0]
  by_cases hk:p.kind=1\/p.kind=2
  ·rw[if_pos hk]at hpt⊢
   obtain⟨hop,hc,hlen⟩:=R7 hpt;rw[hc];unfold oG at hop hlen⊢;obtain⟨g2,hcb⟩:=W5 (N:=N) (T:=T) (bs:=bs) (z0:=z0) (l1:=fJ p) (l2:=bO p) (ops:=p.ops) (z:=⟨2,decide (i+1=n),(mQ (decide (i+1=n)) p.kind p.text.size p.lits p.dists).size,(fJ p).map Int.toNat,(bO p).map Int.toNat,(wrI (decide (i+1=n)) p.kind p.text.size p.lits p.dists st).2,z.h,z.st++[(st.2,z.h.length)]⟩) g1.lt hl he hop hlen;refine⟨g1.trans g2,fun hp hmd hzp hr=>?_⟩
   have hzl:z.h.length<=(p.ops.foldl (opS 10) (0,z.h)).2.length:=q4e p.ops (0,z.h);have hr1:=qcU (hp.of g2) hmd hzp hr (by omega)
   have hbk:(mQ (decide (i+1=n)) p.kind p.text.size p.lits p.dists).kind≠0/\(mQ (decide (i+1=n)) p.kind p.text.size p.lits p.dists).fin=decide (i+1=n)/\(mQ (decide (i+1=n)) p.kind p.text.size p.lits p.dists).lits=(fJ p).map Int.toNat/\(mQ (decide (i+1=n)) p.kind p.text.size p.lits p.dists).dists=(bO p).map Int.toNat:=by
    unfold mQ fJ bO;rw[if_neg k0]
    by_cases k1:p.kind=1
    ·rw[if_pos k1,if_pos k1,if_pos k1,jm,jm]
     exact⟨show¬(1:Nat)=0 by decide,rfl,rfl,rfl⟩
    ·rw[if_neg k1,if_neg k1,if_neg k1]
     exact⟨show¬(2:Nat)=0 by decide,rfl,rfl,rfl⟩
   obtain⟨q1,q2,q3,q4⟩:=hbk;rw[if_neg q1,q2,q3,q4]at hr1;refine⟨_,hcb hp rfl rfl rfl rfl hr1,rfl,rfl,?_,rfl⟩
   show(if decide (i+1=n)=true then 3 else 0)=_
   by_cases hin:i+1=n<;>simp[hin]
  ·rw[if_neg hk]at hpt;cases hpt
theorem W7{bs:qK}{N T:Nat}{z0:IS}{l:List PtN}(hN:N=kB bs)(hT:T=8*bs.length)(hl:∀p∈l,∀o∈p.ops,o.lit<256)(hp:(jW 10 l).1=0)(he:(aX l l.length).1=0)(hpre:Pre N T (aX l l.length).2)
  (hz:z0=⟨0,false,0,[],[],0,[],[]⟩):∀k,k<=l.length->pD (0,0) (aX l k).2/\(pD (aX l k).2 (aX l l.length).2->∃z,Rch N T bs z0 z/\z.p=(aX l k).2.2/\(0,z.h)=jW 10 (l.take k)/\z.md=(if k=l.length/\0<k then 3 else 0)/\z.st.length=k):=by
 have qcD:∀k,k<=l.length->(aX l k).1=0:=fun k hk=>by
  apply qf;intro hn
  obtain⟨m,hm⟩:=Nat.exists_eq_add_of_le hk;have:=gP hn m;rw[<-hm]at this;rw[this]at he;exact hn he
 have hpz:∀k,k<=l.length->(jW 10 (l.take k)).1=0:=fun k _=>by
  apply qf;intro hn
  rw[eW hn]at hp;exact hn hp
 intro k
 induction k with
 |zero=>
  intro _;refine⟨pD.refl (by decide),fun _=>⟨z0,⟨0,rfl⟩,by rw[hz];rfl,by rw[hz];rfl,by rw[hz];simp,by rw[hz];rfl⟩⟩
 |succ k ih=>
  intro hk;have hk':k<l.length:=by omega
  obtain⟨g,hb⟩:=ih (by omega)
  have ek:=nQ (qcD k (by omega))
  have hk1:=qcD (k+1) hk;have hpk:∃b,jW 10 (l.take k)=(0,b):=⟨_,Prod.ext (hpz k (by omega)) rfl⟩
  obtain⟨b,hbk⟩:=hpk;have hpn:=iD hk' hbk;have qdF:=hpz (k+1) hk
  have qby:l.getD k zPt∈l:=by
   have:l.getD k zPt=l[k]:=by simp[List.getD,hk']
   rw[this];exact List.getElem_mem hk'
  have hlt:=g.lt;rw[ek]at hk1⊢;rw[hpn]at qdF;obtain⟨g2,-⟩:=tC (z0:=z0) (z:=⟨0,false,0,[],[],0,b,[]⟩) hN hT hlt (hl _ qby) qdF hk1;refine⟨g.trans g2,fun gn=>?_⟩
  obtain⟨z,r1,r2,r3,r4,r5⟩:=hb (g2.trans gn);have hzh:z.h=b:=by rw[hbk]at r3;exact congrArg Prod.snd r3
  have hmd:z.md=0:=by rw[r4,if_neg (by omega)]
  obtain⟨-,hs⟩:=tC (z0:=z0) (z:=z) hN hT hlt (hl _ qby) (by rw[hzh];exact qdF) hk1
  obtain⟨z',s1,s2,s3,s4,s5⟩:=hs (hpre.of gn) hmd r2 r1;refine⟨z',s1,s2,?_,?_,?_⟩
  ·rw[hpn,s3,hzh]
   exact Prod.ext qdF.symm rfl
  ·rw[s4]
   by_cases hin:k+1=l.length
   ·rw[if_pos hin,if_pos ⟨hin,Nat.succ_pos k⟩]
   ·rw[if_neg hin,if_neg (fun e=>hin e.1)]
  ·rw[s5,qg,r5];rfl
theorem q3t{l:List PtN}(hl:∀p∈l,∀o∈p.ops,o.lit<256)(h:(eN l).1=0){s:ByteArray}(hs:bys s=(eN l).2):
  erI s [] 0=0/\txI s [] 0=(jq 10 17 l).2/\(bgI s [] 0).length=l.length/\enI s [] 0<=8*s.size/\8*s.size<enI s [] 0+8/\(jq 10 17 l).1=0:=by
 unfold eN at h hs
 by_cases h1:(jq 10 17 l).1≠0
 ·rw[if_pos h1]at h;exact absurd h h1
 rw[if_neg h1]at h hs
 by_cases h2:(aX l l.length).1≠0
 ·rw[if_pos h2]at h;exact absurd h h2
 rw[if_neg h2]at hs;simp only at hs;have h1':(jq 10 17 l).1=0:=by simpa using h1
 have h2':(aX l l.length).1=0:=by simpa using h2
 have hne:l≠[]:=fun e=>by
  unfold jq at h1';rw[if_pos e]at h1';cases h1'
 have hpz:(jW 10 l).1=0:=by
  unfold jq at h1';rw[if_neg hne]at h1'
  by_cases c:(jW 10 l).1≠0
  ·rw[if_pos c]at h1';exact h1'
  ·simpa using c
 have htx:jq 10 17 l=jW 10 l:=by
  unfold jq;rw[if_neg hne,if_neg (by omega)]
 have hlen:s.size=((aX l l.length).2.2+7)/8:=by rw[<-qF,hs,pO]
 have hg0:∀{z0:IS},z0=⟨0,false,0,[],[],0,[],[]⟩->pD (0,0) (aX l l.length).2:=fun hz=>by
  have hgrow:∀k,k<=l.length->pD (0,0) (aX l k).2:=by
   intro k
   induction k with
   |zero=>intro _;exact pD.refl (by decide)
   |succ k ih=>
    intro hk;have g:=ih (by omega)
    have hz1:(aX l k).1=0:=by
     apply qf;intro hn
     obtain⟨m,hm⟩:=Nat.exists_eq_add_of_le (show k<=l.length by omega)
     have:=gP hn m;rw[<-hm]at this;rw[this]at h2';exact hn h2'
    have hz2:(aX l (k+1)).1=0:=by
     apply qf;intro hn
     obtain⟨m,hm⟩:=Nat.exists_eq_add_of_le hk;have:=gP hn m;rw[<-hm]at this;rw[this]at h2';exact hn h2'
    have hpk:∃b,jW 10 (l.take k)=(0,b):=⟨_,Prod.ext (by
     apply qf;intro hn
     rw[eW hn]at hpz;exact hn hpz) rfl⟩
    obtain⟨b,hbk⟩:=hpk;have hpn:=iD (show k<l.length by omega) hbk
    have hp1:(jW 10 (l.take (k+1))).1=0:=by
     apply qf;intro hn
     rw[eW hn]at hpz;exact hn hpz
    have qby:l.getD k zPt∈l:=by
     have:l.getD k zPt=l[k]:=by simp[List.getD,show k<l.length by omega]
     rw[this];exact List.getElem_mem (by omega)
    rw[nQ hz1]at hz2⊢;rw[hpn]at hp1
    exact g.trans (tC (bs:=bys s) (z0:=⟨0,false,0,[],[],0,[],[]⟩) (z:=⟨0,false,0,[],[],0,b,[]⟩) rfl rfl g.lt (hl _ qby) hp1 hz2).1
  exact hgrow _ (q9 _)
 have hgr:=hg0 (z0:=⟨0,false,0,[],[],0,[],[]⟩) rfl
 have hN:qH s=(aX l l.length).2.1:=by
  show kB (bys s)=_
  rw[hs,q1H hgr.lt]
 have hpre:Pre (qH s) (8*s.size) (aX l l.length).2:=⟨by rw[hN];exact Nat.mod_eq_of_lt hgr.lt,by rw[hlen];omega⟩
 have hz0:eH [] 0=⟨0,false,0,[],[],0,[],[]⟩:=by
  unfold eH;rw[show j8 []=([]:qK)from gT (by simp)]
 obtain⟨-,hb⟩:=W7 (bs:=bys s) (z0:=eH [] 0) (N:=qH s) (T:=8*s.size) rfl (by rw[qF]) hl hpz h2' hpre hz0 l.length (q9 _)
 obtain⟨z,⟨k,hk⟩,r2,r3,r4,r5⟩:=hb (pD.refl hgr.lt);have hl0:0<l.length:=List.length_pos_iff.2 hne;rw[if_pos ⟨rfl,hl0⟩]at r4;have hpl:(j8 ([]:qK)).length=0:=by rw[show j8 []=([]:qK)from gT (by simp)];rfl
 have q9z:lO s (j8 []).length (eH [] 0)=(0,z):=by
  rw[<-hk,hpl];have hok:IOk (8*s.size) (j8 []).length (eH [] 0):=cA (qc _);rw[hpl]at hok
  exact vB (t8 s) hok (by rw[hk];exact .inr r4)
 rw[List.take_length]at r3;refine⟨?_,?_,?_,?_,?_,h1'⟩
 ·unfold erI;rw[q9z]
 ·unfold txI dL;rw[q9z,hpl,List.drop_zero,htx,<-r3]
 ·unfold bgI;rw[q9z];exact r5
 ·unfold enI;rw[q9z,r2,hlen];omega
 ·unfold enI;rw[q9z,r2,hlen];omega
theorem R8{s s':ByteArray}{g b x y:qK}(hs:bys s=b++x)(hs':bys s'=g++(b++y)):Agr (qH s) (8*s.size) (bys s) (qH s') (8*s'.size) (bys s') (8*g.length) (8*b.length) where
 bit p n h:=by
  show kB (bys s')/2^(p+8*g.length)%2^n=kB (bys s)/2^p%2^n
  have e1:kB (bys s')/2^(p+8*g.length)=kB (b++y)/2^p:=by
   rw[Nat.add_comm p,Nat.pow_add,<-Nat.div_div_eq_div_mul,<-dW,vQ,hs',List.drop_left]
  rw[e1,hs,mP,mP]
  have key:∀Y,(kB b+256^b.length*Y)/2^p%2^n=kB b/2^p%2^n:=fun Y=>by
   rw[<-Nat.mod_mul_right_div_self,<-Nat.mod_mul_right_div_self,<-Nat.pow_add]
   congr 1
   obtain⟨c,hc⟩:=Nat.exists_eq_add_of_le h;rw[dW,hc,Nat.pow_add,Nat.mul_assoc,Nat.add_mul_mod_self_left]
  rw[key,key]
 le:=by
  have:s'.size=g.length+(b.length+y.length):=by rw[<-qF,hs',qg,qg]
  omega
 d8:=⟨g.length,rfl⟩
 byt i n h:=by
  rw[Nat.mul_div_cancel_left _ (by decide),hs',hs,Nat.add_comm i,<-List.drop_drop,List.drop_left,List.drop_append_of_le_length (by omega),List.drop_append_of_le_length (by omega),List.take_append_of_le_length (by rw[List.length_drop];omega),List.take_append_of_le_length (by rw[List.length_drop];omega)]
attribute [local irreducible] j8
theorem xR{s s':ByteArray}{d Q p:Nat}(hA:Agr (qH s) (8*s.size) (bys s) (qH s') (8*s'.size) (bys s') d Q)(hp:p<=8*s.size)(hp':p+d<=8*s'.size)(h0:erI s [] p=0)(hq:enI s [] p<=Q):
  erI s' [] (p+d)=0/\txI s' [] (p+d)=txI s [] p/\enI s' [] (p+d)=enI s [] p+d/\bgI s' [] (p+d)=(bgI s [] p).map fun x=>(x.1+d,x.2):=by
 obtain⟨K,hK⟩:∃K,K=2*(8*s.size)+2:=⟨_,rfl⟩;have hok:=cA (s:=s) (t:=[]) hp;have qj5:=cA (s:=s') (t:=[]) hp';have q9z:lO s (j8 []).length (eH [] p)=j5 (qH s) (8*s.size) (j8 []).length (bys s) (eH [] p) K:=by rw[hK];rfl
 have q9B:=xD (N:=qH s) (bs:=bys s) (t8 s) hok
 change aK (lO s (j8 []).length (eH [] p))at q9B
 unfold erI at h0;unfold enI at hq;rw[q9z]at h0 q9B hq;have hmd:=q9B.resolve_left (fun e=>e h0)
 have hpl:=hA.play (t8 s) hok h0 hmd hq K (q9 _);have hsh:shI d (eH [] p)=eH [] (p+d):=rfl;rw[hsh]at hpl;have qeO:lO s' (j8 []).length (eH [] (p+d))=j5 (qH s') (8*s'.size) (j8 []).length (bys s') (eH [] (p+d)) K:=vB (t8 s') qj5 (.inr (by rw[hpl];exact hmd))
 unfold erI txI dL enI bgI;rw[qeO,hpl,q9z]
 exact⟨rfl,rfl,rfl,rfl⟩
theorem q3u{s:ByteArray}(h:s.size=0):erI s [] 0≠0:=by
 have hok:=cA (s:=s) (t:=[]) (p:=0) (qc _)
 have hh:(jk (qH s) 0 0).2.1=2:=by
  have h1:xb (qH s) 0 1 (0,0)=(0,(2,0)):=rfl;unfold jk;rw[h1];have h2:xb (qH s) 0 2 (2,0)=(0,(2,0)):=rfl;rw[h2];rfl
 have hst:stI (qH s) (8*s.size) (j8 []).length (bys s) (eH [] 0)=(2,eH [] 0):=by
  unfold stI;rw[if_pos (show(eH [] 0).md=0 from rfl)]
  unfold iR;rw[h,show(8*0:Nat)=0 from rfl,show(eH [] 0).p=0 from rfl,hh]
  rfl
 have h1:(j5 (qH s) (8*s.size) (j8 []).length (bys s) (eH [] 0) 1).1=2:=by
  rw[fD (show¬aK (j5 (qH s) (8*s.size) (j8 []).length (bys s) (eH [] 0) 0)from fun e=>e.elim (fun e=>e rfl) (fun e=>absurd e (show¬(0:Nat)=3 by decide)))]
  show(lF _ (stI (qH s) (8*s.size) (j8 []).length (bys s) (eH [] 0))).1=2
  rw[hst];rfl
 have hf:lO s (j8 []).length (eH [] 0)=_:=vB (t8 s) hok (k:=1) (.inl (by rw[h1];decide))
 unfold erI;rw[hf,h1];decide
theorem D0{l:List PtN}(hl:∀p∈l,∀o∈p.ops,o.lit<256)(h:(eN l).1=0){s:ByteArray}{g y:qK}(hs:bys s=g++((eN l).2++y)):
  erI s [] (8*g.length)=0/\txI s [] (8*g.length)=(jq 10 17 l).2/\(bgI s [] (8*g.length)).length=l.length/\enI s [] (8*g.length)<=8*(g.length+(eN l).2.length)/\8*(g.length+(eN l).2.length)<enI s [] (8*g.length)+8/\8*g.length<enI s [] (8*g.length)/\(jq 10 17 l).1=0:=by
 obtain⟨s0,hs0⟩:∃s0:ByteArray,bys s0=(eN l).2:=⟨⟨(eN l).2.toArray⟩,rfl⟩;obtain⟨a1,a2,a3,a4,a5,a6⟩:=q3t hl h hs0;have hz:s0.size≠0:=fun e=>q3u e a1
 have hsz:s0.size=(eN l).2.length:=by rw[<-qF,hs0]
 have hsz':s.size=g.length+((eN l).2.length+y.length):=by rw[<-qF,hs,qg,qg]
 have hA:=R8 (s:=s0) (s':=s) (g:=g) (b:=(eN l).2) (x:=[]) (y:=y) (by rw[hs0,List.append_nil]) hs
 obtain⟨b1,b2,b3,b4⟩:=xR hA (qc _) (by omega) a1 (by omega)
 rw[Nat.zero_add]at b1 b2 b3 b4;rw[b2,b3,b4,List.length_map]
 exact⟨b1,a2,a3,by omega,by omega,by omega,a6⟩
structure D3(h:GH)(l:List PtN)(s:ByteArray)(y:qK):Prop where
 all:bys s=dH h++((eN l).2++(leB (bL (jq 10 17 l).2) 4++(leB (jq 10 17 l).2.length 4++y)))
 hd:qU s=(0,h,(dH h).length)
 er:erI s [] (8*(dH h).length)=0
 tx:txI s [] (8*(dH h).length)=(jq 10 17 l).2
 bg:(bgI s [] (8*(dH h).length)).length=l.length
 en:(enI s [] (8*(dH h).length)+7)/8=(dH h).length+(eN l).2.length
 gt:8*(dH h).length<enI s [] (8*(dH h).length)
 sum:qJ s ((dH h).length+(eN l).2.length) 4=bL (jq 10 17 l).2
 siz:qJ s ((dH h).length+(eN l).2.length+4) 4=(jq 10 17 l).2.length
 len:s.size=(dH h).length+(eN l).2.length+8+y.length
theorem q5F{h:GH}{l:List PtN}{s:ByteArray}{y:qK}(hl:∀p∈l,∀o∈p.ops,o.lit<256)(h0:(aW h l).1=0)(hs:bys s=(aW h l).2++y):D3 h l s y:=by
 have hr:jG h=true:=by
  unfold aW at h0
  cases hr:jG h
  ·rw[hr]at h0;cases h0
  ·rfl
 have he:(eN l).1=0:=by
  unfold aW at h0;rw[hr]at h0;simp only[if_true]at h0
  by_cases c:(eN l).1≠0
  ·rw[if_pos c]at h0;exact h0
  ·exact Classical.not_not.1 c
 have hb:(aW h l).2=dH h++(eN l).2++q3a (jq 10 17 l).2:=by
  unfold aW;rw[hr];simp only[if_true];rw[if_neg (fun c=>c he)]
 have hall:bys s=dH h++((eN l).2++(leB (bL (jq 10 17 l).2) 4++(leB (jq 10 17 l).2.length 4++y))):=by
  rw[hs,hb];unfold q3a;simp only[qh]
 obtain⟨a1,a2,a3,a4,a5,a6,a7⟩:=D0 hl he hall;have ht:=oX 10 17 l;obtain⟨s1,hs1⟩:∃s1:ByteArray,bys s1=dH h:=⟨⟨(dH h).toArray⟩,rfl⟩;have hz1:s1.size=(dH h).length:=by rw[<-qF,hs1]
 have hp1:=q1G hr hs1;have hlen:s.size=(dH h).length+(eN l).2.length+8+y.length:=by rw[<-qF,hall];simp only[qg,jf];omega
 have hpr:=(t7 (s:=s1) (s':=s) (m:=(dH h).length) (by omega) (by rw[hall,hs1,List.take_left,List.take_length]) (by rw[hp1]) (by rw[hp1];exact q9 _)).1
 rw[hp1]at hpr;refine⟨hall,hpr,a1,a2,a3,by omega,a6,?_,?_,hlen⟩
 ·have:=eB (s:=s) (A:=dH h++(eN l).2) (n:=bL (jq 10 17 l).2) (W:=4) (R:=leB (jq 10 17 l).2.length 4++y) (by rw[hall];simp only[qh]) (oS _)
  rwa [qg]at this
 ·have:=eB (s:=s) (A:=dH h++(eN l).2++leB (bL (jq 10 17 l).2) 4) (n:=(jq 10 17 l).2.length) (W:=4) (R:=y) (by rw[hall];simp only[qh]) (by omega)
  rwa [qg,qg,jf]at this
theorem D3.tail{h:GH}{l:List PtN}{s:ByteArray}{y:qK}(H:D3 h l s y):cZ s (enI s [] (8*(dH h).length)) (txI s [] (8*(dH h).length))=if y=[]then []else [(14,(dH h).length+(eN l).2.length+8)]:=by
 have hl:=H.len;unfold cZ;rw[H.en,H.tx,if_neg (by omega),if_neg (fun c=>c H.sum),if_neg (fun c=>c H.siz)]
 by_cases hy:y=[]
 ·have:y.length=0:=by rw[hy];rfl
  rw[if_pos hy,if_neg (by omega)]
 ·have:y.length≠0:=fun e=>hy (List.length_eq_zero_iff.1 e)
  rw[if_neg hy,if_pos (by omega)]
theorem D3.parse{h:GH}{l:List PtN}{s:ByteArray}{y:qK}(H:D3 h l s y)(hs:s.size<=16777216):jI s=if y=[]then(⟨h,8*(dH h).length,enI s [] (8*(dH h).length),bgI s [] (8*(dH h).length),(jq 10 17 l).2⟩,[])else(zGI,[(14,(dH h).length+(eN l).2.length+8)]):=by
 have ht:=H.tail;have htx:=H.tx;unfold jI;generalize hM:(16777216:Nat)=M at*;rw[if_neg (by omega),H.hd]
 simp only;rw[if_neg (fun c=>c rfl),if_neg (fun c=>c H.er),ht,htx]
 by_cases hy:y=[]
 ·rw[if_pos hy,if_pos hy,if_neg (fun c=>c rfl)]
 ·rw[if_neg hy,if_neg hy,if_pos (by simp)]
end Go.Cm
namespace Go.Cm
open Go.RowKit Go.Proofs
attribute [local irreducible] j8
def rM(w:World)(B gm:Nat)(X V:Nat->Prop)(s:ByteArray)(t:qK)(p told:Nat):Prop:=
 ∃gr gw vb m k,q3d w B gm gr gw vb X s (j8 t).length (eH t p) m k/\m.told=told/\∀q,V q->¬iV gm gr gw vb m.vs q
theorem o4.macX{w w':World}{B gm gr gw k0:Nat}{vb:Value}{X V V':Nat->Prop}{s:ByteArray}{t:qK}{p:Nat}{m:MV}{n:Nat}{M:Value->MV->Nat->Prop}(hL:dA w B gm gr gw vb X s (j8 t).length (eH t p) m k0)
  (h:o4 w w' B gm gr gw vb X s (j8 t).length (eH t p) m k0 M) (hV:∀q,V q->¬iV gm gr gw vb m.vs q) (hlt:∀q,V q->q<w.heap.size) (hM:∀a b c,M a b c->b.told=n/\∀q,V' q->V q\/¬iV gm gr gw a b.vs q):rM w' B gm X V' s t p n/\MFx B V w w':=by
 obtain⟨vb',m',k',-,hl,hf,h1,h2,hm⟩:=h;obtain⟨h3,h4⟩:=hL.ge;obtain⟨h5,h6⟩:=hM _ _ _ hm;refine⟨⟨gr,gw,vb',m',k',hl,h5,fun q e z=>?_⟩,hf.mono (fun q e=>⟨h3 q e,fun z=>hV q z e⟩)⟩
 rcases h6 q e with h7|h7
 ·rcases z with(z|z|z|z)|z
  ·exact hV q h7 (.inl (.inl z))
  ·exact hV q h7 (.inl (.inr (.inl z)))
  ·exact hV q h7 (.inl (.inr (.inr (.inl z))))
  ·rcases h1 q z with h8|h8
   ·exact hV q h7 (.inl (.inr (.inr (.inr h8))))
   ·have:=hlt q h7;omega
  ·rcases h2 q z with h8|h8
   ·exact hV q h7 (.inr h8)
   ·have:=hlt q h7;omega
 ·exact h7 z
theorem rM.B{w:World}{B gm:Nat}{X V:Nat->Prop}{s:ByteArray}{t:qK}{p told:Nat}(h:rM w B gm X V s t p told):B<=w.heap.size:=by
 obtain⟨gr,gw,vb,m,k,hl,ht,hv⟩:=h
 exact hl.live.ge.2
theorem rM.up{w w':World}{B gm:Nat}{X V:Nat->Prop}{s:ByteArray}{t:qK}{p told:Nat}(h:rM w B gm X V s t p told)(hb:Below w.heap.size w w'):rM w' B gm X V s t p told:=by
 obtain⟨gr,gw,vb,m,k,hl,ht,hv⟩:=h
 exact⟨gr,gw,vb,m,k,⟨hl.live.up hb,hl.text⟩,ht,hv⟩
theorem rM.low{w w':World}{B gm:Nat}{X V S:Nat->Prop}{s:ByteArray}{t:qK}{p told:Nat}(h:rM w B gm X V s t p told)(hf:Fx S w w')(hS:∀q,S q->X q/\q<B):rM w' B gm X V s t p told:=by
 obtain⟨gr,gw,vb,m,k,hl,ht,hv⟩:=h
 exact⟨gr,gw,vb,m,k,⟨hl.live.fx hf (fun q e z=>by have:=hl.live.ge.1 q e;have:=(hS q z).2;omega) (fun q e=>(hS q e).1),hl.text⟩,ht,hv⟩
theorem q8V(X:Nat->Prop)(s:ByteArray)(t:ByteArray)(p:Nat)(hs:s.size<=4294967296)(hp:p<=8*s.size)(ht:t.size<=50000000)(w:World):Calls Tryz.prog 76 #[.string s,.int .i64 p,.string t] w fun e w'=>∃gm,e=.returned (.tuple #[.pointer (some ⟨gm,0,none⟩),.int .i64 0])/\rM w' w.heap.size gm X (fun _=>False) s (bys t) p 0/\Below w.heap.size w w':=by
 refine(q8S s t p hs hp ht w).mono ?_;rintro e w' ⟨gm,gr,gw,vb,he,hl,hb⟩
 exact⟨gm,he,⟨gr,gw,vb,q7q,0,hl _,rfl,fun _ e=>e.elim⟩,hb⟩
section
variable {w : World} {B gm : Nat} {X V : Nat → Prop} {s : ByteArray} {t : qK} {p told : Nat} (h : rM w B gm X V s t p told) (hp : p ≤ 8 * s.size) (hs : s.size ≤ 4000000) (hV : ∀ q, V q → q < w.heap.size) (hX : ∀ q, X q → q < w.heap.size)
include h hp hs hV hX
theorem q5G(h0:told=0):Calls Tryz.prog 77 #[.pointer (some ⟨gm,0,none⟩),.int .i64 16777217] w fun e w'=>∃c:ByteArray,e=.returned (.tuple #[.string c,.int .i64 ((if(txI s t p).length=0 then erI s t p else 0:Nat):Nat)])/\bys c=txI s t p/\rM w' B gm X V s t p (txI s t p).length/\MFx B V w w':=by
 obtain⟨gr,gw,vb,m,k,hl,rfl,hv⟩:=h;have q90:=xJ (s:=s) (t:=t) hp;refine(q70 hl (cA hp) rfl hs hX 16777217).mono ?_;rintro e w' ⟨c,er,he,h1,h2,h3⟩;obtain⟨h4,h5⟩:=h2 (by decide)
 have h4:bys c=((txI s t p).drop m.told).take (16777217:Int).toNat:=h4;have h5:er=if(txI s t p).length<=m.told then erI s t p else 0:=h5
 rw[h0,List.drop_zero,List.take_of_length_le (qa q90 (by decide))]at h4
 rw[h0]at h5;have h6:er=if(txI s t p).length=0 then erI s t p else 0:=by rw[h5];simp only[Nat.le_zero]
 obtain⟨k1,k2⟩:=h3.macX hl.live hv hV (n:=m.told+(bys c).length) (V':=V) (fun _ _ _ e=>⟨e,fun _=>.inl⟩)
 rw[h0,Nat.zero_add,h4]at k1
 exact⟨c,by rw[<-h6];exact he,h4,k1,k2⟩
theorem q5H(h0:told=(txI s t p).length):Calls Tryz.prog 77 #[.pointer (some ⟨gm,0,none⟩),.int .i64 1] w fun e w'=>∃c:ByteArray,e=.returned (.tuple #[.string c,.int .i64 (erI s t p:Nat)])/\rM w' B gm X V s t p (txI s t p).length/\MFx B V w w':=by
 obtain⟨gr,gw,vb,m,k,hl,rfl,hv⟩:=h;refine(q70 hl (cA hp) rfl hs hX 1).mono ?_;rintro e w' ⟨c,er,he,h1,h2,h3⟩;obtain⟨h4,h5⟩:=h2 (by decide)
 have h4:bys c=((txI s t p).drop m.told).take (1:Int).toNat:=h4;have h5:er=if(txI s t p).length<=m.told then erI s t p else 0:=h5
 rw[h0,List.drop_length,List.take_nil]at h4;rw[if_pos (by omega)]at h5
 obtain⟨k1,k2⟩:=h3.macX hl.live hv hV (n:=m.told+(bys c).length) (V':=V) (fun _ _ _ e=>⟨e,fun _=>.inl⟩)
 rw[h4,List.length_nil,Nat.add_zero,h0]at k1
 exact⟨c,by rw[<-h5];exact he,k1,k2⟩
theorem q87(h0:told=(txI s t p).length):Calls Tryz.prog 78 #[.pointer (some ⟨gm,0,none⟩)] w fun e w'=>e=.returned (.bool (decide (erI s t p=0)))/\rM w' B gm X V s t p told/\MFx B V w w':=by
 obtain⟨gr,gw,vb,m,k,hl,rfl,hv⟩:=h;refine(q5t hl (cA hp) rfl hs hX).mono ?_;rintro e w' ⟨b,he,h1,h3⟩;have h1:b=true↔(txI s t p).length<=m.told/\erI s t p=0:=h1
 have hb:b=decide (erI s t p=0):=by
  rw[Bool.eq_iff_iff,h1,decide_eq_true_iff]
  exact⟨fun e=>e.2,fun e=>⟨by omega,e⟩⟩
 rw[hb]at he
 exact⟨he,h3.macX hl.live hv hV (fun _ _ _ e=>⟨e.1,fun _=>.inl⟩)⟩
theorem q8W(h0:told=(txI s t p).length)(he0:erI s t p=0):Calls Tryz.prog 81 #[.pointer (some ⟨gm,0,none⟩)] w fun e w'=>e=.returned (.int .i64 (enI s t p:Nat))/\rM w' B gm X V s t p told/\MFx B V w w':=by
 obtain⟨gr,gw,vb,m,k,hl,rfl,hv⟩:=h;refine(q8R hl (cA hp) rfl hs hX).mono ?_;rintro e w' ⟨q,he,h1,h2,h3⟩;have hq:q=enI s t p:=h1 ⟨by rw[h0];exact q9 _,he0⟩
 rw[hq]at he
 exact⟨he,h3.macX hl.live hv hV (fun _ _ _ e=>⟨e,fun _=>.inl⟩)⟩
theorem q5I(h0:told=(txI s t p).length)(he0:erI s t p=0):Calls Tryz.prog 80 #[.pointer (some ⟨gm,0,none⟩)] w fun e w'=>∃v:Value,e=.returned v/\eK 2 w' w.heap.size 101 v ((bgI s t p).map stC)/\rM w' B gm X (fun q=>V q\/v.ownBlock=some q) s t p told/\MFx B V w w':=by
 obtain⟨gr,gw,vb,m,k,hl,rfl,hv⟩:=h;refine(q5w hl (cA hp) rfl hs hX).mono ?_;rintro e w' ⟨v,he,h1,h2,h3⟩
 exact⟨v,he,h1 ⟨by rw[h0];exact q9 _,he0⟩,h3.macX hl.live hv hV (fun _ _ _ e=>⟨e.1,fun q z=>z.elim .inl (fun z=>.inr (e.2 q z).2)⟩)⟩
end
theorem q8z{w:World}{B gm:Nat}{X V:Nat->Prop}{s:ByteArray}{t:qK}{p told:Nat}(h:rM w B gm X V s t p told):Calls Tryz.prog 79 #[.pointer (some ⟨gm,0,none⟩)] w fun e w'=>e=.returned (.int .i64 (told:Nat))/\w'=w:=by
 obtain⟨gr,gw,vb,m,k,hl,rfl,hv⟩:=h
 exact q8Q hl.live.box
noncomputable def q8A(s:ByteArray)(tz:Nat):List (Nat×Nat):=if erI s [] (8*tz)=0 then []else [(4,tz),(erI s [] (8*tz),(txI s [] (8*tz)).length)]
def tF(s:ByteArray)(tz:Nat)(hd:GH)(g:Nat)(w0 w:World)(e:Ending)(w':World):Prop:=
 ∃v,e=.returned v/\bX w' (q8A s tz) v/\w.grownBy w' (some g)/\∃(q:Nat) (oa:Option Addr) (n k:Nat) (c:ByteArray),Own w' w0.heap.size 38 (.slice (some ⟨g,0,none⟩) 13 13) (ifC hd (8*(tz:Int)) q (.slice oa n k) c).toList/\
  (erI s [] (8*tz)=0->q=enI s [] (8*tz)/\bys c=txI s [] (8*tz)/\eK 2 w' w.heap.size 101 (.slice oa n k) ((bgI s [] (8*tz)).map stC))
theorem tG{g:Nat}{w w':World}(h:Fx (fun q=>q=g) w w'):w.grownBy w' (some g):=⟨h.os,h.tape,h.output,h.size,fun k hk hne=>h.block k hk (fun e=>hne (by rw[e]))⟩
theorem MFx.own{B:Nat}{V:Nat->Prop}{w w':World}(h:MFx B V w w'){B0 E:Nat}{v:Value}{xs:List Value}(ho:Own w B0 E v xs)(hv:∀k,v.ownBlock=some k->k<B):Own w' B0 E v xs:=
 Fx.own h ho (fun q e z=>by have:=hv q e;have:=z.1;omega)
theorem MFx.on{B g:Nat}{V:Nat->Prop}{w w1 w2:World}(h:Fx (fun q=>q=g) w w1)(hm:MFx B V w1 w2)(hB:w.heap.size<=B):Fx (fun q=>q=g) w w2:=h.far hm (fun _k e=>.inr (qa hB e.1))
end Go.Cm
