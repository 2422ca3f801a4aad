/- Walks of functions and plain facts, joined and squeezed by a program. Conditions: as each says. -/
import Derived.Test.YtnelgjehpbjloaaGreatDoorGXL
import Derived.Test.YtnelgjehpbjloaaGreatDoorGXO
set_option maxHeartbeats 8000000
set_option maxRecDepth 100000
set_option linter.unusedSimpArgs false
namespace Go.Cm
open Go.RowKit Go.Proofs
theorem q4P{w:World}{v:Value}{l:List PtN}(h:js w v l):Calls Tryz.prog 23 #[v] w fun e w'=>∃n:Int,e=.returned (.int .i64 n)/\(0<=n->zJ l)/\∃x,w'=ext w x:=by
 obtain⟨oa,cap,bl,off,rfl,hd,hco⟩:=h.open;have HCO:=q7 hco;have HD:=q7 hd;have hm:=hd.len;clear h hd hco
 by_cases q90:30<l.length
 ·have hbi:(l.length:Int)>30:=by omega
  clear q90
  go_enter Tryz.func23,Tryz.ntmps23
  go_wp2;go_ret
  exact⟨-1,rfl,fun h=>absurd h (by decide),(qt (by repeat(first|exact qj _ _|assumption|refine qw ?_ _|refine qk ?_|refine qA ?_ _|refine qs ?_ _)))⟩
 ·have hbi:¬(l.length:Int)>30:=by omega
  go_enter Tryz.func23,Tryz.ntmps23
  go_wp2
  go_loopg [3,4] (l.length+1) (fun gk nv iv wr=>∃(k:Nat) (n:Int),nv=.int .i64 n/\iv=.int .i64 k/\k<=l.length/\Hid (∀i,i<k->q6x (l.getD i zPt))/\Below w.heap.size w wr/\gk=l.length+1-k)
  case atStart=>exact⟨0,0,rfl,rfl,qc _,q7 (fun i hi=>absurd hi (Nat.not_lt_zero i)),qj _ _,rfl⟩
  case round=>
   obtain⟨k,n,rfl,rfl,hk,HF,hbl,rfl⟩:=hrel;have HBL:=q7 hbl;generalize wr=wo at*;clear hbl
   by_cases hlt:k<l.length
   ·have q9w:decide (k<l.length)=true:=by rw[decide_eq_true_iff];omega
    have hix:=jy (P:=Tryz.prog) 5 24 73 Tryz.underlying24 (by kernel_rfl) HD.out
    have q9a:=fun W kd=>hix W kd (k:Int) (by omega) (by omega)
    simp only[Int.toNat_natCast]at q9a;obtain⟨oo,oc,o1,c1,o2,c2,hcc,hs,hi1,hi2⟩:=HCO.out k hlt;have hbb:=HD.out.hblk (by omega)
    have hc5:∀c,c<5->wo.cell? ⟨bl,off+k*5+c,none⟩=some ((#[.int .i64 (l.getD k zPt).kind,.string (l.getD k zPt).text,.slice oo (l.getD k zPt).ops.length oc,.slice o1 (l.getD k zPt).lits.length c1,.slice o2 (l.getD k zPt).dists.length c2]:Array Value).getD c undef):=fun c hc=>(HBL.out.cell (p:=⟨bl,off+k*5+c,none⟩) hbb).trans (hcc c hc)
    obtain⟨p,hp⟩:∃p,p=l.getD k zPt:=⟨_,rfl⟩;rw[<-hp]at hc5 hs hi1 hi2;have HP:=q7 hp;have e1:wo.cell? ⟨bl,off+k*5+1,none⟩=some (.string p.text):=hc5 1 (by decide)
    have e2:wo.cell? ⟨bl,off+k*5+2,none⟩=some (.slice oo p.ops.length oc):=hc5 2 (by decide)
    have e3:wo.cell? ⟨bl,off+k*5+3,none⟩=some (.slice o1 p.lits.length c1):=hc5 3 (by decide)
    have e4:wo.cell? ⟨bl,off+k*5+4,none⟩=some (.slice o2 p.dists.length c2):=hc5 4 (by decide)
    have qhf:bl<wo.heap.size:=by have:=HBL.out.size;omega
    have HS:=q7 (fun(W:World) (hb:Below wo.heap.size wo W)=>hs.up (HBL.out.trans (hb.mono HBL.out.size)))
    clear hcc hs hi1 hi2 hix hc5 hp
    by_cases hf:q6x p
    ·obtain⟨ht,ho,hl,hdd⟩:=hf
     have ht1:decide ((p.text.size:Int)>70000)=false:=by rw[qm];omega
     have ho1:decide ((p.ops.length:Int)>400)=false:=by rw[qm];omega
     have hl1:decide ((p.lits.length:Int)>400)=false:=by rw[qm];omega
     have hd1:decide ((p.dists.length:Int)>400)=false:=by rw[qm];omega
     have HF2:Hid (∀i,i<k+1->q6x (l.getD i zPt)):=q7 (fun i hi=>by
      rcases Nat.lt_succ_iff_lt_or_eq.1 hi with h|rfl
      ·exact HF.out i h
      ·rw[<-HP.out];exact⟨ht,ho,hl,hdd⟩)
     clear HP;go_wp2
     go_loopg [3,5] (p.ops.length+1) (fun gk nv jv wr=>∃(j:Nat) (m:Int),nv=.int .i64 m/\jv=.int .i64 j/\j<=p.ops.length/\Below wo.heap.size wo wr/\gk=p.ops.length+1-j)
     case atStart=>exact⟨0,_,rfl,rfl,qc _,qj _ _,rfl⟩
     case round=>
      obtain⟨j,m,rfl,rfl,hj,hbw,rfl⟩:=hrel;have HBW:=q7 hbw;have g2:wr.cell? ⟨bl,off+k*5+2,none⟩=some (.slice oo p.ops.length oc):=(hbw.cell (p:=⟨bl,off+k*5+2,none⟩) qhf).trans e2;have qhe:bl<wr.heap.size:=qd qhf hbw.size;clear hbw
      by_cases q9x:j<p.ops.length
      ·have qbz:decide (j<p.ops.length)=true:=by rw[decide_eq_true_iff];omega
       obtain⟨oo',oc',ob',off',hv',hdo,hco⟩:=cP (HS.out wr HBW.out)
       obtain⟨rfl,rfl⟩:oo=oo'/\oc=oc':=by
        injection hv' with e1 e2 e3;exact⟨e1,e3⟩
       have hix:=jy (P:=Tryz.prog) 3 65 64 Tryz.underlying65 (by kernel_rfl) hdo
       have qcS:=fun W kd=>hix W kd (j:Int) (by omega) (by omega)
       simp only[Int.toNat_natCast]at qcS;have hc1:wr.cell? ⟨ob',off'+j*3+1,none⟩=some (.int .i64 p.ops[j].len):=hco j q9x 1 (by decide)
       have hbo:=hdo.hblk (by omega)
       generalize p.ops[j].len=on at*
       have hor:decide (on>0)=false\/(decide (on>0)=true/\decide (on<300)=false)\/(decide (on>0)=true/\decide (on<300)=true):=by
        simp only[decide_eq_true_eq,qm];omega
       clear hco hix hdo hv'
       rcases hor with h1|⟨h1,h2⟩|⟨h1,h2⟩<;>
       ·go_wp2
        go_roundg (p.ops.length+1-(j+1))
        case measure=>omega
        case rel=>exact⟨j+1,_,rfl,by go_num,by omega,HBW.out,rfl⟩
      ·have qbz:decide (j<p.ops.length)=false:=by rw[qm];omega
       go_wp2
       go_roundg (l.length+1-(k+1))
       case measure=>omega
       case rel=>exact⟨k+1,m,rfl,by go_num,by omega,HF2,HBL.out.trans (HBW.out.mono HBL.out.size),rfl⟩
    ·have hor:decide ((p.text.size:Int)>70000)=true\/(decide ((p.text.size:Int)>70000)=false/\decide ((p.ops.length:Int)>400)=true)\/(decide ((p.text.size:Int)>70000)=false/\decide ((p.ops.length:Int)>400)=false/\decide ((p.lits.length:Int)>400)=true)\/(decide ((p.text.size:Int)>70000)=false/\decide ((p.ops.length:Int)>400)=false/\decide ((p.lits.length:Int)>400)=false/\decide ((p.dists.length:Int)>400)=true):=by
      simp only[decide_eq_true_eq,qm]
      apply qf
      intro hn
      exact hf ⟨by omega,by omega,by omega,by omega⟩
     clear hf
     rcases hor with h1|⟨h1,h2⟩|⟨h1,h2,h3⟩|⟨h1,h2,h3,h4⟩<;>
     ·go_wp2
      go_ret
      exact⟨-1,rfl,fun h=>absurd h (by decide),qt HBL.out⟩
   ·have q9w:decide (k<l.length)=false:=by rw[qm];omega
    go_wp2;go_ret
    exact⟨n,rfl,fun _=>⟨by omega,fun i hi=>HF.out i (by omega)⟩,qt HBL.out⟩
theorem q5l{w:World}{v:Value}{cs:List (List Value)}(h:SlK 5 w v cs)(hcs:∀c∈cs,q4O c)(hlen:cs.length<=100000):Calls Tryz.prog 10 #[v] w fun e w'=>∃v',e=.returned v'/\eK 5 w' w.heap.size 68 v' cs/\Below w.heap.size w w':=by
 obtain⟨oa,cap,bl,off,rfl,hd,hc⟩:=h;have hix:=jy (P:=Tryz.prog) 5 24 73 Tryz.underlying24 (by kernel_rfl) hd
 have HC:=q7 hc;have HBL:=q7 hd.hblk;have hm:=hd.len;have HCS:=q7 (fun i (hi:i<cs.length)=>hcs _ (List.getElem_mem hi))
 clear hd hc hcs
 go_enter Tryz.func10,Tryz.ntmps10
 go_wp2
 go_loopg [3,4] (cs.length+1) (fun gk vo iv wr=>∃k:Nat,iv=.int .i64 k/\k<=cs.length/\eK 5 wr w.heap.size 68 vo (cs.take k)/\Below w.heap.size w wr/\gk=cs.length+1-k)
 case atStart=>exact⟨0,rfl,qc _,eK.nil _ _ _ _,qj _ _,rfl⟩
 case round=>
  obtain⟨k,rfl,hk,hown,q8Z,rfl⟩:=hrel;have HO:=q7 hown;have HW:=q7 q8Z;have hsz:=q8Z.size;clear hown q8Z
  by_cases hlt:k<cs.length
  ·have q9w:decide (k<cs.length)=true:=by rw[decide_eq_true_iff];omega
   have hbl:=HBL.out (by omega)
   have qhe:bl<wr.heap.size:=by omega
   obtain⟨kd,tx,oo,no,co,o1,n1,c1,o2,n2,c2,hrow⟩:=HCS.out k hlt;have q9a:=fun W kd=>hix W kd (k:Int) (by omega) (by omega)
   simp only[Int.toNat_natCast]at q9a
   have hgd:cs.getD k []=[.int .i64 kd,.string tx,.slice oo no co,.slice o1 n1 c1,.slice o2 n2 c2]:=by
    rw[<-hrow];simp[List.getD,hlt]
   have hcell:∀c,c<5->wr.cell? ⟨bl,off+k*5+c,none⟩=some (([.int .i64 kd,.string tx,.slice oo no co,.slice o1 n1 c1,.slice o2 n2 c2]:List Value).getD c undef):=fun c hc=>by
    rw[HW.out.cell (p:=⟨bl,off+k*5+c,none⟩) hbl,HC.out k hlt c hc,hgd]
   have e0:wr.cell? ⟨bl,off+k*5,none⟩=some (.int .i64 kd):=hcell 0 (by decide)
   have e1:wr.cell? ⟨bl,off+k*5+1,none⟩=some (.string tx):=hcell 1 (by decide)
   have e2:wr.cell? ⟨bl,off+k*5+2,none⟩=some (.slice oo no co):=hcell 2 (by decide)
   have e3:wr.cell? ⟨bl,off+k*5+3,none⟩=some (.slice o1 n1 c1):=hcell 3 (by decide)
   have e4:wr.cell? ⟨bl,off+k*5+4,none⟩=some (.slice o2 n2 c2):=hcell 4 (by decide)
   have HTK:Hid (cs.take (k+1)=cs.take k++[[.int .i64 kd,.string tx,.slice oo no co,.slice o1 n1 c1,.slice o2 n2 c2]]):=q7 (by rw[List.take_succ_eq_append_getElem hlt,hrow])
   obtain⟨row,hrw⟩:∃row,row=u3.ownBlock:=⟨_,rfl⟩;have q97:=q7 hrw;have hne:some bl≠row:=fun e=>by have:=(HO.out.lt bl (by rw[<-hrw,<-e])).1;omega
   have hw0:w.heap.size<=wr.drew.heap.size:=hsz;have HT4:Hid (w.heap.size<=(wr.drew.alloc (.cells #[.int .i64 kd,.string tx,.slice oo no co,.slice o1 n1 c1,.slice o2 n2 c2] 68)).heap.size):=q7 (qa hw0 (qn wr.drew _).size);have HTO:=q7 ((HO.out.up (qS (qj _ _))).up (qn wr.drew (.cells #[.int .i64 kd,.string tx,.slice oo no co,.slice o1 n1 c1,.slice o2 n2 c2] 68)));have hsl:=iY 5 wr.drew #[.int .i64 kd,.string tx,.slice oo no co,.slice o1 n1 c1,.slice o2 n2 c2] 68 [[.int .i64 kd,.string tx,.slice oo no co,.slice o1 n1 c1,.slice o2 n2 c2]] rfl (by intro x hx;simp at hx;subst hx;rfl) (by simp)
   have HSL:Hid (SlK 5 (wr.drew.alloc (.cells #[.int .i64 kd,.string tx,.slice oo no co,.slice o1 n1 c1,.slice o2 n2 c2] 68)) (.slice (some ⟨wr.heap.size,0,none⟩) 1 1) [[.int .i64 kd,.string tx,.slice oo no co,.slice o1 n1 c1,.slice o2 n2 c2]]):=q7 (by simpa using hsl)
   have HK5:Hid (∀x∈[[Value.int .i64 kd,.string tx,.slice oo no co,.slice o1 n1 c1,.slice o2 n2 c2]],x.length=5):=q7 (by intro x hx;simp at hx;subst hx;rfl)
   have H1C:Hid (∀u∈[[Value.int .i64 kd,.string tx,.slice oo no co,.slice o1 n1 c1,.slice o2 n2 c2]].flatten,u.oneCell'=true):=q7 (by intro u hu;simp at hu;rcases hu with rfl|rfl|rfl|rfl|rfl<;>rfl)
   have HLN:Hid ((cs.take k).length+[[Value.int .i64 kd,.string tx,.slice oo no co,.slice o1 n1 c1,.slice o2 n2 c2]].length<=1000000000):=q7 (by rw[List.length_take,List.length_singleton];omega)
   clear hcell hgd hrow hix hrw hsl hw0;go_wp2;refine jw (fun w'=>∃x,w'=chg wr row x) [0,1,2,3,4,5,6,7,8,9,10,11,12,13,14,15,16,17,18,19,20,21,22,23,24,25,26] [27,28] [29] (by kernel_rfl) (by kernel_rfl) (qW (qV _ _)) ?_
   simp only[pk]
   repeat(go_big_quiet_step (fail))
   refine wpQuiet_nil ?_
   (unfold qy;go_wp2;refine⟨qW (qv (by repeat(first|exact qj _ _|assumption|refine qw ?_ _|refine qk ?_|refine qA ?_ _|refine qs ?_ _)) _),?_⟩)
   unfold qy
   go_wp2_with(at_builtin;refine lY 5 rfl (.tmp 11) (.tmp 38) 30 rfl w.heap.size 68 (.agg #[.int .i64 0,.string ⟨#[]⟩,.slice none 0 0,.slice none 0 0,.slice none 0 0]) 96 Tryz.underlying30 (by kernel_rfl) rfl (by decide) (by decide) u3 _ rfl HTO.out _ _ rfl HSL.out HK5.out H1C.out HLN.out HT4.out ?_;intro v' w5 hown1 hg1 hk1;rw[<-q97.out]at hg1;have HO1:=q7 hown1;have HG1:=q7 hg1;clear hown1 hg1 hk1)
   refine⟨qW (qp (qv (by repeat(first|exact qj _ _|assumption|refine qw ?_ _|refine qk ?_|refine qA ?_ _|refine qs ?_ _)) _) HG1.out),?_⟩
   unfold qy;have HB5:Hid (Below w.heap.size w w5):=q7 ((qS (HW.out.alloc hsz (.cells #[.int .i64 kd,.string tx,.slice oo no co,.slice o1 n1 c1,.slice o2 n2 c2] 68))).grown HG1.out HT4.out (fun q e=>(HO.out.lt q (by rw[<-q97.out];exact e)).1))
   unfold qy;go_wp2;refine⟨trivial,?_⟩;unfold qy;go_wp2
   go_roundg (cs.length+1-(k+1))
   case measure=>omega
   case rel=>exact⟨k+1,by go_num,by omega,by rw[HTK.out];exact HO1.out,HB5.out,rfl⟩
  ·have q9w:decide (k<cs.length)=false:=by rw[qm];omega
   obtain rfl:k=cs.length:=by omega
   go_wp2;go_ret;refine⟨u3,rfl,?_,HW.out⟩;have h:=HO.out
   rwa [List.take_length]at h
theorem q1k{w:World}{v:Value}{l:List PtN}(h:js w v l)(hlen:l.length<=100000):Calls Tryz.prog 10 #[v] w fun e w'=>∃v',e=.returned v'/\js w' v' l/\Below w.heap.size w w':=by
 obtain⟨cs,h1,h2,h3,h4⟩:=h.rows;refine(q5l h1 h4 (by omega)).mono ?_
 rintro e w' ⟨v',rfl,ho,hb⟩
 exact⟨v',rfl,⟨cs,ho.sl,h2,fun i hi=>(h3 i hi).up hb⟩,hb⟩
def q81(l:List PtN)(h:GH)(w:World)(e:Ending)(w':World):Prop:=∃b:Bool,e=.returned (.bool b)/\(b=true->zJ l/\q27 h)/\∃x,w'=ext w x
theorem q6U{w:World}{v:Value}{l:List PtN}{h:GH}(hp:js w v l):Calls Tryz.prog 7 #[.agg (ghC h),v] w (q81 l h w):=by
 have q9f:=qn w (.cells (ghC h) 23);have HB0:=q7 q9f;have hox:=qE w w.heap.size (ghC h) 23 (by simp[ghC]) (q9 _)
 have hC9:(ghC h).size=9:=rfl;rw[hC9]at hox;have HBX:=q7 hox;have HPA:=q7 (hp.up q9f);obtain⟨oa,cap,bl,off,rfl,hd,-⟩:=hp.open;have e0:w.alloc (.cells (ghC h) 23)=w.alloc (.cells #[.int .i64 h.time,.string h.extra,.string h.name,.string h.note,.int .i64 h.level,.int .i64 h.os,.bool h.text,.bool h.sum,.int .i64 h.flags] 23):=rfl;clear hd hp hox q9f;unfold ghC
 go_enter Tryz.func7,Tryz.ntmps7
 go_upto_region 1 with(fail)
 rw[<-e0];clear e0;generalize w.alloc (.cells (ghC h) 23)=w1 at*;have HB:=q7 (q4P HPA.out)
 go_upto_region 2 with(go_at_call 23;(with_reducible refine HB.out.mono ?_);rintro e w2 ⟨n,rfl,hn,x1,rfl⟩;have hb1:=qu w1 x1;have HN:=q7 hn;have HB1:=q7 (qq HB0.out hb1);have HX1:=q7 (HBX.out.up hb1);clear hn hb1)
 generalize ext w1 x1=w2 at*;obtain⟨d0,d1,d2,d3,d4,d5,d6,d7,d8⟩:=bZ HX1.out;have hlt:=HX1.out.blk.2;clear d0 d4 d5 d6 d7 d8;generalize hxe:h.extra=ex at*;generalize hxn:h.name=nm at*;generalize hxt:h.note=nt at*;have HH:Hid (ex.size<=70000->nm.size<=2000->nt.size<=2000->q27 h):=q7 (by intro a b c;exact⟨by rw[hxe];exact a,by rw[hxn];exact b,by rw[hxt];exact c⟩)
 clear hxe hxn hxt
 by_cases h1:0<=n
 ·have c1:decide (n≥0)=true:=decide_eq_true h1
  have HN2:=q7 (HN.out h1)
  by_cases h2:n<=100000
  ·have c2:decide (n<=100000)=true:=decide_eq_true h2
   by_cases h3:ex.size<=70000
   ·have c3:decide ((ex.size:Int)<=70000)=true:=decide_eq_true (by omega)
    by_cases h4:nm.size<=2000
    ·have c4:decide ((nm.size:Int)<=2000)=true:=decide_eq_true (by omega)
     by_cases h5:nt.size<=2000
     ·have c5:decide ((nt.size:Int)<=2000)=true:=decide_eq_true (by omega)
      go_wp2;go_ret
      exact⟨true,rfl,fun _=>⟨HN2.out,HH.out h3 h4 h5⟩,qt HB1.out⟩
     ·have c5:decide ((nt.size:Int)<=2000)=false:=decide_eq_false (by omega)
      go_wp2;go_ret
      exact⟨false,rfl,fun h=>(by cases h),qt HB1.out⟩
    ·have c4:decide ((nm.size:Int)<=2000)=false:=decide_eq_false (by omega)
     go_wp2;go_ret
     exact⟨false,rfl,fun h=>(by cases h),qt HB1.out⟩
   ·have c3:decide ((ex.size:Int)<=70000)=false:=decide_eq_false (by omega)
    go_wp2;go_ret
    exact⟨false,rfl,fun h=>(by cases h),qt HB1.out⟩
  ·have c2:decide (n<=100000)=false:=decide_eq_false h2
   go_wp2;go_ret
   exact⟨false,rfl,fun h=>(by cases h),qt HB1.out⟩
 ·have c1:decide (n≥0)=false:=decide_eq_false h1
  go_wp2;go_ret
  exact⟨false,rfl,fun h=>(by cases h),qt HB1.out⟩
end Go.Cm
namespace Go.Cm
open Go.RowKit Go.Proofs Go.WideShapes Go.ChangeShapes Go.Deep
section
variable {H : Type} {enc : TypeId × Value → H} {P : Program}
end
section
variable {H : Type} {enc : TypeId × Value → H} {P : Program} {w : World} {base : Nat} {held : Bool}
theorem oE{t e:TypeId}{elems spare:List (DataW H)}(hu:P.underlying t=some (.slice e)):(DataW.slice elems spare).weights P t=(elems.length+spare.length)*P.bytesOf e::(DataW.weightsAll P e elems++DataW.weightsAll P e spare):=by
 simp[DataW.weights,hu]
theorem gA{e:TypeId}{d:DataW H}:∀{l:List (DataW H)},d∈l->∀n∈d.weights P e,n∈DataW.weightsAll P e l
 |a::l,h,n,hn=>by
  simp only[DataW.weightsAll,List.mem_append]
  rcases List.mem_cons.1 h with rfl|h
  ·exact .inl hn
  ·exact .inr (gA h n hn)
theorem xZ(b off j:Nat):(⟨b,off,none⟩:Addr).add j=⟨b,off+j,none⟩:=by unfold Addr.add;split<;>simp_all
theorem q5T{t e:TypeId}{fuel:Nat}{cs:List Value}{x:DataW H×List MemPlace}(ht:P.underlying t=some (.slice e))(hc:P.cellsOf e=1)(hb:1<=P.bytesOf e)(h:DataW.trod enc P w base (fun _=>true) held fuel t cs=some x)(hw:∀n∈x.1.weights P t,n<=reachBytes):
  ∃(oa:Option Addr) (len cap b off:Nat) (V:Nat->Value) (D:Nat->DataW H),cs=[.slice oa len cap]/\Hd w oa len cap b off/\∀i,i<len->w.cell? ⟨b,off+i,none⟩=some (V i)/\(∃n p,DataW.trod enc P w base (fun _=>true) held n e [V i]=some (D i,p))/\∀n∈(D i).weights P e,n<=reachBytes:=by
 rcases open_slice1 ht hc h with⟨rfl,-⟩|⟨a,len,cap,m,n,V,D,Pl,rfl,-,hl,hm,hmm,rfl,hx⟩
 ·exact⟨none,0,0,0,0,fun _=>undef,fun _=>.nil,rfl,⟨fun h=>absurd h (Nat.lt_irrefl 0),q9 _,by simp[maxLen],by simp,fun h=>absurd h (Nat.lt_irrefl 0)⟩,fun i hi=>absurd hi (Nat.not_lt_zero i)⟩
 ·simp only[if_true]at hmm
  subst hmm;have hwt:=oE (P:=P) (elems:=(List.range len).map D) (spare:=(List.range (m-len)).map fun j=>D (len+j)) ht
  simp only at hw;rw[hwt]at hw;have h1:=hw _ (List.mem_cons_self ..);simp only[List.length_map,List.length_range]at h1;have h2:m*1<=(len+(m-len))*P.bytesOf e:=Nat.mul_le_mul (by omega) hb
  rw[oF]at h1;obtain⟨ab,ao,asp⟩:=a
  have hsp:0<len->asp=none:=fun h0=>by
   have h3:=(hx 0 (by omega)).1
   simpa[Addr.add]using World.cell?_spot h3
  refine⟨some ⟨ab,ao,asp⟩,len,m,ab,ao,V,D,rfl,⟨fun h0=>by rw[hsp h0],hl,hm,by omega,fun h0=>?_⟩,fun i hi=>⟨?_,⟨n,Pl i,(hx i (by omega)).2⟩,fun k hk=>hw k (List.mem_cons_of_mem _ (List.mem_append_left _ (gA (List.mem_map.2 ⟨i,List.mem_range.2 hi,rfl⟩) k hk)))⟩⟩
  ·have h3:=(hx 0 (by omega)).1
   have:=World.block_lt_of_cell? _ _ h3
   simpa[Addr.add]using this
  ·have h3:=(hx i (by omega)).1
   have h4:=hsp (by omega)
   subst h4
   rwa [xZ]at h3
theorem tL{t e:TypeId}{fuel:Nat}{cs:List Value}{x:DataW H×List MemPlace}(ht:P.underlying t=some (.slice e))(he:P.underlying e=some (.int .i64))(hc:P.cellsOf e=1)(hb:1<=P.bytesOf e)
  (h:DataW.trod enc P w base (fun _=>true) held fuel t cs=some x) (hw:∀n∈x.1.weights P t,n<=reachBytes):∃v l,cs=[v]/\qT w v l:=by
 obtain⟨oa,len,cap,b,off,V,D,rfl,hd,hx⟩:=q5T ht hc hb h hw
 have hV:∀i,i<len->∃z:Int,V i=.int .i64 z:=fun i hi=>by
  obtain⟨-,⟨n,p,h2⟩,-⟩:=hx i hi;obtain⟨k,e1,-,-⟩:=DataW.trod_int he h2
  exact⟨k,by simpa using e1⟩
 obtain⟨Z,hZ⟩:=choose_lt hV;refine⟨_,(List.range len).map Z,rfl,?_⟩;have hl:(ints ((List.range len).map Z)).length=len:=by simp
 refine⟨oa,cap,b,off,by rw[hl],by rw[hl];exact hd,fun i hi=>?_⟩
 rw[hl]at hi;rw[(hx i hi).1,hZ i hi,eV _ _ (by simpa using hi)]
 simp[List.getD,hi]
end
section
variable {H : Type} {enc : TypeId × Value → H} {w : World} {base : Nat} {held : Bool}
end
end Go.Cm
namespace Go.Cm
open Go.RowKit Go.Proofs Go.WideShapes Go.ChangeShapes Go.Deep
section
variable {H : Type} {enc : TypeId × Value → H} {P : Program} {w : World} {base : Nat} {held : Bool}
theorem yA{t e:TypeId}{fuel:Nat}{cs:List Value}{x:DataW H×List MemPlace}(k:Nat)(hk:0<k)(ht:P.underlying t=some (.slice e))(hc:P.cellsOf e=k)(hb:1<=P.bytesOf e)(h:DataW.trod enc P w base (fun _=>true) held fuel t cs=some x)(hw:∀n∈x.1.weights P t,n<=reachBytes):
  ∃(oa:Option Addr) (len cap b off:Nat) (C:Nat->List Value) (D:Nat->DataW H),cs=[.slice oa len cap]/\Hd w oa len cap b off/\∀i,i<len->(C i).length=k/\(∀c,c<k->w.cell? ⟨b,off+i*k+c,none⟩=some ((C i).getD c undef))/\(∃n p,DataW.trod enc P w base (fun _=>true) held n e (C i)=some (D i,p))/\∀n∈(D i).weights P e,n<=reachBytes:=by
 rcases open_slice ht h with⟨rfl,-⟩|⟨a,len,cap,m,n,D,Pl,rfl,-,hl,hm,hmm,rfl,hx⟩
 ·exact⟨none,0,0,0,0,fun _=>[],fun _=>.nil,rfl,⟨fun h=>absurd h (Nat.lt_irrefl 0),q9 _,by simp[maxLen],by simp,fun h=>absurd h (Nat.lt_irrefl 0)⟩,fun i hi=>absurd hi (Nat.not_lt_zero i)⟩
 ·simp only[if_true]at hmm
  subst hmm;rw[hc]at hx;have hwt:=oE (P:=P) (elems:=(List.range len).map D) (spare:=(List.range (m-len)).map fun j=>D (len+j)) ht
  simp only at hw;rw[hwt]at hw;have h1:=hw _ (List.mem_cons_self ..);simp only[List.length_map,List.length_range]at h1;have h2:m*1<=(len+(m-len))*P.bytesOf e:=Nat.mul_le_mul (by omega) hb
  rw[oF]at h1
  have hx2:∀i,i<m->∃cs',cs'.length=k/\(∀c,c<k->w.cell? ((a.add (i*k)).add c)=some (cs'.getD c undef))/\DataW.trod enc P w base (fun _=>true) held n e cs'=some (D i,Pl i):=fun i hi=>by
   obtain⟨cs',h3,h4⟩:=hx i hi;obtain⟨_,hlen,hcell⟩:=World.cells?_some h3;refine⟨cs',hlen,fun c hcl=>?_,h4⟩
   rw[hcell c (by omega)]
   simp[List.getD,show c<cs'.length by omega]
  obtain⟨C,hC⟩:=choose_lt hx2;obtain⟨ab,ao,asp⟩:=a
  have hsp:0<len->asp=none:=fun h0=>by
   have h3:=(hC 0 (by omega)).2.1 0 hk
   rw[Nat.zero_mul]at h3
   simpa[Addr.add]using World.cell?_spot h3
  refine⟨some ⟨ab,ao,asp⟩,len,m,ab,ao,C,D,rfl,⟨fun h0=>by rw[hsp h0],hl,hm,by omega,fun h0=>?_⟩,fun i hi=>⟨(hC i (by omega)).1,fun c hcl=>?_,⟨n,Pl i,(hC i (by omega)).2.2⟩,fun k hk=>hw k (List.mem_cons_of_mem _ (List.mem_append_left _ (gA (List.mem_map.2 ⟨i,List.mem_range.2 hi,rfl⟩) k hk)))⟩⟩
  ·have h3:=(hC 0 (by omega)).2.1 0 hk
   have:=World.block_lt_of_cell? _ _ h3
   simpa[Addr.add]using this
  ·have h3:=(hC i (by omega)).2.1 c hcl
   have h4:=hsp (by omega)
   subst h4;rw[xZ,xZ]at h3
   exact h3
end
theorem q8l{α:Type}{l:List α}(h:l.length=3):∃a b c,l=[a,b,c]:=by
 match l,h with
 |[a,b,c],_=>exact⟨a,b,c,rfl⟩
theorem q8m{α:Type}{l:List α}(h:l.length=5):∃a b c d e,l=[a,b,c,d,e]:=by
 match l,h with
 |[a,b,c,d,e],_=>exact⟨a,b,c,d,e,rfl⟩
end Go.Cm
namespace Go.Cm
open Go.RowKit Go.Proofs Go.WideShapes Go.ChangeShapes Go.Deep
section
variable {H : Type} {enc : TypeId × Value → H} {w : World} {base : Nat} {held : Bool}
theorem q5U{fuel:Nat}{cs:List Value}{y:DataW H×List MemPlace}(h:DataW.trod enc Tryz.prog w base (fun _=>true) held fuel 64 cs=some y)(hl:cs.length=3):
  ∃x:OpN,cs=opV x/\pL x:=by
 obtain⟨xs,n,-,-,-,hxl,hg⟩:=DataW.trod_struct Tryz.underlying64 h
 match xs,hxl with
 |[x0,x1,x2],_=>
  have h0:=hg 0 _ rfl;have h1:=hg 1 _ rfl;have h2:=hg 2 _ rfl;have c3:Tryz.prog.cellsOf 3=1:=by kernel_rfl
  have cb:Tryz.prog.cellsOf 5=1:=by kernel_rfl
  simp only[List.getElem?_cons_zero,List.getElem?_cons_succ]at h0 h1 h2
  change DataW.trod enc Tryz.prog w base (fun _=>true) held n 5 ((cs.drop 0).take (Tryz.prog.cellsOf 5))=some x0 at h0
  change DataW.trod enc Tryz.prog w base (fun _=>true) held n 3 ((cs.drop 1).take (Tryz.prog.cellsOf 3))=some x1 at h1
  change DataW.trod enc Tryz.prog w base (fun _=>true) held n 3 ((cs.drop 2).take (Tryz.prog.cellsOf 3))=some x2 at h2
  obtain⟨k0,e0,-,f0⟩:=DataW.trod_int Tryz.underlying5 h0;obtain⟨k1,e1,-,f1⟩:=DataW.trod_int Tryz.underlying3 h1;obtain⟨k2,e2,-,f2⟩:=DataW.trod_int Tryz.underlying3 h2;rw[cb]at e0;rw[c3]at e1 e2;have g0:0<=k0/\k0<=255:=by simpa[Lit.wf,IntKind.min,IntKind.max,IntKind.signed,IntKind.bits]using f0
  have g1: -9223372036854775808<=k1/\k1<=9223372036854775807:=by simpa[Lit.wf,IntKind.min,IntKind.max,IntKind.signed,IntKind.bits]using f1
  have g2: -9223372036854775808<=k2/\k2<=9223372036854775807:=by simpa[Lit.wf,IntKind.min,IntKind.max,IntKind.signed,IntKind.bits]using f2
  obtain⟨q0,q1,q2,rfl⟩:=q8l hl
  simp at e0 e1 e2
  subst e0 e1 e2;obtain⟨m,rfl⟩:=Int.eq_ofNat_of_zero_le g0.1
  exact⟨⟨m,k1,k2⟩,rfl,⟨by show m<256;omega,g1.1,g1.2,g2.1,g2.2⟩⟩
theorem q3J{fuel:Nat}{cs:List Value}{x:DataW H×List MemPlace}(h:DataW.trod enc Tryz.prog w base (fun _=>true) held fuel 65 cs=some x)(hw:∀n∈x.1.weights Tryz.prog 65,n<=reachBytes):∃(v:Value) (l:List OpN),cs=[v]/\SlK 3 w v (l.map opV)/\∀z∈l,pL z:=by
 have c6:Tryz.prog.cellsOf 64=3:=by kernel_rfl
 have b6:Tryz.prog.bytesOf 64=24:=by kernel_rfl
 obtain⟨oa,len,cap,b,off,C,D,rfl,hd,hx⟩:=yA 3 (by decide) Tryz.underlying65 c6 (by rw[b6];decide) h hw
 have hN:∀i,i<len->∃z:OpN,C i=opV z/\pL z:=fun i hi=>by
  obtain⟨hl,-,⟨n,p,h2⟩,-⟩:=hx i hi
  exact q5U h2 hl
 obtain⟨Z,hZ⟩:=choose_lt hN;refine⟨_,(List.range len).map Z,rfl,⟨oa,cap,b,off,by simp,by simpa using hd,fun i hi c hcl=>?_⟩,fun z hz=>?_⟩
 ·have hi':i<len:=by simpa using hi
  rw[(hx i hi').2.1 c hcl,(hZ i hi').1]
  simp[List.getD,hi']
 ·obtain⟨i,hi,rfl⟩:=List.mem_map.1 hz
  exact(hZ i (List.mem_range.1 hi)).2
theorem D8{fuel:Nat}{cs:List Value}{y:DataW H×List MemPlace}(h:DataW.trod enc Tryz.prog w base (fun _=>true) held fuel 73 cs=some y)(hl:cs.length=5)(hw:∀n∈y.1.weights Tryz.prog 73,n<=reachBytes):
  ∃p:PtN,fW w cs p/\yT p/\∀o∈p.ops,pL o:=by
 obtain⟨xs,n,-,hx,-,hxl,hg⟩:=DataW.trod_struct Tryz.underlying73 h
 match xs,hxl with
 |[x0,x1,x2,x3,x4],_=>
  have h0:=hg 0 _ rfl;have h1:=hg 1 _ rfl;have h2:=hg 2 _ rfl;have h3:=hg 3 _ rfl;have h4:=hg 4 _ rfl;have c3:Tryz.prog.cellsOf 3=1:=by kernel_rfl
  have b3:Tryz.prog.bytesOf 3=8:=by kernel_rfl
  have cS:Tryz.prog.cellsOf 9=1:=by kernel_rfl
  have cO:Tryz.prog.cellsOf 65=1:=by kernel_rfl
  have cI:Tryz.prog.cellsOf 66=1:=by kernel_rfl
  simp only[List.getElem?_cons_zero,List.getElem?_cons_succ]at h0 h1 h2 h3 h4
  change DataW.trod enc Tryz.prog w base (fun _=>true) held n 3 ((cs.drop 0).take (Tryz.prog.cellsOf 3))=some x0 at h0
  change DataW.trod enc Tryz.prog w base (fun _=>true) held n 9 ((cs.drop 1).take (Tryz.prog.cellsOf 9))=some x1 at h1
  change DataW.trod enc Tryz.prog w base (fun _=>true) held n 65 ((cs.drop 2).take (Tryz.prog.cellsOf 65))=some x2 at h2
  change DataW.trod enc Tryz.prog w base (fun _=>true) held n 66 ((cs.drop 3).take (Tryz.prog.cellsOf 66))=some x3 at h3
  change DataW.trod enc Tryz.prog w base (fun _=>true) held n 66 ((cs.drop 4).take (Tryz.prog.cellsOf 66))=some x4 at h4
  have hwx:∀n∈DataW.weightsEach Tryz.prog [3,9,65,66,66] [x0.1,x1.1,x2.1,x3.1,x4.1],n<=reachBytes:=fun k hk=>hw k (by
   rw[hx]
   simpa[DataW.weights,Tryz.underlying73]using hk)
  have hw1:∀n∈x1.1.weights Tryz.prog 9,n<=reachBytes:=fun k hk=>hwx k (DataW.weights_mem_each (j:=1) rfl rfl k hk)
  have hw2:∀n∈x2.1.weights Tryz.prog 65,n<=reachBytes:=fun k hk=>hwx k (DataW.weights_mem_each (j:=2) rfl rfl k hk)
  have hw3:∀n∈x3.1.weights Tryz.prog 66,n<=reachBytes:=fun k hk=>hwx k (DataW.weights_mem_each (j:=3) rfl rfl k hk)
  have hw4:∀n∈x4.1.weights Tryz.prog 66,n<=reachBytes:=fun k hk=>hwx k (DataW.weights_mem_each (j:=4) rfl rfl k hk)
  obtain⟨kd,e0,-,-⟩:=DataW.trod_int Tryz.underlying3 h0;obtain⟨s,e1,hs,-⟩:=DataW.trod_string Tryz.underlying9 h1;obtain⟨vo,lo,e2,ho,hok⟩:=q3J h2 hw2;obtain⟨u3,l3,e3,hl3⟩:=tL Tryz.underlying66 Tryz.underlying3 c3 (by rw[b3];decide) h3 hw3
  obtain⟨u4,l4,e4,hl4⟩:=tL Tryz.underlying66 Tryz.underlying3 c3 (by rw[b3];decide) h4 hw4
  have hsz:s.size<=140737488351232:=by
   have:=hw1 s.size (by rw[hs];simp[DataW.weights])
   rwa [oF]at this
  rw[c3]at e0;rw[cS]at e1;rw[cO]at e2;rw[cI]at e3 e4;obtain⟨q0,q1,q2,q3,q4,rfl⟩:=q8m hl
  simp at e0 e1 e2 e3 e4
  subst e0 e1 e2 e3 e4
  exact⟨⟨kd,s,lo,l3,l4⟩,⟨_,_,_,rfl,ho,hl3,hl4⟩,⟨fun o h=>(hok o h).lit,hsz⟩,hok⟩
theorem tM{k:Int}(h:(Lit.int .i64 k).wf=true): -9223372036854775808<=k/\k<9223372036854775808:=by
 have: -9223372036854775808<=k/\k<=9223372036854775807:=by simpa[Lit.wf,IntKind.min,IntKind.max,IntKind.signed,IntKind.bits]using h
 omega
theorem S7{fuel:Nat}{cs:List Value}{y:DataW H×List MemPlace}(h:DataW.trod enc Tryz.prog w base (fun _=>true) held fuel 23 cs=some y)(hl:cs.length=9):
  ∃x:GH,cs=(ghC x).toList/\X9 x:=by
 obtain⟨xs,n,-,-,-,hxl,hg⟩:=DataW.trod_struct Tryz.underlying23 h
 match xs,hxl with
 |[x0,x1,x2,x3,x4,x5,x6,x7,x8],_=>
  have h0:=hg 0 _ rfl;have h1:=hg 1 _ rfl;have h2:=hg 2 _ rfl;have h3:=hg 3 _ rfl;have h4:=hg 4 _ rfl;have h5:=hg 5 _ rfl;have h6:=hg 6 _ rfl;have h7:=hg 7 _ rfl;have h8:=hg 8 _ rfl;have c3:Tryz.prog.cellsOf 3=1:=by kernel_rfl
  have cs1:Tryz.prog.cellsOf 9=1:=by kernel_rfl
  have cb:Tryz.prog.cellsOf 4=1:=by kernel_rfl
  simp only[List.getElem?_cons_zero,List.getElem?_cons_succ]at h0 h1 h2 h3 h4 h5 h6 h7 h8
  change DataW.trod enc Tryz.prog w base (fun _=>true) held n 3 ((cs.drop 0).take (Tryz.prog.cellsOf 3))=some x0 at h0
  change DataW.trod enc Tryz.prog w base (fun _=>true) held n 9 ((cs.drop 1).take (Tryz.prog.cellsOf 9))=some x1 at h1
  change DataW.trod enc Tryz.prog w base (fun _=>true) held n 9 ((cs.drop 2).take (Tryz.prog.cellsOf 9))=some x2 at h2
  change DataW.trod enc Tryz.prog w base (fun _=>true) held n 9 ((cs.drop 3).take (Tryz.prog.cellsOf 9))=some x3 at h3
  change DataW.trod enc Tryz.prog w base (fun _=>true) held n 3 ((cs.drop 4).take (Tryz.prog.cellsOf 3))=some x4 at h4
  change DataW.trod enc Tryz.prog w base (fun _=>true) held n 3 ((cs.drop 5).take (Tryz.prog.cellsOf 3))=some x5 at h5
  change DataW.trod enc Tryz.prog w base (fun _=>true) held n 4 ((cs.drop 6).take (Tryz.prog.cellsOf 4))=some x6 at h6
  change DataW.trod enc Tryz.prog w base (fun _=>true) held n 4 ((cs.drop 7).take (Tryz.prog.cellsOf 4))=some x7 at h7
  change DataW.trod enc Tryz.prog w base (fun _=>true) held n 3 ((cs.drop 8).take (Tryz.prog.cellsOf 3))=some x8 at h8
  obtain⟨k0,e0,-,f0⟩:=DataW.trod_int Tryz.underlying3 h0;obtain⟨k1,e1,-,-⟩:=DataW.trod_string Tryz.underlying9 h1;obtain⟨k2,e2,-,-⟩:=DataW.trod_string Tryz.underlying9 h2;obtain⟨k3,e3,-,-⟩:=DataW.trod_string Tryz.underlying9 h3;obtain⟨k4,e4,-,f4⟩:=DataW.trod_int Tryz.underlying3 h4;obtain⟨k5,e5,-,f5⟩:=DataW.trod_int Tryz.underlying3 h5;obtain⟨k6,e6,-⟩:=DataW.trod_bool Tryz.underlying4 h6;obtain⟨k7,e7,-⟩:=DataW.trod_bool Tryz.underlying4 h7;obtain⟨k8,e8,-,f8⟩:=DataW.trod_int Tryz.underlying3 h8;rw[c3]at e0 e4 e5 e8;rw[cs1]at e1 e2 e3;rw[cb]at e6 e7;refine⟨⟨k0,k1,k2,k3,k4,k5,k6,k7,k8⟩,?_,tM f0,tM f4,tM f5,tM f8⟩
  have hq:∀i v,(cs.drop i).take 1=[v]->cs[i]? =some v:=fun i v e=>by
   have:=congrArg (fun l=>l[0]?) e
   simpa using this
  refine List.ext_getElem? fun i=>?_
  match i with
  |0=>rw[hq 0 _ e0];rfl
  |1=>rw[hq 1 _ e1];rfl
  |2=>rw[hq 2 _ e2];rfl
  |3=>rw[hq 3 _ e3];rfl
  |4=>rw[hq 4 _ e4];rfl
  |5=>rw[hq 5 _ e5];rfl
  |6=>rw[hq 6 _ e6];rfl
  |7=>rw[hq 7 _ e7];rfl
  |8=>rw[hq 8 _ e8];rfl
  |i+9=>rw[List.getElem?_eq_none (by omega),List.getElem?_eq_none (by show 9<=i+9;omega)]
end
end Go.Cm
