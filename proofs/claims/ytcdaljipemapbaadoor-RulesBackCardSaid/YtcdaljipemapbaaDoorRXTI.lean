/- Walks of functions and plain facts, joined and squeezed by a program. Conditions: as each says. -/
import Derived.Test.YtcdaljipemapbaaDoorRXTG
import Derived.Test.YtcdaljipemapbaaDoorRXTH
set_option maxHeartbeats 8000000
set_option maxRecDepth 100000
set_option linter.unusedSimpArgs false
namespace Go.Cm
theorem lM{p:UInt8->Bool}{b:qM}(hb:∀c,b.head?=some c->p c=false):qK p b=0:=by
 have:=aK (a:=[]) (b:=b) (by simp) hb
 simpa using this
theorem oT{n:qM}(h:a6 n=true):(∀c∈n,bE c=true)/\(∃c,n.head?=some c/\nB c=true)/\n.length<=16:=by
 unfold a6 at h;simp only[Bool.and_eq_true,decide_eq_true_eq]at h;obtain⟨h1,h2,h3,h4⟩:=h;refine⟨iF h3,?_,h4⟩
 cases n with
 |nil=>simp at h1
 |cons c n=>exact⟨c,rfl,h2⟩
theorem pS:∀c:Fin 256,nB (UInt8.ofFin c)=true->jm (UInt8.ofFin c)=false/\UInt8.ofFin c≠35/\dN (UInt8.ofFin c)=true:=by decide+kernel
theorem fL{c:UInt8}(h:nB c=true):jm c=false/\c≠35/\dN c=true:=pS c.toFin h
theorem pT:∀c:Fin 256,bE (UInt8.ofFin c)=true->dN (UInt8.ofFin c)=true:=by decide+kernel
theorem lR{c:UInt8}(h:bE c=true):dN c=true:=pT c.toFin h
theorem lS{l:List Rul}{x:Rul}(hx:nN x)(hn:x.1∉l.map (·.1))(h32:l.length<32)(a:Nat):jy l (x.1++[32,61,32]++x.2) a=(l++[x],[]):=by
 obtain⟨n,t⟩:=x;obtain⟨h1,⟨c,hc,hl⟩,h4⟩:=oT hx.nm
 dsimp only at*
 obtain⟨m,rfl⟩:∃m,n=c::m:=by
  cases n with
  |nil=>simp at hc
  |cons d m=>simp only[List.head?_cons,Option.some.injEq]at hc;exact⟨m,by rw[hc]⟩
 have hf0:qK jm (c::m++[32,61,32]++t)=0:=lM (fun d hd=>by
  simp only[List.cons_append,List.head?_cons,Option.some.injEq]at hd;rw[<-hd];exact(fL hl).1)
 have hin:qK bE (c::m++[32,61,32]++t)=(c::m).length:=by
  rw[qh]
  exact aK h1 (fun d hd=>by
   simp only[List.cons_append,List.head?_cons,Option.some.injEq]at hd;rw[<-hd];decide)
 have hbl:qK jm ((c::m++[32,61,32]++t).drop (c::m).length)=1:=by
  rw[qh,List.drop_left]
  exact aK (p:=jm) (a:=[32]) (b:=[61,32]++t) (by simp[jm]) (fun d hd=>by
   simp only[List.cons_append,List.head?_cons,Option.some.injEq]at hd;rw[<-hd];decide)
 have hdr:(c::m++[32,61,32]++t).drop ((c::m).length+1+1)=32::t:=by
  rw[Nat.add_assoc,qh,List.drop_append]
  simp
 have hb2:qK jm (32::t)=1:=aK (a:=[32]) (b:=t) (by simp[jm]) hx.hd
 have hgd:(c::m++[32,61,32]++t).getD ((c::m).length+1) 0=61:=by
  rw[qh,List.getD_eq_getElem?_getD,List.getElem?_append_right (by omega)]
  simp
 have zP:(c::m++[32,61,32]++t).drop ((c::m).length+1+1+1)=t:=by
  rw[<-List.drop_drop,hdr];rfl
 unfold jy;simp only[hf0,List.drop_zero,hin];have htk:(c::m++[32,61,32]++t).take (c::m).length=c::m:=by rw[qh,List.take_left]
 have hne:c::m++[32,61,32]++t≠[]:=by simp
 have hhd:(c::m++[32,61,32]++t).headD 0=c:=by simp
 rw[if_neg (by rw[hhd];exact fun h=>h.elim hne (fL hl).2.1),htk,if_neg (by rw[hx.nm];decide),Nat.zero_add,hbl,hgd,if_neg (by
  simp only[ne_eq,not_true_eq_false,or_false];simp only[qg,List.length_cons,List.length_nil];omega),if_neg (by
  rw[List.any_eq_true];rintro⟨y,hy,e⟩
  exact hn (List.mem_map.2 ⟨y,hy,by simpa using e⟩)),if_neg (by omega),hdr,hb2,zP,hx.tr,hx.ex,if_neg (by simp)]
theorem fM(x:Rul)(l:List Rul):j8 (x::l)=x.1++[32,61,32]++x.2++[10]++j8 l:=by simp[j8]
theorem fN{t:qM}:∀(r l:List Rul) (f a:Nat),jK (l++r)->l++r≠[]->t.drop a=j8 r->a<=t.length->t.length+1<=a+f->jz t f a l=(l++r,[])
 |_,_,0,a,_,_,_,ha,hf=>absurd hf (by omega)
 |[],l,f+1,a,h,hne,hd,ha,hf=>by
  have:t.length<=a:=by
   have:=congrArg List.length hd;simp only[List.length_drop,j8,List.flatMap_nil,List.length_nil]at this;omega
  unfold jz;rw[if_neg (by omega),List.append_nil,if_neg (by simpa using hne)]
 |x::r,l,f+1,a,h,hne,hd,ha,hf=>by
  have hx:=h.all x (by simp)
  have hlen:=congrArg List.length hd;rw[fM]at hd hlen;simp only[List.length_drop,qg,List.length_cons,List.length_nil]at hlen
  have hin:∀c∈x.1++[32,61,32]++x.2,dN c=true:=by
   intro c hc
   rcases List.mem_append.1 hc with hc|hc
   ·rcases List.mem_append.1 hc with hc|hc
    ·exact lR ((oT hx.nm).1 c hc)
    ·simp only[List.mem_cons,List.not_mem_nil,or_false]at hc
     rcases hc with rfl|rfl|rfl<;>decide
   ·unfold dN
    rw[bne_iff_ne];intro e
    exact hx.nl (e▸hc)
  have hn:qK dN (t.drop a)=(x.1++[32,61,32]++x.2).length:=by
   rw[hd,qh]
   exact aK hin (fun d hd=>by
    simp only[List.cons_append,List.head?_cons,Option.some.injEq]at hd;rw[<-hd];decide)
  have htk:(t.drop a).take (x.1++[32,61,32]++x.2).length=x.1++[32,61,32]++x.2:=by
   rw[hd];generalize x.1++[32,61,32]++x.2=y;rw[qh,List.take_left]
  have hnd:x.1∉l.map (·.1):=by
   have:=h.nd;rw[List.map_append,List.map_cons,List.nodup_append]at this;intro hm
   exact this.2.2 _ hm _ List.mem_cons_self rfl
  have zJ:l.length<32:=by
   have:=h.len;rw[qg,List.length_cons]at this;omega
  have e:l++x::r=(l++[x])++r:=by simp
  unfold jz;simp only[hn,htk,lS hx hnd zJ];rw[if_pos (by omega),if_neg (by simp),e]
  refine fN r (l++[x]) f _ (e▸h) (e▸hne) ?_ ?_ ?_
  ·have e2:a+(x.1++[32,61,32]++x.2).length+1=a+(x.1++[32,61,32]++x.2++[10]).length:=by
    rw[qg (ys:=[10])];rfl
   rw[e2,<-List.drop_drop,hd,List.drop_left]
  ·simp only[qg,List.length_cons,List.length_nil];omega
  ·simp only[qg,List.length_cons,List.length_nil];omega
theorem kD{l:List Rul}(h:jK l)(hne:l≠[])(hs:(j8 l).length<=8192):qU (j8 l)=(l,[]):=by
 unfold qU;rw[if_neg (by omega)]
 exact fN l [] _ 0 h hne rfl (qc _) (by omega)
end Go.Cm
namespace Go.Cm
open Go.RowKit Go.Proofs
theorem gE{s:qM}:∀(f a:Nat) (l:List Rul),(jz s f a l).2≠[]->(jz s f a l).1=[]
 |0,_,_,h=>absurd rfl h
 |f+1,a,l,h=>by
  unfold jz at h⊢;simp only at h⊢;split
  ·rename_i g
   rw[if_pos g]at h;split
   ·rfl
   ·rename_i g2
    rw[if_neg g2]at h
    exact gE f _ _ h
  ·rename_i g
   rw[if_neg g]at h;split
   ·rfl
   ·rename_i g2
    rw[if_neg g2]at h
    exact absurd rfl h
theorem kQ{s:qM}(h:(qU s).2≠[]):(qU s).1=[]:=by
 unfold qU at h⊢;split
 ·rfl
 ·rename_i g
  rw[if_neg g]at h
  exact gE _ _ _ h
theorem kR{w:World}{s:ByteArray}(hL:j6 w)(hT:jn w)(wF:s.size<=140737488351232):Calls Tryd.prog 4 #[.string s] w fun e w'=>e=.returned (.bool true)/\Below w.heap.size w w':=by
 have HK:Hid (∀W,Below w.heap.size w W->Calls Tryd.prog 6 #[] W fun e w'=>e=.returned (.bool true)/\∃x,w'=ext W x):=q9 (fun W hb=>hJ (hL.up hb) (hT.up hb))
 by_cases h4:s.size>4000
 ·have h4i:(s.size:Int)>4000:=by omega
  have HK0:=q9 (HK.out w (qi _ _));clear h4 hL hT HK
  go_enter Tryd.func4,Tryd.ntmps4
  go_wp2_with((with_reducible refine(HK0.out).mono ?_);rintro e w2 ⟨rfl,hx⟩;have HB:=q9 (qn hx);clear hx)
  go_ret
  exact⟨rfl,HB.out⟩
 ·have h4i:¬(s.size:Int)>4000:=by omega
  have HP:Hid (Calls Tryd.prog 11 #[.string s] w (jV (qU (bys s)).1 (qU (bys s)).2 w)):=q9 (dL hL hT (by omega))
  have vK:=gF (bys s);rw[qt]at vK;have hnone:=kQ (s:=bys s);have hok:=iH (s:=bys s);have hb2:=gG (bys s);generalize qU (bys s)=R at*;obtain⟨ls,b⟩:=R;simp only at HP vK hnone hok hb2;have HDP:Hid (∀W u,Below w.heap.size w W->qQ W b u->Calls Tryd.prog 12 #[.agg #[u]] W fun e w'=>e=.returned (.int .i64 (b.length:Nat))/\∃x,w'=ext W x):=q9 (fun W u hb h=>mP (hL.up hb) ⟨u,rfl,h⟩ (by omega))
  by_cases hb0:b=[]
  ·subst hb0
   obtain⟨hrk,hne⟩:=hok rfl;have hlen:=hrk.len;have HD:Hid (∀W u,Below w.heap.size w W->qQ W [] u->Calls Tryd.prog 12 #[.agg #[u]] W fun e w'=>e=.returned (.int .i64 0)/\∃x,w'=ext W x):=HDP
   have hz:∀x∈ls,x.1.length<=8192/\x.2.length<=8192:=fun x hx=>by have:=vK x hx;omega
   have HSH:Hid (∀W v,SlK 2 W v (ls.map aP)->Calls Tryd.prog 7 #[v] W fun e w'=>e=.returned (.string ⟨(j8 ls).toArray⟩)/\∃x,w'=ext W x):=q9 (fun W v h=>rT h (by omega) hz)
   have HSM:Hid (∀W v u,SlK 2 W v (ls.map aP)->SlK 2 W u (ls.map aP)->Calls Tryd.prog 13 #[v,u] W fun e w'=>e=.returned (.bool true)/\∃x,w'=ext W x):=q9 (fun W v u h1 h2=>by
    have h:=tC h1 h2 (by omega) (by omega)
    rw[beq_self_eq_true]at h
    exact h)
   have yE:(j8 ls).length<=1000000:=by
    have:∀l:List Rul,(∀x∈l,x.1.length<=8192/\x.2.length<=8192)->(j8 l).length<=l.length*20000:=by
     intro l
     induction l with
     |nil=>intro _;exact qc _
     |cons x l ih=>
      intro h;have h1:=ih (fun y hy=>h y (List.mem_cons_of_mem _ hy))
      have h2:=h x List.mem_cons_self;rw[fM];simp only[qg,List.length_cons,List.length_nil];omega
    have h1:=this ls hz;omega
   have hback:=kD hrk hne;obtain⟨t,ht⟩:∃t:ByteArray,t=⟨(j8 ls).toArray⟩:=⟨_,rfl⟩;have htb:bys t=j8 ls:=by rw[ht,jr]
   have hts:t.size=(j8 ls).length:=by rw[<-qt,htb]
   rw[<-ht]at HSH
   have HP2:Hid (∀W,Below w.heap.size w W->Calls Tryd.prog 11 #[.string t] W (jV (qU (j8 ls)).1 (qU (j8 ls)).2 W)):=q9 (fun W hb=>by
    have:=dL (s:=t) (hL.up hb) (hT.up hb) (by omega)
    rw[htb]at this;exact this)
   by_cases ht8:t.size>8192
   ·have zD:(t.size:Int)>8192:=by omega
    generalize qU (j8 ls)=R2 at*;obtain⟨l2,b2⟩:=R2;simp only at HP2;clear hL hT h4 HDP hnone hok hb2 vK hrk hne hlen hz yE hback ht htb hts ht8
    go_enter Tryd.func4,Tryd.ntmps4
    go_wp2_with(first
     |(go_at_call 11;(with_reducible refine(HP.out).mono ?_);rintro e wa ⟨v0,x,rfl,hli,⟨u0,rfl,hu⟩,hb⟩;have HB:=q9 hb;have HV0:=q9 hli;have HE0:=q9 hu;have vO:=q9 (jl wa 32);clear hli hu hb)
     |(refine qA rfl (.tmp 4) (.tmp 16) rfl wa.heap.size wa.heap.size rfl _ u0 rfl HE0.out.one vO.out ?_;intro wb ho hg;obtain⟨hk,hb⟩:=KnB.put HE0.out ho hg;have HV0:=q9 (qJ.up HV0.out hb);have HK1:=q9 hk;have HB:=q9 (HB.out.trans (hb.mono HB.out.size));clear ho hg hk hb)
     |(refine jU rfl (.tmp 4) rfl wa.heap.size wa.heap.size rfl _ HK1.out.box ?_)
     |(go_at_call 12;(with_reducible refine(HD.out _ _ HB.out HK1.out.err).mono ?_);rintro e wc ⟨rfl,hx⟩;have hb:=qn hx;have HV0:=q9 (qJ.up HV0.out hb);have HB:=q9 (HB.out.trans (hb.mono HB.out.size));clear hx hb)
     |(go_at_call 7;(with_reducible refine(HSH.out _ _ (qJ.sl HV0.out)).mono ?_);rintro e wd ⟨rfl,hx⟩;have hb:=qn hx;have HB:=q9 (HB.out.trans (hb.mono HB.out.size));clear hx hb))
    (with_reducible refine(HP2.out _ HB.out).mono ?_);rintro e we ⟨v1,x1,rfl,hli,⟨u1,rfl,hu⟩,hb⟩;have HB:=q9 (HB.out.trans (hb.mono HB.out.size));have HE1:=q9 hu;have wN:=q9 (jl we 32);clear hli hu hb
    clear HP HP2 HD HSH HSM vO HE0 HV0 HK1
    go_wp2_with(refine qA rfl (.tmp 7) (.tmp 32) rfl we.heap.size we.heap.size rfl _ u1 rfl HE1.out.one wN.out ?_;intro wf ho hg;obtain⟨hk,hb⟩:=KnB.put HE1.out ho hg;have HB:=q9 (HB.out.trans (hb.mono HB.out.size));clear ho hg hk hb HE1 wN;go_wp2_with(go_at_call 6;(with_reducible refine(HK.out _ HB.out).mono ?_);rintro e wg ⟨rfl,hx⟩;have hb:=qn hx;have HB:=q9 (HB.out.trans (hb.mono HB.out.size));clear hx hb);go_ret;exact⟨rfl,HB.out⟩)
   ·have zD:¬(t.size:Int)>8192:=by omega
    have hbk:=hback (by omega)
    rw[hbk]at HP2;simp only at HP2;have hst:(t.toList==t.toList)=true:=beq_self_eq_true _;clear hL hT h4 HDP hnone hok hb2 vK hrk hne hlen hz yE hback ht htb hts ht8 hbk
    go_enter Tryd.func4,Tryd.ntmps4
    go_wp2_with(first
     |(go_at_call 11;(with_reducible refine(HP.out).mono ?_);rintro e wa ⟨v0,x,rfl,hli,⟨u0,rfl,hu⟩,hb⟩;have HB:=q9 hb;have HV0:=q9 hli;have HE0:=q9 hu;have vO:=q9 (jl wa 32);clear hli hu hb)
     |(refine qA rfl (.tmp 4) (.tmp 16) rfl wa.heap.size wa.heap.size rfl _ u0 rfl HE0.out.one vO.out ?_;intro wb ho hg;obtain⟨hk,hb⟩:=KnB.put HE0.out ho hg;have HV0:=q9 (qJ.up HV0.out hb);have HK1:=q9 hk;have HB:=q9 (HB.out.trans (hb.mono HB.out.size));clear ho hg hk hb)
     |(refine jU rfl (.tmp 4) rfl wa.heap.size wa.heap.size rfl _ HK1.out.box ?_)
     |(go_at_call 12;(with_reducible refine(HD.out _ _ HB.out HK1.out.err).mono ?_);rintro e wc ⟨rfl,hx⟩;have hb:=qn hx;have HV0:=q9 (qJ.up HV0.out hb);have HB:=q9 (HB.out.trans (hb.mono HB.out.size));clear hx hb HK1)
     |(go_at_call 7;(with_reducible refine(HSH.out _ _ (qJ.sl HV0.out)).mono ?_);rintro e wd ⟨rfl,hx⟩;have hb:=qn hx;have HV0:=q9 (qJ.up HV0.out hb);have HB:=q9 (HB.out.trans (hb.mono HB.out.size));clear hx hb)
     |(go_at_call 11;(with_reducible refine(HP2.out _ HB.out).mono ?_);rintro e we ⟨v1,x1,rfl,hli,⟨u1,rfl,hu⟩,hb⟩;have HV0:=q9 (qJ.up HV0.out hb);have HB:=q9 (HB.out.trans (hb.mono HB.out.size));have HV1:=q9 hli;have HE1:=q9 hu;have wN:=q9 (jl we 32);clear hli hu hb)
     |(refine qA rfl (.tmp 7) (.tmp 32) rfl we.heap.size we.heap.size rfl _ u1 rfl HE1.out.one wN.out ?_;intro wf ho hg;obtain⟨hk,hb⟩:=KnB.put HE1.out ho hg;have HV0:=q9 (qJ.up HV0.out hb);have HV1:=q9 (qJ.up HV1.out hb);have HK2:=q9 hk;have HB:=q9 (HB.out.trans (hb.mono HB.out.size));have cc:wf.cell? ⟨we.heap.size,0,none⟩=some u1:=HK2.out.box.cell (i:=0) (by simp);clear ho hg hk hb)
     |(go_at_call 12;(with_reducible refine(HD.out _ _ HB.out HK2.out.err).mono ?_);rintro e wh ⟨rfl,hx⟩;have hb:=qn hx;have HV0:=q9 (qJ.up HV0.out hb);have HV1:=q9 (qJ.up HV1.out hb);have HB:=q9 (HB.out.trans (hb.mono HB.out.size));clear hx hb)
     |(go_at_call 13;(with_reducible refine(HSM.out _ _ _ (qJ.sl HV0.out) (qJ.sl HV1.out)).mono ?_);rintro e wi ⟨rfl,hx⟩;have hb:=qn hx;have HV1:=q9 (qJ.up HV1.out hb);have HB:=q9 (HB.out.trans (hb.mono HB.out.size));clear hx hb)
     |(go_at_call 7;(with_reducible refine(HSH.out _ _ (qJ.sl HV1.out)).mono ?_);rintro e wj ⟨rfl,hx⟩;have hb:=qn hx;have HB:=q9 (HB.out.trans (hb.mono HB.out.size));clear hx hb)
     |(go_at_call 6;(with_reducible refine(HK.out _ HB.out).mono ?_);rintro e wg ⟨rfl,hx⟩;have hb:=qn hx;have HB:=q9 (HB.out.trans (hb.mono HB.out.size));clear hx hb))
    go_ret
    exact⟨rfl,HB.out⟩
  ·have hls:=hnone hb0
   subst hls;have vR:0<b.length:=List.length_pos_iff.2 hb0;generalize b.length=m at*;clear hL hT h4 hnone hok vK hb0
   go_enter Tryd.func4,Tryd.ntmps4
   go_wp2_with(first
    |(go_at_call 11;(with_reducible refine(HP.out).mono ?_);rintro e wa ⟨v0,x,rfl,hli,⟨u0,rfl,hu⟩,hb⟩;have HB:=q9 hb;obtain⟨oa,cap,-,-,hv,-,-⟩:=qJ.sl hli;rw[List.length_map,List.length_nil]at hv;subst hv;have HE0:=q9 hu;have vO:=q9 (jl wa 32);clear hli hu hb)
    |(refine qA rfl (.tmp 4) (.tmp 16) rfl wa.heap.size wa.heap.size rfl _ u0 rfl HE0.out.one vO.out ?_;intro wb ho hg;obtain⟨hk,hb⟩:=KnB.put HE0.out ho hg;have HK1:=q9 hk;have HB:=q9 (HB.out.trans (hb.mono HB.out.size));clear ho hg hk hb)
    |(refine jU rfl (.tmp 4) rfl wa.heap.size wa.heap.size rfl _ HK1.out.box ?_)
    |(go_at_call 12;(with_reducible refine(HDP.out _ _ HB.out HK1.out.err).mono ?_);rintro e wc ⟨rfl,hx⟩;have hb:=qn hx;have HB:=q9 (HB.out.trans (hb.mono HB.out.size));clear hx hb)
    |(go_at_call 6;(with_reducible refine(HK.out _ HB.out).mono ?_);rintro e wg ⟨rfl,hx⟩;have hb:=qn hx;have HB:=q9 (HB.out.trans (hb.mono HB.out.size));clear hx hb))
   go_ret
   exact⟨rfl,HB.out⟩
end Go.Cm
