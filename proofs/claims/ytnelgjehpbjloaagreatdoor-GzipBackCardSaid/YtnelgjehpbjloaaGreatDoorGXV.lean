/- Walks of functions and plain facts, joined and squeezed by a program. Conditions: as each says. -/
import Derived.Test.YtnelgjehpbjloaaGreatDoorGXP
import Derived.Test.YtnelgjehpbjloaaGreatDoorGXR
import Derived.Test.YtnelgjehpbjloaaGreatDoorGXS
set_option maxHeartbeats 8000000
set_option maxRecDepth 100000
set_option linter.unusedSimpArgs false
namespace Go.Cm
attribute [local irreducible] j8
theorem q1Q{l:List PtN}(h:zJ l):(eN l).2.length<=2200000:=by
 have h1:=wI (l:=l) (M:=580700) (fun p hp=>by obtain⟨h1,h2,-,-⟩:=G8 h p hp;omega) l.length (q9 _)
 have h2:l.length*580700<=30*580700:=Nat.mul_le_mul_right _ h.1;unfold eN;split
 ·exact qc _
 ·split
  ·exact qc _
  ·show(fI _ _).length<=_
   rw[pO];omega
theorem D3.cut{h:GH}{l:List PtN}{s s':ByteArray}{k:Nat}(H:D3 h l s [])(hk:k<s.size)(hs':bys s'=(bys s).take k):(jI s').2≠[]:=by
 intro hz;obtain⟨-,p1,p2,p3,-⟩:=tE hz;have hsz':s'.size=k:=by rw[<-qF,hs',List.length_take,qF];omega
 have hle:=o6 (s:=s');have hpa:=(t7 (s:=s') (s':=s) (m:=k) (by omega) (by rw[hs',List.take_take,Nat.min_self]) p1 (by omega)).1
 rw[H.hd]at hpa;rw[<-hpa]at p2 p3 hle;simp only at p2 p3 hle;have hA:=R8 (s:=s') (s':=s) (g:=[]) (b:=(bys s).take k) (x:=[]) (y:=(bys s).drop k) (by rw[hs',List.append_nil]) (by rw[List.nil_append,List.take_append_drop])
 have hen:=Q5 (s:=s') (t:=[]) (p:=8*(dH h).length) (by omega) p2
 obtain⟨b1,b2,b3,b4⟩:=xR hA (p:=8*(dH h).length) (by omega) (by simp;omega) p2 (by rw[List.length_take,qF];omega)
 rw[List.length_nil,Nat.mul_zero,Nat.add_zero,Nat.add_zero]at b3;obtain⟨t1,-,-⟩:=tD.1 p3;rw[<-b3,H.en]at t1;have hl:=H.len;rw[List.length_nil]at hl;omega
end Go.Cm
namespace Go.Cm
open Go.RowKit Go.Proofs
theorem q3z(W:World)(h:GH):(binOp .neq 23 (.agg (ghC h)) (.agg (ghC h))).run Tryz.prog W=.ok (.bool false) W:=by
 rw[run_neq_struct,lP W h];rfl
end Go.Cm
namespace Go.Cm
open Go.RowKit Go.Proofs
attribute [local irreducible] j8
structure q8k(h:GH)(l:List PtN)(s:ByteArray):Prop where
 big:s.size<=3000000
 low:8<=s.size
 tx:(jq 10 17 l).1=0
 ok:∃hl en bg,jI s=(⟨h,8*hl,en,bg,(jq 10 17 l).2⟩,[])/\bg.length=l.length/\en<=8*s.size-64/\8*hl<en
 cut:∀(s1:ByteArray) (k:Nat),k<s.size->bys s1=(bys s).take k->∃L,jI s1=(zGI,L)/\L≠[]/\L.length<=2
 more:∀(s2 cc:ByteArray),bys s2=bys s++bys cc->cc.size<=100->bys cc≠[]->jI s2=(zGI,[(14,s.size)])
theorem q3H{h:GH}{l:List PtN}{yt:qK}(hfl:zJ l)(hfh:q27 h)(hl:∀p∈l,∀o∈p.ops,o.lit<256)(hb:aW h l=(0,yt)){s:ByteArray}(hs:bys s=yt):q8k h l s:=by
 have hB:=q5F (s:=s) (y:=[]) hl (by rw[hb]) (by rw[hb,List.append_nil];exact hs)
 have hlen:=hB.len;rw[List.length_nil]at hlen;have h1:=wV h;have h2:=q1Q hfl;obtain⟨f1,f2,f3⟩:=hfh;have q90:s.size<=3000000:=by omega
 have he:(eN l).1=0:=by
  have h0:(aW h l).1=0:=by rw[hb]
  have hr:jG h=true:=by
   unfold aW at h0
   cases hr:jG h
   ·rw[hr]at h0;cases h0
   ·rfl
  unfold aW at h0;rw[hr]at h0;simp only[if_true]at h0
  by_cases c:(eN l).1≠0
  ·rw[if_pos c]at h0;exact h0
  ·exact Classical.not_not.1 c
 refine⟨q90,by omega,(D0 hl he hB.all).2.2.2.2.2.2,⟨(dH h).length,enI s [] (8*(dH h).length),bgI s [] (8*(dH h).length),?_,hB.bg,?_,hB.gt⟩,fun s1 k hk hs1=>?_,fun s2 cc hs2 hc hne=>?_⟩
 ·rw[hB.parse (by omega),if_pos rfl]
 ·have:=hB.en;omega
 ·have hc:=hB.cut hk hs1
  have hsz:s1.size<=s.size:=by rw[<-qF,hs1,List.length_take,qF];omega
  have hz:=pF hc
  exact⟨(jI s1).2,by rw[<-hz],hc,(pE (by omega)).2.1⟩
 ·have hB2:=q5F (h:=h) (l:=l) (s:=s2) (y:=bys cc) hl (by rw[hb]) (by rw[hb,hs2,hs])
  have hsz:s2.size=s.size+cc.size:=by rw[<-qF,hs2,qg,qF,qF]
  rw[hB2.parse (by omega),if_neg hne,hlen]
theorem q7f{n:Int}{most:Nat}(hn: -9223372036854775808<=n/\n<9223372036854775808)(hm:0<most)(hm2:most<=4611686018427387904)(w:World):Calls Tryz.prog 15 #[.int .i64 n,.int .i64 most] w fun e w'=>∃k:Nat,k<most/\e=.returned (.int .i64 k)/\∃x,w'=ext w x:=by
 have hm0:((most:Int)==0)=false:=by simp;omega
 by_cases qln:n<0
 ·obtain⟨m,hm'⟩:=Int.eq_ofNat_of_zero_le (show 0<= -(n+1) by omega)
  have hmb:(m:Int)<=9223372036854775807:=by omega
  have h1: -1-n=(m:Int):=by omega
  have h2: -n-1=(m:Int):=by omega
  go_enter Tryz.func15,Tryz.ntmps15
  have hlt:m%most<most:=Nat.mod_lt _ hm;go_wp2;go_ret
  exact⟨m%most,hlt,rfl,mS w⟩
 ·obtain⟨m,rfl⟩:=Int.eq_ofNat_of_zero_le (show 0<=n by omega)
  have hlt:m%most<most:=Nat.mod_lt _ hm
  go_enter Tryz.func15,Tryz.ntmps15
  go_wp2;go_ret
  exact⟨m%most,hlt,rfl,mS w⟩
theorem tV{P:Program}{C:World->Prop}{o:Oper}{a:Act}{K:Act->Prop}(ty:TypeId)(x:Operand)(ho:o.op=.load ty x)(g off n:Nat)(hx:a.eval x=.pointer (some ⟨g,off,none⟩))(t:TypeId)(cs B:Array Value)
  (hg:∀w',C w'->w'.heap[g]? =some (.cells cs t (0,0))) (d:TypeDesc) (hu:P.underlying ty=some d) (hd:(match d with|.struct _|.array _ _=>true|_=>false)=true) (hi:(P.info? ty).map (·.size)=some n) (hs:off+n<=cs.size) (hB:cs.extract off (off+n)=B) (h:K (a.put o.dst (.agg B))):o.quiet P a C K:=by
 subst hB;refine⟨.agg (cs.extract off (off+n)),fun w' hw'=>?_,h⟩
 have hl:=aG (P:=P) w' g off n t ty cs (0,0) d (hg w' hw') hu hd hi hs;unfold Oper.quietAt execOp;simp only[ho,hx,Instr.loadAt,Instr.sureAddr,Sem.run_bind,Sem.run_pure,Result.andThen_ok,hl,Oper.quietUpon]
 trivial
theorem q3I{w:World}{v:Value}{l:List PtN}{h:GH}{cut:Int}{cc:ByteArray}(hL:jK w)(hok:X9 h)(hp:js w v l)(hpo:∀p∈l,yT p)(q9e:∀p∈l,∀o∈p.ops,pL o)(hcut: -9223372036854775808<=cut/\cut<9223372036854775808)(hcz:cc.size<=9223372036854775807):
  Calls Tryz.prog 4 #[.agg #[.int .i64 h.time,.string h.extra,.string h.name,.string h.note,.int .i64 h.level,.int .i64 h.os,.bool h.text,.bool h.sum,.int .i64 h.flags,v,.int .i64 cut,.string cc]] w fun e w'=>e=.returned (.bool true)/\∃x,w'=ext w x:=by
 obtain⟨A,hA⟩:∃A:Array Value,A=#[.int .i64 h.time,.string h.extra,.string h.name,.string h.note,.int .i64 h.level,.int .i64 h.os,.bool h.text,.bool h.sum,.int .i64 h.flags,v,.int .i64 cut,.string cc]:=⟨_,rfl⟩;have hx:=qE w w.heap.size A 34 (by rw[hA];simp) (q9 _)
 have hsz:A.size=12:=by rw[hA];rfl
 rw[hsz]at hx;have hb0:=qn w (.cells A 34);have HB0:=q7 hb0;have HP:=q7 (hp.up hb0);have HL:=q7 (hL.up hb0);have HLA:=q7 hL;have HX:=q7 hx;have HSZ:Hid (0+9<=A.size):=q7 (by rw[hsz];decide)
 have HEX:Hid (A.extract 0 (0+9)=#[.int .i64 h.time,.string h.extra,.string h.name,.string h.note,.int .i64 h.level,.int .i64 h.os,.bool h.text,.bool h.sum,.int .i64 h.flags]):=q7 (by rw[hA];rfl)
 have hA9:A.toList.getD 9 undef=v:=by rw[hA];rfl
 have qhq:A.toList.getD 10 undef=.int .i64 cut:=by rw[hA];rfl
 have qhp:A.toList.getD 11 undef=.string cc:=by rw[hA];rfl
 have HC:=q7 (fun(W:World) (g:Nat) (ho:Own W w.heap.size 34 (.slice (some ⟨g,0,none⟩) 12 12) A.toList)=>(⟨by rw[ho.cell (i:=9) (by rw[Array.length_toList,hsz];decide),hA9],by rw[ho.cell (i:=10) (by rw[Array.length_toList,hsz];decide),qhq],by rw[ho.cell (i:=11) (by rw[Array.length_toList,hsz];decide),qhp]⟩:W.cell? ⟨g,9,none⟩=some v/\W.cell? ⟨g,10,none⟩=some (.int .i64 cut)/\W.cell? ⟨g,11,none⟩=some (.string cc)))
 have HH:=q7 (fun(W:World) (g:Nat) (ho:Own W w.heap.size 34 (.slice (some ⟨g,0,none⟩) 12 12) A.toList)=>(by
  have q:=fun(i:Nat) (u:Value) (hi:i<12) (e:A.toList.getD i undef=u)=>(by rw[ho.cell (i:=i) (by rw[Array.length_toList,hsz];exact hi),e]:W.cell? ⟨g,i,none⟩=some u)
  exact⟨q 0 _ (by decide) (by rw[hA];rfl),q 1 _ (by decide) (by rw[hA];rfl),q 2 _ (by decide) (by rw[hA];rfl),q 3 _ (by decide) (by rw[hA];rfl),q 4 _ (by decide) (by rw[hA];rfl),q 5 _ (by decide) (by rw[hA];rfl),q 6 _ (by decide) (by rw[hA];rfl),q 7 _ (by decide) (by rw[hA];rfl),q 8 _ (by decide) (by rw[hA];rfl)⟩:
  W.cell? ⟨g,0,none⟩=some (.int .i64 h.time)/\W.cell? ⟨g,1,none⟩=some (.string h.extra)/\W.cell? ⟨g,2,none⟩=some (.string h.name)/\W.cell? ⟨g,3,none⟩=some (.string h.note)/\W.cell? ⟨g,4,none⟩=some (.int .i64 h.level)/\W.cell? ⟨g,5,none⟩=some (.int .i64 h.os)/\W.cell? ⟨g,6,none⟩=some (.bool h.text)/\W.cell? ⟨g,7,none⟩=some (.bool h.sum)/\W.cell? ⟨g,8,none⟩=some (.int .i64 h.flags)))
 have HFW:=q7 (fun(W:World) (hp:js W v l)=>q6U (h:=h) hp)
 have HBP:=q7 (fun(hf:zJ l) (hh:q27 h) (W:World) (v':Value) (hp:js W v' l)=>J0 (h:=h) hok hp hpo q9e hf hh)
 have HTX:=q7 (fun(W:World) (v':Value) (hp:js W v' l)=>q0q hp hpo)
 have HGV:=q7 (fun(hf:zJ l) (W:World) (v':Value) (hp:js W v' l)=>q1k hp (qa hf.1 (by decide)))
 have HBK:=q7 (fun(hf:zJ l) (hh:q27 h) (yt:qK) (hb:aW h l=(0,yt)) (s:ByteArray) (hs:bys s=yt)=>q3H hf hh (fun p hp o ho=>(hpo p hp).lit o ho) hb hs)
 have HE0:Hid ((aW h l).1≠0->(aW h l).2=[]):=q7 (fun hne=>by
  unfold aW at hne⊢;split at hne
  ·rename_i hr
   rw[if_pos hr];split at hne
   ·rename_i he;rw[if_pos he]
   ·exact absurd rfl hne
  ·rename_i hr;rw[if_neg hr])
 have e0:w.alloc (.cells A 34)=w.alloc (.cells #[.int .i64 h.time,.string h.extra,.string h.name,.string h.note,.int .i64 h.level,.int .i64 h.os,.bool h.text,.bool h.sum,.int .i64 h.flags,v,.int .i64 cut,.string cc] 34):=by rw[hA]
 obtain⟨oa,cap,bl,off,rfl,-⟩:=hp.open;have HCZ:=q7 hcz;have ql3:=q7 hcut;clear hx hb0 hp hL hpo q9e hok hA hA9 qhq qhp hsz hcz hcut;unfold ghC at HFW HBP
 go_enter Tryz.func4,Tryz.ntmps4
 go_upto_region 1 with(fail)
 rw[<-e0];clear e0;generalize w.alloc (.cells A 34)=w1 at*;obtain⟨g,hg⟩:∃g,g=w.heap.size:=⟨_,rfl⟩;have HX1:Hid (Own w1 w.heap.size 34 (.slice (some ⟨g,0,none⟩) 12 12) A.toList):=q7 (by rw[hg];exact HX.out)
 rw[<-hg];have HGA:=q7 HX1.out.box;obtain⟨c9,c10,c11⟩:=HC.out w1 g HX1.out;have hgl:=HX1.out.blk.2;have HF1:=q7 (HFW.out w1 HP.out);clear hg HX HFW
 go_wp2_with((with_reducible show wpList _ _ _ (Oper.mk _ (.load 23 _) _ _ _ _::_) _ _);refine jP rfl 23 _ rfl g 0 9 rfl 34 A #[.int .i64 h.time,.string h.extra,.string h.name,.string h.note,.int .i64 h.level,.int .i64 h.os,.bool h.text,.bool h.sum,.int .i64 h.flags] (0,0) _ HGA.out Tryz.underlying23 rfl (by kernel_rfl) HSZ.out HEX.out ?_)
 (with_reducible refine HF1.out.mono ?_)
 rintro en w2 ⟨b,rfl,qcV,hx⟩;have hb:=qr hx;have HFE:=q7 qcV;have HB2:=q7 (qq HB0.out hb);have HP2:=q7 (HP.out.up hb);have HL2:=q7 (HL.out.up hb);have HX2:=q7 (HX1.out.up hb);obtain⟨d9,d10,d11⟩:=HC.out w2 g HX2.out;have qjs:=HX2.out.blk.2;clear hx hb qcV HF1 HP HL HX1 HGA HB0 c9 c10 c11 hgl
 cases b with
 |false=>
  have HK:=q7 (dO HL2.out)
  go_wp2_with((with_reducible go_at_call 8);(with_reducible refine HK.out.mono ?_);rintro en w3 ⟨rfl,hx⟩;have HB3:=q7 (qq HB2.out (qr hx));clear hx)
  go_ret
  exact⟨rfl,qt HB3.out⟩
 |true=>
  by_cases qeZ:cc.size<=100
  ·have hci:decide ((cc.size:Int)>100)=false:=by rw[qm];omega
   obtain⟨hfl,hfh⟩:=HFE.out rfl;have HG2:=q7 (HGV.out hfl);have qbm:=q7 (HBP.out hfl hfh);have qg3:=q7 (HBK.out hfl hfh);have HGA:Hid (∀w',(∃x,w'=ext w2 x)->w'.heap[g]? =some (.cells A 34 (0,0))):=q7 (fun w' hw=>(HX2.out.up (qr hw)).box)
   clear hfl hfh HFE HGV HBP HBK;unfold bS at qbm HTX;generalize aW h l=Y at*;obtain⟨ye,yt⟩:=Y;simp only at qbm qg3 HE0
   go_wp2_with(fail)
   refine eP [([0,1,2,3],[4,5]),([6,7,8,9,10],[])] (by kernel_rfl) (by kernel_rfl) ?_
   (unfold j6;simp only[pk])
   repeat(first|(go_big_quiet_want;(with_reducible show Oper.quiet _ (Oper.mk _ (.load 23 _) _ _ _ _) _ _ _);refine tV 23 _ rfl g 0 9 rfl 34 A #[.int .i64 h.time,.string h.extra,.string h.name,.string h.note,.int .i64 h.level,.int .i64 h.os,.bool h.text,.bool h.sum,.int .i64 h.flags] HGA.out _ Tryz.underlying23 rfl (by kernel_rfl) HSZ.out HEX.out ?_;go_simp;go_big_quiet_on)|(go_big_quiet_step (fail)))
   refine wpQuiet_nil ?_;have HBD:Hid (Below w2.heap.size w2 w2.drew):=q7 (qS (qj _ _));have HPD:=q7 (HP2.out.up HBD.out);generalize w2.drew=wd at*;unfold qy
   go_wp2_with((with_reducible go_at_call 10);(with_reducible refine(HG2.out wd _ HPD.out).mono ?_);rintro en w3 ⟨v3,rfl,hp3,hb⟩;have HP3:=q7 hp3;have HB3:=q7 (HBD.out.trans (hb.mono HBD.out.size));clear hp3 hb)
   refine⟨qt HB3.out,?_⟩;unfold qy
   go_wp2_with((with_reducible go_at_call 9);(with_reducible refine(qbm.out w3 v3 HP3.out).mono ?_);rintro en w4 ⟨rfl,hx⟩;have hb:=qr hx;have HB4:=q7 (qq HB3.out hb);clear hx hb)
   refine⟨qt HB4.out,?_⟩;unfold qy
   (unfold j6;simp only[pk])
   repeat(go_big_quiet_step (fail))
   refine wpQuiet_nil ?_;unfold qy;unfold j6;intro hz;clear hz;have HX4:=q7 (HX2.out.up HB4.out);have HP4:=q7 (HP2.out.up HB4.out);have qcy:=q7 (qq HB2.out HB4.out);clear HGA HP2 HX2 HP3 HB3 HPD HBD qbm d9 d10 d11 qjs HB4 HL2 HB2;obtain⟨c9,c10,c11⟩:=HC.out w4 g HX4.out;have hgl:=HX4.out.blk.2
   by_cases hye:ye=0
   ·subst hye
    obtain⟨S,hS⟩:∃S:ByteArray,S=⟨yt.toArray⟩:=⟨_,rfl⟩;have hB:=qg3.out yt rfl S (by rw[hS];rfl)
    rw[<-hS];obtain⟨q90,qjd,htx,⟨hl,en,bg,hpz,hbg,hen,hgt⟩,hct,hmo⟩:=hB;have qdU:=HTX;generalize hTT:jq 10 17 l=TT at*;obtain⟨t1,t2⟩:=TT;simp only at htx hpz qdU;subst htx;obtain⟨TS,hTS⟩:∃TS:ByteArray,TS=⟨t2.toArray⟩:=⟨_,rfl⟩;rw[<-hTS]at qdU;have hb2:bys TS=t2:=by rw[hTS];rfl
    obtain⟨PP,hPP⟩:∃PP,PP=8*hl:=⟨_,rfl⟩;rw[<-hPP]at hpz hgt
    have HPZ:=q7 (fun(W:World) (hL:jK W)=>(by
     refine(iM (s:=S) (by omega) hL).mono ?_
     rw[hpz];rintro e w' ⟨oa,n,k,c,vb,rfl,hc,hsl,hbl,hb⟩;obtain⟨oa',cap',b',off',e',-⟩:=hsl
     cases e'
     obtain rfl:c=TS:=fZ (hc.trans hb2.symm);have:=hbl.nil;rw[this];rw[List.length_map,hbg]
     exact⟨oa,k,rfl,hb⟩:Calls Tryz.prog 13 #[.string S] W fun e w'=>∃oa k,e=.returned (.tuple #[.agg (ifC h PP en (.slice oa l.length k) TS),.agg #[.nilIface]])/\Below W.heap.size W w'))
    have HCT:=q7 (fun(k:Nat) (hk:k<S.size) (s1:ByteArray) (hs1:bys s1=(bys S).take k) (W:World) (hL:jK W)=>(by
     obtain⟨L,h1,h2,h3⟩:=hct s1 k hk hs1;have hz1:s1.size<=S.size:=by rw[<-qF,hs1,List.length_take,qF];omega
     refine(iM (s:=s1) (by omega) hL).mono ?_
     rw[h1];rintro e w' ⟨oa,n,k,c,vb,rfl,hc,hsl,⟨e9,rfl,hbl⟩,hb⟩
     exact⟨oa,n,k,c,e9,L,rfl,hbl,h2,h3,hb⟩:Calls Tryz.prog 13 #[.string s1] W fun e w'=>∃oa n k c e9 L,e=.returned (.tuple #[.agg (ifC zGH 0 0 (.slice oa n k) c),.agg #[e9]])/\cH w' L e9/\L≠[]/\L.length<=2/\Below W.heap.size W w'))
    have HMO:=q7 (fun(W:World) (hL:jK W)=>(by
     have qeW:bys (S++cc)=bys S++bys cc:=by
      have h1:S=⟨(bys S).toArray⟩:=pB.symm;have h2:cc=⟨(bys cc).toArray⟩:=pB.symm
      have h3:S++cc=⟨(bys S++bys cc).toArray⟩:=by
       rw[<-jA,<-h1,<-h2]
      rw[h3];rfl
     have hz2:(S++cc).size<=4000000:=by rw[<-qF,qeW,qg,qF,qF];omega
     refine(iM (s:=S++cc) hz2 hL).mono ?_
     by_cases hcn:bys cc=[]
     ·have hse:S++cc=S:=fZ (by rw[qeW,hcn,List.append_nil])
      rw[hse,hpz];rintro e w' ⟨oa,n,k,c,vb,rfl,hc,hsl,⟨e9,rfl,hbl⟩,hb⟩
      exact⟨h,PP,en,oa,n,k,c,e9,rfl,by rw[if_pos hcn];exact hbl,hb⟩
     ·rw[hmo (S++cc) cc qeW qeZ hcn]
      rintro e w' ⟨oa,n,k,c,vb,rfl,hc,hsl,⟨e9,rfl,hbl⟩,hb⟩
      exact⟨zGH,0,0,oa,n,k,c,e9,rfl,by rw[if_neg hcn];exact hbl,hb⟩:Calls Tryz.prog 13 #[.string (S++cc)] W fun e w'=>∃(hh:GH) (p q:Nat) (oa:Option Addr) (n k:Nat) (c:ByteArray) (e9:Value),e=.returned (.tuple #[.agg (ifC hh p q (.slice oa n k) c),.agg #[e9]])/\cH w' (if bys cc=[]then []else [(14,S.size)]) e9/\Below W.heap.size W w'))
    have hq1:decide ((en:Int)>8*(S.size:Int)-64)=false:=by rw[qm];omega
    have hq2:decide (en<=PP)=false:=by rw[qm];omega
    have q9P:0<S.size:=by omega
    have hsb:(S.size:Int)<=3000000:=by omega
    have hts:(TS.toList==TS.toList)=true:=beq_self_eq_true _;have hcn:=q3z;have hcg:=pP;unfold ghC at hcn;have HST:=q7 (fun(k:Nat) (hk:k<=S.size)=>xE S k hk)
    clear hS hTT hTS hb2 hPP hpz hbg hen hgt hct hmo qjd q90 qg3 HE0 HTX
    go_upto_region 7 with(first
     |((with_reducible go_at_call 10);(with_reducible refine(HG2.out w4 _ HP4.out).mono ?_);rintro en5 w5 ⟨v5,rfl,hp5,hb⟩;have HP5:=q7 hp5;have HB5:=q7 (qq qcy.out hb);have HX5:=q7 (HX4.out.up hb);clear hp5 hb)
     |((with_reducible go_at_call 12);(with_reducible refine(qdU.out w5 v5 HP5.out).mono ?_);rintro en6 w6 ⟨rfl,hx⟩;have hb:=qr hx;have HB6:=q7 (qq HB5.out hb);have HX6:=q7 (HX5.out.up hb);clear hx hb))
    clear HP5 HB5 HX5 HX4 HP4 qcy c9 c10 c11 hgl HG2 qdU
    go_upto_region 8 with(first
     |fail
     |((with_reducible go_at_call 13);(with_reducible refine(HPZ.out w6 (HLA.out.up HB6.out)).mono ?_);rintro en wpa ⟨oa7,k7,rfl,hb⟩;have qiw:=q7 (qq HB6.out hb);have HTa:=q7 (oC wpa);have HXp:=q7 (HX6.out.up hb);clear hb)
     |(refine qo rfl 38 _ _ rfl wpa.heap.size 38 wpa.heap.size 13 13 rfl (ifC h PP en (.slice oa7 l.length k7) TS) rfl (by kernel_rfl) zIf.toList HTa.out.1 (by simp[zIf,ifC]) (dN _ _ _ _ _ _ _) ?_;intro wia ho hg;have qhT:=q7 ho;have qi3:=q7 hg;have HCa:=q7 (HTa.out.2.1.keep hg (.inr (fun e=>by have h9:wpa.heap.size+1=wpa.heap.size:=ql e;omega)));clear ho hg)
     |(refine qo rfl 42 _ _ rfl wpa.heap.size 42 (wpa.heap.size+1) 1 1 rfl #[.nilIface] rfl (by kernel_rfl) [.nilIface] HCa.out (by simp) (by intro u hu;simp at hu;rw[hu];exact rfl) ?_;intro wba ho hg;have qii:=q7 ho;have qfK:=q7 hg;clear ho hg))
    have HIa:Hid (Own wia wpa.heap.size 38 (.slice (some ⟨wpa.heap.size,0,none⟩) 13 13) ((ifC h PP en (.slice oa7 l.length k7) TS)).toList):=qhT;have HDa:Hid (Own wba wpa.heap.size 42 (.slice (some ⟨wpa.heap.size+1,0,none⟩) 1 1) [.nilIface]):=qii;have qf3:=(HTa.out.2.2.grown qi3.out HTa.out.2.2.size (fun k e=>by cases e;exact q9 _))
    have qg0:Hid (Below wpa.heap.size wpa wba):=q7 (qf3.grown qfK.out qf3.size (fun k e=>by cases e;omega))
    have qfZ:=q7 (qq qiw.out qg0.out);have HJa:=q7 (HIa.out.keep qfK.out (.inr (fun e=>by have h9:wpa.heap.size=wpa.heap.size+1:=ql e;omega)))
    have HXa:=q7 (HXp.out.up qg0.out);obtain⟨ga,hga⟩:∃ga,ga=wpa.heap.size:=⟨_,rfl⟩;rw[<-hga]at HDa HJa⊢;clear qf3 qhT qii HTa HCa qi3 qfK HIa qg0 qiw hga;clear HX6 HXp HB6 HPZ;have hdp:=tR (HLA.out.up qfZ.out) (l:=[]) (v:=.agg #[.nilIface]) ⟨.nilIface,rfl,rfl⟩ (by decide)
    simp only[List.length_nil]at hdp;have HDP:=q7 hdp;have ja:wba.cell? ⟨ga+1,0,none⟩=some .nilIface:=HDa.out.cell (i:=0) (by simp)
    have ma:=HDa.out.blk.2;clear hdp
    go_upto_region 10 with((with_reducible go_at_call 14);(with_reducible refine HDP.out.mono ?_);rintro en8 w8 ⟨rfl,hx⟩;have hb:=qr hx;have HB8:=q7 (qq qfZ.out hb);have HX8:=q7 (HXa.out.up hb);have hJ:=HJa.out.up hb;obtain⟨x0,x1,x2,x3,x4,x5,x6,x7,x8⟩:=HH.out w8 g HX8.out;obtain⟨x9,x10,x11⟩:=HC.out w8 g HX8.out;have xl:=HX8.out.blk.2;have y0:w8.cell? ⟨ga,0,none⟩=some (.int .i64 h.time):=hJ.cell (i:=0) (by simp[ifC]);have y1:w8.cell? ⟨ga,1,none⟩=some (.string h.extra):=hJ.cell (i:=1) (by simp[ifC]);have y2:w8.cell? ⟨ga,2,none⟩=some (.string h.name):=hJ.cell (i:=2) (by simp[ifC]);have y3:w8.cell? ⟨ga,3,none⟩=some (.string h.note):=hJ.cell (i:=3) (by simp[ifC]);have y4:w8.cell? ⟨ga,4,none⟩=some (.int .i64 h.level):=hJ.cell (i:=4) (by simp[ifC]);have y5:w8.cell? ⟨ga,5,none⟩=some (.int .i64 h.os):=hJ.cell (i:=5) (by simp[ifC]);have y6:w8.cell? ⟨ga,6,none⟩=some (.bool h.text):=hJ.cell (i:=6) (by simp[ifC]);have y7:w8.cell? ⟨ga,7,none⟩=some (.bool h.sum):=hJ.cell (i:=7) (by simp[ifC]);have y8:w8.cell? ⟨ga,8,none⟩=some (.int .i64 h.flags):=hJ.cell (i:=8) (by simp[ifC]);have y9:w8.cell? ⟨ga,9,none⟩=some (.int .i64 PP):=hJ.cell (i:=9) (by simp[ifC]);have y10:w8.cell? ⟨ga,10,none⟩=some (.int .i64 en):=hJ.cell (i:=10) (by simp[ifC]);have y11:w8.cell? ⟨ga,11,none⟩=some (.slice oa7 l.length k7):=hJ.cell (i:=11) (by simp[ifC]);have y12:w8.cell? ⟨ga,12,none⟩=some (.string TS):=hJ.cell (i:=12) (by simp[ifC]);have yl:=hJ.blk.2;clear hx hb hJ)
    clear x0 x1 x2 x3 x4 x5 x6 x7 x8 y0 y1 y2 y3 y4 y5 y6 y7 y8 y9 y10 y11 y12 yl hq1 hq2 hcn hcg hts HDP ja ma x9 x11 qfZ HXa HJa HDa HH;have HCN:=q7 (q7f (n:=cut) (most:=S.size) ql3.out q9P (by omega) w8)
    go_upto_region 11 with((with_reducible go_at_call 15);(with_reducible refine HCN.out.mono ?_);rintro en9 w9 ⟨kk,hkk,rfl,hx⟩;have hb:=qr hx;have HB9:=q7 (qq HB8.out hb);have HX9:=q7 (HX8.out.up hb);clear hx hb)
    clear HCN HB8 HX8 x10 xl;obtain⟨s1,hs1,qan⟩:=HST.out kk (by omega)
    have HS1:=q7 (HCT.out kk hkk s1 hs1);clear HST HCT hs1
    go_upto_region 12 with(first
     |(fail)
     |((with_reducible go_at_call 13);(with_reducible refine(HS1.out w9 (HLA.out.up HB9.out)).mono ?_);rintro en wpb ⟨o1,n1,k1,c1,e1,L1,rfl,he1,hL1,hL2,hb⟩;have qiv:=q7 (qq HB9.out hb);have HTb:=q7 (oC wpb);have HXp:=q7 (HX9.out.up hb);have HE1:=q7 he1;have HLL:=q7 hL1;have HLM:=q7 hL2;clear hb he1 hL1 hL2)
     |(refine qo rfl 38 _ _ rfl wpb.heap.size 38 wpb.heap.size 13 13 rfl (ifC zGH 0 0 (.slice o1 n1 k1) c1) rfl (by kernel_rfl) zIf.toList HTb.out.1 (by simp[zIf,ifC]) (dN _ _ _ _ _ _ _) ?_;intro wib ho hg;have qhS:=q7 ho;have qi2:=q7 hg;have HCb:=q7 (HTb.out.2.1.keep hg (.inr (fun e=>by have h9:wpb.heap.size+1=wpb.heap.size:=ql e;omega)));clear ho hg)
     |(refine qo rfl 42 _ _ rfl wpb.heap.size 42 (wpb.heap.size+1) 1 1 rfl #[e1] rfl (by kernel_rfl) [.nilIface] HCb.out (by simp) (by intro u hu;simp at hu;rw[hu];exact HE1.out.one) ?_;intro wbb ho hg;have qih:=q7 ho;have qfJ:=q7 hg;clear ho hg))
    have HIb:Hid (Own wib wpb.heap.size 38 (.slice (some ⟨wpb.heap.size,0,none⟩) 13 13) ((ifC zGH 0 0 (.slice o1 n1 k1) c1)).toList):=qhS;have HDb:Hid (Own wbb wpb.heap.size 42 (.slice (some ⟨wpb.heap.size+1,0,none⟩) 1 1) [e1]):=qih;have qf2:=(HTb.out.2.2.grown qi2.out HTb.out.2.2.size (fun k e=>by cases e;exact q9 _))
    have qef:Hid (Below wpb.heap.size wpb wbb):=q7 (qf2.grown qfJ.out qf2.size (fun k e=>by cases e;omega))
    have qfY:=q7 (qq qiv.out qef.out);have HJb:=q7 (HIb.out.keep qfJ.out (.inr (fun e=>by have h9:wpb.heap.size=wpb.heap.size+1:=ql e;omega)))
    have HXb:=q7 (HXp.out.up qef.out);have HEB:=q7 (HE1.out.up qef.out);obtain⟨gb,hgb⟩:∃gb,gb=wpb.heap.size:=⟨_,rfl⟩;rw[<-hgb]at HDb HJb⊢;clear qf2 qhS qih HTb HCb qi2 qfJ HIb qef qiv hgb;clear HX9 HXp HB9 HS1 qan HE1 HJb;obtain⟨z9,z10,z11⟩:=HC.out wbb g HXb.out;have zl:=HXb.out.blk.2
    go_upto_region 13 with(first
     |(fail)
     |((with_reducible go_at_call 13);(with_reducible refine(HMO.out wbb (HLA.out.up qfY.out)).mono ?_);rintro en wpc ⟨hh,p3,q3,o3,n3,k3,c3,e3,rfl,he3,hb⟩;have qiu:=q7 (qq qfY.out hb);have HTc:=q7 (oC wpc);have HXq:=q7 (HXb.out.up hb);have HDq:=q7 (HDb.out.up hb);have HEq:=q7 (HEB.out.up hb);have HE3:=q7 he3;clear hb he3)
     |(refine qo rfl 38 _ _ rfl wpc.heap.size 38 wpc.heap.size 13 13 rfl (ifC hh p3 q3 (.slice o3 n3 k3) c3) rfl (by kernel_rfl) zIf.toList HTc.out.1 (by simp[zIf,ifC]) (dN _ _ _ _ _ _ _) ?_;intro wic ho hg;have qhR:=q7 ho;have qi1:=q7 hg;have HCc:=q7 (HTc.out.2.1.keep hg (.inr (fun e=>by have h9:wpc.heap.size+1=wpc.heap.size:=ql e;omega)));clear ho hg)
     |(refine qo rfl 42 _ _ rfl wpc.heap.size 42 (wpc.heap.size+1) 1 1 rfl #[e3] rfl (by kernel_rfl) [.nilIface] HCc.out (by simp) (by intro u hu;simp at hu;rw[hu];exact HE3.out.one) ?_;intro wbc ho hg;have qig:=q7 ho;have qfI:=q7 hg;clear ho hg))
    have HIc:Hid (Own wic wpc.heap.size 38 (.slice (some ⟨wpc.heap.size,0,none⟩) 13 13) ((ifC hh p3 q3 (.slice o3 n3 k3) c3)).toList):=qhR;have HDc:Hid (Own wbc wpc.heap.size 42 (.slice (some ⟨wpc.heap.size+1,0,none⟩) 1 1) [e3]):=qig;have qf1:=(HTc.out.2.2.grown qi1.out HTc.out.2.2.size (fun k e=>by cases e;exact q9 _))
    have qcx:Hid (Below wpc.heap.size wpc wbc):=q7 (qf1.grown qfI.out qf1.size (fun k e=>by cases e;omega))
    have q9S:=q7 (qq qiu.out qcx.out);have HJc:=q7 (HIc.out.keep qfI.out (.inr (fun e=>by have h9:wpc.heap.size=wpc.heap.size+1:=ql e;omega)))
    have HXc:=q7 (HXq.out.up qcx.out);have qfW:=q7 (HDq.out.up qcx.out);have qie:=q7 (HEq.out.up qcx.out);have HEC:=q7 (HE3.out.up qcx.out);obtain⟨gc,hgc⟩:∃gc,gc=wpc.heap.size:=⟨_,rfl⟩;rw[<-hgc]at HDc HJc⊢;clear qf1 qhR qig HTc HCc qi1 qfI HIc qcx qiu hgc;clear HXb HXq HDb HDq HEB HEq HE3 HMO qfY HJc z9 z10 z11 zl;obtain⟨LN,hLN⟩:∃LN,LN=L1.length:=⟨_,rfl⟩
    have hln:(LN:Int)>0:=by
     have:L1.length≠0:=fun e=>HLL.out (List.length_eq_zero_iff.1 e)
     omega
    have qdI:decide (0<LN)=true:=decide_eq_true (by omega)
    have qly:decide ((LN:Int)>0)=true:=decide_eq_true hln;obtain⟨v9,v10,v11⟩:=HC.out wbc g HXc.out;have vl:=HXc.out.blk.2;have j3:wbc.cell? ⟨gb+1,0,none⟩=some e1:=qfW.out.cell (i:=0) (by simp)
    have m3:=qfW.out.blk.2;have j4:wbc.cell? ⟨gc+1,0,none⟩=some e3:=HDc.out.cell (i:=0) (by simp)
    have m4:=HDc.out.blk.2;have HQ3:Hid (∀w',(∃x,w'=ext wbc x)->w'.heap[gb+1]? =some (.cells #[e1] 42 (0,0))):=q7 (fun w' hw=>(qfW.out.up (qr hw)).box1)
    have qbo:Hid (Below wbc.heap.size wbc wbc.drew):=q7 (qS (qj _ _));clear v9 v10
    go_wp2_with(fail)
    refine eP [([0],[1]),([2,3,4,14,15,16],[5]),([6,7,8,10,11],[9]),([12,13,17,18,19],[20]),([21,22],[])] (by kernel_rfl) (by kernel_rfl) ?_
    (unfold j6;simp only[pk])
    go_simp
    repeat(first|(go_big_quiet_want;(with_reducible show Oper.quiet _ (Oper.mk _ (.load _ _) _ _ _ _) _ _ _);refine jg 42 1 _ rfl (gb+1) rfl #[e1] rfl HQ3.out _ Tryz.underlying42 rfl (by kernel_rfl) ?_;go_simp;go_big_quiet_on)|(go_big_quiet_step (fail)))
    refine wpQuiet_nil ?_;clear HQ3
    by_cases hce:bys cc=[]
    ·obtain rfl:cc=⟨#[]⟩:=fZ hce
     have HE4:=q7 HEC.out;rw[if_pos hce]at HE4;have HDP:=q7 (tR (HLA.out.up (q9S.out.trans (qbo.out.mono q9S.out.size))) ⟨e1,rfl,qie.out.up qbo.out⟩ (qa HLM.out (by decide)))
     rw[<-hLN]at HDP;clear hLN;generalize hwd:wbc.drew=wd at*;have HWD:=q7 hwd;clear hwd;unfold qy
     go_wp2_with((with_reducible go_at_call 14);(with_reducible refine HDP.out.mono ?_);rintro en1 x1 ⟨rfl,hx⟩;have HB1:=q7 (qbo.out.trans ((qr hx).mono qbo.out.size));clear hx)
     refine⟨qt HB1.out,?_⟩;unfold qy
     (unfold j6;simp only[pk])
     repeat(go_big_quiet_step (fail))
     refine wpQuiet_nil ?_;unfold qy;have HCD:=q7 (q0U (HLA.out.up (q9S.out.trans (HB1.out.mono q9S.out.size))) ⟨e3,rfl,HE4.out.up HB1.out⟩);simp only[List.headD_nil]at HCD;rw[show((0:Nat):Int)=0 from rfl]at HCD
     go_wp2_with((with_reducible go_at_call 16);(with_reducible refine HCD.out.mono ?_);rintro en2 x2 ⟨rfl,hx⟩;have HB2:=q7 (HB1.out.trans ((qr hx).mono HB1.out.size));clear hx)
     refine⟨qt HB2.out,?_⟩;unfold qy
     (unfold j6;simp only[pk])
     repeat(go_big_quiet_step (fail))
     refine wpQuiet_nil ?_;unfold qy
     go_wp2_with(fail)
     have HB3:=HB2;refine⟨qt HB3.out,?_⟩;unfold qy
     (unfold j6;simp only[pk])
     repeat(go_big_quiet_step (fail))
     refine wpQuiet_nil ?_;unfold qy;have HKN:=q7 (fun W (hb:Below wbc.heap.size wbc W)=>dO (HLA.out.up (q9S.out.trans (hb.mono q9S.out.size))))
     go_wp2_with((with_reducible go_at_call 8);(with_reducible refine(HKN.out _ HB3.out).mono ?_);rintro en4 x4 ⟨rfl,hx⟩;have HB4:=q7 (HB3.out.trans ((qr hx).mono HB3.out.size));clear hx)
     refine⟨qt HB4.out,?_⟩;unfold qy
     (unfold j6;simp only[pk])
     repeat(go_big_quiet_step (fail))
     refine wpQuiet_nil ?_;unfold qy;unfold j6;intro hz hz2;clear hz2 hz;go_wp2;go_ret
     exact⟨rfl,qt (qq q9S.out HB4.out)⟩
    ·have hcb:cc.toList.isEmpty=false:=by
      cases hq:cc.toList.isEmpty
      ·rfl
      ·exact absurd (wW.1 (List.isEmpty_iff.1 hq)) hce
     have HE4:=q7 HEC.out;rw[if_neg hce]at HE4;have HDP:=q7 (tR (HLA.out.up (q9S.out.trans (qbo.out.mono q9S.out.size))) ⟨e1,rfl,qie.out.up qbo.out⟩ (qa HLM.out (by decide)))
     rw[<-hLN]at HDP;clear hLN;generalize hwd:wbc.drew=wd at*;have HWD:=q7 hwd;clear hwd;unfold qy
     go_wp2_with((with_reducible go_at_call 14);(with_reducible refine HDP.out.mono ?_);rintro en1 x1 ⟨rfl,hx⟩;have HB1:=q7 (qbo.out.trans ((qr hx).mono qbo.out.size));clear hx)
     refine⟨qt HB1.out,?_⟩;unfold qy
     (unfold j6;simp only[pk])
     repeat(go_big_quiet_step (fail))
     refine wpQuiet_nil ?_;unfold qy;have HCD:=q7 (q0U (HLA.out.up (q9S.out.trans (HB1.out.mono q9S.out.size))) ⟨e3,rfl,HE4.out.up HB1.out⟩);simp only[List.headD_cons]at HCD;rw[show((14:Nat):Int)=14 from rfl]at HCD
     go_wp2_with((with_reducible go_at_call 16);(with_reducible refine HCD.out.mono ?_);rintro en2 x2 ⟨rfl,hx⟩;have HB2:=q7 (HB1.out.trans ((qr hx).mono HB1.out.size));clear hx)
     refine⟨qt HB2.out,?_⟩;unfold qy
     (unfold j6;simp only[pk])
     repeat(go_big_quiet_step (fail))
     refine wpQuiet_nil ?_;unfold qy;have HAT:=q7 (atB (HLA.out.up (q9S.out.trans (HB2.out.mono q9S.out.size))) ⟨e3,rfl,HE4.out.up HB2.out⟩);simp only[List.headD_cons]at HAT
     go_wp2_with((with_reducible go_at_call 17);(with_reducible refine HAT.out.mono ?_);rintro en3 x3 ⟨rfl,hx⟩;have HB3:=q7 (HB2.out.trans ((qr hx).mono HB2.out.size));clear hx)
     refine⟨qt HB3.out,?_⟩;unfold qy
     (unfold j6;simp only[pk])
     repeat(go_big_quiet_step (fail))
     refine wpQuiet_nil ?_;unfold qy;have HKN:=q7 (fun W (hb:Below wbc.heap.size wbc W)=>dO (HLA.out.up (q9S.out.trans (hb.mono q9S.out.size))))
     go_wp2_with((with_reducible go_at_call 8);(with_reducible refine(HKN.out _ HB3.out).mono ?_);rintro en4 x4 ⟨rfl,hx⟩;have HB4:=q7 (HB3.out.trans ((qr hx).mono HB3.out.size));clear hx)
     refine⟨qt HB4.out,?_⟩;unfold qy
     (unfold j6;simp only[pk])
     repeat(go_big_quiet_step (fail))
     refine wpQuiet_nil ?_;unfold qy;unfold j6;intro hz hz2;clear hz2 hz;go_wp2;go_ret
     exact⟨rfl,qt (qq q9S.out HB4.out)⟩
   ·obtain rfl:=HE0.out hye
    have hyi:(((ye:Nat):Int) != 0)=true:=by simp;omega
    have HK:=q7 (dO (HLA.out.up qcy.out))
    go_wp2_with((with_reducible go_at_call 8);(with_reducible refine HK.out.mono ?_);rintro en w5 ⟨rfl,hx⟩;have HB5:=q7 (qq qcy.out (qr hx));clear hx)
    go_ret
    exact⟨rfl,qt HB5.out⟩
  ·have hci:(cc.size:Int)>100:=by omega
   have HK:=q7 (dO HL2.out)
   go_wp2_with((with_reducible go_at_call 8);(with_reducible refine HK.out.mono ?_);rintro en w3 ⟨rfl,hx⟩;have HB3:=q7 (qq HB2.out (qr hx));clear hx)
   go_ret
   exact⟨rfl,qt HB3.out⟩
end Go.Cm
namespace Go.Cm
open Go.RowKit Go.Proofs Go.WideShapes Go.ChangeShapes Go.Deep
section
variable {H : Type} {enc : TypeId × Value → H} {w : World} {base : Nat} {held : Bool}
theorem J7{fuel:Nat}{cs:List Value}{x:DataW H×List MemPlace}(h:DataW.trod enc Tryz.prog w base (fun _=>true) held fuel 24 cs=some x)(hw:∀n∈x.1.weights Tryz.prog 24,n<=reachBytes):
  ∃v l,cs=[v]/\js w v l/\(∀p∈l,yT p)/\∀p∈l,∀o∈p.ops,pL o:=by
 have c5:Tryz.prog.cellsOf 73=5:=by kernel_rfl
 have b5:Tryz.prog.bytesOf 73=96:=by kernel_rfl
 obtain⟨oa,len,cap,b,off,C,D,hcs,hd,hx⟩:=yA 5 (by decide) Tryz.underlying24 c5 (by rw[b5];decide) h hw
 have hN:∀i,i<len->∃z:PtN,fW w (C i) z/\yT z/\∀o∈z.ops,pL o:=fun i hi=>by
  obtain⟨hl,-,⟨n,p,h2⟩,h3⟩:=hx i hi
  exact D8 h2 hl h3
 obtain⟨Z,hZ⟩:=choose_lt hN;refine⟨.slice oa len cap,(List.range len).map Z,hcs,⟨(List.range len).map C,⟨oa,cap,b,off,by simp,by simpa using hd,fun i hi c hcl=>?_⟩,by simp,fun i hi=>?_⟩,fun z hz=>?_,fun z hz=>?_⟩
 ·have hi':i<len:=by simpa using hi
  rw[(hx i hi').2.1 c hcl]
  simp[List.getD,hi']
 ·have hi':i<len:=by simpa using hi
  have:=(hZ i hi').1
  simpa[List.getD,hi']using this
 ·obtain⟨i,hi,rfl⟩:=List.mem_map.1 hz
  exact(hZ i (List.mem_range.1 hi)).2.1
 ·obtain⟨i,hi,rfl⟩:=List.mem_map.1 hz
  exact(hZ i (List.mem_range.1 hi)).2.2
theorem X6{v:Value}{x:DataW H}{p:List MemPlace}{r:Reach}{b0:Nat}(hv:Value.okWide Tryz.prog w r b0 34 v)(h:DataW.Trod enc Tryz.prog w base (fun _=>true) held 34 v x p)(hw:∀n∈x.weights Tryz.prog 34,n<=reachBytes):
  ∃(g:GH) (vl:Value) (l:List PtN) (k:Int) (c:ByteArray),v=.agg #[.int .i64 g.time,.string g.extra,.string g.name,.string g.note,.int .i64 g.level,.int .i64 g.os,.bool g.text,.bool g.sum,.int .i64 g.flags,vl,.int .i64 k,.string c]/\X9 g/\js w vl l/\(∀p∈l,yT p)/\(∀p∈l,∀o∈p.ops,pL o)/\ -9223372036854775808<=k/\k<9223372036854775808/\c.size<=9223372036854775807:=by
 obtain⟨A,rfl,hsz⟩:=okWide_struct Tryz.underlying34 hv;obtain⟨fuel,hf⟩:=h;obtain⟨xs,n,-,hx,hlen,hxl,hg⟩:=DataW.trod_struct Tryz.underlying34 hf;have hs:A.size=12:=hsz.trans (by kernel_rfl)
 simp only[Prod.mk.injEq]at hx;obtain⟨hx1,-⟩:=hx
 match xs,hxl with
 |[x0,x1,x2,x3],_=>
  have h0:=hg 0 _ rfl;have h1:=hg 1 _ rfl;have h2:=hg 2 _ rfl;have h3:=hg 3 _ rfl;have c9:Tryz.prog.cellsOf 23=9:=by kernel_rfl
  have cp:Tryz.prog.cellsOf 24=1:=by kernel_rfl
  have c3:Tryz.prog.cellsOf 3=1:=by kernel_rfl
  have cs1:Tryz.prog.cellsOf 9=1:=by kernel_rfl
  simp only[List.getElem?_cons_zero,List.getElem?_cons_succ]at h0 h1 h2 h3
  change DataW.trod enc Tryz.prog w base (fun _=>true) held n 23 ((A.toList.drop 0).take (Tryz.prog.cellsOf 23))=some x0 at h0
  change DataW.trod enc Tryz.prog w base (fun _=>true) held n 24 ((A.toList.drop 9).take (Tryz.prog.cellsOf 24))=some x1 at h1
  change DataW.trod enc Tryz.prog w base (fun _=>true) held n 3 ((A.toList.drop 10).take (Tryz.prog.cellsOf 3))=some x2 at h2
  change DataW.trod enc Tryz.prog w base (fun _=>true) held n 9 ((A.toList.drop 11).take (Tryz.prog.cellsOf 9))=some x3 at h3
  have hwx:∀n∈DataW.weightsEach Tryz.prog [23,24,3,9] [x0.1,x1.1,x2.1,x3.1],n<=reachBytes:=fun k hk=>hw k (by
   rw[hx1]
   simpa[DataW.weights,Tryz.underlying34]using hk)
  have hw1:∀n∈x1.1.weights Tryz.prog 24,n<=reachBytes:=fun k hk=>hwx k (DataW.weights_mem_each (j:=1) rfl rfl k hk)
  rw[c9]at h0;rw[cp]at h1;obtain⟨g,eg,hgo⟩:=S7 h0 (by rw[List.length_take,List.length_drop,Array.length_toList];omega)
  obtain⟨vl,l,el,hp1,hp2,hp3⟩:=J7 h1 hw1;obtain⟨k,ek,-,fk⟩:=DataW.trod_int Tryz.underlying3 h2;obtain⟨c,ec,-,hcz⟩:=DataW.trod_string Tryz.underlying9 h3;rw[c3]at ek;rw[cs1]at ec;obtain⟨k1,k2⟩:=tM fk;refine⟨g,vl,l,k,c,?_,hgo,hp1,hp2,hp3,k1,k2,by unfold maxLen at hcz;omega⟩
  have hq:∀i v,(A.toList.drop i).take 1=[v]->A[i]? =some v:=fun i v e=>by
   have:=congrArg (fun l=>l[0]?) e
   simpa using this
  have h9:∀i,i<9->A[i]? =(ghC g)[i]? :=fun i hi=>by
   have:=congrArg (fun l=>l[i]?) eg
   simp only[List.drop_zero,List.getElem?_take,if_pos hi,Array.getElem?_toList]at this
   exact this
  congr 1
  refine Array.ext (by rw[hs];rfl) fun i hi hi2=>?_
  have hi5:i<12:=by omega
  have hq:A[i]? =(#[.int .i64 g.time,.string g.extra,.string g.name,.string g.note,.int .i64 g.level,.int .i64 g.os,.bool g.text,.bool g.sum,.int .i64 g.flags,vl,.int .i64 k,.string c]:Array Value)[i]? :=by
   match i,hi5 with
   |0,_=>exact h9 0 (by decide)
   |1,_=>exact h9 1 (by decide)
   |2,_=>exact h9 2 (by decide)
   |3,_=>exact h9 3 (by decide)
   |4,_=>exact h9 4 (by decide)
   |5,_=>exact h9 5 (by decide)
   |6,_=>exact h9 6 (by decide)
   |7,_=>exact h9 7 (by decide)
   |8,_=>exact h9 8 (by decide)
   |9,_=>rw[hq 9 _ el];rfl
   |10,_=>rw[hq 10 _ ek];rfl
   |11,_=>rw[hq 11 _ ec];rfl
   |i+12,h=>omega
  rw[Array.getElem?_eq_getElem hi,Array.getElem?_eq_getElem hi2]at hq
  exact ql hq
end
end Go.Cm
