/- Walks of functions and plain facts, joined and squeezed by a program. Conditions: as each says. -/
import Derived.Test.YtcdaljipemapbaaDoorRXTA
set_option maxHeartbeats 8000000
set_option maxRecDepth 100000
set_option linter.unusedSimpArgs false
namespace Go.Cm
open Go.RowKit Go.Proofs
theorem jT{s:ByteArray}{a b:Nat}{l:qM}(h:(((bys s).drop a).take (b-a))=l):s.extract a b=⟨l.toArray⟩:=by
 have:(s.extract a b).data.toList=l:=by
  rw[<-h];simp[bys,List.extract]
 cases hx:s.extract a b with
 |mk d=>rw[hx]at this;simp only at this;rw[<-this]
theorem t7{c:Nat}(hc:c<=27)(w:World):Calls Tryd.prog 47 #[.int .i64 c] w fun e w'=>e=.returned (.string ⟨(nmB c).toArray⟩)/\∃x,w'=ext w x:=by
 obtain⟨R,hR⟩:∃R,R=(.string ⟨(nmB c).toArray⟩:Value):=⟨_,rfl⟩;rw[<-hR];have HR:=q9 hR;clear hR
 go_enter Tryd.func47,Tryd.ntmps47
 generalize hC:ByteArray.mk (List.toArray (List.append (List.append _ _) (List.append _ _)))=C;have hC2:bys C=fY:=by rw[<-hC];decide+kernel
 clear hC;have hsz:C.size=155:=by rw[<-qt,hC2];exact pD.2
 have HC:=q9 hC2;have HIX:=q9 (fun(i:Nat) (h:i<C.size) (W:World)=>jc (P:=Tryd.prog) 9 Tryd.underlying9 h W)
 have HST:=q9 rN;clear hC2
 go_wp2_with((with_reducible go_at_call 58);refine(pE hc _).mono ?_;rintro en w2 ⟨rfl,x2,rfl⟩)
 go_loopg [0,3,8] 155 (fun gk cv fv iv wr=>∃i:Nat,i<=155/\iv=.int .i64 i/\cv=.int .i64 ((c:Int)-(jw i:Nat))/\fv=.int .i64 (aI (jw i):Nat)/\jw i<=c/\gk=155-i/\Below w.heap.size w wr)
 case atStart=>
  have z1:jw 0=0:=by decide
  have z2:aI 0=0:=by decide
  exact⟨0,by omega,rfl,by rw[z1];simp,by rw[z1,z2];rfl,by omega,rfl,qL (qi _ _) x2⟩
 case round=>
  obtain⟨i,hi,rfl,rfl,rfl,hle,rfl,vH⟩:=hrel
  by_cases h1:i<155
  ·have h1i:(i:Int)<155:=by omega
   obtain⟨s1,s2,s3,s4⟩:=HST.out i h1;have hx:=HIX.out i (by omega)
   rw[HC.out]at hx
   by_cases h2:fY.getD i 0=32
   ·obtain⟨t1,t2,t3⟩:=s3 h2
    rw[h2]at hx;simp only[show((UInt8.toNat 32:Nat):Int)=32 from rfl]at hx
    by_cases h3:c=jw i
    ·have yH:R=.string (C.extract (aI (jw i)) i):=by rw[HR.out,h3,jT (l:=nmB (jw i)) (by rw[HC.out];exact t1)]
     have HE:=q9 yH;have e0:((c:Int)-(jw i:Nat)==0)=true:=by simp;omega
     have b1:(0:Int)<=(aI (jw i):Nat):=by omega
     have b2:((aI (jw i):Nat):Int)<=(i:Int):=by omega
     have b3:(i:Int)<=(C.size:Int):=by omega
     generalize aI (jw i)=fr at*;clear yH t1 t2 t3 s2 s3 s4 h2 HST HIX;go_wp2;go_ret
     exact⟨by rw[HE.out];simp,qv vH⟩
    ·have e0:((c:Int)-(jw i:Nat)==0)=false:=by simp;omega
     have H1:=q9 t2;have H3:=q9 t3;have hfr:((aI (jw i):Nat):Int)<=155:=by omega
     clear t1 t2 t3 s2 s3 s4 h2 HST HIX;go_wp2
     go_roundg (155-(i+1))
     case measure=>omega
     case rel=>exact⟨i+1,by omega,by congr 1,by rw[H1.out];congr 1;omega,by rw[H1.out,H3.out];congr 1,by rw[H1.out];omega,rfl,vH⟩
   ·have hne:=gM h2
    simp only[show((UInt8.toNat 32:Nat):Int)=32 from rfl]at hne
    have H1:=q9 (s4 h2);generalize (fY.getD i 0).toNat=y at*;have B9:((y:Int) != 32)=true:=by simpa[bne]using hne
    clear s2 s3 s4 h2 HST HIX;go_wp2
    go_roundg (155-(i+1))
    case measure=>omega
    case rel=>exact⟨i+1,by omega,by congr 1,by rw[H1.out],by rw[H1.out],by rw[H1.out];omega,rfl,vH⟩
  ·have:i=155:=by omega
   subst this;have:=pD.1;omega
theorem mQ(W:World):(sizeOf 5).run Tryd.prog W=.ok 1 W:=by kernel_rfl
theorem dJ(l:qM)(i:Nat)(h:i<l.length):(qT l).getD i undef=.int .u8 ((l.getD i 0).toNat:Nat):=by
 simp[qT,List.getD,h]
theorem kP(l:qM)(i:Nat)(b:UInt8):(qT l).set i (.int .u8 (b.toNat:Nat))=qT (l.set i b):=by
 simp[qT,List.map_set]
theorem oA(u:Nat):(UInt8.ofNat (48+u%10)).toNat=48+u%10:=by
 rw[UInt8.toNat_ofNat'];omega
theorem mR{n:Nat}(hn:n<10^18)(w:World):Calls Tryd.prog 48 #[.int .i64 n] w fun e w'=>e=.returned (.string ⟨(fX n).toArray⟩)/\∃x,w'=ext w x:=by
 have hlen:=bR 18 n hn;obtain⟨L,hL⟩:∃L,L=fX n:=⟨_,rfl⟩;rw[<-hL]at hlen⊢;have HL:=q9 hL;have A5:=q9 hlen;clear hL hlen;have hn2:n<=1000000000000000000:=by omega
 clear hn
 go_enter Tryd.func48,Tryd.ntmps48
 go_wp2;have h3:=jj w w.heap.size (qT (List.replicate 20 0)).toArray 96 (by simp[qT]) (qa _)
 have hb1:=qo w (.cells (qT (List.replicate 20 0)).toArray 96);simp only[show(qT (List.replicate 20 0)).toArray.size=20 from rfl]at h3
 have hz:(qT (List.replicate 20 0)).toArray=#[Value.int .u8 0,Value.int .u8 0,Value.int .u8 0,Value.int .u8 0,Value.int .u8 0,Value.int .u8 0,Value.int .u8 0,Value.int .u8 0,Value.int .u8 0,Value.int .u8 0,Value.int .u8 0,Value.int .u8 0,Value.int .u8 0,Value.int .u8 0,Value.int .u8 0,Value.int .u8 0,Value.int .u8 0,Value.int .u8 0,Value.int .u8 0,Value.int .u8 0]:=rfl;rw[hz]at hb1 h3;generalize hw1:w.alloc (.cells _ 96)=w1;rw[hw1]at h3 hb1;have HO:Hid (Own w1 w.heap.size 96 (.slice (some ⟨w.heap.size,0,none⟩) 20 20) (qT (List.replicate 20 0))):=q9 h3;have HB:=q9 hb1;clear h3 hb1 hw1 hz
 go_loopg [4,5] 19 (fun gk av uv wr=>∃(ys:qM) (D:qM) (u m:Nat),av=.int .i64 ((m:Int)+1)/\uv=.int .u64 u/\Hid (Own wr w.heap.size 96 (.slice (some ⟨w.heap.size,0,none⟩) 20 20) (qT ys))/\Hid (ys.length=20/\ys.drop (m+1)=D/\D.length+m=19/\L=fX u++D)/\u<=n/\m<=19/\2<=m/\gk=m/\Hid (Below w.heap.size w wr))
 case atStart=>exact⟨_,[],n,19,rfl,rfl,HO,q9 ⟨rfl,rfl,rfl,by rw[HL.out];simp⟩,qa _,by omega,by omega,by omega,HB⟩
 case round=>
  obtain⟨ys,D,u,m,rfl,rfl,HOr,HD,hu,hm,hm2,rfl,HBr⟩:=hrel;have hyl:=HD.out.1;have c1:wr.cell? ⟨w.heap.size,gk,none⟩=some (.int .u8 ((ys.getD gk 0).toNat:Nat)):=by rw[HOr.out.cell (by rw[qR];omega),dJ ys gk (by omega)]
  have f1:wr.frozen? ⟨w.heap.size,gk,none⟩=false:=HOr.out.free gk;have hmi:(gk:Int)<20:=by omega
  have hu2:(u:Int)<=1000000000000000000:=by omega
  have ho:=(HOr.out.store gk (.int .u8 (((UInt8.ofNat (48+u%10)).toNat:Nat):Int))).1;rw[kP]at ho;have hb2:=HBr.out.setCell (p:=⟨w.heap.size,gk,none⟩) (qa _) (.int .u8 (((UInt8.ofNat (48+u%10)).toNat:Nat):Int));rw[oA,show(((48+u%10:Nat)):Int)=48+(u:Int)%10 by omega]at ho hb2
  have HO2:=q9 ho;have HB2:=q9 hb2
  have hD2:(ys.set gk (UInt8.ofNat (48+u%10))).drop gk=UInt8.ofNat (48+u%10)::D:=by
   rw[List.drop_set,if_neg (by omega),Nat.sub_self,List.drop_eq_getElem_cons (by omega),HD.out.2.1];rfl
  have HD2:=q9 hD2;generalize (ys.getD gk 0).toNat=yy at*;clear ho hb2 hD2 hyl
  by_cases wD:u<10
  ·have hq:(u:Int)/10=0:=by omega
   have hLL:L=UInt8.ofNat (48+u%10)::D:=by rw[HD.out.2.2.2,aM wD,Nat.mod_eq_of_lt wD];rfl
   have hsl:∀W:World,(Instr.sliceAt 96 (.pointer (some ⟨w.heap.size,0,none⟩)) (some (.int .i64 (gk:Nat))) none none).run Tryd.prog W=.ok (.slice (some ⟨w.heap.size,gk,none⟩) (20-gk) (20-gk)) W:=fun W=>by
    rw[run_sliceAt_array_l (P:=Tryd.prog) W 96 ⟨w.heap.size,0,none⟩ Tryd.underlying96 .i64 (gk:Nat) (by omega) (by rw[show Tryd.prog.arrayLen 96=20 by kernel_rfl];omega),show Tryd.prog.arrayLen 96=20 by kernel_rfl,show Tryd.prog.elem 96=5 by kernel_rfl,mQ]
    simp[slicedAt,Result.andThen,Addr.add,show¬20=gk by omega]
    omega
   have yD:Sl (wr.setCell ⟨w.heap.size,gk,none⟩ (.int .u8 (48+(u:Int)%10))) (.slice (some ⟨w.heap.size,gk,none⟩) (20-gk) (20-gk)) (qT L):=by
    have hl:L.length=20-gk:=by rw[hLL,List.length_cons];have:=HD.out.2.2.1;omega
    refine⟨_,_,w.heap.size,gk,by rw[qR,hl],⟨fun _=>rfl,by rw[qR,hl];exact qa _,by simp[maxLen];omega,by rw[qR];omega,fun _=>HO2.out.blk.2⟩,fun i hi=>?_⟩
    rw[qR]at hi;rw[HO2.out.cell (by rw[qR,List.length_set,HD.out.1];omega),hLL,<-HD2.out]
    rw[dJ _ _ (by rw[List.length_set,HD.out.1];omega),dJ _ _ (by rw[List.length_drop,List.length_set,HD.out.1];omega)]
    simp[List.getD]
   have hcv:∀W,W=wr.setCell ⟨w.heap.size,gk,none⟩ (.int .u8 (48+(u:Int)%10))->(convert 97 9 (.slice (some ⟨w.heap.size,gk,none⟩) (20-gk) (20-gk))).run Tryd.prog W=.ok (.string ⟨L.toArray⟩) W:=fun W hW=>by
    rw[hW]
    exact jX _ _ _ 5 Tryd.underlying97 Tryd.underlying5 Tryd.underlying9 _ _ yD
   have C7:=hcv _ rfl;clear yD hLL hcv;go_wp2;go_ret
   exact⟨rfl,qv HB2.out⟩
  ·have hq:((u:Int)/10==0)=false:=by simp;omega
   have hge:3<=gk:=by
    have h1:=A5.out;have h2:=o9 (u/10);have h3:=HD.out.2.2.2;rw[cP wD]at h3;have h4:=congrArg List.length h3;simp only[qg,List.length_cons,List.length_nil]at h4;have h5:=HD.out.2.2.1;omega
   obtain⟨q,rfl⟩:∃q,gk=q+1:=⟨gk-1,by omega⟩
   go_wp2
   go_roundg q
   case measure=>omega
   case rel=>
    refine⟨_,UInt8.ofNat (48+u%10)::D,u/10,q,by congr 1,by congr 1,HO2,q9 ⟨by rw[List.length_set,HD.out.1],HD2.out,by rw[List.length_cons];have:=HD.out.2.2.1;omega,by rw[HD.out.2.2.2,cP wD];simp⟩,by omega,by omega,by omega,rfl,HB2⟩
theorem c7(l:qM):(⟨l.toArray⟩:ByteArray).size=l.length:=by simp[ByteArray.size]
theorem t8:∀(l:List (Nat×Nat)) (x:Nat×Nat) {w:World} {p:Nat} (_:j6 w) (_:j9 w (x::l) (.iface 52 (.pointer (some ⟨p,0,none⟩)))) (_:∀y∈x::l,y.1<=27/\y.2<10^18) (_:l.length<=1000),Calls Tryd.prog 34 #[.pointer (some ⟨p,0,none⟩)] w fun e w'=>e=.returned (.string ⟨(eV (x::l)).toArray⟩)/\∃x,w'=ext w x:=by
 intro l
 induction l with
 |nil=>
  intro x w p hL h hb hl;obtain⟨p',u,e1,h1,h2,h3,h4,h5⟩:=h
  cases e1
  have hc:=(hb x (by simp)).1
  have hn:=(hb x (by simp)).2
  have HL:=q9 hL;have H5:=q9 h5;have HN:=q9 (fun W:World=>t7 hc W)
  have HM:=q9 (fun W:World=>mR hn W)
  have hl1:(nmB x.1).length<=8:=mM;have hl2:(fX x.2).length<=18:=bR 18 _ hn;have hs:eV [x]=nmB x.1++([32,97,116,32]++fX x.2):=by simp[eV,kO]
  rw[hs];generalize nmB x.1=A at*;generalize fX x.2=D at*;clear hs h5 hL
  go_enter Tryd.func34,Tryd.ntmps34
  go_wp2;refine ji (by kernel_rfl) (by kernel_rfl) ?_
  repeat(first
   |(go_big_quiet_want;refine gA _ _ _ _ rfl _ _ rfl rfl (by simp only[qg,List.length_cons,List.length_nil];omega) ?_;go_simp;go_big_quiet_on)
   |go_big_quiet_step (first|(go_at_call 47;exact jq (HN.out _))|(go_at_call 48;exact jq (HM.out _))))
  refine wpQuiet_nil ?_;intro w1 hw1;have hb1:=qn hw1;clear hw1;have c2:w1.cell? ⟨p,2,none⟩=some u:=by rw[hb1.cell (p:=⟨p,2,none⟩) h1];exact h4
  have HE:=q9 (iQ (HL.out.up hb1) (H5.out.up hb1));have B7:=H5.out.one;have HB1:=q9 hb1;clear hb1 h2 h3 h4 HN HM;obtain⟨q,rfl⟩:=id H5.out
  go_wp2_with((with_reducible go_at_call 28);refine HE.out.mono ?_;rintro en w2 ⟨rfl,hx⟩;have HB2:=q9 (j7 HB1.out (qn hx));clear hx)
  go_ret
  exact⟨by simp,qv HB2.out⟩
 |cons y l ih=>
  intro x w p hL h hb hl;obtain⟨p',u,e1,h1,h2,h3,h4,h5⟩:=h
  cases e1
  have hc:=(hb x (by simp)).1
  have hn:=(hb x (by simp)).2
  have HL:=q9 hL;have H5:=q9 h5;have HN:=q9 (fun W:World=>t7 hc W)
  have HM:=q9 (fun W:World=>mR hn W)
  have hl1:(nmB x.1).length<=8:=mM;have hl2:(fX x.2).length<=18:=bR 18 _ hn;have hl3:(eV (y::l)).length<=42*(y::l).length:=iP _ (fun z hz=>Nat.lt_trans (hb z (List.mem_cons_of_mem _ hz)).2 (by decide))
  have hl4:(eV (y::l)).length<=50000:=by rw[List.length_cons]at hl3 hl;omega
  have hs:eV (x::y::l)=nmB x.1++([32,97,116,32]++fX x.2)++[58,32]++eV (y::l):=by simp[eV,kO]
  rw[hs];have HI:=q9 (fun(W:World) (p:Nat) (hL:j6 W) (h:j9 W (y::l) (.iface 52 (.pointer (some ⟨p,0,none⟩))))=>ih y hL h (fun z hz=>hb z (List.mem_cons_of_mem _ hz)) (by rw[List.length_cons]at hl;omega))
  generalize eV (y::l)=S at*;generalize nmB x.1=A at*;generalize fX x.2=D at*;clear hs h5 hL hl3 ih hb
  go_enter Tryd.func34,Tryd.ntmps34
  go_wp2;refine ji (by kernel_rfl) (by kernel_rfl) ?_
  repeat(first
   |(go_big_quiet_want;refine gA _ _ _ _ rfl _ _ rfl rfl (by simp only[qg,List.length_cons,List.length_nil];omega) ?_;go_simp;go_big_quiet_on)
   |go_big_quiet_step (first|(go_at_call 47;exact jq (HN.out _))|(go_at_call 48;exact jq (HM.out _))))
  refine wpQuiet_nil ?_;intro w1 hw1;have hb1:=qn hw1;clear hw1;have c2:w1.cell? ⟨p,2,none⟩=some u:=by rw[hb1.cell (p:=⟨p,2,none⟩) h1];exact h4
  have hcu:=H5.out.up hb1;obtain⟨p2,-,rfl,-⟩:=id hcu;have HE:=q9 (dI (HL.out.up hb1) hcu);have HC1:=q9 hcu;have HB1:=q9 hb1;have A4:=q9 (HL.out.up hb1);clear hb1 h2 h3 h4 HN HM hcu;have z1:(⟨(A++32::97::116::32::D).toArray⟩:ByteArray).size<=100:=by rw[c7];simp only[qg,List.length_cons];omega
  have HZ2:=q9 (eX (A++32::97::116::32::D) [58,32]);have HZ3:=q9 (eX (A++32::97::116::32::D++[58,32]) S);have z2:(⟨(A++32::97::116::32::D++[58,32]).toArray⟩:ByteArray).size<=102:=by rw[c7];simp only[qg,List.length_cons,List.length_nil];omega
  have z3:(⟨S.toArray⟩:ByteArray).size<=50000:=by rw[c7];exact hl4
  go_wp2_with(first
   |((with_reducible go_at_call 28);refine HE.out.mono ?_;rintro en w2 ⟨rfl,hx⟩;have HB2:=q9 (qn hx);clear hx)
   |((with_reducible go_at_call 34);refine(HI.out _ _ (A4.out.up HB2.out) (HC1.out.up HB2.out)).mono ?_;rintro en w3 ⟨rfl,hx⟩;have HB3:=q9 (j7 (j7 HB1.out HB2.out) (qn hx));clear hx))
  go_ret
  exact⟨congrArg (fun s=>Ending.returned (.string s)) (by rw[show(⟨#[58,32]⟩:ByteArray)=⟨([58,32]:qM).toArray⟩from rfl,HZ2.out,HZ3.out]),qv HB3.out⟩
theorem rR{w:World}{l:List (Nat×Nat)}{v:Value}(hL:j6 w)(h:jd w l v)(hb:∀y∈l,y.1<=27/\y.2<10^18)(hl:l.length<=1000):Calls Tryd.prog 17 #[v] w fun e w'=>e=.returned (.string ⟨(eV l).toArray⟩)/\∃x,w'=ext w x:=by
 obtain⟨e,rfl,he⟩:=h;have HL:=q9 (hL.up (qo w (.cells #[e] 32)));have c0:(w.alloc (.cells #[e] 32)).cell? ⟨w.heap.size,0,none⟩=some e:=by simp
 cases l with
 |nil=>
  obtain rfl:e=.nilIface:=by unfold qQ at he;rwa [if_pos rfl]at he
  go_enter Tryd.func17,Tryd.ntmps17
  go_wp2_with((with_reducible go_at_call 28);refine(eW _).mono ?_;rintro en w2 ⟨rfl,x2,rfl⟩)
  go_ret
  exact⟨rfl,(qv (by repeat(first|exact qi _ _|assumption|refine qF ?_ _|refine qj ?_|refine qL ?_ _|refine qx ?_ _)))⟩
 |cons y l=>
  have HC:=q9 (he.some.up (qo w (.cells #[e] 32)));obtain⟨p,u,rfl,-⟩:=he.some;have HE:=q9 (fun(W:World) (hL:j6 W) (h:j9 W (y::l) (.iface 52 (.pointer (some ⟨p,0,none⟩))))=>t8 l y hL h hb (by rw[List.length_cons]at hl;omega))
  clear he hb;generalize eV (y::l)=S at*
  go_enter Tryd.func17,Tryd.ntmps17
  go_wp2_with(first
   |((with_reducible go_at_call 28);refine(dI HL.out HC.out).mono ?_;rintro en w2 ⟨rfl,x2,rfl⟩)
   |((with_reducible go_at_call 34);refine(HE.out _ (HL.out.up (qB _ _)) (HC.out.up (qB _ _))).mono ?_;rintro en w3 ⟨rfl,x3,rfl⟩))
  go_ret
  exact⟨rfl,(qv (by repeat(first|exact qi _ _|assumption|refine qF ?_ _|refine qj ?_|refine qL ?_ _|refine qx ?_ _)))⟩
end Go.Cm
