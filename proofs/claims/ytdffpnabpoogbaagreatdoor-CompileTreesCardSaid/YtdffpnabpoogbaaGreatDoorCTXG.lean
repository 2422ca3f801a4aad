/- Walks of functions and plain facts, joined and squeezed by a program. Conditions: as each says. -/
import Derived.Test.YtdffpnabpoogbaaGreatDoorCTXE
set_option maxHeartbeats 8000000
set_option maxRecDepth 100000
set_option linter.unusedSimpArgs false
open Go.Proofs.Tryz
namespace Go.Cm
open Go.RowKit Go.Proofs
theorem lL{s:ByteArray}{a b:Nat}{l:cX}(h:(((bys s).drop a).take (b-a))=l):s.extract a b=⟨l.toArray⟩:=by
 have:(s.extract a b).data.toList=l:=by
  rw[<-h];simp[bys,List.extract]
 cases hx:s.extract a b with
 |mk d=>rw[hx]at this;simp only at this;rw[<-this]
theorem q92{c:Nat}(hc:c<=27)(w:World):Calls prog 60 #[.int .i64 c] w fun e w'=>e=.returned (.string ⟨(nmB c).toArray⟩)/\∃x,w'=ext w x:=by
 obtain⟨R,hR⟩:∃R,R=(.string ⟨(nmB c).toArray⟩:Value):=⟨_,rfl⟩;rw[<-hR];have HR:=qa hR;clear hR;go_enter func60,ntmps60;generalize hC:ByteArray.mk (List.toArray (List.append (List.append _ _) (List.append _ _)))=C;have hC2:bys C=Q7:=by rw[<-hC];decide+kernel
 clear hC;have hsz:C.size=155:=by rw[<-aP,hC2];exact q6m.2
 have HC:=qa hC2;have HIX:=qa (fun(i:Nat) (h:i<C.size) (W:World)=>e6 (P:=prog) 9 underlying9 h W);have HST:=qa q7w;clear hC2
 go_wp2_with((with_reducible go_at_call 83);refine(q6n hc _).mono ?_;rintro en w2 ⟨rfl,x2,rfl⟩)
 go_loopg [0,3,8] 155 (fun gk cv fv iv wr=>∃i:Nat,i<=155/\iv=.int .i64 i/\cv=.int .i64 ((c:Int)-(kU i:Nat))/\fv=.int .i64 (oM (kU i):Nat)/\kU i<=c/\gk=155-i/\Below w.heap.size w wr)
 case atStart=>
  have z1:kU 0=0:=by decide
  have z2:oM 0=0:=by decide
  exact⟨0,by omega,rfl,by rw[z1];simp,by rw[z1,z2];rfl,by omega,rfl,kK (qk _ _) x2⟩
 case round=>
  obtain⟨i,hi,rfl,rfl,rfl,hle,rfl,qbe⟩:=hrel;by_cases h1:i<155
  ·have h1i:(i:Int)<155:=by omega
   obtain⟨s1,s2,s3,s4⟩:=HST.o i h1;have hx:=HIX.o i (by omega);rw[HC.o]at hx;by_cases h2:Q7.getD i 0=32
   ·obtain⟨t1,t2,t3⟩:=s3 h2
    rw[h2]at hx;simp only[show((UInt8.toNat 32:Nat):Int)=32 from rfl]at hx;by_cases h3:c=kU i
    ·have qh4:R=.string (C.extract (oM (kU i)) i):=by rw[HR.o,h3,lL (l:=nmB (kU i)) (by rw[HC.o];exact t1)]
     have HE:=qa qh4;have e0:((c:Int)-(kU i:Nat)==0)=true:=by simp;omega
     have b1:(0:Int)<=(oM (kU i):Nat):=by omega
     have b2:((oM (kU i):Nat):Int)<=(i:Int):=by omega
     have b3:(i:Int)<=(C.size:Int):=by omega
     generalize oM (kU i)=fr at*;clear qh4 t1 t2 t3 s2 s3 s4 h2 HST HIX;go_wp2;go_ret;exact⟨by rw[HE.o];simp,aI qbe⟩
    have e0:((c:Int)-(kU i:Nat)==0)=false:=by simp;omega
    have H1:=qa t2;have H3:=qa t3;have hfr:((oM (kU i):Nat):Int)<=155:=by omega
    clear t1 t2 t3 s2 s3 s4 h2 HST HIX;go_wp2
    go_roundg (155-(i+1))
    case measure=>omega
    case rel=>exact⟨i+1,by omega,by congr 1,by rw[H1.o];congr 1;omega,by rw[H1.o,H3.o];congr 1,by rw[H1.o];omega,rfl,qbe⟩
   have hne:=kI h2;simp only[show((UInt8.toNat 32:Nat):Int)=32 from rfl]at hne;have H1:=qa (s4 h2);generalize (Q7.getD i 0).toNat=y at*;have qco:((y:Int) != 32)=true:=by simpa[bne]using hne
   clear s2 s3 s4 h2 HST HIX;go_wp2
   go_roundg (155-(i+1))
   case measure=>omega
   case rel=>exact⟨i+1,by omega,by congr 1,by rw[H1.o],by rw[H1.o],by rw[H1.o];omega,rfl,qbe⟩
  have:i=155:=by omega
  subst this;have:=q6m.1;omega
theorem q3L(W:World):(sizeOf 5).run prog W=.ok 1 W:=by kernel_rfl
theorem yJ(l:cX)(i:Nat)(h:i<l.length):(cK l).getD i undef=.int .u8 ((l.getD i 0).toNat:Nat):=by
 simp[cK,List.getD,h]
theorem q1Q(l:cX)(i:Nat)(b:UInt8):(cK l).set i (.int .u8 (b.toNat:Nat))=cK (l.set i b):=by
 simp[cK,a9]
theorem q5s(u:Nat):(UInt8.ofNat (48+u%10)).toNat=48+u%10:=by
 rw[UInt8.toNat_ofNat'];omega
theorem q3M{n:Nat}(hn:n<10^18)(w:World):Calls prog 61 #[.int .i64 n] w fun e w'=>e=.returned (.string ⟨(Q6 n).toArray⟩)/\∃x,w'=ext w x:=by
 have hlen:=t0 18 n hn;obtain⟨L,hL⟩:∃L,L=Q6 n:=⟨_,rfl⟩;rw[<-hL]at hlen⊢;have HL:=qa hL;have qg5:=qa hlen;clear hL hlen;have hn2:n<=1000000000000000000:=by omega
 clear hn;go_enter func61,ntmps61;go_wp2;have h3:=bU w w.heap.size (cK (List.replicate 20 0)).toArray 142 (by simp[cK]) (qb _);have hb1:=aA w (.cells (cK (List.replicate 20 0)).toArray 142);simp only[show(cK (List.replicate 20 0)).toArray.size=20 from rfl]at h3;have hz:(cK (List.replicate 20 0)).toArray=#[Value.int .u8 0,Value.int .u8 0,Value.int .u8 0,Value.int .u8 0,Value.int .u8 0,Value.int .u8 0,Value.int .u8 0,Value.int .u8 0,Value.int .u8 0,Value.int .u8 0,Value.int .u8 0,Value.int .u8 0,Value.int .u8 0,Value.int .u8 0,Value.int .u8 0,Value.int .u8 0,Value.int .u8 0,Value.int .u8 0,Value.int .u8 0,Value.int .u8 0]:=rfl;rw[hz]at hb1 h3;generalize hw1:w.alloc (.cells _ 142)=w1;rw[hw1]at h3 hb1;have HO:Hid (Own w1 w.heap.size 142 (.slice (some ⟨w.heap.size,0,none⟩) 20 20) (cK (List.replicate 20 0))):=qa h3;have HB:=qa hb1;clear h3 hb1 hw1 hz
 go_loopg [4,5] 19 (fun gk av uv wr=>∃(ys:cX) (D:cX) (u m:Nat),av=.int .i64 ((m:Int)+1)/\uv=.int .u64 u/\Hid (Own wr w.heap.size 142 (.slice (some ⟨w.heap.size,0,none⟩) 20 20) (cK ys))/\Hid (ys.length=20/\ys.drop (m+1)=D/\D.length+m=19/\L=Q6 u++D)/\u<=n/\m<=19/\2<=m/\gk=m/\Hid (Below w.heap.size w wr))
 case atStart=>exact⟨_,[],n,19,rfl,rfl,HO,qa ⟨rfl,rfl,rfl,by rw[HL.o];simp⟩,qb _,by omega,by omega,by omega,HB⟩
 case round=>
  obtain⟨ys,D,u,m,rfl,rfl,HOr,HD,hu,hm,hm2,rfl,HBr⟩:=hrel;have hyl:=HD.o.1;have c1:wr.cell? ⟨w.heap.size,gk,none⟩=some (.int .u8 ((ys.getD gk 0).toNat:Nat)):=by rw[HOr.o.cell (by rw[dA];omega),yJ ys gk (by omega)]
  have f1:wr.frozen? ⟨w.heap.size,gk,none⟩=false:=HOr.o.free gk;have hmi:(gk:Int)<20:=by omega
  have hu2:(u:Int)<=1000000000000000000:=by omega
  have ho:=(HOr.o.store gk (.int .u8 (((UInt8.ofNat (48+u%10)).toNat:Nat):Int))).1;rw[q1Q]at ho;have hb2:=HBr.o.setCell (p:=⟨w.heap.size,gk,none⟩) (qb _) (.int .u8 (((UInt8.ofNat (48+u%10)).toNat:Nat):Int));rw[q5s,show(((48+u%10:Nat)):Int)=48+(u:Int)%10 by omega]at ho hb2;have HO2:=qa ho;have HB2:=qa hb2
  have hD2:(ys.set gk (UInt8.ofNat (48+u%10))).drop gk=UInt8.ofNat (48+u%10)::D:=by
   rw[List.drop_set,qr (by omega),Nat.sub_self,jB (by omega),HD.o.2.1];rfl
  have HD2:=qa hD2;generalize (ys.getD gk 0).toNat=yy at*;clear ho hb2 hD2 hyl;by_cases qcp:u<10
  ·have hq:(u:Int)/10=0:=by omega
   have hLL:L=UInt8.ofNat (48+u%10)::D:=by rw[HD.o.2.2.2,pK qcp,Nat.mod_eq_of_lt qcp];rfl
   have hsl:∀W:World,(Instr.sliceAt 142 (.pointer (some ⟨w.heap.size,0,none⟩)) (some (.int .i64 (gk:Nat))) none none).run prog W=.ok (.slice (some ⟨w.heap.size,gk,none⟩) (20-gk) (20-gk)) W:=fun W=>by
    rw[run_sliceAt_array_l (P:=prog) W 142 ⟨w.heap.size,0,none⟩ underlying142 .i64 (gk:Nat) (by omega) (by rw[show prog.arrayLen 142=20 by kernel_rfl];omega),show prog.arrayLen 142=20 by kernel_rfl,show prog.elem 142=5 by kernel_rfl,q3L];simp[slicedAt,Result.andThen,Addr.add,show¬20=gk by omega];omega
   have qgA:Sl (wr.setCell ⟨w.heap.size,gk,none⟩ (.int .u8 (48+(u:Int)%10))) (.slice (some ⟨w.heap.size,gk,none⟩) (20-gk) (20-gk)) (cK L):=by
    have hl:L.length=20-gk:=by rw[hLL,qx];have:=HD.o.2.2.1;omega
    refine⟨_,_,w.heap.size,gk,by rw[dA,hl],⟨fun _=>rfl,by rw[dA,hl];exact qb _,by simp[maxLen];omega,by rw[dA];omega,fun _=>HO2.o.blk.2⟩,fun i hi=>?_⟩;rw[dA]at hi;rw[HO2.o.cell (by rw[dA,j8,HD.o.1];omega),hLL,<-HD2.o];rw[yJ _ _ (by rw[j8,HD.o.1];omega),yJ _ _ (by rw[qY,j8,HD.o.1];omega)];simp[List.getD]
   have hcv:∀W,W=wr.setCell ⟨w.heap.size,gk,none⟩ (.int .u8 (48+(u:Int)%10))->(convert 143 9 (.slice (some ⟨w.heap.size,gk,none⟩) (20-gk) (20-gk))).run prog W=.ok (.string ⟨L.toArray⟩) W:=fun W hW=>by
    rw[hW];exact fI _ _ _ 5 underlying143 underlying5 underlying9 _ _ qgA
   have qlb:=hcv _ rfl;clear qgA hLL hcv;go_wp2;go_ret;exact⟨rfl,aI HB2.o⟩
  have hq:((u:Int)/10==0)=false:=by simp;omega
  have hge:3<=gk:=by
   have h1:=qg5.o;have h2:=q5q (u/10);have h3:=HD.o.2.2.2;rw[wK qcp]at h3;have h4:=qW List.length h3;simp only[qi,qx,qK]at h4;have h5:=HD.o.2.2.1;omega
  obtain⟨q,rfl⟩:∃q,gk=q+1:=⟨gk-1,by omega⟩;go_wp2
  go_roundg q
  case measure=>omega
  case rel=>
   refine⟨_,UInt8.ofNat (48+u%10)::D,u/10,q,by congr 1,by congr 1,HO2,qa ⟨by rw[j8,HD.o.1],HD2.o,by rw[qx];have:=HD.o.2.2.1;omega,by rw[HD.o.2.2.2,wK qcp];simp⟩,by omega,by omega,by omega,rfl,HB2⟩
theorem uT(l:cX):(⟨l.toArray⟩:ByteArray).size=l.length:=by simp[ByteArray.size]
theorem q93:∀(l:List (Nat×Nat)) (x:Nat×Nat) {w:World} {p:Nat} (_:gJ w) (_:gK w (x::l) (.iface 75 (.pointer (some ⟨p,0,none⟩)))) (_:∀y∈x::l,y.1<=27/\y.2<10^18) (_:l.length<=1000),Calls prog 38 #[.pointer (some ⟨p,0,none⟩)] w fun e w'=>e=.returned (.string ⟨(Q8 (x::l)).toArray⟩)/\∃x,w'=ext w x:=by
 intro l
 induction l with
 |nil=>
  intro x w p hL h hb hl;obtain⟨p',u,e1,h1,h2,h3,h4,h5⟩:=h;cases e1;have hc:=(hb x (by simp)).1;have hn:=(hb x (by simp)).2;have HL:=qa hL;have H5:=qa h5;have HN:=qa (fun W:World=>q92 hc W);have HM:=qa (fun W:World=>q3M hn W);have hl1:(nmB x.1).length<=8:=q3H;have hl2:(Q6 x.2).length<=18:=t0 18 _ hn;have hs:Q8 [x]=nmB x.1++([32,97,116,32]++Q6 x.2):=by simp[Q8,q1P]
  rw[hs];generalize nmB x.1=A at*;generalize Q6 x.2=D at*;clear hs h5 hL;go_enter func38,ntmps38;go_wp2;refine bO (by kernel_rfl) (by kernel_rfl) ?_
  repeat(first
   |(go_big_quiet_want;refine R4 _ _ _ _ rfl _ _ rfl rfl (by simp only[qi,qx,qK];omega) ?_;go_simp;go_big_quiet_on)
   |go_big_quiet_step (first|(go_at_call 60;exact bY (HN.o _))|(go_at_call 61;exact bY (HM.o _))))
  refine wpQuiet_nil ?_;intro w1 hw1;have hb1:=aB hw1;clear hw1;have c2:w1.cell? ⟨p,2,none⟩=some u:=by rw[hb1.cell (p:=⟨p,2,none⟩) h1];exact h4
  have HE:=qa (q0P (HL.o.up hb1) (H5.o.up hb1));have qcY:=H5.o.one;have HB1:=qa hb1;clear hb1 h2 h3 h4 HN HM;obtain⟨q,rfl⟩:=id H5.o
  go_wp2_with((with_reducible go_at_call 32);refine HE.o.mono ?_;rintro en w2 ⟨rfl,hx⟩;have HB2:=qa (cP HB1.o (aB hx));clear hx)
  go_ret;exact⟨by simp,aI HB2.o⟩
 |cons y l ih=>
  intro x w p hL h hb hl;obtain⟨p',u,e1,h1,h2,h3,h4,h5⟩:=h;cases e1;have hc:=(hb x (by simp)).1;have hn:=(hb x (by simp)).2;have HL:=qa hL;have H5:=qa h5;have HN:=qa (fun W:World=>q92 hc W);have HM:=qa (fun W:World=>q3M hn W);have hl1:(nmB x.1).length<=8:=q3H;have hl2:(Q6 x.2).length<=18:=t0 18 _ hn;have hl3:(Q8 (y::l)).length<=42*(y::l).length:=q0N _ (fun z hz=>Nat.lt_trans (hb z (qU _ hz)).2 (by decide));have hl4:(Q8 (y::l)).length<=50000:=by rw[qx]at hl3 hl;omega
  have hs:Q8 (x::y::l)=nmB x.1++([32,97,116,32]++Q6 x.2)++[58,32]++Q8 (y::l):=by simp[Q8,q1P]
  rw[hs];have HI:=qa (fun(W:World) (p:Nat) (hL:gJ W) (h:gK W (y::l) (.iface 75 (.pointer (some ⟨p,0,none⟩))))=>ih y hL h (fun z hz=>hb z (qU _ hz)) (by rw[qx]at hl;omega));generalize Q8 (y::l)=S at*;generalize nmB x.1=A at*;generalize Q6 x.2=D at*;clear hs h5 hL hl3 ih hb;go_enter func38,ntmps38;go_wp2;refine bO (by kernel_rfl) (by kernel_rfl) ?_
  repeat(first
   |(go_big_quiet_want;refine R4 _ _ _ _ rfl _ _ rfl rfl (by simp only[qi,qx,qK];omega) ?_;go_simp;go_big_quiet_on)
   |go_big_quiet_step (first|(go_at_call 60;exact bY (HN.o _))|(go_at_call 61;exact bY (HM.o _))))
  refine wpQuiet_nil ?_;intro w1 hw1;have hb1:=aB hw1;clear hw1;have c2:w1.cell? ⟨p,2,none⟩=some u:=by rw[hb1.cell (p:=⟨p,2,none⟩) h1];exact h4
  have hcu:=H5.o.up hb1;obtain⟨p2,-,rfl,-⟩:=id hcu;have HE:=qa (J6 (HL.o.up hb1) hcu);have HC1:=qa hcu;have HB1:=qa hb1;have qjX:=qa (HL.o.up hb1);clear hb1 h2 h3 h4 HN HM hcu;have z1:(⟨(A++32::97::116::32::D).toArray⟩:ByteArray).size<=100:=by rw[uT];simp only[qi,qx];omega
  have HZ2:=qa (J7 (A++32::97::116::32::D) [58,32]);have HZ3:=qa (J7 (A++32::97::116::32::D++[58,32]) S);have z2:(⟨(A++32::97::116::32::D++[58,32]).toArray⟩:ByteArray).size<=102:=by rw[uT];simp only[qi,qx,qK];omega
  have z3:(⟨S.toArray⟩:ByteArray).size<=50000:=by rw[uT];exact hl4
  go_wp2_with(first
   |((with_reducible go_at_call 32);refine HE.o.mono ?_;rintro en w2 ⟨rfl,hx⟩;have HB2:=qa (aB hx);clear hx)
   |((with_reducible go_at_call 38);refine(HI.o _ _ (qjX.o.up HB2.o) (HC1.o.up HB2.o)).mono ?_;rintro en w3 ⟨rfl,hx⟩;have HB3:=qa (cP (cP HB1.o HB2.o) (aB hx));clear hx))
  go_ret;exact⟨qW (fun s=>Ending.returned (.string s)) (by rw[show(⟨#[58,32]⟩:ByteArray)=⟨([58,32]:cX).toArray⟩from rfl,HZ2.o,HZ3.o]),aI HB3.o⟩
theorem qa6{w:World}{l:List (Nat×Nat)}{v:Value}(hL:gJ w)(h:gX w l v)(hb:∀y∈l,y.1<=27/\y.2<10^18)(hl:l.length<=1000):Calls prog 20 #[v] w fun e w'=>e=.returned (.string ⟨(Q8 l).toArray⟩)/\∃x,w'=ext w x:=by
 obtain⟨e,rfl,he⟩:=h;have HL:=qa (hL.up (aA w (.cells #[e] 45)));have c0:(w.alloc (.cells #[e] 45)).cell? ⟨w.heap.size,0,none⟩=some e:=by simp
 cases l with
 |nil=>
  obtain rfl:e=.nilIface:=by unfold dF at he;rwa [qt rfl]at he
  go_enter func20,ntmps20
  go_wp2_with((with_reducible go_at_call 32);refine(q0O _).mono ?_;rintro en w2 ⟨rfl,x2,rfl⟩)
  go_ret;exact⟨rfl,(aI aJ)⟩
 |cons y l=>
  have HC:=qa (he.some.up (aA w (.cells #[e] 45)));obtain⟨p,u,rfl,-⟩:=he.some;have HE:=qa (fun(W:World) (hL:gJ W) (h:gK W (y::l) (.iface 75 (.pointer (some ⟨p,0,none⟩))))=>q93 l y hL h hb (by rw[qx]at hl;omega));clear he hb;generalize Q8 (y::l)=S at*;go_enter func20,ntmps20
  go_wp2_with(first
   |((with_reducible go_at_call 32);refine(J6 HL.o HC.o).mono ?_;rintro en w2 ⟨rfl,x2,rfl⟩)
   |((with_reducible go_at_call 38);refine(HE.o _ (HL.o.up (aD _ _)) (HC.o.up (aD _ _))).mono ?_;rintro en w3 ⟨rfl,x3,rfl⟩))
  go_ret;exact⟨rfl,(aI aJ)⟩
end Go.Cm
