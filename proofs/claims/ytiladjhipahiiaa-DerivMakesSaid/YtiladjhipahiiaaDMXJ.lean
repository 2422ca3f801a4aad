/- Walks of functions and plain facts, joined and squeezed by a program. Conditions: as each says. -/
import Derived.Test.YtiladjhipahiiaaDMXH
set_option maxHeartbeats 8000000
set_option maxRecDepth 100000
set_option linter.unusedSimpArgs false
open Go.Proofs.Try
namespace Go.Cm
theorem Q4(c:Nat):∀As Bs,q33 c As Bs->∀w,yD As w↔yD Bs (c::w)
 |[],[],_,w=>⟨fun⟨_,h,_⟩=>(by cases h),fun⟨_,h,_⟩=>(by cases h)⟩
 |[],_::_,h,_=>h.elim
 |_::_,[],h,_=>h.elim
 |a::ra,b::rb,h,w=>by rw[eU,eU,h.1 w,Q4 c ra rb h.2 w]
theorem q0A(x:Nd)(Ls:List Lng)(h:5<=x.kd/\x.kd<=8):cQ x Ls=bM (if x.kd=8 then x.lo else if x.kd=6 then 1 else 0) (if x.kd=8 then x.hi else if x.kd=7 then 1 else -1) (Ls.getD 0 lV):=by
 unfold cQ;rcases(show x.kd=5\/x.kd=6\/x.kd=7\/x.kd=8 by omega)with h|h|h|h<;>simp[h]
theorem Q5(c:Nat){x:Nd}{k dk:Fo}(hx:OkS x)(hn:x.n=cnt k)(hk:cU k)(hd:cU dk)(h:q33 c (aX dk) (aX k))(w:List Nat):d7 (iB c x k dk) w↔cQ x (aX k) (c::w):=by
 have hkd:=hx.1.1;have hno:∀w,¬d7 eS w:=fun w=>eT noT _ rfl w;have hem:∀w,d7 eE w↔w=[]:=fun w=>iA emT _ rfl w;unfold iB;by_cases h1:x.kd=1
 ·rw[qv h1]
  have e:cQ x (aX k) (c::w)↔w=[]/\kV (bW x 0) c=true:=by
   unfold cQ;rw[qv h1]
   constructor
   ·rintro⟨d,e,hh⟩
    injection e with e1 e2;subst e1;exact⟨e2,hh⟩
   rintro⟨rfl,hh⟩;exact⟨c,rfl,hh⟩
  rw[e];split
  ·rename_i hh
   rw[hem];exact⟨fun e=>⟨e,hh⟩,fun e=>e.1⟩
  rename_i hh;exact⟨fun e=>absurd e (hno w),fun e=>absurd e.2 hh⟩
 rw[qu h1];by_cases h3:x.kd=3
 ·rw[qv h3,r5 x _ h3]
  exact B8 c k dk hk hd h w
 rw[qu h3];by_cases h4:x.kd=4
 ·rw[qv h4,r7 x _ h4]
  have go:gT OkT dk:=(eW _).2 (fun z hz=>((eW _).1 hd.1 z hz).1);exact(wO dk go hd.2 w).trans (Q4 c _ _ h w)
 rw[qu h4];by_cases h2:x.kd=2
 ·rw[qu (by omega),qu (by omega),qu (by omega),iA x _ h2]
  exact⟨fun e=>absurd e (hno w),fun e=>by cases e⟩
 have q6o:cnt k=1:=by have:=hx.2.1 (by omega);omega
 match k,dk,q6o,h,hk,hd with
 |.cons y j .nil,.cons z i .nil,_,h,hk,hd=>
  have hl:=q0A x (aX (.cons y j .nil)) (by omega);rw[hl];show _↔bM _ _ (cQ y (aX j)) (c::w);have hA:∀u,d7 (z,i) u↔cQ y (aX j) (c::u):=h.1;by_cases h56:x.kd=5\/x.kd=6
  ·rw[qv h56]
   rw[show(if x.kd=8 then x.hi else if x.kd=7 then(1:Int)else -1)= -1 by rw[qu (by omega),qu (by omega)]];obtain⟨lo,hlo⟩:∃lo:Int,lo=(if x.kd=8 then x.lo else if x.kd=6 then(1:Int)else 0):=⟨_,rfl⟩;rw[<-hlo]
   have hl2:lo=0\/lo=1:=by
    rw[hlo,qu (by omega)];split
    ·exact .inr rfl
    exact .inl rfl
   show d7 (iH (one (z,i) (one (iL (y,j)) .nil))) w↔_;rw[uZ,uX _ _ _ _ _ (by omega) (by omega) (.inl rfl)];refine dY hA (fun u=>(tM (y,j) u).trans ?_) w;have e1:eC lo=0:=by unfold eC;split<;>omega
   have e2:eC (-1)= -1:=by unfold eC;rw[qv rfl]
   rw[e1,e2];exact Iff.rfl
  rw[qu h56];by_cases h7:x.kd=7
  ·rw[qv h7,qu (by omega),qu (by omega),qu (by omega),qv h7]
   show d7 (z,i) w↔_;rw[hA,uX _ _ _ _ _ (by omega) (by omega) (by omega)];have e1:eC 0=0:=by decide
   have e2:eC 1=0:=by decide
   rw[e1,e2]
   constructor
   ·intro a
    exact⟨w,[],by simp,a,0,by omega,by omega,rfl⟩
   rintro⟨u,v,rfl,a,m,b1,b2,b3⟩;obtain rfl:m=0:=by omega
   rw[show v=[]from b3,j6];exact a
  have h8:x.kd=8:=by omega
  obtain⟨l0,l1⟩:=hx.2.2 h8;rw[qu h7,qv h8,qv h8];by_cases hh:x.hi=0
  ·rw[qu (fun e=>e.2 hh)]
   refine⟨fun e=>absurd e (hno w),?_⟩;rintro⟨m,b1,b2,b3⟩;obtain rfl:m=0:=by omega
   cases b3
  rw[qv ⟨h8,hh⟩];show d7 (iH (one (z,i) (one (uW (y,j) (eC x.lo) (eC x.hi)) .nil))) w↔_;rw[uZ,uX _ _ _ _ _ hh l0 l1];refine dY hA (fun u=>P9 (y,j) _ _ ?_ ?_ u) w
  ·unfold eC;split<;>omega
  unfold eC;split<;>split<;>omega
theorem sB(c:Nat):∀f,cU f->q33 c (aX (cV c f)) (aX f)
 |.nil,_=>trivial
 |.cons x k r,h=>by
  obtain⟨⟨a,b,d⟩,e⟩:=bF h;exact⟨fun w=>Q5 c a b d (dZ c k d) (sB c k d) w,sB c r e⟩
def J5(f:Fo):List Nat->Fo
 |[]=>f
 |c::s=>J5 (cV c f) s
theorem wU:∀(s:List Nat) (f:Fo),cU f->cU (J5 f s)
 |[],_,h=>h
 |c::s,f,h=>wU s _ (dZ c f h)
theorem B9(c:Nat):∀As Bs,q33 c As Bs->∀i w,As.getD i lV w↔Bs.getD i lV (c::w)
 |[],[],_,i,w=>by simp[lV]
 |[],_::_,h,_,_=>h.elim
 |_::_,[],h,_,_=>h.elim
 |a::ra,b::rb,h,0,w=>h.1 w
 |a::ra,b::rb,h,i+1,w=>B9 c ra rb h.2 i w
theorem wV:∀(s:List Nat) (f:Fo),cU f->∀i w,(aX (J5 f s)).getD i lV w↔(aX f).getD i lV (s++w)
 |[],_,_,_,_=>Iff.rfl
 |c::s,f,h,i,w=>by
  rw[J5,wV s _ (dZ c f h) i w];exact B9 c _ _ (sB c f h) i (s++w)
def szF:Fo->Nat
 |.nil=>0
 |.cons _ k r=>1+szF k+szF r
abbrev szT(t:Tm):Nat:=1+szF t.2
def dP:Fo->Bool
 |.nil=>true
 |.cons _ k r=>decide (1+szF k<=400)&&dP r
theorem lX:∀f,szF f=(aT f).length
 |.nil=>rfl
 |.cons x k r=>by rw[szF,aT,qz,qj,lX k,lX r];omega
theorem tN:∀f,cnt f<=szF f
 |.nil=>qb _
 |.cons x k r=>by have:=tN r;rw[cnt,szF];omega
theorem gC(t:Tm)(r:Fo):szF (one t r)=szT t+szF r:=rfl
theorem q1s:∀f g,szF (eQ f g)=szF f+szF g
 |.nil,g=>by simp[eQ,szF]
 |.cons x k r,g=>by rw[eQ,szF,szF,q1s r g];omega
theorem nI(kd:Int):∀f,szF (eH kd f)<=szF f
 |.nil=>qb _
 |.cons x k r=>by
  have:=nI kd r;rw[eH];split
  ·rw[q1s,szF];omega
  rw[szF,szF];omega
theorem Q6:∀f g,oP f=some g->szF g<=szF f
 |.nil,g,h=>by injection h with h;rw[<-h];exact qb _
 |.cons x k r,g,h=>by
  rw[oP]at h;split at h
  ·cases h
  cases hr:oP r with
  |none=>rw[hr]at h;cases h
  |some q=>
   have:=Q6 r q hr;rw[hr]at h;have h':(if x.kd=2 then q else .cons x k q)=g:=by injection h
   rw[<-h'];split
   ·rw[szF];omega
   rw[szF,szF];omega
theorem Q7(kd:Int)(z:Tm)(hz:z.2=.nil)(f:Fo):szT (mZ kd z f)<=1+szF f:=by
 unfold mZ;split
 ·show 1+szF z.2<=_
  rw[hz];exact qb _
 ·rename_i x k
  show 1+szF k<=1+szF (.cons x k .nil);rw[szF,szF];omega
 exact qb _
theorem tO(l:Fo):szT (iH l)<=1+szF l:=by
 have h1:=nI 3 l;unfold iH;split
 ·exact Nat.le_add_right 1 _
 rename_i f hf;have h2:=Q6 _ _ hf;have h3:=Q7 3 eE rfl f;omega
theorem v3:∀f met,szF (r6 met f)<=szF f
 |.nil,_=>qb _
 |.cons x k r,met=>by
  rw[r6];split
  ·have:=v3 r met;rw[szF];omega
  split
  ·have:=v3 r met;rw[szF];omega
  have:=v3 r (txF (.cons x k .nil)::met);rw[szF,szF];omega
theorem q1t(l:Fo):szT (J3 l)<=1+szF l:=by
 have h1:=nI 4 l;have h2:=v3 (eH 4 l) [];have h3:=Q7 4 eS rfl (r6 [] (eH 4 l));unfold J3;omega
theorem yV(t:Tm):szT (iL t)<=1+szT t:=by
 unfold iL;split
 ·omega
 split
 ·show 1+szF .nil<=_
  rw[szF];omega
 show 1+szF (one t .nil)<=_;rw[gC,szF];omega
theorem q1u(t:Tm)(lo hi:Int):szT (uW t lo hi)<=1+szT t:=by
 have e:szT eE=1:=rfl;have n:szT eS=1:=rfl;have h:=yV t;unfold uW;split
 ·omega
 split
 ·exact h
 split
 ·omega
 split
 ·omega
 split
 ·omega
 show 1+szF (one t .nil)<=_;rw[gC,szF];omega
theorem Q8:∀k dk,szT (tL k dk)<=1+cnt k*(szF k+4)+szF dk
 |.nil,dk=>by
  have n:szT (tL .nil dk)=1:=by cases dk<;>rfl
  omega
 |.cons x k r,.nil=>by
  have n:szT (tL (.cons x k r) .nil)=1:=rfl;omega
 |.cons x k r,.cons y j q=>by
  have h1:=Q8 r q;have h2:=tO (.cons y j (one (iH r) .nil));have h3:=tO r;have h4:=q1t (one (iH (.cons y j (one (iH r) .nil))) (one (tL r q) .nil));rw[szF,gC,szF]at h2;rw[gC,gC,szF]at h4;have h5:cnt r*(szF r+4)<=cnt r*(szF (.cons x k r)+4):=Nat.mul_le_mul_left _ (by rw[szF];omega);rw[show cnt (.cons x k r)=cnt r+1 from rfl,Nat.succ_mul];have e:szF (.cons x k r)=1+szF k+szF r:=rfl;have e2:szF (.cons y j q)=1+szF j+szF q:=rfl;generalize cnt r*(szF (.cons x k r)+4)=A at*;generalize cnt r*(szF r+4)=B at*;rw[tL];split
  ·omega
  omega
theorem q3q:∀f,szT (hdT f)<=1+szF f
 |.nil=>qb _
 |.cons x k r=>by show 1+szF k<=1+(1+szF k+szF r);omega
theorem q2f(c:Nat)(x:Nd)(k dk:Fo):szT (iB c x k dk)<=3+szF dk+(cnt k+1)*(szF k+4):=by
 have e:szT eE=1:=rfl;have n:szT eS=1:=rfl;have h1:=Q8 k dk;have h2:=q1t dk;have h3:=q3q dk;have h4:=q3q k;have h5:=yV (hdT k);have h6:=q1u (hdT k) (eC x.lo) (eC x.hi);have h7:=tO (one (hdT dk) (one (iL (hdT k)) .nil));have h8:=tO (one (hdT dk) (one (uW (hdT k) (eC x.lo) (eC x.hi)) .nil));rw[gC,gC,szF]at h7 h8;rw[Nat.succ_mul];generalize cnt k*(szF k+4)=A at*;unfold iB;split
 ·split<;>omega
 split
 ·omega
 split
 ·omega
 split
 ·omega
 split
 ·omega
 split
 ·omega
 omega
def qF(M:Nat):Fo->Nat
 |.nil=>0
 |.cons _ k r=>3+qF M k+(cnt k+1)*(M+4)+qF M r
theorem yW(c M:Nat):∀f,szF f<=M->szF (cV c f)<=qF M f
 |.nil,_=>qb _
 |.cons x k r,h=>by
  rw[szF]at h;have h1:=yW c M k (by omega);have h2:=yW c M r (by omega);have h3:=q2f c x k (cV c k);have h4:(cnt k+1)*(szF k+4)<=(cnt k+1)*(M+4):=Nat.mul_le_mul_left _ (by omega);rw[cV,gC,qF];omega
theorem q4B(M:Nat):∀f,qF M f+cnt f*(M+4)<=szF f*(2*(M+4)+3)
 |.nil=>by simp[qF,cnt,szF]
 |.cons x k r=>by
  have h1:=q4B M k;have h2:=q4B M r;have e1:(cnt k+1)*(M+4)=cnt k*(M+4)+(M+4):=Nat.succ_mul _ _;have e2:(cnt r+1)*(M+4)=cnt r*(M+4)+(M+4):=Nat.succ_mul _ _;have e3:(1+szF k+szF r)*(2*(M+4)+3)=(2*(M+4)+3)+szF k*(2*(M+4)+3)+szF r*(2*(M+4)+3):=by rw[jL,jL,Nat.one_mul]
  rw[qF,szF,show cnt (.cons x k r)=cnt r+1 from rfl,e1,e2,e3];generalize cnt k*(M+4)=A at*;generalize cnt r*(M+4)=B at*;generalize szF k*(2*(M+4)+3)=C at*;generalize szF r*(2*(M+4)+3)=D at*;omega
theorem Q9(c:Nat)(f:Fo)(h:szF f<=400):szF (cV c f)<=324400:=by
 have h1:=yW c 400 f h;have h2:=q4B 400 f;have h3:szF f*(2*(400+4)+3)<=400*811:=Nat.mul_le_mul h (qb _);omega
theorem sC(c:Nat)(x:Nd)(k:Fo)(h:1+szF k<=400):szT (iB c x k (cV c k))<=324400:=by
 have h1:=Q9 c (.cons x k .nil) (by rw[szF,szF];omega);rw[cV,gC,cV,szF]at h1;exact h1
def eA:Fo->List Ed
 |.nil=>[]
 |.cons x k r=>(if x.kd=1 then [bW x 0]else [])++(eA k++eA r)
def AS(P:Ed->Prop)(f:Fo):Prop:=∀e∈eA f,P e
section
variable {P : Ed → Prop}
theorem nJ:AS P .nil:=fun _ h=>by cases h
theorem eD{x:Nd}{k r:Fo}:AS P (.cons x k r)↔(x.kd=1->P (bW x 0))/\AS P k/\AS P r:=by
 unfold AS
 constructor
 ·intro h
  refine⟨fun h1=>h _ ?_,fun e he=>h e ?_,fun e he=>h e ?_⟩
  ·rw[eA,qv h1];simp
  ·rw[eA];simp[he]
  rw[eA];simp[he]
 rintro⟨h1,h2,h3⟩ e he;rw[eA]at he;rcases List.mem_append.1 he with he|he
 ·split at he
  ·rename_i h4
   rw[List.mem_singleton.1 he];exact h1 h4
  cases he
 rcases List.mem_append.1 he with he|he
 ·exact h2 e he
 exact h3 e he
def AT(P:Ed->Prop)(t:Tm):Prop:=(t.1.kd=1->P (bW t.1 0))/\AS P t.2
theorem mE{t:Tm}{r:Fo}:AS P (one t r)↔AT P t/\AS P r:=by
 unfold one AT;rw[eD,and_assoc]
theorem q1x:∀{f g:Fo},AS P f->AS P g->AS P (eQ f g)
 |.nil,_,_,h=>h
 |.cons x k r,_,h,hg=>by
  obtain⟨h1,h2,h3⟩:=eD.1 h;exact eD.2 ⟨h1,h2,q1x h3 hg⟩
theorem rC(kd:Int):∀{f:Fo},AS P f->AS P (eH kd f)
 |.nil,h=>h
 |.cons x k r,h=>by
  obtain⟨h1,h2,h3⟩:=eD.1 h;rw[eH];split
  ·exact q1x h2 (rC kd h3)
  exact eD.2 ⟨h1,h2,rC kd h3⟩
theorem R5:∀{f g:Fo},AS P f->oP f=some g->AS P g
 |.nil,g,h,e=>by injection e with e;rw[<-e];exact h
 |.cons x k r,g,h,e=>by
  obtain⟨h1,h2,h3⟩:=eD.1 h;rw[oP]at e;split at e
  ·cases e
  cases hr:oP r with
  |none=>rw[hr]at e;cases e
  |some q=>
   have:=R5 h3 hr;rw[hr]at e;injection e with e;rw[<-e];split
   ·exact this
   exact eD.2 ⟨h1,h2,this⟩
theorem q0I(t:Tm)(h:t.1.kd≠1)(h2:AS P t.2):AT P t:=⟨fun e=>absurd e h,h2⟩
theorem nK:AT P eE:=q0I _ (by decide) nJ
theorem R6{kd:Int}{z:Tm}{f:Fo}(hk:kd≠1)(hz:AT P z)(h:AS P f):AT P (mZ kd z f):=by
 unfold mZ;split
 ·exact hz
 ·obtain⟨h1,h2,-⟩:=eD.1 h;exact⟨h1,h2⟩
 exact q0I _ hk h
theorem vA:∀{f:Fo} {met:List (List Nat)},AS P f->AS P (r6 met f)
 |.nil,_,h=>h
 |.cons x k r,met,h=>by
  obtain⟨h1,h2,h3⟩:=eD.1 h;rw[r6];split
  ·exact vA h3
  split
  ·exact vA h3
  exact eD.2 ⟨h1,h2,vA h3⟩
theorem R7{t:Tm}(h:AT P t):AT P (iL t):=by
 unfold iL;split
 ·exact h
 split
 ·exact nK
 exact q0I _ (show(5:Int)≠1 by decide) (mE.2 ⟨h,nJ⟩)
section
variable (h0 : P (bW noT 0))
include h0
theorem lK:AT P eS:=⟨fun _=>h0,nJ⟩
theorem D1{l:Fo}(h:AS P l):AT P (iH l):=by
 unfold iH;split
 ·exact lK h0
 rename_i f hf;exact R6 (by decide) nK (R5 (rC 3 h) hf)
theorem q1y{l:Fo}(h:AS P l):AT P (J3 l):=R6 (by decide) (lK h0) (vA (rC 4 h))
theorem q3s{t:Tm}{lo hi:Int}(h:AT P t):AT P (uW t lo hi):=by
 unfold uW;split
 ·exact nK
 split
 ·exact R7 h
 split
 ·exact h
 split
 ·exact lK h0
 split
 ·exact nK
 exact q0I _ (show(8:Int)≠1 by decide) (mE.2 ⟨h,nJ⟩)
theorem q1z:∀{k dk:Fo},AS P k->AS P dk->AT P (tL k dk)
 |.nil,dk,_,_=>by cases dk<;>exact lK h0
 |.cons x k r,.nil,_,_=>lK h0
 |.cons x k r,.cons y j q,h,hd=>by
  obtain⟨-,-,h3⟩:=eD.1 h;obtain⟨d1,d2,d3⟩:=eD.1 hd;have hc:=D1 h0 (eD.2 ⟨d1,d2,mE.2 ⟨D1 h0 h3,nJ⟩⟩);rw[tL];split
  ·exact q1y h0 (mE.2 ⟨hc,mE.2 ⟨q1z h3 d3,nJ⟩⟩)
  exact hc
theorem R8:∀{f:Fo},AS P f->AT P (hdT f)
 |.nil,_=>lK h0
 |.cons x k r,h=>by obtain⟨h1,h2,-⟩:=eD.1 h;exact⟨h1,h2⟩
theorem q2i{c:Nat}{x:Nd}{k dk:Fo}(hk:AS P k)(hd:AS P dk):AT P (iB c x k dk):=by
 unfold iB;split
 ·split
  ·exact nK
  exact lK h0
 split
 ·exact q1z h0 hk hd
 split
 ·exact q1y h0 hd
 split
 ·exact D1 h0 (mE.2 ⟨R8 h0 hd,mE.2 ⟨R7 (R8 h0 hk),nJ⟩⟩)
 split
 ·exact R8 h0 hd
 split
 ·exact D1 h0 (mE.2 ⟨R8 h0 hd,mE.2 ⟨q3s h0 (R8 h0 hk),nJ⟩⟩)
 exact lK h0
theorem z6(c:Nat):∀{f:Fo},AS P f->AS P (cV c f)
 |.nil,h=>h
 |.cons x k r,h=>by
  obtain⟨h1,h2,h3⟩:=eD.1 h;exact mE.2 ⟨q2i h0 h2 (z6 c h2),z6 c h3⟩
end
end
theorem sG{c c':Nat}:∀{f:Fo},AS (fun e=>kV e c=kV e c') f->cV c f=cV c' f
 |.nil,_=>rfl
 |.cons x k r,h=>by
  obtain⟨h1,h2,h3⟩:=eD.1 h
  have e:iB c x k (cV c k)=iB c' x k (cV c' k):=by
   rw[<-sG h2];unfold iB;by_cases hk:x.kd=1
   ·rw[qv hk,qv hk,h1 hk]
   rw[qu hk,qu hk]
  rw[cV,cV,e,sG h3]
theorem D2(c:Nat):kV (bW noT 0) c=false:=by
 unfold kV bW noT;simp
theorem q2j{f0 f:Fo}{c c':Nat}(h:AS (fun e=>e∈eA f0\/e=bW noT 0) f)(hs:iV (eA f0) c=iV (eA f0) c'):cV c f=cV c' f:=by
 refine sG fun e he=>?_;rcases h e he with h1|h1
 ·exact z3.1 hs e h1
 rw[h1,D2,D2]
instance decNd:DecidableEq Nd:=fun x y=>
 if h:x.kd=y.kd/\x.n=y.n/\x.a=y.a/\x.b=y.b/\x.c=y.c/\x.d=y.d/\x.lo=y.lo/\x.hi=y.hi then
  isTrue (by cases x;cases y;obtain⟨h1,h2,h3,h4,h5,h6,h7,h8⟩:=h;simp only at h1 h2 h3 h4 h5 h6 h7 h8;subst h1;subst h2;subst h3;subst h4;subst h5;subst h6;subst h7;subst h8;rfl)
 else isFalse (fun e=>h (by subst e;exact⟨rfl,rfl,rfl,rfl,rfl,rfl,rfl,rfl⟩))
def q4D:(f g:Fo)->Decidable (f=g)
 |.nil,.nil=>isTrue rfl
 |.nil,.cons _ _ _=>isFalse (fun h=>by cases h)
 |.cons _ _ _,.nil=>isFalse (fun h=>by cases h)
 |.cons x k r,.cons y j q=>
  match decNd x y with
  |isFalse h=>isFalse (fun e=>by injection e with e1 e2 e3;exact h e1)
  |isTrue h1=>match q4D k j with
   |isFalse h=>isFalse (fun e=>by injection e with e1 e2 e3;exact h e2)
   |isTrue h2=>match q4D r q with
    |isFalse h=>isFalse (fun e=>by injection e with e1 e2 e3;exact h e3)
    |isTrue h3=>isTrue (by rw[h1,h2,h3])
instance decFo:DecidableEq Fo:=q4D
def nxD(f0 f:Fo):List Fo:=(cP (eA f0)).map fun c=>cV c f
def q0b(f0 f:Fo):Bool:=(nxD f0 f).all dP
def iQ(f0 f:Fo)(ls:List Fo):List Fo:=(nxD f0 f).foldl bG ls
def goD(f0:Fo):Nat->Nat->List Fo->Option (List Fo)
 |0,_,_=>none
 |n+1,i,ls=>if i<ls.length then(if q0b f0 (ls.getD i .nil)=true/\(iQ f0 (ls.getD i .nil) ls).length<=1000 then goD f0 n (i+1) (iQ f0 (ls.getD i .nil) ls)else none)else some ls
def gD(f0:Fo):Option (List Fo):=goD f0 1001 0 [f0]
def pC:Nat->Fo->Int
 |_,.nil=> -1
 |i,.cons x k r=>if tJ x (mL k)then(i:Int)else pC (i+1) r
def z8(f0:Fo)(R:List Fo)(f:Fo):List Int:=(nxD f0 f).map fun x=>(idx R x:Int)
def m9(f0:Fo)(R:List Fo):Dfa:=⟨nl (mO.map (kY (eA f0))),R.map (z8 f0 R),R.map (pC 0)⟩
def q1A(f0:Fo):Dfa:=match gD f0 with|some R=>m9 f0 R|none=>z7
def q1B(f0:Fo):Int:=match gD f0 with|some _=>0|none=>3
theorem T0(f0:Fo):∀n i ls R,goD f0 n i ls=some R->goS (nxD f0) .nil n i ls=some R/\(∃k,R=ls++k)/\∀j,i<=j->j<R.length->q0b f0 (R.getD j .nil)=true
 |0,_,_,_,h=>by cases h
 |n+1,i,ls,R,h=>by
  rw[goD]at h;rw[goS];split at h
  ·rename_i hi
   split at h
   ·rename_i hb
    obtain⟨h1,⟨k,hk⟩,h2⟩:=T0 f0 n (i+1) _ R h;obtain⟨k2,hk2⟩:=bK (nxD f0 (ls.getD i .nil)) ls;rw[qv hi,qu (by have:=hb.2;unfold iQ at this;omega)];have hR:R=ls++(k2++k):=by rw[hk];unfold iQ;rw[hk2,qk]
    refine⟨h1,⟨_,hR⟩,fun j hj hjl=>?_⟩;rcases Nat.lt_or_eq_of_le hj with hlt|rfl
    ·exact h2 j hlt hjl
    rw[hR,qt,qV hi,<-qt];exact hb.1
   cases h
  rename_i hi;injection h with h;subst h;rw[qu hi];exact⟨rfl,⟨[],by simp⟩,fun j h1 h2=>by omega⟩
theorem oQ{f0:Fo}{R:List Fo}(h:gD f0=some R):J8 (nxD f0) f0 R/\∀f∈R,q0b f0 f=true:=by
 obtain⟨h1,-,h2⟩:=T0 f0 1001 0 [f0] R h;refine⟨(q2h (nxD f0) .nil f0 1001 0 [f0] R h1 (qd _) rfl (fun j hj=>by omega) (by simp)).1,fun f hf=>?_⟩;obtain⟨j,hj,rfl⟩:=ji hf;have:=h2 j (qd _) hj;rwa [qt,qx hj,qM]at this
theorem D3{f0:Fo}{R:List Fo}(h:J8 (nxD f0) f0 R)(p:Fo->Prop)(h0:p f0)(hs:∀f c,p f->p (cV c f)):∀f∈R,p f:=by
 have h1:∀l:List Fo,(∀f∈l,p f)->∀f∈stS (nxD f0) f0 l,p f:=fun l hl f hf=>by
  unfold stS at hf;rw[lZ]at hf;rcases List.mem_cons.1 hf with rfl|hf
  ·exact h0
  obtain⟨g,hg,hfg⟩:=List.mem_flatMap.1 hf;obtain⟨c,-,rfl⟩:=List.mem_map.1 hfg;exact hs g c (hl g hg)
 have h2:∀i,i<=R.length->∀f∈R.take i,p f:=by
  intro i
  induction i with
  |zero=>intro _ f hf;simp at hf
  |succ i ih=>
   intro hi f hf;rw[qL hi]at hf;rcases List.mem_append.1 hf with hf|hf
   ·exact ih (by omega) f hf
   rw[jf]at hf;subst hf;obtain⟨k,hk⟩:=h.pre i;have hm:=h.more i hi
   have e:R[i]=(stS (nxD f0) f0 (R.take i))[i]:=by
    have:R[i]? =(stS (nxD f0) f0 (R.take i)++k)[i]? :=by rw[<-hk]
    rw[qV hm,qx hm,qx hi]at this;injection this
   rw[e];exact h1 _ (ih (by omega)) _ (jk hm)
 intro f hf;exact h2 R.length (qb _) f (by rwa [j0])
theorem sH:∀(i:Nat) (f:Fo),pC i f= -1\/((i:Int)<=pC i f/\pC i f<i+cnt f)
 |_,.nil=>.inl rfl
 |i,.cons x k r=>by
  rw[pC];split
  ·right;rw[show cnt (.cons x k r)=cnt r+1 from rfl];omega
  have:=sH (i+1) r;rw[show cnt (.cons x k r)=cnt r+1 from rfl];omega
theorem mM(f0 f:Fo):(nxD f0 f).length=(cP (eA f0)).length:=by simp[nxD]
theorem T3(f0:Fo):bJ 0 (m9 f0 []).cls=some (cP (eA f0)).length:=by
 have h1:=iP (iV (eA f0)) mO [];have h0:(aQ (iV (eA f0)) []).length=0:=rfl;rw[h0,List.nil_append]at h1;exact h1
theorem tR{f0:Fo}{R:List Fo}(h:gD f0=some R)(hc:cnt f0<=32):lH (m9 f0 R):=by
 have hm:=(oQ h).1;have h0:=(hm.zero .nil).2;have hcn:=D3 hm (fun f=>cnt f<=32) hc (fun f c hf=>by rw[lW];exact hf);refine⟨by simp[m9];omega,by simpa[m9]using hm.len,by simp[m9],(cP (eA f0)).length,T3 f0,fun i hi=>?_⟩;have hi':i<R.length:=by simpa[m9]using hi
 have e1:(m9 f0 R).rules.getD i 0=pC 0 R[i]:=by simp[m9,List.getD,hi']
 have e2:(m9 f0 R).next.getD i []=z8 f0 R R[i]:=by simp[m9,List.getD,hi']
 have e3:(m9 f0 R).next.length=R.length:=by simp[m9]
 rw[e1,e2,e3];have hl:=sH 0 R[i];have hl2:=hcn _ (jk hi');refine⟨by omega,by omega,by simp[z8,mM],fun j hj=>?_⟩;have hj':j<(nxD f0 R[i]).length:=by simpa[z8]using hj
 have e4:(z8 f0 R R[i]).getD j 0=(idx R ((nxD f0 R[i])[j]):Int):=by simp[z8,List.getD,hj']
 rw[e4];have:=fE (hm.mem (jk hi') (jk hj'));omega
theorem q0J{R:List Fo}{x:Fo}(h:x∈R):R.getD (idx R x) .nil=x:=by
 have h1:=fE h;rw[qt,qx h1,qM];exact kJ h
theorem T4{f0:Fo}{R:List Fo}(h:gD f0=some R){a:Nat}(ha:a<R.length){c:Nat}(hc:c<256):
  ((m9 f0 R).next.getD a []).getD ((m9 f0 R).cls.getD c 0).toNat 0=(idx R (cV c (R.getD a .nil)):Int)/\cV c (R.getD a .nil)∈R:=by
 have hm:=(oQ h).1
 have e1:(m9 f0 R).cls.getD c 0=kY (eA f0) c:=by
  show(nl (mO.map (kY (eA f0)))).getD c 0=_;simp[nl,mO,List.getD,hc]
 have e2:(m9 f0 R).next.getD a []=z8 f0 R (R.getD a .nil):=by simp[m9,List.getD,ha]
 have hk:kY (eA f0) c<(cP (eA f0)).length:=q0F (eA f0) hc;have hmR:R.getD a .nil∈R:=by simp[List.getD,ha]
 have has:=D3 hm (AS (fun e=>e∈eA f0\/e=bW noT 0)) (fun e he=>.inl he) (fun f c hf=>z6 (.inr rfl) c hf) _ hmR
 have e3:(nxD f0 (R.getD a .nil)).getD (kY (eA f0) c) .nil=cV c (R.getD a .nil):=by
  have h2:(nxD f0 (R.getD a .nil)).getD (kY (eA f0) c) .nil=cV ((cP (eA f0)).getD (kY (eA f0) c) 0) (R.getD a .nil):=by
   unfold nxD;simp[List.getD,hk]
  rw[h2];exact q2j has (q0G (eA f0) hc)
 have hj:kY (eA f0) c<(nxD f0 (R.getD a .nil)).length:=by rw[mM];exact hk
 have q62:cV c (R.getD a .nil)∈R:=by
  rw[<-e3];exact hm.mem hmR (gN _ _ _ hj)
 refine⟨?_,q62⟩;rw[e1,e2,qC,<-e3];unfold z8;generalize nxD f0 (R.getD a .nil)=l at hj⊢;simp[List.getD,hj]
theorem q0K{f0:Fo}{R:List Fo}(h:gD f0=some R):∀(bs:List UInt8) (a:Nat),a<R.length->
  ∃b:Nat,fV (m9 f0 R) a bs=b/\b<R.length/\R.getD b .nil=J5 (R.getD a .nil) (bs.map UInt8.toNat):=by
 intro bs
 induction bs with
 |nil=>intro a ha;exact⟨a,rfl,ha,rfl⟩
 |cons c bs ih=>
  intro a ha;obtain⟨h1,h2⟩:=T4 h ha (c:=c.toNat) (UInt8.toNat_lt c);obtain⟨b,hb1,hb2,hb3⟩:=ih _ (fE h2);refine⟨b,?_,hb2,by rw[hb3,q0J h2];rfl⟩;unfold fV;rw[qC,h1];exact hb1
theorem tS{f0:Fo}{R:List Fo}(h:gD f0=some R)(hc:cnt f0<=32)(bs:List UInt8):kU (m9 f0 R) bs=pC 0 (J5 f0 (bs.map UInt8.toNat)):=by
 have hm:=(oQ h).1;obtain⟨z0,z1⟩:=hm.zero .nil;obtain⟨b,hb1,hb2,hb3⟩:=q0K h bs 0 z1;unfold kU;rw[qv (tR h hc),show(0:Int)=((0:Nat):Int)from rfl,hb1,qC];have e1:(m9 f0 R).rules.getD b ((0:Nat):Int)=pC 0 (R.getD b .nil):=by simp[m9,List.getD,hb2]
 rw[e1,hb3,z0]
theorem tT:∀(i:Nat) (f:Fo),cU f->(pC i f= -1/\∀k,k<cnt f->¬(aX f).getD k lV [])\/∃k,k<cnt f/\pC i f=(i+k:Nat)/\(aX f).getD k lV []/\∀j,j<k->¬(aX f).getD j lV []
 |_,.nil,_=>.inl ⟨rfl,fun k hk=>by simp[cnt]at hk⟩
 |i,.cons x k r,h=>by
  have hn:=Q3 h;have ec:cnt (.cons x k r)=cnt r+1:=rfl;have e0:(aX (.cons x k r)).getD 0 lV=cQ x (aX k):=rfl;have es:∀j,(aX (.cons x k r)).getD (j+1) lV=(aX r).getD j lV:=fun j=>rfl;rw[pC];split
  ·rename_i h1
   exact .inr ⟨0,by omega,by simp,by rw[e0];exact hn.1 h1,fun j hj=>by omega⟩
  rename_i h1;have h0:¬(aX (.cons x k r)).getD 0 lV []:=by rw[e0];exact fun hh=>h1 (hn.2 hh)
  rcases tT (i+1) r (bF h).2 with⟨h2,h3⟩|⟨q,h2,h3,h4,h5⟩
  ·refine .inl ⟨h2,fun j hj=>?_⟩
   cases j with
   |zero=>exact h0
   |succ j=>rw[es];exact h3 j (by omega)
  refine .inr ⟨q+1,by omega,by rw[h3];congr 1;omega,by rw[es];exact h4,fun j hj=>?_⟩;cases j with
  |zero=>exact h0
  |succ j=>rw[es];exact h5 j (by omega)
noncomputable def kL:List (List Nd)->Fo
 |[]=>.nil
 |l::r=>eQ (gL l) (kL r)
theorem J9(x:Nd)(k r:Fo):aX (.cons x k r)=cQ x (aX k)::aX r:=rfl
theorem nM{l:List Nd}(h:Chk l)(hq:∀x∈l,NdQ x):∃x k,l=x::aT k/\gL l=.cons x k .nil/\gZ (x,k):=by
 obtain⟨x,k,h1,h2,h3,h4,h5,-⟩:=iY h;have e:gL l=.cons x k .nil:=by rw[h1];exact dR x k h2 h3
 have ok:∀y,okN y->NdQ y->OkS y:=fun y hy hw=>by
  unfold okN pH g8 at hy;refine⟨⟨by omega,fun _=>by omega,hw,by omega,by omega⟩,fun _=>by omega,fun _=>by omega⟩
 have hw:∀y∈aT k,NdQ y:=fun y hy=>hq y (by rw[h1];exact qX _ hy);refine⟨x,k,h1,e,ok x h4 (hq x (by rw[h1];exact jg)),h2,(eW k).2 fun y hy=>ok y ((eW k).1 h5 y hy) (hw y hy),h3⟩
theorem nN:∀{ll:List (List Nd)},(∀l∈ll,Chk l)->mD ll->cU (kL ll)/\cnt (kL ll)=ll.length/\aX (kL ll)=ll.map kX
 |[],_,_=>⟨eF,rfl,rfl⟩
 |l::r,h,hq=>by
  obtain⟨x,k,h1,h2,h3⟩:=nM (h l jg) (hq l jg);obtain⟨g1,g2,g3⟩:=nN (ll:=r) (fun y hy=>h y (qX _ hy)) (fun y hy=>hq y (qX _ hy));have e:kL (l::r)=.cons x k (kL r):=by rw[kL,h2];rfl
  refine⟨by rw[e];exact cH h3 g1,by rw[e,cnt,g2];rfl,?_⟩;rw[e,J9,g3,qI];unfold kX q2e;rw[h2];rfl
theorem T6{ll:List (List Nd)}{k:Nat}(hk:k<ll.length):(ll.map kX).getD k lV=kX (ll.getD k []):=by
 simp[List.getD,hk]
theorem T7{ll:List (List Nd)}(h:∀l∈ll,Chk l)(hq:mD ll)(h32:ll.length<=32){R:List Fo}(hR:gD (kL ll)=some R)(bs:List UInt8):
  kU (m9 (kL ll) R) bs=T5 (mK ll.length fun k=>kX (ll.getD k []) (bs.map UInt8.toNat)):=by
 obtain⟨g1,g2,g3⟩:=nN h hq;rw[tS hR (by omega)]
 have hc:∀(s:List Nat) (f:Fo),cnt (J5 f s)=cnt f:=by
  intro s
  induction s with
  |nil=>intro f;rfl
  |cons c s ih=>intro f;rw[J5,ih,lW]
 have hl:∀k,k<ll.length->((aX (J5 (kL ll) (bs.map UInt8.toNat))).getD k lV []↔kX (ll.getD k []) (bs.map UInt8.toNat)):=fun k hk=>by
  rw[wV _ _ g1,j6,g3,T6 hk]
 have hcn:=hc (bs.map UInt8.toNat) (kL ll);rw[g2]at hcn;rcases tT 0 _ (wU (bs.map UInt8.toNat) _ g1)with⟨h1,h2⟩|⟨k,h1,h2,h3,h4⟩
 ·rw[h1]
  rcases xC ll.length (fun k=>kX (ll.getD k []) (bs.map UInt8.toNat))with⟨h5,-⟩|⟨k,tl,h5,h6,h7,-⟩
  ·rw[h5];rfl
  exact absurd ((hl k h6).2 h7) (h2 k (by omega))
 rw[h2];have hk:k<ll.length:=by omega
 rcases xC ll.length (fun k=>kX (ll.getD k []) (bs.map UInt8.toNat))with⟨-,h6⟩|⟨q,tl,h5,h6,h7,h8⟩
 ·exact absurd ((hl k hk).1 h3) (h6 k hk)
 rw[h5];show((0+k:Nat):Int)=(q:Int);rcases Nat.lt_trichotomy k q with h9|h9|h9
 ·exact absurd ((hl k hk).1 h3) (h8 k h9)
 ·omega
 exact absurd ((hl q h6).2 h7) (h4 q h9)
end Go.Cm
namespace Go.Cm
open Go.RowKit Go.Proofs
def tmC(x:Nd)(u:Value):List Value:=[.int .i64 x.kd,.int .u64 x.a,.int .u64 x.b,.int .u64 x.c,.int .u64 x.d,.int .i64 x.lo,.int .i64 x.hi,u]
def InA(A:Nat->Prop)(u:Value):Prop:=∀b off o n cap,u=.slice (some ⟨b,off,o⟩) n cap->0<n->A b
theorem InA.mono{A A':Nat->Prop}{u:Value}(h:InA A u)(hA:∀b,A b->A' b):InA A' u:=fun b off o n cap e hn=>hA b (h b off o n cap e hn)
theorem InA.nil(A:Nat->Prop):InA A (.slice none 0 0):=fun b off o n cap e hn=>by cases e
def bC(A:Nat->Prop)(w:World):List (List Value)->Fo->Prop
 |rs,.nil=>rs=[]
 |rs,.cons x k r=>∃u ks rest,rs=tmC x u::rest/\(SlK 8 w u ks/\InA A u)/\bC A w ks k/\bC A w rest r
def aM(A:Nat->Prop)(w:World)(v:Value)(f:Fo):Prop:=∃rs,SlK 8 w v rs/\InA A v/\bC A w rs f
abbrev upA(A:Nat->Prop)(B:Nat):Nat->Prop:=fun b=>A b\/B<=b
section
variable {A A' : Nat → Prop} {w w' : World}
theorem q1C{k:Nat}{v:Value}{l:List (List Value)}(h:SlK k w v l)(hA:InA A v):InA (fun b=>A b/\b<w.heap.size) v:=by
 obtain⟨oa,cap,b,off,rfl,hd,-⟩:=h;intro b' off' o n cap' e hn;have h1:=hA b' off' o n cap' e hn;injection e with e1 e2 e3;subst e2;rw[hd.hat hn]at e1;injection e1 with e1;injection e1 with e1;exact⟨h1,by rw[<-e1];exact hd.hblk hn⟩
theorem D4{k:Nat}{v:Value}{l:List (List Value)}(h:SlK k w v l)(hA:InA A v)(hs:w.heap.size<=w'.heap.size)(hk:∀b,A b->b<w.heap.size->w'.heap[b]? =w.heap[b]?):SlK k w' v l:=by
 obtain⟨oa,cap,b,off,rfl,hd,hc⟩:=h;refine⟨oa,cap,b,off,rfl,⟨hd.hat,hd.hcap,hd.hmax,hd.hsml,fun h=>qe (hd.hblk h) hs⟩,fun i hi c hcl=>?_⟩;have hn:0<l.length:=by omega
 have hb:=hd.hblk hn;have hab:A b:=hA b off none l.length cap (by rw[hd.hat hn]) hn;rw[<-hc i hi c hcl];exact World.cell?_of_block (hk b hab hb)
theorem bC.mono(hA:∀b,A b->A' b):∀{f:Fo} {rs:List (List Value)},bC A w rs f->bC A' w rs f
 |.nil,_,h=>h
 |.cons _x _k _r,_,⟨u,ks,rest,e,⟨h1,h2⟩,h3,h4⟩=>⟨u,ks,rest,e,⟨h1,h2.mono hA⟩,bC.mono hA h3,bC.mono hA h4⟩
theorem bC.lt:∀{f:Fo} {rs:List (List Value)},bC A w rs f->bC (fun b=>A b/\b<w.heap.size) w rs f
 |.nil,_,h=>h
 |.cons _x _k _r,_,⟨u,ks,rest,e,⟨h1,h2⟩,h3,h4⟩=>⟨u,ks,rest,e,⟨h1,q1C h1 h2⟩,bC.lt h3,bC.lt h4⟩
theorem bC.keep(hs:w.heap.size<=w'.heap.size)(hk:∀b,A b->b<w.heap.size->w'.heap[b]? =w.heap[b]?):∀{f:Fo} {rs:List (List Value)},bC A w rs f->bC A w' rs f
 |.nil,_,h=>h
 |.cons _x _k _r,_,⟨u,ks,rest,e,⟨h1,h2⟩,h3,h4⟩=>⟨u,ks,rest,e,⟨D4 h1 h2 hs hk,h2⟩,bC.keep hs hk h3,bC.keep hs hk h4⟩
theorem bC.up{f:Fo}{rs:List (List Value)}(h:bC A w rs f)(hb:Below w.heap.size w w'):bC A w' rs f:=h.keep hb.size (fun b _ hlt=>hb.block b hlt)
theorem bC.len:∀{f:Fo} {rs:List (List Value)},bC A w rs f->rs.length=cnt f
 |.nil,_,h=>by rw[show _=[]from h];rfl
 |.cons x k r,_,⟨u,ks,rest,e,_,_,h4⟩=>by rw[e,qz,bC.len h4,cnt]
theorem bC.app:∀{f g:Fo} {rs qs:List (List Value)},bC A w rs f->bC A w qs g->bC A w (rs++qs) (eQ f g)
 |.nil,_,_,_,h,h2=>by rw[show _=[]from h];exact h2
 |.cons x k r,_,_,_,⟨u,ks,rest,e,h1,h3,h4⟩,h2=>⟨u,ks,rest++_,by rw[e];rfl,h1,h3,bC.app h4 h2⟩
theorem bC.wide:∀{f:Fo} {rs:List (List Value)},bC A w rs f->∀x∈rs,x.length=8
 |.nil,_,h,x,hx=>by rw[show _=[]from h]at hx;cases hx
 |.cons x k r,_,⟨u,ks,rest,e,_,_,h4⟩,y,hy=>by
  rw[e]at hy;rcases List.mem_cons.1 hy with rfl|hy
  ·rfl
  exact bC.wide h4 y hy
theorem q1D{k:Nat}{v:Value}{l:List (List Value)}(h:SlK k w v l):v.oneCell'=true:=by
 obtain⟨oa,cap,b,off,rfl,-,-⟩:=h;rfl
theorem bC.flat1:∀{f:Fo} {rs:List (List Value)},bC A w rs f->∀u∈rs.flatten,u.oneCell'=true
 |.nil,_,h,x,hx=>by rw[show _=[]from h]at hx;cases hx
 |.cons x k r,_,⟨u,ks,rest,e,⟨h1,_⟩,_,h4⟩,y,hy=>by
  rw[e,List.flatten_cons]at hy;rcases List.mem_append.1 hy with hy|hy
  ·simp only[tmC,jK,List.not_mem_nil,or_false]at hy
   rcases hy with rfl|rfl|rfl|rfl|rfl|rfl|rfl|rfl
   iterate 7 rfl
   exact q1D h1
  exact bC.flat1 h4 y hy
theorem bC.step{f:Fo}{rs:List (List Value)}{j:Nat}(h:bC A w (rs.drop j) f)(hj:j<rs.length):∃x u k r,f=.cons x k r/\rs.getD j []=tmC x u/\aM A w u k/\bC A w (rs.drop (j+1)) r:=by
 rw[jC hj]at h;cases f with
 |nil=>cases h
 |cons x k r=>
  obtain⟨u,ks,rest,e,⟨h1,h2⟩,h3,h4⟩:=h;injection e with e1 e2;refine⟨x,u,k,r,rfl,?_,⟨ks,h1,h2,h3⟩,by rw[e2];exact h4⟩;rw[qt,qx hj,qM,e1]
theorem bC.done{f:Fo}{rs:List (List Value)}{j:Nat}(h:bC A w (rs.drop j) f)(hj:¬j<rs.length):f=.nil:=by
 rw[jo (by omega)]at h;cases f with
 |nil=>rfl
 |cons x k r=>obtain⟨u,ks,rest,e,-⟩:=h;cases e
theorem bC.single{x:Nd}{u:Value}{k:Fo}(h:aM A w u k):bC A w [tmC x u] (.cons x k .nil):=by
 obtain⟨ks,h1,h2,h3⟩:=h;exact⟨u,ks,[],rfl,⟨h1,h2⟩,h3,rfl⟩
theorem aM.mono{v:Value}{f:Fo}(h:aM A w v f)(hA:∀b,A b->A' b):aM A' w v f:=by
 obtain⟨rs,h1,h2,h3⟩:=h;exact⟨rs,h1,h2.mono hA,h3.mono hA⟩
theorem aM.up{v:Value}{f:Fo}(h:aM A w v f)(hb:Below w.heap.size w w'):aM A w' v f:=by
 obtain⟨rs,h1,h2,h3⟩:=h;exact⟨rs,h1.up hb,h2,h3.up hb⟩
theorem aM.keep{v:Value}{f:Fo}(h:aM A w v f)(hs:w.heap.size<=w'.heap.size)(hk:∀b,A b->b<w.heap.size->w'.heap[b]? =w.heap[b]?):aM A w' v f:=by
 obtain⟨rs,h1,h2,h3⟩:=h;exact⟨rs,D4 h1 h2 hs hk,h2,h3.keep hs hk⟩
theorem aM.lt{v:Value}{f:Fo}(h:aM A w v f):aM (fun b=>A b/\b<w.heap.size) w v f:=by
 obtain⟨rs,h1,h2,h3⟩:=h;exact⟨rs,h1,q1C h1 h2,h3.lt⟩
theorem aM.nil(A:Nat->Prop)(w:World):aM A w (.slice none 0 0) .nil:=⟨[],SlK.nil 8 w,InA.nil A,rfl⟩
theorem aM.open{v:Value}{f:Fo}(h:aM A w v f):∃rs oa cap b off,v=.slice oa (cnt f) cap/\Hd w oa (cnt f) cap b off/\rs.length=cnt f/\(∀i,i<cnt f->∀c,c<8->w.cell? ⟨b,off+i*8+c,none⟩=some ((rs.getD i []).getD c undef))/\bC A w rs f:=by
 obtain⟨rs,⟨oa,cap,b,off,rfl,hd,hc⟩,h2,h3⟩:=h;have hl:=h3.len;rw[hl]at hd hc⊢;exact⟨rs,oa,cap,b,off,rfl,hd,hl,hc,h3⟩
end
def kM(A:Nat->Prop)(w:World)(B:Nat)(E:TypeId)(v:Value)(f:Fo):Prop:=
 ∃rs,d4 8 w B E v rs/\bC (fun b=>upA A B b/\v.ownBlock≠some b) w rs f
section
variable {A : Nat → Prop} {w w' : World} {B E : Nat} {v : Value} {f : Fo}
theorem kM.nil(A:Nat->Prop)(w:World)(B E:Nat):kM A w B E (.slice none 0 0) .nil:=⟨[],d4.nil 8 w B E,rfl⟩
theorem q2k{k:Nat}{rs:List (List Value)}(h:d4 k w B E v rs):InA (fun b=>B<=b) v:=by
 intro b off o n cap e hn;have h2:v.ownBlock=some b:=by rw[e];rfl
 exact(h.lt b h2).1
theorem kM.tms(h:kM A w B E v f):aM (upA A B) w v f:=by
 obtain⟨rs,h1,h2⟩:=h;exact⟨rs,h1.sl,(q2k h1).mono (fun b hb=>.inr hb),h2.mono (fun b hb=>hb.1)⟩
theorem kM.keep(h:kM A w B E v f){row:Option Nat}(hg:w.grownBy w' row)(hne:∀q,row=some q->v.ownBlock≠some q/\¬upA A B q):kM A w' B E v f:=by
 obtain⟨rs,h1,h2⟩:=h;refine⟨rs,h1.keep hg ?_,h2.keep hg.size (fun b hb hlt=>hg.block b hlt ?_)⟩
 ·cases row with
  |none=>cases v.ownBlock<;>simp
  |some q=>exact .inr (hne q rfl).1
 intro e;exact(hne b e.symm).2 hb.1
theorem kM.up(h:kM A w B E v f)(hb:Below w.heap.size w w'):kM A w' B E v f:=
 h.keep (row:=none) ⟨hb.os,hb.tape,hb.output,hb.size,fun k hk _=>hb.block k hk⟩ (fun q e=>by cases e)
theorem kM.lt(h:kM A w B E v f):∀q,v.ownBlock=some q->B<=q/\q<w.heap.size:=by obtain⟨rs,h1,-⟩:=h;exact h1.lt
theorem kM.app{rs ns:List (List Value)}{g:Fo}{v':Value}(h2:bC (fun b=>upA A B b/\v.ownBlock≠some b) w rs f)(hn:bC (fun b=>upA A B b/\v.ownBlock≠some b) w ns g)
  (ho:d4 8 w' B E v' (rs++ns)) (hg:w.grownBy w' v.ownBlock) (hb:∀q,v'.ownBlock=some q->v.ownBlock=some q\/w.heap.size<=q):kM A w' B E v' (eQ f g):=by
 refine⟨rs++ns,ho,?_⟩;have h3:=((h2.app hn).lt).keep (w':=w') hg.size (fun b hb hlt=>hg.block b hlt (fun e=>hb.1.2 e.symm));refine h3.mono fun b hb'=>⟨hb'.1.1,fun e=>?_⟩;rcases hb b e with h4|h4
 ·exact hb'.1.2 h4
 have:=hb'.2;omega
end
theorem aM.off{A:Nat->Prop}{w:World}{B:Nat}{v u:Value}{k:Fo}(h:aM A w u k)(hA:∀b,A b->b<w.heap.size->upA A B b)(hn:∀q,v.ownBlock=some q->¬A q):aM (fun b=>upA A B b/\v.ownBlock≠some b) w u k:=
 (aM.lt h).mono fun b hb=>⟨hA b hb.1 hb.2,fun e=>hn b e hb.1⟩
@[reducible] def tmA(x:Nd)(u:Value):Array Value:=#[.int .i64 x.kd,.int .u64 x.a,.int .u64 x.b,.int .u64 x.c,.int .u64 x.d,.int .i64 x.lo,.int .i64 x.hi,u]
theorem q0L(x:Nd)(u:Value)(c:Nat):(tmC x u).getD c undef=(tmA x u).getD c undef:=by
 simp only[tmC,tmA,qR,qt,List.getElem?_toArray]
def iC(A:Nat->Prop)(t:Tm)(w:World)(e:Ending)(w':World):Prop:=∃u,e=.returned (.agg (tmA t.1 u))/\aM (upA A w.heap.size) w' u t.2/\Below w.heap.size w w'
theorem dL{w:World}{oa:Option Addr}{b off len cap:Nat}(h:Hd w oa len cap b off):
  ∀(W:World) (j:Nat),j<len->(Instr.indexAt 51 (.slice oa len cap) (.int .i64 (j:Int))).run prog W=.ok (.pointer (some ⟨b,off+j*8,none⟩)) W:=by
 intro W j hj;have:=lU (P:=prog) 8 51 56 underlying51 (by kernel_rfl) h W .i64 j (by omega) (by omega);rwa [qC]at this
abbrev fB(w:World)(g:Nat)(C:List Value):Prop:=Own w g 56 (.slice (some ⟨g,0,none⟩) 8 8) C
theorem q2l(x:Nd)(u:Value):(tmC x u).toArray=tmA x u:=rfl
theorem cM(w:World)(x:Nd)(u:Value):fB (w.alloc (.cells (tmA x u) 56)) w.heap.size (tmC x u):=cX w w.heap.size (tmA x u) 56 (show(8:Nat)<=4294967296 by decide) (qb _)
theorem q3t{x:Nd}{u:Value}(hu:u.oneCell'=true):∀z∈tmC x u,z.oneCell'=true:=by
 intro z hz;simp only[tmC,jK,List.not_mem_nil,or_false]at hz;rcases hz with rfl|rfl|rfl|rfl|rfl|rfl|rfl|rfl
 iterate 7 rfl
 exact hu
theorem aM.one{A:Nat->Prop}{w:World}{v:Value}{f:Fo}(h:aM A w v f):v.oneCell'=true:=by obtain⟨rs,h1,-⟩:=h;exact q1D h1
section
variable {ops : Array Oper} {rest : List Oper} {o : Oper} {a : Act} {w : World} {Q : Exit → Act → World → Prop}
theorem cR(hgd:o.guard=none)(x:Operand)(ho:o.op=.load 56 x)(b off:Nat)(hx:a.eval x=.pointer (some ⟨b,off,none⟩))(k n a' b' c' d' lo hi:Int)(v:Value)
  (hc:∀c,c<8->w.cell? ⟨b,off+c,none⟩=some ((tmA ⟨k,n,a',b',c',d',lo,hi⟩ v).getD c undef)) (h:wpList prog ops Q rest (a.put o.dst (.agg #[.int .i64 k,.int .u64 a',.int .u64 b',.int .u64 c',.int .u64 d',.int .i64 lo,.int .i64 hi,v])) w):wpList prog ops Q (o::rest) a w:=
 aJ hgd 56 x ho b off 8 hx (tmA ⟨k,n,a',b',c',d',lo,hi⟩ v) _ hc rfl underlying56 rfl (by kernel_rfl) h
theorem bY(hgd:o.guard=none)(x:Operand)(ho:o.op=.load 56 x)(g:Nat)(hx:a.eval x=.pointer (some ⟨g,0,none⟩))(k n a' b' c' d' lo hi:Int)(v:Value)(hown:fB w g (tmC ⟨k,n,a',b',c',d',lo,hi⟩ v))
  (h:wpList prog ops Q rest (a.put o.dst (.agg #[.int .i64 k,.int .u64 a',.int .u64 b',.int .u64 c',.int .u64 d',.int .i64 lo,.int .i64 hi,v])) w):wpList prog ops Q (o::rest) a w:=by
 obtain⟨A,hg,hs,hA⟩:=hown.whole;have hA2:A=tmA ⟨k,n,a',b',c',d',lo,hi⟩ v:=by rw[<-Array.toArray_toList (xs:=A),hA,q2l]
 subst hA2;exact mR hgd 56 8 x ho g hx (tmA ⟨k,n,a',b',c',d',lo,hi⟩ v) rfl hg _ underlying56 rfl (by kernel_rfl) h
theorem b6(hgd:o.guard=none)(x y:Operand)(ho:o.op=.store 56 x y)(g:Nat)(hx:a.eval x=.pointer (some ⟨g,0,none⟩))(z:Nd)(u:Value)(hu:u.oneCell'=true)(hy:a.eval y=.agg (tmA z u))
  (zs:List Value) (hB:fB w g zs) (hz:zs.length=8) (h:∀w',fB w' g (tmC z u)->w.grownBy w' (some g)->wpList prog ops Q rest (a.put o.dst undef) w'):wpList prog ops Q (o::rest) a w:=by
 refine bD hgd 56 x y ho g 56 g 8 8 hx (tmA z u) hy (by kernel_rfl) zs hB (by rw[hz];exact qb 8) (q3t hu) fun w' hw hg=>h w' ?_ hg;rw[jo (by rw[hz];exact qb 8),j6]at hw;exact hw
end
theorem fB.load{w:World}{g:Nat}{y:Nd}{v:Value}(h:fB w g (tmC y v)):(loadVar 56 ⟨g,0,none⟩).run prog w=.ok (.agg (tmA y v)) w:=vB h _ underlying56 rfl (by kernel_rfl)
theorem T8{fn:Func}{tmps:Array Value}{w:World}{ds:List Deferred}{s g:Nat}{y:Nd}{v:Value}{R:Ending->World->Prop}(hf:fn.results=#[.cell s 56])(ha:tmps.getD s undef=.pointer (some ⟨g,0,none⟩))(hd:ds=[])
  (hB:fB w g (tmC y v)) (h:R (.returned (.agg (tmA y v))) w):bodyPost prog fn R .ret ⟨tmps,ds⟩ w:=cL hf ha hd hB.load h
theorem pD(w:World)(x:Nd)(u:Value):SlK 8 (w.alloc (.cells (tmA x u) 56)) (.slice (some ⟨w.heap.size,0,none⟩) 1 1) [tmC x u]:=oI 8 w (tmA x u) 56 [tmC x u] rfl (by simp[tmC]) (show(1:Nat)<=4294967296 by decide)
theorem q3u(w:World)(A:Nat->Prop)(x:Nd)(u:Value)(k:Fo)(h:aM A w u k)(hA:∀b,A b->b<w.heap.size):kM A (w.alloc (.cells (tmA x u) 56)) w.heap.size 56 (.slice (some ⟨w.heap.size,0,none⟩) 1 1) (.cons x k .nil):=by
 refine⟨[tmC x u],iX 8 w w.heap.size (tmA x u) 56 [tmC x u] rfl (by simp[tmC]) (show(1:Nat)<=4294967296 by decide) (qb _),bC.single ((h.up (aB w _)).mono fun b hb=>⟨.inl hb,fun e=>?_⟩)⟩;have:=hA b hb;simp only[Value.ownBlock,jA]at e;omega
theorem dT{ops:Array Oper}{rest:List Oper}{o:Oper}{a:Act}{w:World}{Q:Exit->Act->World->Prop}(hgd:o.guard=none)(s x:Operand)(ho:o.op=.call {callee:=.builtin .append,args:=#[s,x],argTypes:=#[51,51]})
  (A:Nat->Prop) (B:Nat) (v:Value) (f:Fo) (hs:a.eval s=v) (hown:kM A w B 56 v f) (xv:Value) (hxe:a.eval x=xv) (ns:List (List Value)) (g:Fo) (hx:SlK 8 w xv ns)
  (hn:bC (fun b=>upA A B b/\v.ownBlock≠some b) w ns g) (hlen:cnt f+cnt g<=1000000000) (hB:B<=w.heap.size)
  (h:∀v' w',kM A w' B 56 v' (eQ f g)->w.grownBy w' v.ownBlock->(∀q,v.ownBlock=some q->B<=q)->(∀q,v'.ownBlock=some q->v.ownBlock=some q\/w.heap.size<=q)->wpList prog ops Q rest (a.put o.dst v') w'):wpList prog ops Q (o::rest) a w:=by
 obtain⟨rs,h1,h2⟩:=hown;refine dI 8 hgd s x 51 ho B 56 (.agg (tmA ⟨0,0,0,0,0,0,0,0⟩ (.slice none 0 0))) 80 underlying51 (by kernel_rfl) rfl (by decide) (by decide) v rs hs h1 xv ns hxe hx hn.wide hn.flat1 (by rw[h2.len,hn.len];exact hlen) hB ?_;intro v' w' ho hg hk;exact h v' w' (kM.app h2 hn ho hg hk) hg (fun q hq=>(h1.lt q hq).1) hk
theorem D5{w:World}(A:Nat->Prop):Calls prog 49 #[] w (iC A eE w):=by
 go_enter func49,ntmps49;go_wp2;exact T8 rfl rfl rfl (cM w emT (.slice none 0 0)) ⟨_,rfl,aM.nil _ _,aB _ _⟩
theorem K0{w:World}(A:Nat->Prop):Calls prog 40 #[] w (iC A eS w):=by
 go_enter func40,ntmps40;go_wp2;exact T8 rfl rfl rfl (cM w noT (.slice none 0 0)) ⟨_,rfl,aM.nil _ _,aB _ _⟩
theorem q1E{w:World}(n:Int)(h: -1<=n/\n<=1000000):Calls prog 55 #[.int .i64 n] w fun e w'=>e=.returned (.int .i64 (eC n))/\∃x,w'=ext w x:=by
 obtain⟨r,hr⟩:∃r,r=eC n:=⟨_,rfl⟩;rw[<-hr];unfold eC at hr;by_cases h1:n= -1
 ·rw[qv h1]at hr
  have HR:=qa (hr.trans h1);subst h1;clear hr;go_enter func55,ntmps55;go_wp2;go_ret;exact⟨by rw[HR.o];rfl,cB _⟩
 rw[qu h1]at hr;have HR:=qa hr;clear hr;go_enter func55,ntmps55;go_wp2
 all_goals(go_ret;refine⟨qZ (fun z=>Ending.returned (Value.int .i64 z)) ?_,cB _⟩;rw[HR.o];omega)
theorem tU{w:World}(x:Nd)(u:Value):Calls prog 32 #[.agg (tmA x u)] w fun e w'=>e=.returned (.bool (fA x))/\∃x,w'=ext w x:=by
 obtain⟨r,hr⟩:∃r,r=fA x:=⟨_,rfl⟩;have HR:=qa hr;rw[<-hr];have c2:=zY;have g1:=kC;clear hr;obtain⟨k,n,a,b,c,d,lo,hi⟩:=x;unfold tmA;go_enter func32,ntmps32;by_cases h1:k=1
 ·go_wp2
  all_goals(go_ret;refine⟨qZ (fun b=>Ending.returned (Value.bool b)) ?_,aF (aB _ _)⟩)
  all_goals(rw[HR.o,jj];unfold fA;simp[h1])
 go_wp2
 all_goals(go_ret;refine⟨qZ (fun b=>Ending.returned (Value.bool b)) ?_,aF (aB _ _)⟩)
 all_goals(rw[HR.o];unfold fA;simp[h1])
theorem kM.away{A:Nat->Prop}{w W:World}{B E:Nat}{ov v:Value}{acc j:Fo}(h:kM A w B E ov acc)(hA:∀b,A b->b<B)(hn:aM A W v j):aM (fun b=>upA A B b/\ov.ownBlock≠some b) W v j:=
 hn.mono fun b hb=>⟨.inl hb,fun e=>by have:=(h.lt b e).1;have:=hA b hb;omega⟩
theorem kM.after{A:Nat->Prop}{w W:World}{B E:Nat}{ov v:Value}{acc j:Fo}(h:kM A w B E ov acc)(hA:∀b,A b->b<B)(hB:B<=w.heap.size)(hn:aM (upA A w.heap.size) W v j):aM (fun b=>upA A B b/\ov.ownBlock≠some b) W v j:=
 hn.mono fun b hb=>⟨hb.imp id (fun h=>qc hB h),fun e=>by
  have h1:=h.lt b e;rcases hb with h2|h2
  ·have:=hA b h2;omega
  omega⟩
abbrev tm0:Array Value:=tmA ⟨0,0,0,0,0,0,0,0⟩ (.slice none 0 0)
theorem eZ{A A0:Nat->Prop}{fn:Func}{tmps:Array Value}{w W W':World}{ds:List Deferred}{s g:Nat}{x:Nd}{u:Value}{k:Fo}(hf:fn.results=#[.cell s 56])(ha:tmps.getD s undef=.pointer (some ⟨g,0,none⟩))(hd:ds=[])
  (hA:∀b,A0 b->A b/\b<w.heap.size) (hwg:w.heap.size<=g) (hT:aM (upA A0 (g+1)) W u k) (hb:Below w.heap.size w W) (hg:W.grownBy W' (some g)) (hB:fB W' g (tmC x u)):bodyPost prog fn (iC A (x,k) w) .ret ⟨tmps,ds⟩ W':=by
 refine T8 hf ha hd hB ⟨u,rfl,(hT.keep hg.size (fun b hb hlt=>hg.block b hlt ?_)).mono (fun b hb=>?_),hb.grown hg hb.size (by rintro k ⟨⟩;exact hwg)⟩
 ·intro e
  injection e with e;rcases hb with h|h
  ·have:=(hA b h).2;omega
  omega
 rcases hb with h|h
 ·exact .inl (hA b h).1
 exact .inr (by omega)
structure q3v(A:Nat->Prop)(w:World)(rs:List (List Value))(b off m:Nat)(k:Fo):Prop where
 cell:∀i,i<m->∀c,c<8->w.cell? ⟨b,off+i*8+c,none⟩=some ((rs.getD i []).getD c undef)
 rows:bC A w rs k
 len:rs.length=m
 blk:0<m->b<w.heap.size
theorem aM.form{A:Nat->Prop}{w:World}{v:Value}{f:Fo}(h:aM A w v f):∃o n c,v=.slice o n c/\n=cnt f:=by
 obtain⟨rs,oa,cap,b,off,rfl,-⟩:=h.open;exact⟨oa,cnt f,cap,rfl,rfl⟩
theorem q3v.next{A:Nat->Prop}{w W:World}{rs:List (List Value)}{b off m i:Nat}{k r:Fo}(h:q3v A w rs b off m k)(hr:bC A w (rs.drop i) r)(hi:i<m)(hb:Below w.heap.size w W):
  ∃y o n c j r',r=.cons y j r'/\aM A w (.slice o n c) j/\bC A w (rs.drop (i+1)) r'/\∀q,q<8->W.cell? ⟨b,off+i*8+q,none⟩=some ((tmA y (.slice o n c)).getD q undef):=by
 obtain⟨y,v,j,r',rfl,hrow,ht,hrr⟩:=hr.step (by rw[h.len];exact hi);obtain⟨o,n,c,rfl,-⟩:=ht.form;refine⟨y,o,n,c,j,r',rfl,ht,hrr,fun q hq=>?_⟩;rw[hb.cell (p:=⟨b,off+i*8+q,none⟩) (h.blk (by omega)),h.cell i hi q hq,hrow,q0L]
theorem aM.walk{A:Nat->Prop}{w:World}{v:Value}{f:Fo}(h:aM A w v f):∃rs oa cap b off,v=.slice oa (cnt f) cap/\Hd w oa (cnt f) cap b off/\q3v A w rs b off (cnt f) f:=by
 obtain⟨rs,oa,cap,b,off,rfl,hd,hl,hc,hr⟩:=h.open;exact⟨rs,oa,cap,b,off,rfl,hd,hc,hr,hl,hd.hblk⟩
theorem T9{A:Nat->Prop}:∀(n:Nat) {w:World} {x:Nd} {u:Value} {k:Fo},szF k<n->n<=1000000000->aM A w u k->
  Calls prog 33 #[.agg (tmA x u)] w fun e w'=>e=.returned (.int .i64 ((1+szF k:Nat):Int))/\∃x,w'=ext w x:=by
 intro n
 induction n with
 |zero=>intro w x u k h;omega
 |succ n ih=>
  intro w x u k hn hM h;obtain⟨rs,oa,cap,b,off,rfl,hd,hw⟩:=h.walk;have HIX:=qa (dL hd);have HW:=qa hw;have hm:=hd.len;obtain⟨S,hS⟩:∃S,S=1+szF k:=⟨_,rfl⟩;rw[<-hS];have HR0:Hid (bC A w (rs.drop 0) k):=qa hw.rows;have HS:Hid (1+szF k=S):=qa hS.symm;have HSM:Hid (S<=n+1/\S<=1000000000):=qa (by omega);have IH:Hid (∀(W:World) (y:Nd) (v:Value) (j:Fo),szF j<n->aM A W v j->Calls prog 33 #[.agg (tmA y v)] W fun e w'=>e=.returned (.int .i64 ((1+szF j:Nat):Int))/\∃x,w'=ext W x):=qa (fun W y v j hj hT=>ih hj (by omega) hT);generalize cnt k=m at*;clear hd hw h hS ih;obtain⟨kd,nn,a,b',c,d,lo,hi⟩:=x;go_enter func33,ntmps33;go_wp2
  go_loopg [3,9] m (fun gk nv iv wr=>∃(i acc:Nat) (r:Fo),iv=.int .i64 i/\i<=m/\nv=.int .i64 acc/\0<acc/\acc+szF r=S/\bC A w (rs.drop i) r/\Below w.heap.size w wr/\gk=m-i)
  case atStart=>exact⟨0,1,k,rfl,qd _,rfl,Nat.one_pos,HS.o,HR0.o,aB _ _,rfl⟩
  case round=>
   obtain⟨i,acc,r,rfl,hi,rfl,q69,q8A,hrr,hB,hgk⟩:=hrel;have HB:=qa hB;have HGK:=qa hgk;have q9E:=qa q8A;have HRR:=qa hrr;clear hB hgk q8A hrr HR0 HS;by_cases hlt:i<m
   ·have q64:=fun W=>HIX.o W i hlt
    obtain⟨y,oj,nj,cj,j,r',hre,ht,hrr,hcc⟩:=HW.o.next HRR.o hlt HB.o;subst hre;have HCW:=qa hcc;have HTV:=qa ht;have q5Y:=qa hrr;have HSJ:Hid (acc+(1+szF j)+szF r'=S):=qa (by have:=q9E.o;rw[szF]at this;omega);have HBX:=qa (cM wr y (.slice oj nj cj));have HBA:=qa (HB.o.trans ((aB wr (.cells (tmA y (.slice oj nj cj)) 56)).mono HB.o.size));have HSZ:=qa (IH.o _ y _ j (by have:=HSJ.o;have:=HSM.o;omega) (HTV.o.up HBA.o));have q6t:acc+(1+szF j)<=1000000000:=by have:=HSJ.o;have:=HSM.o;omega
    clear ht hrr hcc HIX HRR q9E HTV IH HB;obtain⟨z,hz⟩:∃z,z=1+szF j:=⟨_,rfl⟩;rw[<-hz]at HSZ HSJ q6t;clear hz;obtain⟨ykd,yn,ya,yb,yc,yd,ylo,yhi⟩:=y
    go_wp2_with(first
     |(refine cR rfl (.tmp 11) rfl b (off+i*8) rfl ykd yn ya yb yc yd ylo yhi (.slice oj nj cj) HCW.o ?_)
     |(refine bY rfl (.tmp 5) rfl wr.heap.size rfl ykd yn ya yb yc yd ylo yhi (.slice oj nj cj) HBX.o ?_)
     |((with_reducible refine HSZ.o.mono ?_);rintro e w5 ⟨rfl,hx⟩;have HB5:=qa (HBA.o.trans ((aE hx).mono HBA.o.size));clear hx))
    go_roundg (m-(i+1))
    case measure=>have:=HGK.o;omega
    case rel=>exact⟨i+1,acc+z,r',by go_num,by omega,by go_num,by omega,HSJ.o,q5Y.o,HB5.o,rfl⟩
   have hr0:=HRR.o.done (by rw[HW.o.len];omega);subst hr0;have HE:Hid (acc=S):=qa (by have:=q9E.o;rw[szF]at this;omega);go_wp2;go_ret;exact⟨by rw[HE.o];rfl,aF HB.o⟩
def bvN(l:List Nat):List Value:=l.map fun n:Nat=>.int .u8 (n:Int)
theorem oR(a b:List Nat):bvN (a++b)=bvN a++bvN b:=by simp[bvN]
theorem fG(a:List Nat):(bvN a).length=a.length:=by simp[bvN]
def kZ(l:List Nat):ByteArray:=⟨(l.map UInt8.ofNat).toArray⟩
def By8(l:List Nat):Prop:=∀n∈l,n<256
theorem xF(l:List Nat):(kZ l).size=l.length:=by simp[kZ,ByteArray.size]
theorem oS{l:List Nat}(h:By8 l):dF (l.map UInt8.ofNat)=bvN l:=by
 unfold dF bvN;rw[List.map_map];refine List.map_congr_left fun n hn=>?_;have:=h n hn;show Value.int .u8 (((UInt8.ofNat n).toNat:Nat):Int)=_;rw[UInt8.toNat_ofNat',Nat.mod_eq_of_lt (by omega)]
theorem vD{a b:List Nat}(ha:By8 a)(hb:By8 b)(h:kZ a=kZ b):a=b:=by
 unfold kZ at h;injection h with h;have h:=qZ Array.toList h;simp only at h
 have e:∀l:List Nat,By8 l->(l.map UInt8.ofNat).map UInt8.toNat=l:=fun l hl=>by
  rw[List.map_map]
  conv=>rhs;rw[<-List.map_id l]
  refine List.map_congr_left fun n hn=>?_;have:=hl n hn;show(UInt8.ofNat n).toNat=n;rw[UInt8.toNat_ofNat',Nat.mod_eq_of_lt (by omega)]
 rw[<-e a ha,<-e b hb,h]
theorem vE{a b:List Nat}(ha:By8 a)(hb:By8 b):By8 (a++b):=fun n hn=>(List.mem_append.1 hn).elim (ha n) (hb n)
theorem D6{x:Nd}(hx:1<=x.kd/\x.kd<=8):By8 (kH x):=by
 intro n hn
 have hw:∀z,∀m∈fM z,m<256:=fun z m hm=>by
  unfold fM at hm;obtain⟨i,-,rfl⟩:=List.mem_map.1 hm;exact jU _ (by decide)
 unfold kH at hn;rcases List.mem_cons.1 hn with rfl|hn
 ·omega
 rcases List.mem_append.1 hn with hn|hn
 ·split at hn
  ·simp only[List.mem_append]at hn
   rcases hn with((hn|hn)|hn)|hn<;>exact hw _ _ hn
  cases hn
 simp only[jK,List.not_mem_nil,or_false]at hn;unfold b8 at hn;rcases hn with rfl|rfl|rfl<;>omega
theorem sI:∀f,gT OkT f->By8 (txF f)
 |.nil,_=>fun n hn=>by cases hn
 |.cons x k r,h=>by
  rw[txF];refine vE (D6 h.1.1) (vE (sI k h.2.1) fun n hn=>?_);rcases List.mem_cons.1 hn with rfl|hn
  ·decide
  exact sI r h.2.2 n hn
theorem D7(x:Nd):(kH x).length<=36:=by
 unfold kH;rw[qz,qj];split<;>simp[iK]
theorem xG:∀f,(txF f).length<=37*szF f
 |.nil=>qb _
 |.cons x k r=>by
  have h1:=D7 x;have h2:=xG k;have h3:=xG r;rw[txF,szF,qj,qj,qz];omega
abbrev txT(x:Nd)(k:Fo):List Nat:=txF (.cons x k .nil)
theorem U0(x:Nd)(k r:Fo):txF (.cons x k r)=txT x k++txF r:=by
 show kH x++(txF k++41::txF r)=(kH x++(txF k++41::[]))++txF r;simp
def vF(x:Nd)(i:Nat):Int:=if i=0 then x.a else if i=1 then x.b else if i=2 then x.c else x.d
def L9(x:Nd)(i:Nat):List Nat:=((List.range i).map fun q=>fM (vF x q)).flatten
theorem lL(x:Nd)(i:Nat):L9 x (i+1)=L9 x i++fM (vF x i):=by
 unfold L9;rw[jx,qG,jw];simp
theorem q0M(x:Nd):L9 x 4=fM x.a++fM x.b++fM x.c++fM x.d:=by
 rw[lL x 3,lL x 2,lL x 1,lL x 0];rfl
def xH(z:Int)(i:Nat):List Nat:=(List.range i).map fun q=>z.toNat/256^q%256
theorem K2(z:Int)(i:Nat):xH z (i+1)=xH z i++[z.toNat/256^i%256]:=by
 unfold xH;rw[jx,qG];rfl
theorem U1(z:Int):xH z 8=fM z:=rfl
theorem xI{z:Int}(h:0<=z)(i:Nat):z/2^(8*i)%256=((z.toNat/256^i%256:Nat):Int):=by
 obtain⟨n,rfl⟩:=jF h;have e:(256:Nat)^i=2^(8*i):=by rw[Nat.pow_mul]
 rw[qC,e,Int.natCast_emod,Int.natCast_ediv,Int.natCast_pow]
 rfl
def U2(l:List Nat)(w:World)(e:Ending)(w':World):Prop:=e=.returned (.string (kZ l))/\Below w.heap.size w w'
theorem lM(w:World)(z:Int)(h:0<=z/\z<256):Own (w.alloc (.cells #[.int .u8 z] 5)) w.heap.size 5 (.slice (some ⟨w.heap.size,0,none⟩) 1 1) (bvN [z.toNat]):=by
 have h1:=cX w w.heap.size #[.int .u8 z] 5 (show(1:Nat)<=4294967296 by decide) (qb _)
 have e:bvN [z.toNat]=[.int .u8 z]:=by
  show [Value.int .u8 ((z.toNat:Nat):Int)]=_;rw[Int.toNat_of_nonneg h.1]
 rw[e];exact h1
theorem U3(W:World)(x:Nd)(i:Nat)(hi:i<4):(Instr.index 54 (.agg #[.int .u64 x.a,.int .u64 x.b,.int .u64 x.c,.int .u64 x.d]) (.int .i64 (i:Int))).run prog W=.ok (.int .u64 (vF x i)) W:=by
 rcases(show i=0\/i=1\/i=2\/i=3 by omega)with rfl|rfl|rfl|rfl<;>kernel_rfl
theorem q1H{A:Nat->Prop}:∀(n:Nat) {w:World} {x:Nd} {u:Value} {k:Fo},szF k<n->n<=10000000->OkT x->gT OkT k->aM A w u k->
  Calls prog 42 #[.agg (tmA x u)] w (U2 (txT x k) w):=by
 intro n
 induction n with
 |zero=>intro w x u k h;omega
 |succ n ih=>
  intro w x u k hn hM hx hk h;obtain⟨o,nk,c,rfl,-⟩:=h.form;have HOK:=qa hx;have HB8:Hid (By8 (kH x)):=qa (D6 hx.1);have hkd:=hx.1;have HT:=qa h;have hb1:=aB w (.cells (tmA x (.slice o nk c)) 56);have HX1:=qa (cM w x (.slice o nk c));have HB1:=qa hb1;clear h hb1 hx;obtain⟨kd,nn,a,b,c',d,lo,hi⟩:=x;simp only at hkd;have hq:0<=48+kd/\48+kd<256:=by omega
  have hm:(48+kd)%256=48+kd:=by omega
  obtain⟨T,hT⟩:∃T,T=txT ⟨kd,nn,a,b,c',d,lo,hi⟩ k:=⟨_,rfl⟩;rw[<-hT];have HTE:=qa hT;clear hT;go_enter func42,ntmps42
  go_upto_if 16 with(fail)
  have hs1:(w.alloc (.cells (tmA ⟨kd,nn,a,b,c',d,lo,hi⟩ (.slice o nk c)) 56)).heap.size=w.heap.size+1:=by simp
  have HO2:=qa (lM (w.alloc (.cells (tmA ⟨kd,nn,a,b,c',d,lo,hi⟩ (.slice o nk c)) 56)) (48+kd) hq);have hb2:=aB (w.alloc (.cells (tmA ⟨kd,nn,a,b,c',d,lo,hi⟩ (.slice o nk c)) 56)) (.cells #[.int .u8 (48+kd)] 5);rw[hs1]at HO2;have HX2:=qa (HX1.o.up hb2);have HB2:=qa (HB1.o.trans (hb2.mono HB1.o.size));have HS2:Hid (w.heap.size+1<=((w.alloc (.cells (tmA ⟨kd,nn,a,b,c',d,lo,hi⟩ (.slice o nk c)) 56)).alloc (.cells #[.int .u8 (48+kd)] 5)).heap.size):=qa (by simp);generalize (w.alloc (.cells (tmA ⟨kd,nn,a,b,c',d,lo,hi⟩ (.slice o nk c)) 56)).alloc (.cells #[.int .u8 (48+kd)] 5)=w2 at*;obtain⟨B,hB⟩:∃B,B=w.heap.size+1:=⟨_,rfl⟩;rw[<-hB]at HO2 HS2⊢;have HBB:Hid (w.heap.size<B):=qa (by omega);have HFR:Hid (kH ⟨kd,nn,a,b,c',d,lo,hi⟩=((48+kd).toNat::(if kd=1 then fM a++fM b++fM c'++fM d else []))++[b8 lo,b8 hi,40]):=qa rfl;obtain⟨F,hF⟩:∃F,F=(48+kd).toNat::(if kd=1 then fM a++fM b++fM c'++fM d else []):=⟨_,rfl⟩;rw[<-hF]at HFR;have HF:=qa hF;clear hB hF hs1 hb2 HB1 HX1
  go_cut [3] (fun bv wx=>Own wx B 5 bv (bvN F)/\fB wx w.heap.size (tmC ⟨kd,nn,a,b,c',d,lo,hi⟩ (.slice o nk c))/\Below w.heap.size w wx/\B<=wx.heap.size)
  case first=>
   by_cases h1:kd=1
   ·have HF1:Hid (F=[49]++L9 ⟨kd,nn,a,b,c',d,lo,hi⟩ 4):=qa (by rw[HF.o,qv h1,h1,q0M];rfl)
    subst h1;have HCL:Hid (∀i:Nat,i<4->∀W,(Instr.index 54 (.agg #[.int .u64 a,.int .u64 b,.int .u64 c',.int .u64 d]) (.int .i64 (i:Int))).run prog W=.ok (.int .u64 (vF ⟨1,nn,a,b,c',d,lo,hi⟩ i)) W):=qa (fun i hq W=>U3 W ⟨1,nn,a,b,c',d,lo,hi⟩ i hq)
    have HWQ:Hid (∀i,0<=vF ⟨1,nn,a,b,c',d,lo,hi⟩ i):=qa (fun i=>by
     obtain⟨q1,q2,q3,q4⟩:=HOK.o.2.2.1;unfold vF;(repeat' split)<;>first|exact q1.1|exact q2.1|exact q3.1|exact q4.1)
    have HSU:=qa (lL ⟨1,nn,a,b,c',d,lo,hi⟩);have c0:=HX2.o.cell (i:=0) (show(0:Nat)<8 by decide);have c1:=HX2.o.cell (i:=1) (show(1:Nat)<8 by decide);have c2:=HX2.o.cell (i:=2) (show(2:Nat)<8 by decide);have c3:=HX2.o.cell (i:=3) (show(3:Nat)<8 by decide);have c4:=HX2.o.cell (i:=4) (show(4:Nat)<8 by decide);simp only[tmC,j9,List.getD_cons_succ]at c0 c1 c2 c3 c4
    go_wp2_with(fail)
    go_loopg [3,19] 5 (fun gk bv iv wr=>∃i:Nat,iv=.int .i64 i/\i<=4/\Own wr B 5 bv (bvN ([49]++L9 ⟨1,nn,a,b,c',d,lo,hi⟩ i))/\fB wr w.heap.size (tmC ⟨1,nn,a,b,c',d,lo,hi⟩ (.slice o nk c))/\Below w.heap.size w wr/\B<=wr.heap.size/\gk=5-i)
    case atStart=>exact⟨0,rfl,qd _,HO2.o,HX2.o,HB2.o,HS2.o,rfl⟩
    case round=>
     obtain⟨i,rfl,hi4,hO,hX,hBl,hS,hgk⟩:=hrel;have HO:=qa hO;have HX:=qa hX;have HB:=qa hBl;have HS:=qa hS;have HGK:=qa hgk;clear hO hX hBl hS hgk HO2 HX2 HB2 HS2 c0 c1 c2 c3 c4;by_cases hlt:i<4
     ·have hcell:=HCL.o i hlt
      have hd4:decide ((i:Int)<4)=true:=qy (by omega);have hw0:=HWQ.o i;have HSI:Hid (L9 ⟨1,nn,a,b,c',d,lo,hi⟩ (i+1)=L9 ⟨1,nn,a,b,c',d,lo,hi⟩ i++fM (vF ⟨1,nn,a,b,c',d,lo,hi⟩ i)):=qa (HSU.o i);generalize vF ⟨1,nn,a,b,c',d,lo,hi⟩ i=W at*
      go_wp2_with(fail)
      generalize wr=wo at*
      go_loopg [3,22] 9 (fun gk bv jv wr=>∃j:Nat,jv=.int .i64 j/\j<=8/\Own wr B 5 bv (bvN ([49]++L9 ⟨1,nn,a,b,c',d,lo,hi⟩ i++xH W j))/\fB wr w.heap.size (tmC ⟨1,nn,a,b,c',d,lo,hi⟩ (.slice o nk c))/\Below w.heap.size w wr/\B<=wr.heap.size/\gk=9-j)
      case atStart=>exact⟨0,rfl,qd _,by simpa[xH]using HO.o,HX.o,HB.o,HS.o,rfl⟩
      case round=>
       obtain⟨j,rfl,hj8,hO,hX,hBl,hS,hgk⟩:=hrel;have HO1:=qa hO;have HX1:=qa hX;have HB1:=qa hBl;have HS1:=qa hS;have qck:=qa hgk;clear hO hX hBl hS hgk HO HX HB HS;by_cases q6d:j<8
       ·have hz0:0<=W/2^(8*j)%256/\W/2^(8*j)%256<256:=⟨Int.emod_nonneg _ (by decide),Int.emod_lt_of_pos _ (by decide)⟩
        have HV:Hid ((W/2^(8*j)%256).toNat=W.toNat/256^j%256):=qa (by rw[xI hw0 j];exact qC _);have HL:=qa (lM wr (W/2^(8*j)%256) hz0);rw[HV.o]at HL;have hb5:=aB wr (.cells #[.int .u8 (W/2^(8*j)%256)] 5);have HO4:=qa (HO1.o.up hb5);have HX4:=qa (HX1.o.up hb5);have HB4:=qa (HB1.o.trans (hb5.mono HB1.o.size));have HS4:=qa (qc HS1.o hb5.size)
        have HLE:Hid ((bvN ([49]++L9 ⟨1,nn,a,b,c',d,lo,hi⟩ i++xH W j)).length+(bvN [W.toNat/256^j%256]).length<=4294967296):=qa (by
         have h1:(L9 ⟨1,nn,a,b,c',d,lo,hi⟩ i).length=8*i:=by
          unfold L9
          have:∀n,(((List.range n).map fun q=>fM (vF ⟨1,nn,a,b,c',d,lo,hi⟩ q)).flatten).length=8*n:=by
           intro n
           induction n with
           |zero=>rfl
           |succ n ih=>rw[jx,qG,jw,qj,ih];simp[iK];omega
          exact this i
         rw[fG,fG];simp only[qj,qD,h1,xH,qA,List.length_range];omega)
        clear hb5 HO1 HX1 HB1 HS1
        go_wp2_with(at_builtin;refine bU rfl (.tmp 25) (.tmp 32) 59 rfl B 5 (.int .u8 0) 1 underlying59 (by kernel_rfl) rfl (by decide) _ _ rfl HO4.o _ _ rfl HL.o.sl (by intro u hu;simp only[bvN,qI,js,jf]at hu;subst hu;rfl) HLE.o HS4.o ?_;intro v5 w5 hown1 hg1 hk1;have HO5:=qa hown1;have HX5:=qa (HX4.o.keep hg1 (.inr (fun e=>by have h1:=(HO4.o.lt w.heap.size e.symm).1;have h2:=HBB.o;omega)));have HB5:=qa (HB4.o.grown hg1 HB4.o.size (fun q e=>qc (jp HBB.o) (HO4.o.lt q e).1));have HS5:=qa (qc HS4.o hg1.size);clear hown1 hg1 hk1)
        go_roundg (9-(j+1))
        case measure=>have:=qck.o;omega
        case rel=>exact⟨j+1,by go_num,by omega,by rw[K2,<-qk,oR];exact HO5.o,HX5.o,HB5.o,HS5.o,rfl⟩
       obtain rfl:j=8:=by omega
       go_wp2
       go_roundg (5-(i+1))
       case measure=>have:=HGK.o;omega
       case rel=>exact⟨i+1,by go_num,by omega,by rw[HSI.o,<-qk,<-U1];exact HO1.o,HX1.o,HB1.o,HS1.o,rfl⟩
     obtain rfl:i=4:=by omega
     go_wp2
     go_meet
     case rel=>exact⟨by rw[HF1.o];exact HO.o,HX.o,HB.o,HS.o⟩
   have HF1:Hid (F=[(48+kd).toNat]):=qa (by rw[HF.o,qu h1]);have q1:(kd==1)=false:=by simpa using h1
   have c0:=HX2.o.cell (i:=0) (show(0:Nat)<8 by decide);simp only[tmC,j9]at c0;go_wp2
   go_meet
   case rel=>exact⟨by rw[HF1.o];exact HO2.o,HX2.o,HB2.o,HS2.o⟩
  case rest=>
   obtain⟨hO,hX,hBl,hS⟩:=hcut;have HO:=qa hO;have HX:=qa hX;have HB:=qa hBl;have HS:=qa hS;clear hO hX hBl hS HO2 HX2 HB2 HS2 hq hm;have c5:=HX.o.cell (i:=5) (show(5:Nat)<8 by decide);have c6:=HX.o.cell (i:=6) (show(6:Nat)<8 by decide);simp only[tmC,j9,List.getD_cons_succ]at c5 c6
   have HXA:Hid (Sl (wc.alloc (.cells #[.int .u8 (lo%256),.int .u8 (hi%256),.int .u8 40] 5)) (.slice (some ⟨wc.heap.size,0,none⟩) 3 3) (bvN [b8 lo,b8 hi,40])):=qa (by
    have h1:=fZ wc #[.int .u8 (lo%256),.int .u8 (hi%256),.int .u8 40] 5 (show(3:Nat)<=4294967296 by decide)
    have e:bvN [b8 lo,b8 hi,40]=[.int .u8 (lo%256),.int .u8 (hi%256),.int .u8 40]:=by
     simp only[bvN,qI,js,b8];rw[Int.toNat_of_nonneg (Int.emod_nonneg _ (by decide)),Int.toNat_of_nonneg (Int.emod_nonneg _ (by decide))];rfl
    rw[e];exact h1)
   have hb3:=aB wc (.cells #[.int .u8 (lo%256),.int .u8 (hi%256),.int .u8 40] 5);have HO3:=qa (HO.o.up hb3);have HX3:=qa (HX.o.up hb3);have HB3:=qa (HB.o.trans (hb3.mono HB.o.size));have HS3:=qa (qc HS.o hb3.size);have HHL:=qa (D7 ⟨kd,nn,a,b,c',d,lo,hi⟩)
   have HLE:Hid ((bvN F).length+(bvN [b8 lo,b8 hi,40]).length<=4294967296):=qa (by
    have:=HHL.o;rw[HFR.o,qj]at this;rw[fG,fG];omega)
   clear hb3 HO HX HB HS HF
   go_wp2_with(at_builtin;refine bU rfl (.tmp 36) (.tmp 43) 59 rfl B 5 (.int .u8 0) 1 underlying59 (by kernel_rfl) rfl (by decide) _ _ rfl HO3.o _ _ rfl HXA.o (by intro u hu;simp only[bvN,qI,js,jK,List.not_mem_nil,or_false]at hu;rcases hu with rfl|rfl|rfl<;>rfl) HLE.o HS3.o ?_;intro v5 w5 hown1 hg1 hk1;have HO5:=qa hown1;have HX5:=qa (HX3.o.keep hg1 (.inr (fun e=>by have h1:=(HO3.o.lt w.heap.size e.symm).1;have h2:=HBB.o;omega)));have HB5:=qa (HB3.o.grown hg1 HB3.o.size (fun q e=>qc (jp HBB.o) (HO3.o.lt q e).1));have HS5:=qa (qc HS3.o hg1.size);have c7:=HX5.o.cell (i:=7) (show(7:Nat)<8 by decide);simp only[tmC,j9,List.getD_cons_succ]at c7;clear hown1 hg1 hk1)
   have HTX:Hid (kH ⟨kd,nn,a,b,c',d,lo,hi⟩++txF k++[41]=txT ⟨kd,nn,a,b,c',d,lo,hi⟩ k):=qa (by show _=kH ⟨kd,nn,a,b,c',d,lo,hi⟩++(txF k++41::[]);rw[qk]);have HLT:Hid ((kH ⟨kd,nn,a,b,c',d,lo,hi⟩).length+37*szF k<=370000000):=qa (by have:=HHL.o;omega);have HO6:Hid (Own w5 B 5 v5 (bvN (kH ⟨kd,nn,a,b,c',d,lo,hi⟩))):=qa (by rw[HFR.o,oR];exact HO5.o);have qb0:=HB8;generalize kH ⟨kd,nn,a,b,c',d,lo,hi⟩=H at*;rw[<-HTE.o]at HTX;obtain⟨rs,oa,cap,bb,off,hv,hd,hw⟩:=HT.o.walk;injection hv with e1 e2 e3;subst e1;subst e3;rw[<-e2]at hd hw;have HIX:=qa (dL hd);have HW:=qa hw;have hmx:=hd.len;have HR0:Hid (bC A w (rs.drop 0) k):=qa hw.rows;have HAK:=qa hk;have HSK:Hid (szF k<=n):=qa (by omega);have IH:Hid (∀(W:World) (y:Nd) (v:Value) (j:Fo),szF j<n->OkT y->gT OkT j->aM A W v j->Calls prog 42 #[.agg (tmA y v)] W (U2 (txT y j) W)):=qa (fun W y v j hj h1 h2 h3=>ih hj (by omega) h1 h2 h3);clear hd hw e2 hk ih HTE HO5 HFR HT HX5 c7 HHL HLE HOK
   go_loopg [3,48] nk (fun gk bv iv wr=>∃(i:Nat) (acc:List Nat) (r:Fo),iv=.int .i64 i/\i<=nk/\Own wr B 5 bv (bvN acc)/\Hid (acc++txF r++[41]=T)/\Hid (By8 acc)/\acc.length+37*szF r<=370000000/\szF r<=n/\gT OkT r/\bC A w (rs.drop i) r/\Below w.heap.size w wr/\B<=wr.heap.size/\gk=nk-i)
   case atStart=>exact⟨0,_,k,rfl,qd _,HO6.o,HTX,qb0,HLT.o,HSK.o,HAK.o,HR0.o,HB5.o,HS5.o,rfl⟩
   case round=>
    obtain⟨i,acc,r,rfl,hi',hO,HV,H8,hlen,hsz,hok,hrr,hBl,hSl,hgk⟩:=hrel;have HSR:=qa hSl;have HO:=qa hO;have HBL:=qa hBl;have HGK:=qa hgk;have HRR:=qa hrr;have HLN:=qa hlen;have HSZ:=qa hsz;have q7r:=qa hok;clear hO hBl hSl hgk hrr hlen hsz hok HR0 HAK HSK HLT HO6 HTX qb0;by_cases hlt:i<nk
    ·have q64:=fun W=>HIX.o W i hlt
     obtain⟨y,oj,nj,cj,j,r',hre,ht,hrr,hcc⟩:=HW.o.next HRR.o hlt HBL.o;subst hre;have HCW:=qa hcc;have q5Y:=qa hrr;have HBX:=qa (cM wr y (.slice oj nj cj));have hbn:=aB wr (.cells (tmA y (.slice oj nj cj)) 56);have HBA:=qa (HBL.o.trans (hbn.mono HBL.o.size));have HO2:=qa (HO.o.up hbn);have HSA:=qa (qc HSR.o hbn.size);obtain⟨o1,o2,o3⟩:=q7r.o;have q7g:=qa o3;have hz1:=HSZ.o;rw[szF]at hz1;have q66:Hid (szF r'<=n):=qa (by omega);have HTT:=qa (IH.o (wr.alloc (.cells (tmA y (.slice oj nj cj)) 56)) y (.slice oj nj cj) j (by omega) o1 o2 (ht.up HBA.o));have HV2:Hid ((acc++txT y j)++txF r'++[41]=T):=qa (by rw[<-HV.o,U0 y j r'];simp only[qk]);have H8J:Hid (By8 (txT y j)):=qa (sI (.cons y j .nil) ⟨o1,o2,trivial⟩);have HLJ:=qa (xG (.cons y j .nil));have HL2:Hid ((acc++txT y j).length+37*szF r'<=370000000):=qa (by have h1:(txT y j).length<=37*(1+szF j):=HLJ.o;have h2:=HLN.o;rw[szF]at h2;rw[qj];omega);have H82:=qa (vE H8.o H8J.o);obtain⟨tx,htx⟩:∃tx,tx=txT y j:=⟨_,rfl⟩;rw[<-htx]at HTT HV2 H8J HL2 H82;have HBY:=qa (oS H8J.o);have HSL:Hid ((bvN acc).length+(kZ tx).size<=4294967296):=qa (by rw[fG,xF];have:=HL2.o;rw[qj]at this;omega);clear hrr hcc HIX HRR HBL HO hbn ht o1 o2 o3 hz1 HSZ HLN HV H8 HLJ htx IH q7r;obtain⟨ykd,yn,ya,yb,yc,yd,ylo,yhi⟩:=y
     go_wp2_with(first
      |(refine cR rfl (.tmp 50) rfl bb (off+i*8) rfl ykd yn ya yb yc yd ylo yhi (.slice oj nj cj) HCW.o ?_)
      |(refine bY rfl (.tmp 8) rfl wr.heap.size rfl ykd yn ya yb yc yd ylo yhi (.slice oj nj cj) HBX.o ?_)
      |((with_reducible refine HTT.o.mono ?_);rintro e w6 ⟨rfl,hb⟩;have HO6:=qa (HO2.o.up hb);have HB6:=qa (HBA.o.trans (hb.mono HBA.o.size));have HS6:Hid (B<=w6.heap.size):=qa (qc HSA.o hb.size);clear hb)
      |(at_builtin;refine t6 rfl (.tmp 52) (.tmp 54) 59 9 rfl B 5 (.int .u8 0) 1 underlying59 underlying9 (by kernel_rfl) rfl (by decide) _ _ rfl HO6.o (kZ tx) rfl HSL.o HS6.o ?_;intro v7 w7 hown hg hk;rw[show dF (kZ tx).data.toList=bvN tx from HBY.o,<-oR]at hown;have HO7:=qa hown;have HB7:=qa (HB6.o.grown hg HB6.o.size (fun q e=>qc (jp HBB.o) (HO6.o.lt q e).1));have HS7:=qa (qc HS6.o hg.size);clear hown hg hk))
     go_roundg (nk-(i+1))
     case measure=>have:=HGK.o;omega
     case rel=>exact⟨i+1,_,r',by go_num,by omega,HO7.o,HV2,H82,HL2.o,q66.o,q7g.o,q5Y.o,HB7.o,HS7.o,rfl⟩
    have hr0:=HRR.o.done (by rw[HW.o.len];omega);subst hr0;have HE:Hid (acc++[41]=T):=qa (by have:=HV.o;rwa [txF,j6]at this);have HX9:=qa (lM wr 41 (by decide));have hb9:=aB wr (.cells #[.int .u8 41] 5);have HO9:=qa (HO.o.up hb9);have HB9:=qa (HBL.o.trans (hb9.mono HBL.o.size));have HS9:Hid (B<=(wr.alloc (.cells #[.int .u8 41] 5)).heap.size):=qa (qc HSR.o hb9.size);have qch:Hid ((bvN acc).length+(bvN [41]).length<=4294967296):=qa (by rw[fG,fG];have:=HLN.o;simp only[qD];omega);have H8T:Hid (By8 T):=qa (by rw[<-HE.o];exact vE H8.o (fun n hn=>by rw[List.mem_singleton.1 hn];decide));have HCV:Hid (∀W v,Sl W v (bvN T)->(convert 59 9 v).run prog W=.ok (.string (kZ T)) W):=qa (fun W v hv=>eX (P:=prog) W 59 9 5 underlying59 underlying5 underlying9 v _ (by rw[oS H8T.o];exact hv));clear hb9 HO HBL HV H8 HRR HIX IH
    go_wp2_with(first
     |(at_builtin;refine bU rfl (.tmp 57) (.tmp 58) 59 rfl B 5 (.int .u8 0) 1 underlying59 (by kernel_rfl) rfl (by decide) _ _ rfl HO9.o _ (bvN [41]) rfl HX9.o.sl (by intro u hu;simp only[bvN,qI,js,jf]at hu;subst hu;rfl) qch.o HS9.o ?_;intro v7 w7 hown hg hk;rw[<-oR,HE.o]at hown;have hcv:=HCV.o w7 v7 hown.sl;have qcv:=qa (HB9.o.grown hg HB9.o.size (fun q e=>qc (jp HBB.o) (HO9.o.lt q e).1));clear hown hg hk))
    go_ret;exact⟨rfl,qcv.o⟩
end Go.Cm
