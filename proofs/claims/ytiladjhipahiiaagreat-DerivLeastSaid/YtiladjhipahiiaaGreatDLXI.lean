/- Walks of functions and plain facts, joined and squeezed by a program. Conditions: as each says. -/
import Derived.DeepKeys4
import Derived.Test.YtiladjhipahiiaaGreatDLXH
set_option maxHeartbeats 8000000
set_option maxRecDepth 100000
set_option linter.unusedSimpArgs false
open Go.Proofs.Tryz
namespace Go.Cm
theorem ZmI0{P:Prop}(h:P:=by
 have HFN:Hid ((L.take (k+1)).foldl (sS r) (-1)=o):=qa (by rw[HT.o,HZ.o,qv (by omega)]);go_wp2
 go_roundg (n-(k+1))
 case measure=>omega
 case rel=>exact⟨k+1,o,rfl,by go_num,by omega,HFN.o.symm,HW.o,rfl⟩):P:=h
theorem ZmI1{P:Prop}(h:P:=by
 go_roundg (m-(i+1))
 case measure=>have:=HGK.o;omega
 case rel=>exact⟨i+1,_,r',by go_num,by omega,HO5.o,HV2,qdf.o,qcF.o,HB5.o,rfl⟩):P:=h
theorem ZmI2{P:Prop}(h:P:=by
 go_roundg (n-(k+1))
 case measure=>omega
 case rel=>exact⟨k+1,z,rfl,by go_num,by omega,HFN.o.symm,HW.o,rfl⟩):P:=h
theorem ZmI3{P:Prop}(h:P:=by rw[HR.o];exact iY rfl rfl rfl HA1.o HW1.o HT6.o HB6.o qcy.o HX7.o):P:=h
def OkS(x:Nd):Prop:=OkT x/\(5<=x.kd->x.n=1)/\(x.kd=8->0<=x.lo/\(x.hi= -1\/x.lo<=x.hi))
def L1(x:Nd)(p:Bool×Bool):Bool:=
 if x.kd=2\/x.kd=5\/x.kd=7 then true else if x.kd=3\/x.kd=6 then p.1 else if x.kd=4 then p.2 else if x.kd=8 then p.1||decide (x.lo=0)else false
def tJ:Fo->Bool×Bool
 |.nil=>(true,false)
 |.cons x k r=>(L1 x (tJ k)&&(tJ r).1,L1 x (tJ k)||(tJ r).2)
theorem q1c(A B:Lng):cat A B []↔A []/\B []:=by
 constructor
 ·rintro⟨u,v,e,a,b⟩
  obtain⟨rfl,rfl⟩:=List.append_eq_nil_iff.1 e.symm;exact⟨a,b⟩
 rintro⟨a,b⟩;exact⟨[],[],rfl,a,b⟩
theorem L3:∀Ls:List Lng,gV Ls []↔∀L∈Ls,L []
 |[]=>⟨fun _ _ h=>(by cases h),fun _=>rfl⟩
 |A::r=>by
  show cat A (gV r) []↔_;rw[q1c,L3 r];simp
theorem T3(L:Lng):∀k,uF L (k+1) []↔L []
 |0=>by
  show cat eps L []↔_;rw[q1c];exact⟨fun h=>h.2,fun h=>⟨rfl,h⟩⟩
 |k+1=>by
  show cat (uF L (k+1)) L []↔_;rw[q1c,T3 L k];exact⟨fun h=>h.2,fun h=>⟨h,h⟩⟩
theorem z8(lo hi:Int)(L:Lng)(h0:0<=lo)(h1:hi= -1\/lo<=hi):dT lo hi L []↔L []\/lo=0:=by
 constructor
 ·rintro⟨k,a,b,c⟩
  match k with
  |0=>exact .inr (by omega)
  |k+1=>exact .inl ((T3 L k).1 c)
 rintro(h|h)
 ·by_cases hl:lo=0
  ·exact⟨0,by omega,by omega,rfl⟩
  refine⟨lo.toNat,by omega,by omega,?_⟩;obtain⟨k,hk⟩:∃k,lo.toNat=k+1:=⟨lo.toNat-1,by omega⟩;rw[hk];exact(T3 L k).2 h
 exact⟨0,by omega,by omega,rfl⟩
theorem Z7(x:Nd)(p:Bool×Bool)(Ls:List Lng)(hx:OkS x)(hn:x.n=Ls.length)(h1:p.1=true↔∀L∈Ls,L [])(h2:p.2=true↔∃L∈Ls,L []):L1 x p=true↔gT x Ls []:=by
 obtain⟨⟨hk,-⟩,h5,h8⟩:=hx
 have qdi:5<=x.kd->∃A,Ls=[A]:=fun h=>by
  have e:Ls.length=1:=by have:=h5 h;omega
  exact List.length_eq_one_iff.1 e
 unfold L1;rcases(show x.kd=1\/x.kd=2\/x.kd=3\/x.kd=4\/x.kd=5\/x.kd=6\/x.kd=7\/x.kd=8 by omega)with h|h|h|h|h|h|h|h
 ·rw[qv (by omega),qv (by omega),qv (by omega),qv (by omega)]
  unfold gT;rw[qw h];exact⟨fun h=>(by cases h),fun⟨c,e,_⟩=>(by cases e)⟩
 ·rw[qw (.inl h),nP x Ls h]
  exact⟨fun _=>rfl,fun _=>rfl⟩
 ·rw[qv (by omega),qw (.inl h),yZ x Ls h,L3,h1]
 ·rw[qv (by omega),qv (by omega),qw h,z6 x Ls h,h2]
  exact Iff.rfl
 ·obtain⟨A,rfl⟩:=qdi (by omega)
  rw[qw (.inr (.inl h))];unfold gT;rw[qv (by omega),qv (by omega),qv (by omega),qw h,z8 _ _ _ (by omega) (by omega)];exact⟨fun _=>.inr rfl,fun _=>rfl⟩
 ·obtain⟨A,rfl⟩:=qdi (by omega)
  rw[qv (by omega),qw (.inr h),h1];unfold gT;rw[qv (by omega),qv (by omega),qv (by omega),qv (by omega),qw h,z8 _ _ _ (by omega) (by omega)];simp
 ·obtain⟨A,rfl⟩:=qdi (by omega)
  rw[qw (.inr (.inr h))];unfold gT;rw[qv (by omega),qv (by omega),qv (by omega),qv (by omega),qv (by omega),qw h,z8 _ _ _ (by omega) (by omega)];exact⟨fun _=>.inr rfl,fun _=>rfl⟩
 obtain⟨A,rfl⟩:=qdi (by omega);obtain⟨l0,l1⟩:=h8 h;rw[qv (by omega),qv (by omega),qv (by omega),qw h];unfold gT;rw[qv (by omega),qv (by omega),qw h,z8 _ _ _ l0 l1,Bool.or_eq_true,h1];simp
theorem B3:∀f,mM OkS f->wf f->((tJ f).1=true↔∀L∈cG f,L [])/\((tJ f).2=true↔∃L∈cG f,L [])
 |.nil,_,_=>⟨⟨fun _ _ h=>(by cases h),fun _=>rfl⟩,⟨fun h=>(by cases h),fun⟨_,h,_⟩=>by cases h⟩⟩
 |.cons x k r,h,hw=>by
  obtain⟨a1,a2⟩:=B3 k h.2.1 hw.2.1;obtain⟨b1,b2⟩:=B3 r h.2.2 hw.2.2;have hn:=Z7 x (tJ k) (cG k) h.1 (by rw[r7];exact hw.1) a1 a2;rw[cG]
  constructor
  ·show(L1 x (tJ k)&&(tJ r).1)=true↔_
   rw[qK,hn,b1];simp
  show(L1 x (tJ k)||(tJ r).2)=true↔_;rw[Bool.or_eq_true,hn,b2];simp
def oE(t:Tm):Tm:=if t.1.kd=5 then t else if t.1.kd=2\/kG t.1=true then gL else q3i 5 (one t .nil)
def T4(t:Tm)(lo hi:Int):Tm:=
 if hi=0 then gL else if hi= -1/\lo=0 then oE t else if lo=1/\hi=1 then t else if kG t.1=true/\0<lo then iG
 else if kG t.1=true\/t.1.kd=2 then gL else(⟨8,1,0,0,0,0,lo,hi⟩,one t .nil)
def gE(n:Int):Int:=if n= -1 then n else max 0 (n-1)
def L4:Fo->Fo->Tm
 |.cons x k r,.cons y j q=>if L1 x (tJ k)then q3j (one (nZ (.cons y j (one (nZ r) .nil))) (one (L4 r q) .nil))else nZ (.cons y j (one (nZ r) .nil))
 |_,_=>iG
def hdT:Fo->Tm
 |.nil=>iG
 |.cons x k _=>(x,k)
def nQ(c:Nat)(x:Nd)(k dk:Fo):Tm:=
 if x.kd=1 then(if pB (dM x 0) c then gL else iG)else if x.kd=3 then L4 k dk else if x.kd=4 then q3j dk
 else if x.kd=5\/x.kd=6 then nZ (one (hdT dk) (one (oE (hdT k)) .nil))else if x.kd=7 then hdT dk
 else if x.kd=8/\x.hi≠0 then nZ (one (hdT dk) (one (T4 (hdT k) (gE x.lo) (gE x.hi)) .nil))else iG
def eM(c:Nat):Fo->Fo
 |.nil=>.nil
 |.cons x k r=>one (nQ c x k (eM c k)) (eM c r)
theorem sA(c:Nat):∀f,cnt (eM c f)=cnt f
 |.nil=>rfl
 |.cons x k r=>by rw[eM,one,cnt,cnt,sA c r]
theorem q4D(A B:Lng)(c:Nat)(w:List Nat):cat A B (c::w)↔cat (fun u=>A (c::u)) B w\/(A []/\B (c::w)):=by
 constructor
 ·rintro⟨u,v,e,a,b⟩
  cases u with
  |nil=>exact .inr ⟨a,by rw[e];exact b⟩
  |cons d u=>
   injection e with e1 e2;subst e1;exact .inl ⟨u,v,e2,a,b⟩
 rintro(⟨u,v,rfl,a,b⟩|⟨a,b⟩)
 ·exact⟨c::u,v,rfl,a,b⟩
 exact⟨[],c::w,rfl,a,b⟩
theorem uP(A:Lng)(w:List Nat):uF A 1 w↔A w:=R3 A w
theorem q3k(A:Lng)(k:Nat)(w:List Nat):uF A (k+1) w↔cat A (uF A k) w:=by
 rw[Nat.add_comm k 1,uG A 1 k w];exact eF (uP A) (fun _=>Iff.rfl) w
theorem q7i{A:Lng}(h:A []){k:Nat}{w:List Nat}(hp:uF A k w):uF A (k+1) w:=⟨w,[],by simp,hp,h⟩
theorem q29(A:Lng)(c:Nat):∀(k:Nat) (w:List Nat),uF A (k+1) (c::w)↔cat (fun u=>A (c::u)) (uF A k) w:=by
 intro k
 induction k with
 |zero=>
  intro w;rw[uP];exact(zZ (fun u=>A (c::u)) w).symm
 |succ k ih=>
  intro w;rw[q3k,q4D]
  constructor
  ·rintro(h|⟨h0,h⟩)
   ·exact h
   obtain⟨u,v,e,a,b⟩:=(ih w).1 h;exact⟨u,v,e,a,q7i h0 b⟩
  exact .inl
theorem T5(lo hi:Int)(A:Lng)(c:Nat)(w:List Nat)(hh:hi≠0)(h0:0<=lo)(h1:hi= -1\/lo<=hi):dT lo hi A (c::w)↔cat (fun u=>A (c::u)) (dT (gE lo) (gE hi) A) w:=by
 unfold gE
 constructor
 ·rintro⟨k,a,b,hp⟩
  match k with
  |0=>cases hp
  |k+1=>
   obtain⟨u,v,e,p,q⟩:=(q29 A c k w).1 hp;refine⟨u,v,e,p,k,?_,?_,q⟩
   ·split<;>omega
   split<;>omega
 rintro⟨u,v,e,p,k,a,b,q⟩;refine⟨k+1,?_,?_,(q29 A c k w).2 ⟨u,v,e,p,q⟩⟩
 ·split at a<;>omega
 split at b<;>omega
theorem q2a(A:Lng):∀(k:Nat) (w:List Nat),uF (dT 0 (-1) A) k w->∃n,uF A n w
 |0,w,h=>⟨0,h⟩
 |k+1,w,h=>by
  obtain⟨u,v,rfl,a,n,-,-,b⟩:=h;obtain⟨m,hm⟩:=q2a A k u a;exact⟨m+n,(uG A m n _).2 ⟨u,v,rfl,hm,b⟩⟩
theorem q4E(A:Lng)(w:List Nat):dT 0 (-1) (dT 0 (-1) A) w↔dT 0 (-1) A w:=by
 constructor
 ·rintro⟨k,-,-,h⟩
  obtain⟨n,hn⟩:=q2a A k w h;exact⟨n,by omega,by omega,hn⟩
 intro h;exact⟨1,by omega,by omega,(uP _ w).2 h⟩
theorem T6{A:Lng}(h:∀w,A w->w=[]):∀(k:Nat) (w:List Nat),uF A k w->w=[]
 |0,_,hw=>hw
 |k+1,_,hw=>by
  obtain⟨u,v,rfl,a,b⟩:=hw;rw[T6 h k u a,h v b]
  rfl
theorem q4F{A:Lng}(h:A []):∀k,uF A k []
 |0=>rfl
 |k+1=>⟨[],[],rfl,q4F h k,h⟩
theorem L5(t:Tm)(w:List Nat):eV (oE t) w↔dT 0 (-1) (eV t) w:=by
 unfold oE
 have only:(t.1.kd=2\/kG t.1=true)->∀w,eV t w->w=[]:=by
  rintro(h|h) w hw
  ·exact(nP t.1 _ h w).1 hw
  exact absurd hw (iK t.1 _ h w)
 split
 ·rename_i h
  have e:eV t=dT 0 (-1) ((cG t.2).getD 0 tF):=by
   unfold eV gT;rw[qv (by omega),qv (by omega),qv (by omega),qw h]
  rw[e];exact(q4E _ w).symm
 split
 ·rename_i h
  have e:eV gL w↔w=[]:=nP emT _ rfl w;rw[e]
  constructor
  ·rintro rfl
   exact⟨0,by omega,by omega,rfl⟩
  rintro⟨k,-,-,hp⟩;exact T6 (only h) k w hp
 exact Iff.rfl
theorem q4G(t:Tm)(lo hi:Int)(h0:0<=lo)(h1:hi= -1\/lo<=hi)(w:List Nat):eV (T4 t lo hi) w↔dT lo hi (eV t) w:=by
 have em:eV gL w↔w=[]:=nP emT _ rfl w;unfold T4;split
 ·rename_i h
  rw[em]
  constructor
  ·rintro rfl
   exact⟨0,by omega,by omega,rfl⟩
  rintro⟨k,a,b,hp⟩;obtain rfl:k=0:=by omega
  exact hp
 split
 ·rename_i h
  rw[L5,h.1,h.2]
 split
 ·rename_i h
  rw[h.1,h.2]
  constructor
  ·intro hw
   exact⟨1,by omega,by omega,(uP _ w).2 hw⟩
  rintro⟨k,a,b,hp⟩;obtain rfl:k=1:=by omega
  exact(uP _ w).1 hp
 split
 ·rename_i h
  refine⟨fun hw=>absurd hw (iK noT _ rfl w),?_⟩;rintro⟨k,a,b,hp⟩
  match k with
  |0=>omega
  |k+1=>
   obtain⟨u,v,-,-,hv⟩:=hp;exact absurd hv (iK t.1 _ h.1 v)
 split
 ·rename_i hd h
  rw[em]
  have only:∀w,eV t w->w=[]:=by
   rcases h with h|h
   ·exact fun w hw=>absurd hw (iK t.1 _ h w)
   exact fun w hw=>(nP t.1 _ h w).1 hw
  constructor
  ·rintro rfl
   rcases h with h|h
   ·have hl:lo=0:=by
     rcases(show 0<lo\/lo<=0 by omega)with h3|h3
     ·exact absurd ⟨h,h3⟩ hd
     omega
    exact⟨0,by omega,by omega,rfl⟩
   exact⟨lo.toNat,by omega,by omega,q4F ((nP t.1 _ h []).2 rfl) _⟩
  rintro⟨k,-,-,hp⟩;exact T6 only k w hp
 exact Iff.rfl
def eI(f:Fo):Prop:=mM OkS f/\wf f
def mW(t:Tm):Prop:=OkS t.1/\t.1.n=cnt t.2/\eI t.2
theorem gM:eI .nil:=⟨trivial,trivial⟩
theorem dJ{t:Tm}{r:Fo}(h:mW t)(k:eI r):eI (one t r):=⟨⟨h.1,h.2.2.1,k.1⟩,⟨h.2.1,h.2.2.2,k.2⟩⟩
theorem cC{x:Nd}{k r:Fo}(h:eI (.cons x k r)):mW (x,k)/\eI r:=⟨⟨h.1.1,h.2.1,h.1.2.1,h.2.2.1⟩,h.1.2.2,h.2.2.2⟩
theorem Z8(kd:Int){f:Fo}(h:eI f):eI (gU kd f):=⟨uO OkS kd f h.1,z7 kd f h.2⟩
theorem nq0:∀(kd n lo hi:Int),NdQ ⟨kd,n,0,0,0,0,lo,hi⟩:=fun _ _ _ _=>⟨r8,r8,r8,r8⟩
theorem oG:mW gL:=⟨⟨⟨by decide,fun _=>⟨rfl,rfl,rfl,rfl⟩,nq0 _ _ _ _,by decide,by decide⟩,by decide,by decide⟩,rfl,gM⟩
theorem lQ:mW iG:=⟨⟨⟨by decide,fun _=>⟨rfl,rfl,rfl,rfl⟩,nq0 _ _ _ _,by decide,by decide⟩,by decide,by decide⟩,rfl,gM⟩
theorem q4H(kd:Int)(f:Fo)(h:eI f)(hk:kd=3\/kd=4):mW (q3i kd f):=
 ⟨⟨⟨(show 1<=kd/\kd<=8 by omega),fun _=>⟨rfl,rfl,rfl,rfl⟩,nq0 _ _ _ _,(show(-1:Int)<=0/\(0:Int)<=30 by decide),(show(-1:Int)<=0/\(0:Int)<=30 by decide)⟩,fun(e:5<=kd)=>by omega,fun(e:kd=8)=>by omega⟩,rfl,h⟩
theorem Z9(kd:Int)(z:Tm)(f:Fo)(h:eI f)(hz:mW z)(hk:kd=3\/kd=4):mW (uL kd z f):=by
 match f with
 |.nil=>exact hz
 |.cons x k .nil=>exact(cC h).1
 |.cons x k (.cons y j r)=>exact q4H kd _ h hk
theorem q00:∀f g,eI f->wY f=some g->eI g
 |.nil,g,_,e=>by
  injection e with e;exact e▸gM
 |.cons x k r,g,h,e=>by
  rw[wY]at e;split at e
  ·cases e
  obtain⟨q,hq,e⟩:=Option.map_eq_some_iff.1 e;have h2:=q00 r q (cC h).2 hq;split at e
  ·exact e▸h2
  exact e▸dJ (cC h).1 h2
theorem nE{f:Fo}(h:eI f):mW (nZ f):=by
 unfold nZ;split
 ·exact lQ
 rename_i g hg;exact Z9 3 _ g (q00 _ g (Z8 3 h) hg) oG (.inl rfl)
theorem uQ:∀f met,eI f->eI (z3 met f)
 |.nil,_,h=>h
 |.cons x k r,met,h=>by
  rw[z3];split
  ·exact uQ r met (cC h).2
  split
  ·exact uQ r met (cC h).2
  exact dJ (cC h).1 (uQ r _ (cC h).2)
theorem q2b{f:Fo}(h:eI f):mW (q3j f):=Z9 4 _ _ (uQ _ _ (Z8 4 h)) lQ (.inr rfl)
theorem q01{t:Tm}(h:mW t):mW (oE t):=by
 unfold oE;split
 ·exact h
 split
 ·exact oG
 exact⟨⟨⟨(show(1:Int)<=5/\(5:Int)<=8 by decide),fun _=>⟨rfl,rfl,rfl,rfl⟩,nq0 _ _ _ _,(show(-1:Int)<=0/\(0:Int)<=30 by decide),(show(-1:Int)<=0/\(0:Int)<=30 by decide)⟩,fun _=>rfl,fun(e:(5:Int)=8)=>absurd e (by decide)⟩,rfl,dJ h gM⟩
theorem q7j{t:Tm}{lo hi:Int}(h:mW t)(h0:0<=lo/\lo<=30)(h1: -1<=hi/\hi<=30)(h2:hi= -1\/lo<=hi):mW (T4 t lo hi):=by
 unfold T4;split
 ·exact oG
 split
 ·exact q01 h
 split
 ·exact h
 split
 ·exact lQ
 split
 ·exact oG
 exact⟨⟨⟨(show(1:Int)<=8/\(8:Int)<=8 by decide),fun _=>⟨rfl,rfl,rfl,rfl⟩,nq0 _ _ _ _,(show -1<=lo/\lo<=30 by omega),h1⟩,fun _=>rfl,fun _=>⟨h0.1,h2⟩⟩,rfl,dJ h gM⟩
theorem z9:∀k dk,eI k->eI dk->mW (L4 k dk)
 |.nil,_,_,_=>lQ
 |.cons _ _ _,.nil,_,_=>lQ
 |.cons x k r,.cons y j q,h,hd=>by
  have d:=nE (dJ (t:=(y,j)) (cC hd).1 (dJ (nE (cC h).2) gM));rw[L4];split
  ·exact q2b (dJ d (dJ (z9 r q (cC h).2 (cC hd).2) gM))
  exact d
theorem B7{f:Fo}(h:eI f):mW (hdT f):=by
 match f with
 |.nil=>exact lQ
 |.cons x k r=>exact(cC h).1
theorem uR{c:Nat}{x:Nd}{k dk:Fo}(hx:OkS x)(hk:eI k)(hd:eI dk):mW (nQ c x k dk):=by
 unfold nQ;split
 ·split
  ·exact oG
  exact lQ
 split
 ·exact z9 k dk hk hd
 split
 ·exact q2b hd
 split
 ·exact nE (dJ (B7 hd) (dJ (q01 (B7 hk)) gM))
 split
 ·exact B7 hd
 split
 ·rename_i h
  obtain⟨l0,l1⟩:=hx.2.2 h.1;obtain⟨-,-,-,a,b⟩:=hx.1;have hh:=h.2;refine nE (dJ (B7 hd) (dJ (q7j (B7 hk) ?_ ?_ ?_) gM))
  all_goals unfold gE
  ·split<;>omega
  ·split<;>omega
  split<;>split<;>omega
 exact lQ
theorem fV(c:Nat):∀f,eI f->eI (eM c f)
 |.nil,h=>h
 |.cons x k r,h=>by
  obtain⟨⟨a,-,b⟩,d⟩:=cC h;exact dJ (uR a b (fV c k b)) (fV c r d)
def qa1(c:Nat):List Lng->List Lng->Prop
 |[],[]=>True
 |a::ra,b::rb=>(∀w,a w↔b (c::w))/\qa1 c ra rb
 |_,_=>False
theorem T7(s t:Tm)(w:List Nat):eV (nZ (one s (one t .nil))) w↔cat (eV s) (eV t) w:=by
 rw[Z1];show cat (eV s) (cat (eV t) eps) w↔_;exact eF (fun _=>Iff.rfl) (zZ _) w
theorem q4I{x:Nd}{k r:Fo}(h:eI (.cons x k r)):L1 x (tJ k)=true↔gT x (cG k) []:=by
 obtain⟨⟨a,b,d⟩,-⟩:=cC h;obtain⟨h1,h2⟩:=B3 k d.1 d.2;exact Z7 x _ _ a (by rw[r7];exact b) h1 h2
theorem q2c(c:Nat):∀k dk,eI k->eI dk->qa1 c (cG dk) (cG k)->∀w,eV (L4 k dk) w↔gV (cG k) (c::w)
 |.nil,.nil,_,_,_,w=>⟨fun h=>absurd h (iK noT _ rfl w),fun h=>by cases h⟩
 |.nil,.cons _ _ _,_,_,h,_=>h.elim
 |.cons _ _ _,.nil,_,_,h,_=>h.elim
 |.cons x k r,.cons y j q,hk,hd,h,w=>by
  have e1:eV (nZ (.cons y j (one (nZ r) .nil))) w↔cat (fun u=>gT x (cG k) (c::u)) (gV (cG r)) w:=
   (T7 (y,j) (nZ r) w).trans (eF (fun w=>h.1 w) (Z1 r) w)
  have ih:=q2c c r q (cC hk).2 (cC hd).2 h.2 w;have hn:=q4I hk;rw[L4];show _↔cat (gT x (cG k)) (gV (cG r)) (c::w);rw[q4D];split
  ·rename_i hx
   have g:=dJ (nE (dJ (t:=(y,j)) (cC hd).1 (dJ (nE (cC hk).2) gM))) (dJ (z9 r q (cC hk).2 (cC hd).2) gM);have go:mM OkT _:=(iQ _).2 (fun z hz=>((iQ _).1 g.1 z hz).1);refine(Z3 _ go g.2 w).trans ?_;show q0W [eV _,eV _] w↔_;rw[iL,iL]
   constructor
   ·rintro(a|a|⟨_,a,_⟩)
    ·exact .inl (e1.1 a)
    ·exact .inr ⟨hn.1 hx,ih.1 a⟩
    cases a
   rintro(a|⟨_,a⟩)
   ·exact .inl (e1.2 a)
   exact .inr (.inl (ih.2 a))
  rename_i hx;exact⟨fun a=>.inl (e1.1 a),fun a=>a.elim e1.2 (fun a=>absurd (hn.2 a.1) hx)⟩
theorem q4J(c:Nat):∀As Bs,qa1 c As Bs->∀w,q0W As w↔q0W Bs (c::w)
 |[],[],_,w=>⟨fun⟨_,h,_⟩=>(by cases h),fun⟨_,h,_⟩=>(by cases h)⟩
 |[],_::_,h,_=>h.elim
 |_::_,[],h,_=>h.elim
 |a::ra,b::rb,h,w=>by rw[iL,iL,h.1 w,q4J c ra rb h.2 w]
theorem q7k(x:Nd)(Ls:List Lng)(h:5<=x.kd/\x.kd<=8):gT x Ls=dT (if x.kd=8 then x.lo else if x.kd=6 then 1 else 0) (if x.kd=8 then x.hi else if x.kd=7 then 1 else -1) (Ls.getD 0 tF):=by
 unfold gT;rcases(show x.kd=5\/x.kd=6\/x.kd=7\/x.kd=8 by omega)with h|h|h|h<;>simp[h]
theorem q4K(c:Nat){x:Nd}{k dk:Fo}(hx:OkS x)(hn:x.n=cnt k)(hk:eI k)(hd:eI dk)(h:qa1 c (cG dk) (cG k))(w:List Nat):eV (nQ c x k dk) w↔gT x (cG k) (c::w):=by
 have hkd:=hx.1.1;have hno:∀w,¬eV iG w:=fun w=>iK noT _ rfl w;have hem:∀w,eV gL w↔w=[]:=fun w=>nP emT _ rfl w;unfold nQ;by_cases h1:x.kd=1
 ·rw[qw h1]
  have e:gT x (cG k) (c::w)↔w=[]/\pB (dM x 0) c=true:=by
   unfold gT;rw[qw h1]
   constructor
   ·rintro⟨d,e,hh⟩
    injection e with e1 e2;subst e1;exact⟨e2,hh⟩
   rintro⟨rfl,hh⟩;exact⟨c,rfl,hh⟩
  rw[e];split
  ·rename_i hh
   rw[hem];exact⟨fun e=>⟨e,hh⟩,fun e=>e.1⟩
  rename_i hh;exact⟨fun e=>absurd e (hno w),fun e=>absurd e.2 hh⟩
 rw[qv h1];by_cases h3:x.kd=3
 ·rw[qw h3,yZ x _ h3]
  exact q2c c k dk hk hd h w
 rw[qv h3];by_cases h4:x.kd=4
 ·rw[qw h4,z6 x _ h4]
  have go:mM OkT dk:=(iQ _).2 (fun z hz=>((iQ _).1 hd.1 z hz).1);exact(Z3 dk go hd.2 w).trans (q4J c _ _ h w)
 rw[qv h4];by_cases h2:x.kd=2
 ·rw[qv (by omega),qv (by omega),qv (by omega),nP x _ h2]
  exact⟨fun e=>absurd e (hno w),fun e=>by cases e⟩
 have qdi:cnt k=1:=by have:=hx.2.1 (by omega);omega
 match k,dk,qdi,h,hk,hd with
 |.cons y j .nil,.cons z i .nil,_,h,hk,hd=>
  have hl:=q7k x (cG (.cons y j .nil)) (by omega);rw[hl];show _↔dT _ _ (gT y (cG j)) (c::w);have hA:∀u,eV (z,i) u↔gT y (cG j) (c::u):=h.1;by_cases h56:x.kd=5\/x.kd=6
  ·rw[qw h56]
   rw[show(if x.kd=8 then x.hi else if x.kd=7 then(1:Int)else -1)= -1 by rw[qv (by omega),qv (by omega)]];obtain⟨lo,hlo⟩:∃lo:Int,lo=(if x.kd=8 then x.lo else if x.kd=6 then(1:Int)else 0):=⟨_,rfl⟩;rw[<-hlo]
   have hl2:lo=0\/lo=1:=by
    rw[hlo,qv (by omega)];split
    ·exact .inr rfl
    exact .inl rfl
   show eV (nZ (one (z,i) (one (oE (y,j)) .nil))) w↔_;rw[T7,T5 _ _ _ _ _ (by omega) (by omega) (.inl rfl)];refine eF hA (fun u=>(L5 (y,j) u).trans ?_) w;have e1:gE lo=0:=by unfold gE;split<;>omega
   have e2:gE (-1)= -1:=by unfold gE;rw[qw rfl]
   rw[e1,e2];exact Iff.rfl
  rw[qv h56];by_cases h7:x.kd=7
  ·rw[qw h7,qv (by omega),qv (by omega),qv (by omega),qw h7]
   show eV (z,i) w↔_;rw[hA,T5 _ _ _ _ _ (by omega) (by omega) (by omega)];have e1:gE 0=0:=by decide
   have e2:gE 1=0:=by decide
   rw[e1,e2]
   constructor
   ·intro a
    exact⟨w,[],by simp,a,0,by omega,by omega,rfl⟩
   rintro⟨u,v,rfl,a,m,b1,b2,b3⟩;obtain rfl:m=0:=by omega
   rw[show v=[]from b3,j7];exact a
  have h8:x.kd=8:=by omega
  obtain⟨l0,l1⟩:=hx.2.2 h8;rw[qv h7,qw h8,qw h8];by_cases hh:x.hi=0
  ·rw[qv (fun e=>e.2 hh)]
   refine⟨fun e=>absurd e (hno w),?_⟩;rintro⟨m,b1,b2,b3⟩;obtain rfl:m=0:=by omega
   cases b3
  rw[qw ⟨h8,hh⟩];show eV (nZ (one (z,i) (one (T4 (y,j) (gE x.lo) (gE x.hi)) .nil))) w↔_;rw[T7,T5 _ _ _ _ _ hh l0 l1];refine eF hA (fun u=>q4G (y,j) _ _ ?_ ?_ u) w
  ·unfold gE;split<;>omega
  unfold gE;split<;>split<;>omega
theorem B8(c:Nat):∀f,eI f->qa1 c (cG (eM c f)) (cG f)
 |.nil,_=>trivial
 |.cons x k r,h=>by
  obtain⟨⟨a,b,d⟩,e⟩:=cC h;exact⟨fun w=>q4K c a b d (fV c k d) (B8 c k d) w,B8 c r e⟩
def q3l(f:Fo):List Nat->Fo
 |[]=>f
 |c::s=>q3l (eM c f) s
theorem q02:∀(s:List Nat) (f:Fo),eI f->eI (q3l f s)
 |[],_,h=>h
 |c::s,f,h=>q02 s _ (fV c f h)
theorem q2d(c:Nat):∀As Bs,qa1 c As Bs->∀i w,As.getD i tF w↔Bs.getD i tF (c::w)
 |[],[],_,i,w=>by simp[tF]
 |[],_::_,h,_,_=>h.elim
 |_::_,[],h,_,_=>h.elim
 |a::ra,b::rb,h,0,w=>h.1 w
 |a::ra,b::rb,h,i+1,w=>q2d c ra rb h.2 i w
theorem q03:∀(s:List Nat) (f:Fo),eI f->∀i w,(cG (q3l f s)).getD i tF w↔(cG f).getD i tF (s++w)
 |[],_,_,_,_=>Iff.rfl
 |c::s,f,h,i,w=>by
  rw[q3l,q03 s _ (fV c f h) i w];exact q2d c _ _ (B8 c f h) i (s++w)
def szF:Fo->Nat
 |.nil=>0
 |.cons _ k r=>1+szF k+szF r
abbrev szT(t:Tm):Nat:=1+szF t.2
def fH:Fo->Bool
 |.nil=>true
 |.cons _ k r=>decide (1+szF k<=400)&&fH r
theorem sC:∀f,szF f=(bO f).length
 |.nil=>rfl
 |.cons x k r=>by rw[szF,bO,qA,qj,sC k,sC r];omega
theorem L6:∀f,cnt f<=szF f
 |.nil=>qb _
 |.cons x k r=>by have:=L6 r;rw[cnt,szF];omega
theorem lR(t:Tm)(r:Fo):szF (one t r)=szT t+szF r:=rfl
theorem q8l:∀f g,szF (iE f g)=szF f+szF g
 |.nil,g=>by simp[iE,szF]
 |.cons x k r,g=>by rw[iE,szF,szF,q8l r g];omega
theorem uS(kd:Int):∀f,szF (gU kd f)<=szF f
 |.nil=>qb _
 |.cons x k r=>by
  have:=uS kd r;rw[gU];split
  ·rw[q8l,szF];omega
  rw[szF,szF];omega
theorem q4L:∀f g,wY f=some g->szF g<=szF f
 |.nil,g,h=>by injection h with h;rw[<-h];exact qb _
 |.cons x k r,g,h=>by
  rw[wY]at h;split at h
  ·cases h
  cases hr:wY r with
  |none=>rw[hr]at h;cases h
  |some q=>
   have:=q4L r q hr;rw[hr]at h;have h':(if x.kd=2 then q else .cons x k q)=g:=by injection h
   rw[<-h'];split
   ·rw[szF];omega
   rw[szF,szF];omega
theorem q4M(kd:Int)(z:Tm)(hz:z.2=.nil)(f:Fo):szT (uL kd z f)<=1+szF f:=by
 unfold uL;split
 ·show 1+szF z.2<=_
  rw[hz];exact qb _
 ·rename_i x k
  show 1+szF k<=1+szF (.cons x k .nil);rw[szF,szF];omega
 exact qb _
theorem L7(l:Fo):szT (nZ l)<=1+szF l:=by
 have h1:=uS 3 l;unfold nZ;split
 ·exact Nat.le_add_right 1 _
 rename_i f hf;have h2:=q4L _ _ hf;have h3:=q4M 3 gL rfl f;omega
theorem T8:∀f met,szF (z3 met f)<=szF f
 |.nil,_=>qb _
 |.cons x k r,met=>by
  rw[z3];split
  ·have:=T8 r met;rw[szF];omega
  split
  ·have:=T8 r met;rw[szF];omega
  have:=T8 r (txF (.cons x k .nil)::met);rw[szF,szF];omega
theorem q8m(l:Fo):szT (q3j l)<=1+szF l:=by
 have h1:=uS 4 l;have h2:=T8 (gU 4 l) [];have h3:=q4M 4 iG rfl (z3 [] (gU 4 l));unfold q3j;omega
theorem q1e(t:Tm):szT (oE t)<=1+szT t:=by
 unfold oE;split
 ·omega
 split
 ·show 1+szF .nil<=_
  rw[szF];omega
 show 1+szF (one t .nil)<=_;rw[lR,szF];omega
theorem q8n(t:Tm)(lo hi:Int):szT (T4 t lo hi)<=1+szT t:=by
 have e:szT gL=1:=rfl;have n:szT iG=1:=rfl;have h:=q1e t;unfold T4;split
 ·omega
 split
 ·exact h
 split
 ·omega
 split
 ·omega
 split
 ·omega
 show 1+szF (one t .nil)<=_;rw[lR,szF];omega
theorem q4N:∀k dk,szT (L4 k dk)<=1+cnt k*(szF k+4)+szF dk
 |.nil,dk=>by
  have n:szT (L4 .nil dk)=1:=by cases dk<;>rfl
  omega
 |.cons x k r,.nil=>by
  have n:szT (L4 (.cons x k r) .nil)=1:=rfl;omega
 |.cons x k r,.cons y j q=>by
  have h1:=q4N r q;have h2:=L7 (.cons y j (one (nZ r) .nil));have h3:=L7 r;have h4:=q8m (one (nZ (.cons y j (one (nZ r) .nil))) (one (L4 r q) .nil));rw[szF,lR,szF]at h2;rw[lR,lR,szF]at h4;have h5:cnt r*(szF r+4)<=cnt r*(szF (.cons x k r)+4):=Nat.mul_le_mul_left _ (by rw[szF];omega);rw[show cnt (.cons x k r)=cnt r+1 from rfl,Nat.succ_mul];have e:szF (.cons x k r)=1+szF k+szF r:=rfl;have e2:szF (.cons y j q)=1+szF j+szF q:=rfl;generalize cnt r*(szF (.cons x k r)+4)=A at*;generalize cnt r*(szF r+4)=B at*;rw[L4];split
  ·omega
  omega
theorem qan:∀f,szT (hdT f)<=1+szF f
 |.nil=>qb _
 |.cons x k r=>by show 1+szF k<=1+(1+szF k+szF r);omega
theorem q99(c:Nat)(x:Nd)(k dk:Fo):szT (nQ c x k dk)<=3+szF dk+(cnt k+1)*(szF k+4):=by
 have e:szT gL=1:=rfl;have n:szT iG=1:=rfl;have h1:=q4N k dk;have h2:=q8m dk;have h3:=qan dk;have h4:=qan k;have h5:=q1e (hdT k);have h6:=q8n (hdT k) (gE x.lo) (gE x.hi);have h7:=L7 (one (hdT dk) (one (oE (hdT k)) .nil));have h8:=L7 (one (hdT dk) (one (T4 (hdT k) (gE x.lo) (gE x.hi)) .nil));rw[lR,lR,szF]at h7 h8;rw[Nat.succ_mul];generalize cnt k*(szF k+4)=A at*;unfold nQ;split
 ·split<;>omega
 split
 ·omega
 split
 ·omega
 split
 ·omega
 split
 ·omega
 split
 ·omega
 omega
def qF(M:Nat):Fo->Nat
 |.nil=>0
 |.cons _ k r=>3+qF M k+(cnt k+1)*(M+4)+qF M r
theorem q1f(c M:Nat):∀f,szF f<=M->szF (eM c f)<=qF M f
 |.nil,_=>qb _
 |.cons x k r,h=>by
  rw[szF]at h;have h1:=q1f c M k (by omega);have h2:=q1f c M r (by omega);have h3:=q99 c x k (eM c k);have h4:(cnt k+1)*(szF k+4)<=(cnt k+1)*(M+4):=Nat.mul_le_mul_left _ (by omega);rw[eM,lR,qF];omega
theorem qbj(M:Nat):∀f,qF M f+cnt f*(M+4)<=szF f*(2*(M+4)+3)
 |.nil=>by simp[qF,cnt,szF]
 |.cons x k r=>by
  have h1:=qbj M k;have h2:=qbj M r;have e1:(cnt k+1)*(M+4)=cnt k*(M+4)+(M+4):=Nat.succ_mul _ _;have e2:(cnt r+1)*(M+4)=cnt r*(M+4)+(M+4):=Nat.succ_mul _ _;have e3:(1+szF k+szF r)*(2*(M+4)+3)=(2*(M+4)+3)+szF k*(2*(M+4)+3)+szF r*(2*(M+4)+3):=by rw[jN,jN,Nat.one_mul]
  rw[qF,szF,show cnt (.cons x k r)=cnt r+1 from rfl,e1,e2,e3];generalize cnt k*(M+4)=A at*;generalize cnt r*(M+4)=B at*;generalize szF k*(2*(M+4)+3)=C at*;generalize szF r*(2*(M+4)+3)=D at*;omega
theorem q4O(c:Nat)(f:Fo)(h:szF f<=400):szF (eM c f)<=324400:=by
 have h1:=q1f c 400 f h;have h2:=qbj 400 f;have h3:szF f*(2*(400+4)+3)<=400*811:=Nat.mul_le_mul h (qb _);omega
theorem B9(c:Nat)(x:Nd)(k:Fo)(h:1+szF k<=400):szT (nQ c x k (eM c k))<=324400:=by
 have h1:=q4O c (.cons x k .nil) (by rw[szF,szF];omega);rw[eM,lR,eM,szF]at h1;exact h1
end Go.Cm
namespace Go.Cm
open Go.RowKit Go.Proofs
theorem Sl.mid{P:Program}{w:World}{v:Value}{l:List Value}(h:Sl w v l)(t E:TypeId)(ht:P.underlying t=some (.slice E))(hE:(P.info? E).map (·.size)=some 1)(n m:Nat)(hn:n<=m)(hm:m<=l.length):
  ∃u,(∀W:World,(Instr.sliceAt t v (some (.int .i64 (n:Int))) (some (.int .i64 (m:Int))) none).run P W=.ok u W)/\Sl w u ((l.drop n).take (m-n)):=by
 obtain⟨oa,cap,b,off,rfl,hd,hc⟩:=h;obtain⟨h1,h2⟩:=rX t E ht hE;have hcap:=hd.hcap;have hl:((l.drop n).take (m-n)).length=m-n:=by rw[qX,j4];omega
 refine⟨sliced oa n m cap 1,fun W=>?_,?_⟩
 ·rw[run_sliceAt_slice (P:=P) (t:=t) (h:=h1),run_slice_lh (t:=t) (ht:=h1) (h0:=by omega) (h1:=by omega) (h2:=by omega),h2]
  simp[Result.andThen]
 refine⟨if cap=n then oa else oa.map (·.add (n*1)),cap-n,b,off+n,by rw[hl];simp[sliced],⟨fun h0=>?_,by omega,by have:=hd.hmax;omega,by have:=hd.hsml;omega,fun h0=>hd.hblk (by omega)⟩,fun i hi=>?_⟩
 ·rw[hl]at h0
  rw[qv (by omega),hd.hat (by omega)];simp[kJ]
 rw[hl]at hi;rw[jL,hc (n+i) (by omega)];simp[List.getD,hi]
theorem gC.one{w:World}{v:Value}{ll:List (List Nd)}(h:gC w v ll)(i:Nat)(hi:i<ll.length):
  ∃u,(∀W:World,(Instr.sliceAt 22 v (some (.int .i64 (i:Int))) (some (.int .i64 ((i:Int)+1))) none).run prog W=.ok u W)/\gC w u [ll.getD i []]:=by
 obtain⟨vs,h1,h2,h3⟩:=h;obtain⟨u,hu,hs⟩:=h1.mid (P:=prog) 22 42 underlying22 (by kernel_rfl) i (i+1) (jd _) (by omega);refine⟨u,fun W=>by have:=hu W;push_cast at this;exact this,[vs.getD i undef],?_,rfl,fun j hj=>?_⟩
 ·have e:(vs.drop i).take (i+1-i)=[vs.getD i undef]:=by
   rw[Nat.add_sub_cancel_left];rw[jE (show i<vs.length by omega),List.take_succ_cons,List.take_zero];simp[List.getD,show i<vs.length by omega]
  rw[e]at hs;exact hs
 obtain rfl:j=0:=by simpa using hj
 exact h3 i hi
theorem q7o(n:Nat)(P:Nat->Prop):(nD n P).Pairwise (· < ·):=List.Pairwise.filter _ List.pairwise_lt_range
noncomputable def pW(e:List (List Ed))(F:Int)(r st:List Int)(c:Nat):List Nat:=if dK e F r then tI e st c else []
end Go.Cm
namespace Go.Cm
def bQ(e:List (List Ed)):List Ed:=e.flatten.filter (fun x=> !x.free)
def iJ(l:List Ed)(c:Nat):List Bool:=l.map (fun x=>pB x c)
def iI:List Nat:=List.range 256
theorem sF{c:Nat}:c∈iI↔c<256:=by simp[iI]
theorem nG:iI.length=256:=by simp[iI]
theorem uY{c:Nat}(h:c<256):iI.getD c 0=c:=by simp[iI,List.getD,h]
def gH(l:List Ed)(c:Nat):Nat:=lT (iJ l) iI c
def d8(l:List Ed):List Nat:=aU (iJ l) iI
theorem rD{l:List Ed}{a b:Nat}:iJ l a=iJ l b↔∀x∈l,pB x a=pB x b:=by
 unfold iJ
 induction l with
 |nil=>simp
 |cons y l ih=>simp only[qJ,List.cons.injEq,ih,jM,forall_eq_or_imp]
theorem xA{l:List Ed}{c:Nat}(h:c∈d8 l):c<256:=sF.1 (lG h)
theorem oI(l:List Ed):(d8 l).length<=256:=by
 have:=sE (iJ l) iI;rw[nG]at this;exact this
theorem pE(l:List Ed){c:Nat}(h:c<256):gH l c<(d8 l).length:=U1 (sF.2 h)
theorem q3m(l:List Ed):0<(d8 l).length:=by
 have:=pE l (c:=0) (by decide);omega
theorem zA(l:List Ed){c:Nat}(h:c<256):iJ l ((d8 l).getD (gH l c) 0)=iJ l c:=by
 unfold gH d8 lT
 have h1:iJ l c∈(aU (iJ l) iI).map (iJ l):=by
  rw[lF,dF];exact je (sF.2 h)
 generalize aU (iJ l) iI=hs at*;have h2:=eJ h1;have h3:=f8 h1;rw[jx]at h3;rw[qB]at h2;rw[qu,qy h2,qN];exact h3
theorem cls_eq(l:List Ed){a b:Nat}(ha:a<256)(hb:b<256):gH l a=gH l b↔iJ l a=iJ l b:=by
 constructor
 ·intro h
  rw[<-zA l ha,<-zA l hb,h]
 intro h;unfold gH lT;rw[h]
theorem q4U:(∀c,c<256->gH [] c=0)/\(d8 []).length=1:=by
 have h:d8 []=[0]:=by
  have:∀n,aU (iJ []) (List.range (n+1))=[0]:=by
   intro n
   induction n with
   |zero=>rfl
   |succ n ih=>rw[jz,dN,ih];simp[iJ]
  exact this 255
 refine⟨fun c hc=>?_,by rw[h];rfl⟩;have:=pE [] hc;rw[h]at this;simpa using this
def tN(l:List Ed)(x:Ed)(c:Nat):Nat×Bool:=(gH l c,pB x c)
theorem q2e(l:List Ed)(x:Ed):d8 (l++[x])=aU (tN l x) iI/\∀c,c<256->gH (l++[x]) c=lT (tN l x) iI c:=by
 have h:=rB (f:=iJ (l++[x])) (g:=tN l x) (l:=iI) (fun a ha b hb=>by
  rw[sF]at ha hb;unfold tN;rw[rD,Prod.mk.injEq,cls_eq l ha hb,rD];simp only[List.mem_append,jg];exact⟨fun h=>⟨fun y hy=>h y (.inl hy),h x (.inr rfl)⟩,fun h y hy=>hy.elim (h.1 y) (fun e=>e▸h.2)⟩)
 exact⟨h.1,fun c hc=>h.2 c (sF.2 hc)⟩
def fZ(x:Ed):Int×Int×Int×Int:=(x.a,x.b,x.c,x.d)
def q07(e:List (List Ed)):List Ed:=aU fZ (bQ e)
theorem zB{x y:Ed}(h:fZ x=fZ y)(c:Nat):pB x c=pB y c:=by
 simp only[fZ,Prod.mk.injEq]at h;obtain⟨h1,h2,h3,h4⟩:=h;unfold pB;rw[h1,h2,h3,h4]
theorem q2f(e:List (List Ed)):d8 (q07 e)=d8 (bQ e)/\∀c,c<256->gH (q07 e) c=gH (bQ e) c:=by
 have h:=rB (f:=iJ (q07 e)) (g:=iJ (bQ e)) (l:=iI) (fun a _ b _=>by
  rw[rD,rD]
  constructor
  ·intro h x hx
   have:fZ x∈(q07 e).map fZ:=by unfold q07;rw[lF,dF];exact je hx
   obtain⟨y,hy,hk⟩:=List.mem_map.1 this;rw[<-zB hk,<-zB hk];exact h y hy
  exact fun h x hx=>h x (lG hx))
 exact⟨h.1,fun c hc=>h.2 c (sF.2 hc)⟩
def xB(e:List (List Ed))(c:Nat):Nat:=gH (bQ e) c
def aY(e:List (List Ed)):List Nat:=d8 (bQ e)
def i7(e:List (List Ed)):List Int:=nl (iI.map (xB e))
theorem zC(e:List (List Ed)):(i7 e).length=256:=by simp[i7,nl,iI]
theorem U3(e:List (List Ed)){c:Nat}(h:c<256):(i7 e).getD c 0=xB e c:=by
 simp[i7,nl,iI,List.getD,h]
theorem q4V(e:List (List Ed)):bB 0 (i7 e)=some (aY e).length:=by
 have h1:=lH (iJ (bQ e)) iI [];have h0:(aU (iJ (bQ e)) []).length=0:=rfl;rw[h0,List.nil_append]at h1;unfold i7 xB gH aY d8;exact h1
section
variable {α : Type} [DecidableEq α]
def goS(nx:α->List α)(z:α):Nat->Nat->List α->Option (List α)
 |0,_,_=>none
 |f+1,i,ls=>if i<ls.length then(if 1000<((nx (ls.getD i z)).foldl aQ ls).length then none else goS nx z f (i+1) ((nx (ls.getD i z)).foldl aQ ls))else some ls
def stS(nx:α->List α)(s0:α)(l:List α):List α:=eH (s0::l.flatMap nx)
structure q2g(nx:α->List α)(s0:α)(l:List α):Prop where
 more:∀j,j<l.length->j<(stS nx s0 (l.take j)).length
 all:stS nx s0 l=l
 len:l.length<=1000
 nod:l.Nodup
theorem q2h(nx:α->List α)(s0:α)(l:List α)(x:α):stS nx s0 (l++[x])=(nx x).foldl aQ (stS nx s0 l):=by
 unfold stS;rw[aB,<-jm,D3];simp
theorem q4W(nx:α->List α)(z s0:α):∀f i ls R,goS nx z f i ls=some R->i<=ls.length->stS nx s0 (ls.take i)=ls->(∀j,j<i->j<(stS nx s0 (ls.take j)).length)->ls.length<=1000->q2g nx s0 R/\∃k,R=ls++k:=by
 intro f
 induction f with
 |zero=>intro i ls R h;cases h
 |succ f ih=>
  intro i ls R h hi hall qdt hlen;unfold goS at h;by_cases hlt:i<ls.length
  ·rw[qw hlt]at h
   split at h
   ·cases h
   rename_i h1;obtain⟨k,hk⟩:=bP (nx (ls.getD i z)) ls;have hg:ls.getD i z=ls[i]:=by simp[List.getD,hlt]
   have htk:∀j,j<=ls.length->(((nx (ls.getD i z)).foldl aQ ls).take j)=ls.take j:=fun j hj=>by
    rw[hk,List.take_append_of_le_length hj]
   obtain⟨h2,k2,h3⟩:=ih (i+1) _ R h (by rw[hk,qj];omega) (by
    rw[htk _ hlt,qM hlt,q2h,hall,<-hg]) (fun j hj=>by
    rw[htk j (by omega)];rcases Nat.lt_succ_iff_lt_or_eq.1 hj with h|rfl
    ·exact qdt j h
    rw[hall];exact hlt) (by omega)
   exact⟨h2,k++k2,by rw[h3,hk,qk]⟩
  rw[qv hlt]at h;obtain rfl:ls=R:=by injection h
  have hi':i=ls.length:=by omega
  subst hi';rw[j3]at hall;refine⟨⟨qdt,hall,hlen,?_⟩,[],by simp⟩;rw[<-hall];exact sD _
theorem q2g.mem{nx:α->List α}{s0:α}{R:List α}(h:q2g nx s0 R){L x:α}(hL:L∈R)(hx:x∈nx L):x∈R:=by
 rw[<-h.all];unfold stS;rw[dF];exact qY _ (List.mem_flatMap.2 ⟨L,hL,hx⟩)
theorem q2g.zero{nx:α->List α}{s0:α}{R:List α}(h:q2g nx s0 R)(z:α):R.getD 0 z=s0/\0<R.length:=by
 have:∃k,stS nx s0 R=[s0]++k:=D4 [s0] _;obtain⟨k,hk⟩:=this;rw[h.all]at hk;rw[hk];exact⟨rfl,by simp⟩
theorem q2g.pre{nx:α->List α}{s0:α}{R:List α}(h:q2g nx s0 R)(i:Nat):∃k,R=stS nx s0 (R.take i)++k:=by
 have h1:=D4 (s0::(R.take i).flatMap nx) ((R.drop i).flatMap nx);rw[jm,<-aB,j8]at h1;obtain⟨k,hk⟩:=h1;exact⟨k,by rw[<-h.all];exact hk.trans (by rw[h.all];rfl)⟩
end
end Go.Cm
namespace Go.Cm
def gA:Fo->List Ed
 |.nil=>[]
 |.cons x k r=>(if x.kd=1 then [dM x 0]else [])++(gA k++gA r)
def AS(P:Ed->Prop)(f:Fo):Prop:=∀e∈gA f,P e
section
variable {P : Ed → Prop}
theorem uZ:AS P .nil:=fun _ h=>by cases h
theorem gI{x:Nd}{k r:Fo}:AS P (.cons x k r)↔(x.kd=1->P (dM x 0))/\AS P k/\AS P r:=by
 unfold AS
 constructor
 ·intro h
  refine⟨fun h1=>h _ ?_,fun e he=>h e ?_,fun e he=>h e ?_⟩
  ·rw[gA,qw h1];simp
  ·rw[gA];simp[he]
  rw[gA];simp[he]
 rintro⟨h1,h2,h3⟩ e he;rw[gA]at he;rcases List.mem_append.1 he with he|he
 ·split at he
  ·rename_i h4
   rw[List.mem_singleton.1 he];exact h1 h4
  cases he
 rcases List.mem_append.1 he with he|he
 ·exact h2 e he
 exact h3 e he
def AT(P:Ed->Prop)(t:Tm):Prop:=(t.1.kd=1->P (dM t.1 0))/\AS P t.2
theorem sX{t:Tm}{r:Fo}:AS P (one t r)↔AT P t/\AS P r:=by
 unfold one AT;rw[gI,and_assoc]
theorem q8p:∀{f g:Fo},AS P f->AS P g->AS P (iE f g)
 |.nil,_,_,h=>h
 |.cons x k r,_,h,hg=>by
  obtain⟨h1,h2,h3⟩:=gI.1 h;exact gI.2 ⟨h1,h2,q8p h3 hg⟩
theorem zD(kd:Int):∀{f:Fo},AS P f->AS P (gU kd f)
 |.nil,h=>h
 |.cons x k r,h=>by
  obtain⟨h1,h2,h3⟩:=gI.1 h;rw[gU];split
  ·exact q8p h2 (zD kd h3)
  exact gI.2 ⟨h1,h2,zD kd h3⟩
theorem q4X:∀{f g:Fo},AS P f->wY f=some g->AS P g
 |.nil,g,h,e=>by injection e with e;rw[<-e];exact h
 |.cons x k r,g,h,e=>by
  obtain⟨h1,h2,h3⟩:=gI.1 h;rw[wY]at e;split at e
  ·cases e
  cases hr:wY r with
  |none=>rw[hr]at e;cases e
  |some q=>
   have:=q4X h3 hr;rw[hr]at e;injection e with e;rw[<-e];split
   ·exact this
   exact gI.2 ⟨h1,h2,this⟩
theorem q7p(t:Tm)(h:t.1.kd≠1)(h2:AS P t.2):AT P t:=⟨fun e=>absurd e h,h2⟩
theorem v3:AT P gL:=q7p _ (by decide) uZ
theorem q4Y{kd:Int}{z:Tm}{f:Fo}(hk:kd≠1)(hz:AT P z)(h:AS P f):AT P (uL kd z f):=by
 unfold uL;split
 ·exact hz
 ·obtain⟨h1,h2,-⟩:=gI.1 h;exact⟨h1,h2⟩
 exact q7p _ hk h
theorem U4:∀{f:Fo} {met:List (List Nat)},AS P f->AS P (z3 met f)
 |.nil,_,h=>h
 |.cons x k r,met,h=>by
  obtain⟨h1,h2,h3⟩:=gI.1 h;rw[z3];split
  ·exact U4 h3
  split
  ·exact U4 h3
  exact gI.2 ⟨h1,h2,U4 h3⟩
theorem q4Z{t:Tm}(h:AT P t):AT P (oE t):=by
 unfold oE;split
 ·exact h
 split
 ·exact v3
 exact q7p _ (show(5:Int)≠1 by decide) (sX.2 ⟨h,uZ⟩)
section
variable (h0 : P (dM noT 0))
include h0
theorem rE:AT P iG:=⟨fun _=>h0,uZ⟩
theorem q2i{l:Fo}(h:AS P l):AT P (nZ l):=by
 unfold nZ;split
 ·exact rE h0
 rename_i f hf;exact q4Y (by decide) v3 (q4X (zD 3 h) hf)
theorem q8q{l:Fo}(h:AS P l):AT P (q3j l):=q4Y (by decide) (rE h0) (U4 (zD 4 h))
theorem qao{t:Tm}{lo hi:Int}(h:AT P t):AT P (T4 t lo hi):=by
 unfold T4;split
 ·exact v3
 split
 ·exact q4Z h
 split
 ·exact h
 split
 ·exact rE h0
 split
 ·exact v3
 exact q7p _ (show(8:Int)≠1 by decide) (sX.2 ⟨h,uZ⟩)
theorem q8r:∀{k dk:Fo},AS P k->AS P dk->AT P (L4 k dk)
 |.nil,dk,_,_=>by cases dk<;>exact rE h0
 |.cons x k r,.nil,_,_=>rE h0
 |.cons x k r,.cons y j q,h,hd=>by
  obtain⟨-,-,h3⟩:=gI.1 h;obtain⟨d1,d2,d3⟩:=gI.1 hd;have hc:=q2i h0 (gI.2 ⟨d1,d2,sX.2 ⟨q2i h0 h3,uZ⟩⟩);rw[L4];split
  ·exact q8q h0 (sX.2 ⟨hc,sX.2 ⟨q8r h3 d3,uZ⟩⟩)
  exact hc
theorem q50:∀{f:Fo},AS P f->AT P (hdT f)
 |.nil,_=>rE h0
 |.cons x k r,h=>by obtain⟨h1,h2,-⟩:=gI.1 h;exact⟨h1,h2⟩
theorem q9b{c:Nat}{x:Nd}{k dk:Fo}(hk:AS P k)(hd:AS P dk):AT P (nQ c x k dk):=by
 unfold nQ;split
 ·split
  ·exact v3
  exact rE h0
 split
 ·exact q8r h0 hk hd
 split
 ·exact q8q h0 hd
 split
 ·exact q2i h0 (sX.2 ⟨q50 h0 hd,sX.2 ⟨q4Z (q50 h0 hk),uZ⟩⟩)
 split
 ·exact q50 h0 hd
 split
 ·exact q2i h0 (sX.2 ⟨q50 h0 hd,sX.2 ⟨qao h0 (q50 h0 hk),uZ⟩⟩)
 exact rE h0
theorem q1i(c:Nat):∀{f:Fo},AS P f->AS P (eM c f)
 |.nil,h=>h
 |.cons x k r,h=>by
  obtain⟨h1,h2,h3⟩:=gI.1 h;exact sX.2 ⟨q9b h0 h2 (q1i c h2),q1i c h3⟩
end
end
theorem D6{c c':Nat}:∀{f:Fo},AS (fun e=>pB e c=pB e c') f->eM c f=eM c' f
 |.nil,_=>rfl
 |.cons x k r,h=>by
  obtain⟨h1,h2,h3⟩:=gI.1 h
  have e:nQ c x k (eM c k)=nQ c' x k (eM c' k):=by
   rw[<-D6 h2];unfold nQ;by_cases hk:x.kd=1
   ·rw[qw hk,qw hk,h1 hk]
   rw[qv hk,qv hk]
  rw[eM,eM,e,D6 h3]
theorem q2j(c:Nat):pB (dM noT 0) c=false:=by
 unfold pB dM noT;simp
theorem q9c{f0 f:Fo}{c c':Nat}(h:AS (fun e=>e∈gA f0\/e=dM noT 0) f)(hs:iJ (gA f0) c=iJ (gA f0) c'):eM c f=eM c' f:=by
 refine D6 fun e he=>?_;rcases h e he with h1|h1
 ·exact rD.1 hs e h1
 rw[h1,q2j,q2j]
end Go.Cm
namespace Go.Cm
section
variable {α : Type} [DecidableEq α]
def q08(nx:α->List α)(s0 z:α)(R:List α)(i j:Nat):List α:=((nx (R.getD i z)).take j).foldl aQ (stS nx s0 (R.take i))
theorem q2g.cur{nx:α->List α}{s0 z:α}{R:List α}(h:q2g nx s0 R){i:Nat}(hi:i<R.length)(j:Nat):∃k,R=q08 nx s0 z R i j++k:=by
 obtain⟨k2,h2⟩:=h.pre (i+1);have e:R.take (i+1)=R.take i++[R.getD i z]:=by rw[qM hi];simp[List.getD,hi]
 rw[e,q2h]at h2
 have h3:(nx (R.getD i z)).foldl aQ (stS nx s0 (R.take i))=((nx (R.getD i z)).drop j).foldl aQ (q08 nx s0 z R i j):=by
  unfold q08;rw[<-qZ,j8]
 obtain⟨k1,h4⟩:=bP ((nx (R.getD i z)).drop j) (q08 nx s0 z R i j);exact⟨k1++k2,h2.trans (by rw[h3,h4,qk])⟩
theorem q2g.step{nx:α->List α}{s0 z:α}{R:List α}(h:q2g nx s0 R){i:Nat}(hi:i<R.length){j:Nat}(hj:j<(nx (R.getD i z)).length):
  ((nx (R.getD i z)).getD j z∈q08 nx s0 z R i j->idx R ((nx (R.getD i z)).getD j z)<(q08 nx s0 z R i j).length/\(q08 nx s0 z R i (j+1)).length=(q08 nx s0 z R i j).length)/\
  ((nx (R.getD i z)).getD j z∉q08 nx s0 z R i j->idx R ((nx (R.getD i z)).getD j z)=(q08 nx s0 z R i j).length/\(q08 nx s0 z R i (j+1)).length=(q08 nx s0 z R i j).length+1):=by
 have e:q08 nx s0 z R i (j+1)=aQ (q08 nx s0 z R i j) ((nx (R.getD i z)).getD j z):=by
  unfold q08;generalize nx (R.getD i z)=l at hj⊢;rw[qM hj,qZ];simp[List.getD,hj]
 obtain⟨k,hk⟩:=h.cur (z:=z) hi j;obtain⟨k',hk'⟩:=h.cur (z:=z) hi (j+1);generalize (nx (R.getD i z)).getD j z=x at*;generalize q08 nx s0 z R i j=c at*;generalize q08 nx s0 z R i (j+1)=c' at*;subst e
 constructor
 ·intro hx
  refine⟨?_,by unfold aQ;rw[qw hx]⟩;rw[hk,cD hx];exact eJ hx
 intro hx;have e2:aQ c x=c++[x]:=by unfold aQ;rw[qv hx]
 rw[e2]at hk'⊢;refine⟨?_,by simp⟩;rw[hk',cD (by simp),cV hx]
end
def J0:Dfa:=⟨List.replicate 256 0,[],[]⟩
noncomputable def bY(e:List (List Ed))(F:Int)(r:List Int)(L:List Nat):List (List Nat):=(aY e).map fun c=>pW e F r (nz L) c
noncomputable def nH(e:List (List Ed))(F:Int)(r:List Int):Option (List (List Nat)):=goS (bY e F r) [] 1001 0 [q0V e F r [F]]
def sS(r:List Int)(o:Int)(s:Nat):Int:=if 0<=r.getD s 0/\(o<0\/r.getD s 0<o)then r.getD s 0 else o
def mS(r:List Int)(L:List Nat):Int:=L.foldl (sS r) (-1)
noncomputable def fP(e:List (List Ed))(F:Int)(r:List Int)(R:List (List Nat))(L:List Nat):List Int:=(bY e F r L).map fun x=>(idx R x:Int)
noncomputable def tV(e:List (List Ed))(F:Int)(r:List Int)(R:List (List Nat)):Dfa:=⟨i7 e,R.map (fP e F r R),R.map (mS r)⟩
noncomputable def q51(e:List (List Ed))(F:Int)(r:List Int):Dfa:=if dK e F r then(match nH e F r with|some R=>tV e F r R|none=>J0)else J0
noncomputable def q3Y(e:List (List Ed))(F:Int)(r:List Int):Int:=if dK e F r then(match nH e F r with|some _=>0|none=>3)else 4
theorem vA(e:List (List Ed))(F:Int)(r:List Int)(L:List Nat):(bY e F r L).length=(aY e).length:=by simp[bY]
theorem D7{e:List (List Ed)}{F:Int}{r:List Int}{R:List (List Nat)}(h:nH e F r=some R):q2g (bY e F r) (q0V e F r [F]) R:=by
 refine(q4W (bY e F r) [] (q0V e F r [F]) 1001 0 [q0V e F r [F]] R h (qd _) ?_ (fun j hj=>absurd hj (qC j)) (by simp)).1
 rfl
theorem D8{r:List Int}(h:∀s,-1<=r.getD s 0/\r.getD s 0<32)(L:List Nat):∀o:Int,-1<=o->o<32-> -1<=L.foldl (sS r) o/\L.foldl (sS r) o<32:=by
 induction L with
 |nil=>intro o h1 h2;exact⟨h1,h2⟩
 |cons s L ih=>
  intro o h1 h2;have:=h s;rw[qL];refine ih _ ?_ ?_<;>(unfold sS;split<;>omega)
theorem L9{r:List Int}(L:List Nat):(mS r L= -1/\∀s∈L,r.getD s 0<0)\/(0<=mS r L/\(∃s∈L,r.getD s 0=mS r L)/\∀s∈L,0<=r.getD s 0->mS r L<=r.getD s 0):=by
 unfold mS
 induction L using kL with
 |h0=>exact .inl ⟨rfl,fun s hs=>by cases hs⟩
 |h L s ih=>
  rw[qZ,qL,List.foldl_nil];generalize L.foldl (sS r) (-1)=o at*;unfold sS;rcases ih with⟨h1,h2⟩|⟨h1,⟨q,hq,hq2⟩,h3⟩
  ·by_cases h0:0<=r.getD s 0
   ·rw[qw ⟨h0,.inl (by omega)⟩]
    refine .inr ⟨h0,⟨s,by simp,rfl⟩,fun x hx hx0=>?_⟩;rcases List.mem_append.1 hx with hx|hx
    ·have:=h2 x hx;omega
    rw[List.mem_singleton.1 hx];exact Int.le_refl _
   rw[qv (fun h=>h0 h.1)];refine .inl ⟨h1,fun x hx=>?_⟩;rcases List.mem_append.1 hx with hx|hx
   ·exact h2 x hx
   rw[List.mem_singleton.1 hx];omega
  by_cases h0:0<=r.getD s 0/\(o<0\/r.getD s 0<o)
  ·rw[qw h0]
   refine .inr ⟨h0.1,⟨s,by simp,rfl⟩,fun x hx hx0=>?_⟩;rcases List.mem_append.1 hx with hx|hx
   ·have:=h3 x hx hx0;omega
   rw[List.mem_singleton.1 hx];exact Int.le_refl _
  rw[qv h0];refine .inr ⟨h1,⟨q,by simp[hq],hq2⟩,fun x hx hx0=>?_⟩;rcases List.mem_append.1 hx with hx|hx
  ·exact h3 x hx hx0
  rw[List.mem_singleton.1 hx]at hx0⊢;omega
theorem D9(n:Nat)(P:Nat->Prop):(nD n P=[]/\∀k,k<n->¬P k)\/∃k tl,nD n P=k::tl/\k<n/\P k/\∀j,j<k->¬P j:=by
 cases h:nD n P with
 |nil=>exact .inl ⟨rfl,fun k hk hp=>by have:k∈nD n P:=i6.2 ⟨hk,hp⟩;rw[h]at this;cases this⟩
 |cons k tl=>
  have hk:k∈nD n P:=by rw[h];simp
  obtain⟨h1,h2⟩:=i6.1 hk;refine .inr ⟨k,tl,rfl,h1,h2,fun j hj hp=>?_⟩;have hjm:j∈nD n P:=i6.2 ⟨by omega,hp⟩;have hs:=q7o n P;rw[h]at hs hjm;rcases List.mem_cons.1 hjm with e|hm
  ·omega
  have:=(List.pairwise_cons.1 hs).1 j hm;omega
theorem tO{e:List (List Ed)}{F:Int}{r:List Int}(h:dK e F r=true):r.length=e.length/\∀s,-1<=r.getD s 0/\r.getD s 0<32:=by
 obtain⟨h1,h2⟩:=lD.1 h;have h3:=jc h1;refine⟨h3.2.2.1,fun s=>?_⟩;by_cases hs:s<e.length
 ·exact(A5.1 (h2 s hs)).1
 have:r.getD s 0=0:=by rw[qu,qQ (by omega)];rfl
 omega
theorem M0{e:List (List Ed)}{F:Int}{r:List Int}{R:List (List Nat)}(hr:dK e F r=true)(h:nH e F r=some R):bD (tV e F r R):=by
 have hm:=D7 h;have h0:=(hm.zero []).2;refine⟨by simp[tV];omega,by simpa[tV]using hm.len,by simp[tV],(aY e).length,q4V e,fun i hi=>?_⟩;have hi':i<R.length:=by simpa[tV]using hi
 have e1:(tV e F r R).rules.getD i 0=mS r R[i]:=by simp[tV,List.getD,hi']
 have e2:(tV e F r R).next.getD i []=fP e F r R R[i]:=by simp[tV,List.getD,hi']
 have e3:(tV e F r R).next.length=R.length:=by simp[tV]
 rw[e1,e2,e3];have hl:=D8 (tO hr).2 R[i] (-1) (by omega) (by omega);refine⟨hl.1,hl.2,by simp[fP,vA],fun j hj=>?_⟩;have hj':j<(bY e F r R[i]).length:=by simpa[fP]using hj
 have e4:(fP e F r R R[i]).getD j 0=(idx R ((bY e F r R[i])[j]):Int):=by simp[fP,List.getD,hj']
 rw[e4];have:=eJ (hm.mem (jl hi') (jl hj'));omega
end Go.Cm
namespace Go.Cm
instance decNd:DecidableEq Nd:=fun x y=>
 if h:x.kd=y.kd/\x.n=y.n/\x.a=y.a/\x.b=y.b/\x.c=y.c/\x.d=y.d/\x.lo=y.lo/\x.hi=y.hi then
  isTrue (by cases x;cases y;obtain⟨h1,h2,h3,h4,h5,h6,h7,h8⟩:=h;simp only at h1 h2 h3 h4 h5 h6 h7 h8;subst h1;subst h2;subst h3;subst h4;subst h5;subst h6;subst h7;subst h8;rfl)
 else isFalse (fun e=>h (by subst e;exact⟨rfl,rfl,rfl,rfl,rfl,rfl,rfl,rfl⟩))
def qbk:(f g:Fo)->Decidable (f=g)
 |.nil,.nil=>isTrue rfl
 |.nil,.cons _ _ _=>isFalse (fun h=>by cases h)
 |.cons _ _ _,.nil=>isFalse (fun h=>by cases h)
 |.cons x k r,.cons y j q=>
  match decNd x y with
  |isFalse h=>isFalse (fun e=>by injection e with e1 e2 e3;exact h e1)
  |isTrue h1=>match qbk k j with
   |isFalse h=>isFalse (fun e=>by injection e with e1 e2 e3;exact h e2)
   |isTrue h2=>match qbk r q with
    |isFalse h=>isFalse (fun e=>by injection e with e1 e2 e3;exact h e3)
    |isTrue h3=>isTrue (by rw[h1,h2,h3])
instance decFo:DecidableEq Fo:=qbk
def nxD(f0 f:Fo):List Fo:=(d8 (gA f0)).map fun c=>eM c f
def q6M(f0 f:Fo):Bool:=(nxD f0 f).all fH
def oJ(f0 f:Fo)(ls:List Fo):List Fo:=(nxD f0 f).foldl aQ ls
def goD(f0:Fo):Nat->Nat->List Fo->Option (List Fo)
 |0,_,_=>none
 |n+1,i,ls=>if i<ls.length then(if q6M f0 (ls.getD i .nil)=true/\(oJ f0 (ls.getD i .nil) ls).length<=1000 then goD f0 n (i+1) (oJ f0 (ls.getD i .nil) ls)else none)else some ls
def kM(f0:Fo):Option (List Fo):=goD f0 1001 0 [f0]
def xX:Nat->Fo->Int
 |_,.nil=> -1
 |i,.cons x k r=>if L1 x (tJ k)then(i:Int)else xX (i+1) r
def q1j(f0:Fo)(R:List Fo)(f:Fo):List Int:=(nxD f0 f).map fun x=>(idx R x:Int)
def sG(f0:Fo)(R:List Fo):Dfa:=⟨nl (iI.map (gH (gA f0))),R.map (q1j f0 R),R.map (xX 0)⟩
def q9d(f0:Fo):Dfa:=match kM f0 with|some R=>sG f0 R|none=>J0
def q8s(f0:Fo):Int:=match kM f0 with|some _=>0|none=>3
theorem q52(f0:Fo):∀n i ls R,goD f0 n i ls=some R->goS (nxD f0) .nil n i ls=some R/\(∃k,R=ls++k)/\∀j,i<=j->j<R.length->q6M f0 (R.getD j .nil)=true
 |0,_,_,_,h=>by cases h
 |n+1,i,ls,R,h=>by
  rw[goD]at h;rw[goS];split at h
  ·rename_i hi
   split at h
   ·rename_i hb
    obtain⟨h1,⟨k,hk⟩,h2⟩:=q52 f0 n (i+1) _ R h;obtain⟨k2,hk2⟩:=bP (nxD f0 (ls.getD i .nil)) ls;rw[qw hi,qv (by have:=hb.2;unfold oJ at this;omega)];have hR:R=ls++(k2++k):=by rw[hk];unfold oJ;rw[hk2,qk]
    refine⟨h1,⟨_,hR⟩,fun j hj hjl=>?_⟩;rcases Nat.lt_or_eq_of_le hj with hlt|rfl
    ·exact h2 j hlt hjl
    rw[hR,qu,qW hi,<-qu];exact hb.1
   cases h
  rename_i hi;injection h with h;subst h;rw[qv hi];exact⟨rfl,⟨[],by simp⟩,fun j h1 h2=>by omega⟩
theorem xC{f0:Fo}{R:List Fo}(h:kM f0=some R):q2g (nxD f0) f0 R/\∀f∈R,q6M f0 f=true:=by
 obtain⟨h1,-,h2⟩:=q52 f0 1001 0 [f0] R h;refine⟨(q4W (nxD f0) .nil f0 1001 0 [f0] R h1 (qd _) rfl (fun j hj=>by omega) (by simp)).1,fun f hf=>?_⟩;obtain⟨j,hj,rfl⟩:=jj hf;have:=h2 j (qd _) hj;rwa [qu,qy hj,qN]at this
theorem q2k{f0:Fo}{R:List Fo}(h:q2g (nxD f0) f0 R)(p:Fo->Prop)(h0:p f0)(hs:∀f c,p f->p (eM c f)):∀f∈R,p f:=by
 have h1:∀l:List Fo,(∀f∈l,p f)->∀f∈stS (nxD f0) f0 l,p f:=fun l hl f hf=>by
  unfold stS at hf;rw[dF]at hf;rcases List.mem_cons.1 hf with rfl|hf
  ·exact h0
  obtain⟨g,hg,hfg⟩:=List.mem_flatMap.1 hf;obtain⟨c,-,rfl⟩:=List.mem_map.1 hfg;exact hs g c (hl g hg)
 have h2:∀i,i<=R.length->∀f∈R.take i,p f:=by
  intro i
  induction i with
  |zero=>intro _ f hf;simp at hf
  |succ i ih=>
   intro hi f hf;rw[qM hi]at hf;rcases List.mem_append.1 hf with hf|hf
   ·exact ih (by omega) f hf
   rw[jg]at hf;subst hf;obtain⟨k,hk⟩:=h.pre i;have hm:=h.more i hi
   have e:R[i]=(stS (nxD f0) f0 (R.take i))[i]:=by
    have:R[i]? =(stS (nxD f0) f0 (R.take i)++k)[i]? :=by rw[<-hk]
    rw[qW hm,qy hm,qy hi]at this;injection this
   rw[e];exact h1 _ (ih (by omega)) _ (jl hm)
 intro f hf;exact h2 R.length (qb _) f (by rwa [j3])
theorem E0:∀(i:Nat) (f:Fo),xX i f= -1\/((i:Int)<=xX i f/\xX i f<i+cnt f)
 |_,.nil=>.inl rfl
 |i,.cons x k r=>by
  rw[xX];split
  ·right;rw[show cnt (.cons x k r)=cnt r+1 from rfl];omega
  have:=E0 (i+1) r;rw[show cnt (.cons x k r)=cnt r+1 from rfl];omega
theorem tP(f0 f:Fo):(nxD f0 f).length=(d8 (gA f0)).length:=by simp[nxD]
theorem q53(f0:Fo):bB 0 (sG f0 []).cls=some (d8 (gA f0)).length:=by
 have h1:=lH (iJ (gA f0)) iI [];have h0:(aU (iJ (gA f0)) []).length=0:=rfl;rw[h0,List.nil_append]at h1;exact h1
theorem M1{f0:Fo}{R:List Fo}(h:kM f0=some R)(hc:cnt f0<=32):bD (sG f0 R):=by
 have hm:=(xC h).1;have h0:=(hm.zero .nil).2;have hcn:=q2k hm (fun f=>cnt f<=32) hc (fun f c hf=>by rw[sA];exact hf);refine⟨by simp[sG];omega,by simpa[sG]using hm.len,by simp[sG],(d8 (gA f0)).length,q53 f0,fun i hi=>?_⟩;have hi':i<R.length:=by simpa[sG]using hi
 have e1:(sG f0 R).rules.getD i 0=xX 0 R[i]:=by simp[sG,List.getD,hi']
 have e2:(sG f0 R).next.getD i []=q1j f0 R R[i]:=by simp[sG,List.getD,hi']
 have e3:(sG f0 R).next.length=R.length:=by simp[sG]
 rw[e1,e2,e3];have hl:=E0 0 R[i];have hl2:=hcn _ (jl hi');refine⟨by omega,by omega,by simp[q1j,tP],fun j hj=>?_⟩;have hj':j<(nxD f0 R[i]).length:=by simpa[q1j]using hj
 have e4:(q1j f0 R R[i]).getD j 0=(idx R ((nxD f0 R[i])[j]):Int):=by simp[q1j,List.getD,hj']
 rw[e4];have:=eJ (hm.mem (jl hi') (jl hj'));omega
theorem q7q{R:List Fo}{x:Fo}(h:x∈R):R.getD (idx R x) .nil=x:=by
 have h1:=eJ h;rw[qu,qy h1,qN];exact f8 h
theorem q54{f0:Fo}{R:List Fo}(h:kM f0=some R){a:Nat}(ha:a<R.length){c:Nat}(hc:c<256):
  ((sG f0 R).next.getD a []).getD ((sG f0 R).cls.getD c 0).toNat 0=(idx R (eM c (R.getD a .nil)):Int)/\eM c (R.getD a .nil)∈R:=by
 have hm:=(xC h).1
 have e1:(sG f0 R).cls.getD c 0=gH (gA f0) c:=by
  show(nl (iI.map (gH (gA f0)))).getD c 0=_;simp[nl,iI,List.getD,hc]
 have e2:(sG f0 R).next.getD a []=q1j f0 R (R.getD a .nil):=by simp[sG,List.getD,ha]
 have hk:gH (gA f0) c<(d8 (gA f0)).length:=pE (gA f0) hc;have hmR:R.getD a .nil∈R:=by simp[List.getD,ha]
 have has:=q2k hm (AS (fun e=>e∈gA f0\/e=dM noT 0)) (fun e he=>.inl he) (fun f c hf=>q1i (.inr rfl) c hf) _ hmR
 have e3:(nxD f0 (R.getD a .nil)).getD (gH (gA f0) c) .nil=eM c (R.getD a .nil):=by
  have h2:(nxD f0 (R.getD a .nil)).getD (gH (gA f0) c) .nil=eM ((d8 (gA f0)).getD (gH (gA f0) c) 0) (R.getD a .nil):=by
   unfold nxD;simp[List.getD,hk]
  rw[h2];exact q9c has (zA (gA f0) hc)
 have hj:gH (gA f0) c<(nxD f0 (R.getD a .nil)).length:=by rw[tP];exact hk
 have qcx:eM c (R.getD a .nil)∈R:=by
  rw[<-e3];exact hm.mem hmR (cE _ _ _ hj)
 refine⟨?_,qcx⟩;rw[e1,e2,qD,<-e3];unfold q1j;generalize nxD f0 (R.getD a .nil)=l at hj⊢;simp[List.getD,hj]
theorem q7r{f0:Fo}{R:List Fo}(h:kM f0=some R):∀(bs:List UInt8) (a:Nat),a<R.length->
  ∃b:Nat,e9 (sG f0 R) a bs=b/\b<R.length/\R.getD b .nil=q3l (R.getD a .nil) (bs.map UInt8.toNat):=by
 intro bs
 induction bs with
 |nil=>intro a ha;exact⟨a,rfl,ha,rfl⟩
 |cons c bs ih=>
  intro a ha;obtain⟨h1,h2⟩:=q54 h ha (c:=c.toNat) (UInt8.toNat_lt c);obtain⟨b,hb1,hb2,hb3⟩:=ih _ (eJ h2);refine⟨b,?_,hb2,by rw[hb3,q7q h2];rfl⟩;unfold e9;rw[qD,h1];exact hb1
theorem M2{f0:Fo}{R:List Fo}(h:kM f0=some R)(hc:cnt f0<=32)(bs:List UInt8):eR (sG f0 R) bs=xX 0 (q3l f0 (bs.map UInt8.toNat)):=by
 have hm:=(xC h).1;obtain⟨z0,z1⟩:=hm.zero .nil;obtain⟨b,hb1,hb2,hb3⟩:=q7r h bs 0 z1;unfold eR;rw[qw (M1 h hc),show(0:Int)=((0:Nat):Int)from rfl,hb1,qD];have e1:(sG f0 R).rules.getD b ((0:Nat):Int)=xX 0 (R.getD b .nil):=by simp[sG,List.getD,hb2]
 rw[e1,hb3,z0]
theorem M3:∀(i:Nat) (f:Fo),eI f->(xX i f= -1/\∀k,k<cnt f->¬(cG f).getD k tF [])\/∃k,k<cnt f/\xX i f=(i+k:Nat)/\(cG f).getD k tF []/\∀j,j<k->¬(cG f).getD j tF []
 |_,.nil,_=>.inl ⟨rfl,fun k hk=>by simp[cnt]at hk⟩
 |i,.cons x k r,h=>by
  have hn:=q4I h;have ec:cnt (.cons x k r)=cnt r+1:=rfl;have e0:(cG (.cons x k r)).getD 0 tF=gT x (cG k):=rfl;have es:∀j,(cG (.cons x k r)).getD (j+1) tF=(cG r).getD j tF:=fun j=>rfl;rw[xX];split
  ·rename_i h1
   exact .inr ⟨0,by omega,by simp,by rw[e0];exact hn.1 h1,fun j hj=>by omega⟩
  rename_i h1;have h0:¬(cG (.cons x k r)).getD 0 tF []:=by rw[e0];exact fun hh=>h1 (hn.2 hh)
  rcases M3 (i+1) r (cC h).2 with⟨h2,h3⟩|⟨q,h2,h3,h4,h5⟩
  ·refine .inl ⟨h2,fun j hj=>?_⟩
   cases j with
   |zero=>exact h0
   |succ j=>rw[es];exact h3 j (by omega)
  refine .inr ⟨q+1,by omega,by rw[h3];congr 1;omega,by rw[es];exact h4,fun j hj=>?_⟩;cases j with
  |zero=>exact h0
  |succ j=>rw[es];exact h5 j (by omega)
theorem q2l{e:List (List Ed)}{a:Nat}{x:Ed}(h:x∈e.getD a [])(hf:x.free=false):x∈bQ e:=by
 unfold bQ;rw[List.mem_filter,List.mem_flatten];refine⟨?_,by simp[hf]⟩;by_cases ha:a<e.length
 ·rw[show e.getD a []=e[a] by simp[List.getD,ha]]at h
  exact⟨_,jl ha,h⟩
 rw[qu,qQ (by omega)]at h;cases h
theorem q7s{e:List (List Ed)}{S:Nat->Prop}{c c':Nat}(h:iJ (bQ e) c=iJ (bQ e) c'):By e S c=By e S c':=by
 rw[rD]at h
 funext b
 refine propext ⟨?_,?_⟩
 ·rintro⟨a,ha,x,hx,hf,hh,ht⟩
  exact⟨a,ha,x,hx,hf,by rw[<-h x (q2l hx hf)];exact hh,ht⟩
 rintro⟨a,ha,x,hx,hf,hh,ht⟩;exact⟨a,ha,x,hx,hf,by rw[h x (q2l hx hf)];exact hh,ht⟩
theorem q1k{e:List (List Ed)}{st:List Int}{c c':Nat}(h:iJ (bQ e) c=iJ (bQ e) c'):tI e st c=tI e st c':=by
 unfold tI;rw[q7s h]
theorem q9e{R:List (List Nat)}{x:List Nat}(h:x∈R):R.getD (idx R x) []=x:=by
 have h1:=eJ h;rw[qu,qy h1,qN];exact f8 h
theorem q55{e:List (List Ed)}{F:Int}{r:List Int}{R:List (List Nat)}(hr:dK e F r=true)(h:nH e F r=some R){a:Nat}(ha:a<R.length){c:Nat}(hc:c<256):
  ((tV e F r R).next.getD a []).getD ((tV e F r R).cls.getD c 0).toNat 0=(idx R (tI e (nz (R.getD a [])) c):Int)/\tI e (nz (R.getD a [])) c∈R:=by
 have hm:=D7 h;have e1:(tV e F r R).cls.getD c 0=xB e c:=U3 e hc;have e2:(tV e F r R).next.getD a []=fP e F r R (R.getD a []):=by simp[tV,List.getD,ha]
 have hk:xB e c<(aY e).length:=pE (bQ e) hc
 have e3:(bY e F r (R.getD a [])).getD (xB e c) []=tI e (nz (R.getD a [])) c:=by
  have h1:=zA (bQ e) hc
  have h2:(bY e F r (R.getD a [])).getD (xB e c) []=pW e F r (nz (R.getD a [])) ((aY e).getD (xB e c) 0):=by
   unfold bY;simp[List.getD,hk]
  rw[h2];unfold pW;rw[qw hr];exact q1k h1
 have hj:xB e c<(bY e F r (R.getD a [])).length:=by rw[vA];exact hk
 have qcx:tI e (nz (R.getD a [])) c∈R:=by
  rw[<-e3];exact hm.mem (L:=R.getD a []) (by simp[List.getD,ha]) (cE _ _ _ hj)
 refine⟨?_,qcx⟩;rw[e1,e2,qD,<-e3];unfold fP;generalize bY e F r (R.getD a [])=l at hj⊢;simp[List.getD,hj]
theorem q57{e:List (List Ed)}{F:Int}{r:List Int}{R:List (List Nat)}(hr:dK e F r=true)(h:nH e F r=some R):∀(bs:List UInt8) (cs:List Nat) (a:Nat),a<R.length->R.getD a []=nD e.length (yK e F.toNat cs)->
  ∃b:Nat,e9 (tV e F r R) a bs=b/\b<R.length/\R.getD b []=nD e.length (yK e F.toNat ((bs.map UInt8.toNat).reverse++cs)):=by
 intro bs
 induction bs with
 |nil=>intro cs a ha hs;exact⟨a,rfl,ha,by simpa using hs⟩
 |cons c bs ih=>
  intro cs a ha hs;obtain⟨h1,h2⟩:=q55 hr h ha (c:=c.toNat) (UInt8.toNat_lt c)
  have h3:R.getD (idx R (tI e (nz (R.getD a [])) c.toNat)) []=nD e.length (yK e F.toNat (c.toNat::cs)):=by
   rw[q9e h2,hs,q3g]
  obtain⟨b,hb1,hb2,hb3⟩:=ih (c.toNat::cs) _ (eJ h2) h3;refine⟨b,?_,hb2,by rw[hb3];simp⟩;unfold e9;rw[qD,h1];exact hb1
def qap(l:List Nat):Int:=match l with|[]=> -1|k::_=>k
theorem q3n{e:List (List Ed)}{F:Int}{r:List Int}{R:List (List Nat)}(hr:dK e F r=true)(h:nH e F r=some R)(bs:List UInt8):eR (tV e F r R) bs=qap (q98 e F r (bs.map UInt8.toNat)):=by
 have hm:=D7 h;obtain⟨z0,z1⟩:=hm.zero [];obtain⟨b,hb1,hb2,hb3⟩:=q57 hr h bs [] 0 z1 (by rw[z0];exact q4u hr);rw[j7]at hb3;unfold eR;rw[qw (M0 hr h),show(0:Int)=((0:Nat):Int)from rfl,hb1,qD];have e1:(tV e F r R).rules.getD b ((0:Nat):Int)=mS r (R.getD b []):=by simp[tV,List.getD,hb2]
 rw[e1];unfold q98;rw[qw hr];have ht:=fun k=>q7d (e:=e) (F:=F) (r:=r) (t:=bs.map UInt8.toNat) (R.getD b []) hb3 k;have hrr:=(tO hr).2;generalize R.getD b []=L at*
 have hq:∀k:Nat,q97 e F r (bs.map UInt8.toNat) k↔∃s∈L,r.getD s 0=k:=fun k=>by
  rw[ht k]
  constructor
  ·rintro⟨q,hq,h⟩;exact⟨L.getD q 0,by simp[List.getD,hq],h⟩
  rintro⟨s,hs,h⟩;obtain⟨q,hq,rfl⟩:=jj hs;exact⟨q,hq,by rw[show L.getD q 0=L[q] by simp[List.getD,hq]];exact h⟩
 rcases D9 32 (q97 e F r (bs.map UInt8.toNat))with⟨h1,h2⟩|⟨k,tl,h1,h2,h3,h4⟩
 ·rw[h1]
  rcases L9 (r:=r) L with⟨h5,-⟩|⟨h5,⟨s,hs,h6⟩,-⟩
  ·exact h5
  have:=hrr s;exact absurd ((hq (r.getD s 0).toNat).2 ⟨s,hs,by omega⟩) (h2 _ (by omega))
 rw[h1];show mS r L=(k:Int);obtain⟨s,hs,h6⟩:=(hq k).1 h3;rcases L9 (r:=r) L with⟨-,h5⟩|⟨h5,⟨s',hs',h7⟩,h8⟩
 ·have:=h5 s hs;omega
 have h9:=h8 s hs (by omega);rcases Int.lt_or_eq_of_le h9 with hlt|heq
 ·exact absurd ((hq (mS r L).toNat).2 ⟨s',hs',by omega⟩) (h4 _ (by omega))
 rw[heq,h6]
noncomputable def oK:List (List Nd)->Fo
 |[]=>.nil
 |l::r=>iE (kD l) (oK r)
theorem q3o(x:Nd)(k r:Fo):cG (.cons x k r)=gT x (cG k)::cG r:=rfl
theorem vB{l:List Nd}(h:Chk l)(hq:∀x∈l,NdQ x):∃x k,l=x::bO k/\kD l=.cons x k .nil/\mW (x,k):=by
 obtain⟨x,k,h1,h2,h3,h4,h5,-⟩:=oV h;have e:kD l=.cons x k .nil:=by rw[h1];exact fN x k h2 h3
 have ok:∀y,okN y->NdQ y->OkS y:=fun y hy hw=>by
  unfold okN yF lO at hy;refine⟨⟨by omega,fun _=>by omega,hw,by omega,by omega⟩,fun _=>by omega,fun _=>by omega⟩
 have hw:∀y∈bO k,NdQ y:=fun y hy=>hq y (by rw[h1];exact qY _ hy);refine⟨x,k,h1,e,ok x h4 (hq x (by rw[h1];exact jh)),h2,(iQ k).2 fun y hy=>ok y ((iQ k).1 h5 y hy) (hw y hy),h3⟩
theorem vC:∀{ll:List (List Nd)},(∀l∈ll,Chk l)->rC ll->eI (oK ll)/\cnt (oK ll)=ll.length/\cG (oK ll)=ll.map D5
 |[],_,_=>⟨gM,rfl,rfl⟩
 |l::r,h,hq=>by
  obtain⟨x,k,h1,h2,h3⟩:=vB (h l jh) (hq l jh);obtain⟨g1,g2,g3⟩:=vC (ll:=r) (fun y hy=>h y (qY _ hy)) (fun y hy=>hq y (qY _ hy));have e:oK (l::r)=.cons x k (oK r):=by rw[oK,h2];rfl
  refine⟨by rw[e];exact dJ h3 g1,by rw[e,cnt,g2];rfl,?_⟩;rw[e,q3o,g3,qJ];unfold D5 q4v;rw[h2];rfl
theorem q58{ll:List (List Nd)}{k:Nat}(hk:k<ll.length):(ll.map D5).getD k tF=D5 (ll.getD k []):=by
 simp[List.getD,hk]
theorem q59{ll:List (List Nd)}(h:∀l∈ll,Chk l)(hq:rC ll)(h32:ll.length<=32){R:List Fo}(hR:kM (oK ll)=some R)(bs:List UInt8):
  eR (sG (oK ll) R) bs=qap (nD ll.length fun k=>D5 (ll.getD k []) (bs.map UInt8.toNat)):=by
 obtain⟨g1,g2,g3⟩:=vC h hq;rw[M2 hR (by omega)]
 have hc:∀(s:List Nat) (f:Fo),cnt (q3l f s)=cnt f:=by
  intro s
  induction s with
  |nil=>intro f;rfl
  |cons c s ih=>intro f;rw[q3l,ih,sA]
 have hl:∀k,k<ll.length->((cG (q3l (oK ll) (bs.map UInt8.toNat))).getD k tF []↔D5 (ll.getD k []) (bs.map UInt8.toNat)):=fun k hk=>by
  rw[q03 _ _ g1,j7,g3,q58 hk]
 have hcn:=hc (bs.map UInt8.toNat) (oK ll);rw[g2]at hcn;rcases M3 0 _ (q02 (bs.map UInt8.toNat) _ g1)with⟨h1,h2⟩|⟨k,h1,h2,h3,h4⟩
 ·rw[h1]
  rcases D9 ll.length (fun k=>D5 (ll.getD k []) (bs.map UInt8.toNat))with⟨h5,-⟩|⟨k,tl,h5,h6,h7,-⟩
  ·rw[h5];rfl
  exact absurd ((hl k h6).2 h7) (h2 k (by omega))
 rw[h2];have hk:k<ll.length:=by omega
 rcases D9 ll.length (fun k=>D5 (ll.getD k []) (bs.map UInt8.toNat))with⟨-,h6⟩|⟨q,tl,h5,h6,h7,h8⟩
 ·exact absurd ((hl k hk).1 h3) (h6 k hk)
 rw[h5];show((0+k:Nat):Int)=(q:Int);rcases Nat.lt_trichotomy k q with h9|h9|h9
 ·exact absurd ((hl k hk).1 h3) (h8 k h9)
 ·omega
 exact absurd ((hl q h6).2 h7) (h4 q h9)
end Go.Cm
namespace Go.Cm
open Go.RowKit Go.Proofs
def tmC(x:Nd)(u:Value):List Value:=[.int .i64 x.kd,.int .u64 x.a,.int .u64 x.b,.int .u64 x.c,.int .u64 x.d,.int .i64 x.lo,.int .i64 x.hi,u]
def InA(A:Nat->Prop)(u:Value):Prop:=∀b off o n cap,u=.slice (some ⟨b,off,o⟩) n cap->0<n->A b
theorem InA.mono{A A':Nat->Prop}{u:Value}(h:InA A u)(hA:∀b,A b->A' b):InA A' u:=fun b off o n cap e hn=>hA b (h b off o n cap e hn)
theorem InA.nil(A:Nat->Prop):InA A (.slice none 0 0):=fun b off o n cap e hn=>by cases e
def cA(A:Nat->Prop)(w:World):List (List Value)->Fo->Prop
 |rs,.nil=>rs=[]
 |rs,.cons x k r=>∃u ks rest,rs=tmC x u::rest/\(SlK 8 w u ks/\InA A u)/\cA A w ks k/\cA A w rest r
def bA(A:Nat->Prop)(w:World)(v:Value)(f:Fo):Prop:=∃rs,SlK 8 w v rs/\InA A v/\cA A w rs f
abbrev upA(A:Nat->Prop)(B:Nat):Nat->Prop:=fun b=>A b\/B<=b
section
variable {A A' : Nat → Prop} {w w' : World}
theorem q8t{k:Nat}{v:Value}{l:List (List Value)}(h:SlK k w v l)(hA:InA A v):InA (fun b=>A b/\b<w.heap.size) v:=by
 obtain⟨oa,cap,b,off,rfl,hd,-⟩:=h;intro b' off' o n cap' e hn;have h1:=hA b' off' o n cap' e hn;injection e with e1 e2 e3;subst e2;rw[hd.hat hn]at e1;injection e1 with e1;injection e1 with e1;exact⟨h1,by rw[<-e1];exact hd.hblk hn⟩
theorem q2m{k:Nat}{v:Value}{l:List (List Value)}(h:SlK k w v l)(hA:InA A v)(hs:w.heap.size<=w'.heap.size)(hk:∀b,A b->b<w.heap.size->w'.heap[b]? =w.heap[b]?):SlK k w' v l:=by
 obtain⟨oa,cap,b,off,rfl,hd,hc⟩:=h;refine⟨oa,cap,b,off,rfl,⟨hd.hat,hd.hcap,hd.hmax,hd.hsml,fun h=>qe (hd.hblk h) hs⟩,fun i hi c hcl=>?_⟩;have hn:0<l.length:=by omega
 have hb:=hd.hblk hn;have hab:A b:=hA b off none l.length cap (by rw[hd.hat hn]) hn;rw[<-hc i hi c hcl];exact World.cell?_of_block (hk b hab hb)
theorem cA.mono(hA:∀b,A b->A' b):∀{f:Fo} {rs:List (List Value)},cA A w rs f->cA A' w rs f
 |.nil,_,h=>h
 |.cons _x _k _r,_,⟨u,ks,rest,e,⟨h1,h2⟩,h3,h4⟩=>⟨u,ks,rest,e,⟨h1,h2.mono hA⟩,cA.mono hA h3,cA.mono hA h4⟩
theorem cA.lt:∀{f:Fo} {rs:List (List Value)},cA A w rs f->cA (fun b=>A b/\b<w.heap.size) w rs f
 |.nil,_,h=>h
 |.cons _x _k _r,_,⟨u,ks,rest,e,⟨h1,h2⟩,h3,h4⟩=>⟨u,ks,rest,e,⟨h1,q8t h1 h2⟩,cA.lt h3,cA.lt h4⟩
theorem cA.keep(hs:w.heap.size<=w'.heap.size)(hk:∀b,A b->b<w.heap.size->w'.heap[b]? =w.heap[b]?):∀{f:Fo} {rs:List (List Value)},cA A w rs f->cA A w' rs f
 |.nil,_,h=>h
 |.cons _x _k _r,_,⟨u,ks,rest,e,⟨h1,h2⟩,h3,h4⟩=>⟨u,ks,rest,e,⟨q2m h1 h2 hs hk,h2⟩,cA.keep hs hk h3,cA.keep hs hk h4⟩
theorem cA.up{f:Fo}{rs:List (List Value)}(h:cA A w rs f)(hb:Below w.heap.size w w'):cA A w' rs f:=h.keep hb.size (fun b _ hlt=>hb.block b hlt)
theorem cA.len:∀{f:Fo} {rs:List (List Value)},cA A w rs f->rs.length=cnt f
 |.nil,_,h=>by rw[show _=[]from h];rfl
 |.cons x k r,_,⟨u,ks,rest,e,_,_,h4⟩=>by rw[e,qA,cA.len h4,cnt]
theorem cA.app:∀{f g:Fo} {rs qs:List (List Value)},cA A w rs f->cA A w qs g->cA A w (rs++qs) (iE f g)
 |.nil,_,_,_,h,h2=>by rw[show _=[]from h];exact h2
 |.cons x k r,_,_,_,⟨u,ks,rest,e,h1,h3,h4⟩,h2=>⟨u,ks,rest++_,by rw[e];rfl,h1,h3,cA.app h4 h2⟩
theorem cA.wide:∀{f:Fo} {rs:List (List Value)},cA A w rs f->∀x∈rs,x.length=8
 |.nil,_,h,x,hx=>by rw[show _=[]from h]at hx;cases hx
 |.cons x k r,_,⟨u,ks,rest,e,_,_,h4⟩,y,hy=>by
  rw[e]at hy;rcases List.mem_cons.1 hy with rfl|hy
  ·rfl
  exact cA.wide h4 y hy
theorem q8u{k:Nat}{v:Value}{l:List (List Value)}(h:SlK k w v l):v.oneCell'=true:=by
 obtain⟨oa,cap,b,off,rfl,-,-⟩:=h;rfl
theorem cA.flat1:∀{f:Fo} {rs:List (List Value)},cA A w rs f->∀u∈rs.flatten,u.oneCell'=true
 |.nil,_,h,x,hx=>by rw[show _=[]from h]at hx;cases hx
 |.cons x k r,_,⟨u,ks,rest,e,⟨h1,_⟩,_,h4⟩,y,hy=>by
  rw[e,List.flatten_cons]at hy;rcases List.mem_append.1 hy with hy|hy
  ·simp only[tmC,jM,List.not_mem_nil,or_false]at hy
   rcases hy with rfl|rfl|rfl|rfl|rfl|rfl|rfl|rfl
   iterate 7 rfl
   exact q8u h1
  exact cA.flat1 h4 y hy
theorem cA.step{f:Fo}{rs:List (List Value)}{j:Nat}(h:cA A w (rs.drop j) f)(hj:j<rs.length):∃x u k r,f=.cons x k r/\rs.getD j []=tmC x u/\bA A w u k/\cA A w (rs.drop (j+1)) r:=by
 rw[jE hj]at h;cases f with
 |nil=>cases h
 |cons x k r=>
  obtain⟨u,ks,rest,e,⟨h1,h2⟩,h3,h4⟩:=h;injection e with e1 e2;refine⟨x,u,k,r,rfl,?_,⟨ks,h1,h2,h3⟩,by rw[e2];exact h4⟩;rw[qu,qy hj,qN,e1]
theorem cA.done{f:Fo}{rs:List (List Value)}{j:Nat}(h:cA A w (rs.drop j) f)(hj:¬j<rs.length):f=.nil:=by
 rw[jp (by omega)]at h;cases f with
 |nil=>rfl
 |cons x k r=>obtain⟨u,ks,rest,e,-⟩:=h;cases e
theorem cA.single{x:Nd}{u:Value}{k:Fo}(h:bA A w u k):cA A w [tmC x u] (.cons x k .nil):=by
 obtain⟨ks,h1,h2,h3⟩:=h;exact⟨u,ks,[],rfl,⟨h1,h2⟩,h3,rfl⟩
theorem bA.mono{v:Value}{f:Fo}(h:bA A w v f)(hA:∀b,A b->A' b):bA A' w v f:=by
 obtain⟨rs,h1,h2,h3⟩:=h;exact⟨rs,h1,h2.mono hA,h3.mono hA⟩
theorem bA.up{v:Value}{f:Fo}(h:bA A w v f)(hb:Below w.heap.size w w'):bA A w' v f:=by
 obtain⟨rs,h1,h2,h3⟩:=h;exact⟨rs,h1.up hb,h2,h3.up hb⟩
theorem bA.keep{v:Value}{f:Fo}(h:bA A w v f)(hs:w.heap.size<=w'.heap.size)(hk:∀b,A b->b<w.heap.size->w'.heap[b]? =w.heap[b]?):bA A w' v f:=by
 obtain⟨rs,h1,h2,h3⟩:=h;exact⟨rs,q2m h1 h2 hs hk,h2,h3.keep hs hk⟩
theorem bA.lt{v:Value}{f:Fo}(h:bA A w v f):bA (fun b=>A b/\b<w.heap.size) w v f:=by
 obtain⟨rs,h1,h2,h3⟩:=h;exact⟨rs,h1,q8t h1 h2,h3.lt⟩
theorem bA.nil(A:Nat->Prop)(w:World):bA A w (.slice none 0 0) .nil:=⟨[],SlK.nil 8 w,InA.nil A,rfl⟩
theorem bA.open{v:Value}{f:Fo}(h:bA A w v f):∃rs oa cap b off,v=.slice oa (cnt f) cap/\Hd w oa (cnt f) cap b off/\rs.length=cnt f/\(∀i,i<cnt f->∀c,c<8->w.cell? ⟨b,off+i*8+c,none⟩=some ((rs.getD i []).getD c undef))/\cA A w rs f:=by
 obtain⟨rs,⟨oa,cap,b,off,rfl,hd,hc⟩,h2,h3⟩:=h;have hl:=h3.len;rw[hl]at hd hc⊢;exact⟨rs,oa,cap,b,off,rfl,hd,hl,hc,h3⟩
end
def pF(A:Nat->Prop)(w:World)(B:Nat)(E:TypeId)(v:Value)(f:Fo):Prop:=
 ∃rs,eL 8 w B E v rs/\cA (fun b=>upA A B b/\v.ownBlock≠some b) w rs f
section
variable {A : Nat → Prop} {w w' : World} {B E : Nat} {v : Value} {f : Fo}
theorem pF.nil(A:Nat->Prop)(w:World)(B E:Nat):pF A w B E (.slice none 0 0) .nil:=⟨[],eL.nil 8 w B E,rfl⟩
theorem q9f{k:Nat}{rs:List (List Value)}(h:eL k w B E v rs):InA (fun b=>B<=b) v:=by
 intro b off o n cap e hn;have h2:v.ownBlock=some b:=by rw[e];rfl
 exact(h.lt b h2).1
theorem pF.tms(h:pF A w B E v f):bA (upA A B) w v f:=by
 obtain⟨rs,h1,h2⟩:=h;exact⟨rs,h1.sl,(q9f h1).mono (fun b hb=>.inr hb),h2.mono (fun b hb=>hb.1)⟩
theorem pF.keep(h:pF A w B E v f){row:Option Nat}(hg:w.grownBy w' row)(hne:∀q,row=some q->v.ownBlock≠some q/\¬upA A B q):pF A w' B E v f:=by
 obtain⟨rs,h1,h2⟩:=h;refine⟨rs,h1.keep hg ?_,h2.keep hg.size (fun b hb hlt=>hg.block b hlt ?_)⟩
 ·cases row with
  |none=>cases v.ownBlock<;>simp
  |some q=>exact .inr (hne q rfl).1
 intro e;exact(hne b e.symm).2 hb.1
theorem pF.up(h:pF A w B E v f)(hb:Below w.heap.size w w'):pF A w' B E v f:=
 h.keep (row:=none) ⟨hb.os,hb.tape,hb.output,hb.size,fun k hk _=>hb.block k hk⟩ (fun q e=>by cases e)
theorem pF.lt(h:pF A w B E v f):∀q,v.ownBlock=some q->B<=q/\q<w.heap.size:=by obtain⟨rs,h1,-⟩:=h;exact h1.lt
theorem pF.app{rs ns:List (List Value)}{g:Fo}{v':Value}(h2:cA (fun b=>upA A B b/\v.ownBlock≠some b) w rs f)(hn:cA (fun b=>upA A B b/\v.ownBlock≠some b) w ns g)
  (ho:eL 8 w' B E v' (rs++ns)) (hg:w.grownBy w' v.ownBlock) (hb:∀q,v'.ownBlock=some q->v.ownBlock=some q\/w.heap.size<=q):pF A w' B E v' (iE f g):=by
 refine⟨rs++ns,ho,?_⟩;have h3:=((h2.app hn).lt).keep (w':=w') hg.size (fun b hb hlt=>hg.block b hlt (fun e=>hb.1.2 e.symm));refine h3.mono fun b hb'=>⟨hb'.1.1,fun e=>?_⟩;rcases hb b e with h4|h4
 ·exact hb'.1.2 h4
 have:=hb'.2;omega
end
theorem bA.off{A:Nat->Prop}{w:World}{B:Nat}{v u:Value}{k:Fo}(h:bA A w u k)(hA:∀b,A b->b<w.heap.size->upA A B b)(hn:∀q,v.ownBlock=some q->¬A q):bA (fun b=>upA A B b/\v.ownBlock≠some b) w u k:=
 (bA.lt h).mono fun b hb=>⟨hA b hb.1 hb.2,fun e=>hn b e hb.1⟩
@[reducible] def tmA(x:Nd)(u:Value):Array Value:=#[.int .i64 x.kd,.int .u64 x.a,.int .u64 x.b,.int .u64 x.c,.int .u64 x.d,.int .i64 x.lo,.int .i64 x.hi,u]
theorem q7t(x:Nd)(u:Value)(c:Nat):(tmC x u).getD c undef=(tmA x u).getD c undef:=by
 simp only[tmC,tmA,qS,qu,List.getElem?_toArray]
def nR(A:Nat->Prop)(t:Tm)(w:World)(e:Ending)(w':World):Prop:=∃u,e=.returned (.agg (tmA t.1 u))/\bA (upA A w.heap.size) w' u t.2/\Below w.heap.size w w'
theorem fE{w:World}{oa:Option Addr}{b off len cap:Nat}(h:Hd w oa len cap b off):
  ∀(W:World) (j:Nat),j<len->(Instr.indexAt 50 (.slice oa len cap) (.int .i64 (j:Int))).run prog W=.ok (.pointer (some ⟨b,off+j*8,none⟩)) W:=by
 intro W j hj;have:=mJ (P:=prog) 8 50 55 underlying50 (by kernel_rfl) h W .i64 j (by omega) (by omega);rwa [qD]at this
abbrev kH(w:World)(g:Nat)(C:List Value):Prop:=Own w g 55 (.slice (some ⟨g,0,none⟩) 8 8) C
theorem q9g(x:Nd)(u:Value):(tmC x u).toArray=tmA x u:=rfl
theorem dX(w:World)(x:Nd)(u:Value):kH (w.alloc (.cells (tmA x u) 55)) w.heap.size (tmC x u):=cN w w.heap.size (tmA x u) 55 (show(8:Nat)<=4294967296 by decide) (qb _)
theorem qaq{x:Nd}{u:Value}(hu:u.oneCell'=true):∀z∈tmC x u,z.oneCell'=true:=by
 intro z hz;simp only[tmC,jM,List.not_mem_nil,or_false]at hz;rcases hz with rfl|rfl|rfl|rfl|rfl|rfl|rfl|rfl
 iterate 7 rfl
 exact hu
theorem bA.one{A:Nat->Prop}{w:World}{v:Value}{f:Fo}(h:bA A w v f):v.oneCell'=true:=by obtain⟨rs,h1,-⟩:=h;exact q8u h1
section
variable {ops : Array Oper} {rest : List Oper} {o : Oper} {a : Act} {w : World} {Q : Exit → Act → World → Prop}
theorem eA(hgd:o.guard=none)(x:Operand)(ho:o.op=.load 55 x)(b off:Nat)(hx:a.eval x=.pointer (some ⟨b,off,none⟩))(k n a' b' c' d' lo hi:Int)(v:Value)
  (hc:∀c,c<8->w.cell? ⟨b,off+c,none⟩=some ((tmA ⟨k,n,a',b',c',d',lo,hi⟩ v).getD c undef)) (h:wpList prog ops Q rest (a.put o.dst (.agg #[.int .i64 k,.int .u64 a',.int .u64 b',.int .u64 c',.int .u64 d',.int .i64 lo,.int .i64 hi,v])) w):wpList prog ops Q (o::rest) a w:=
 aH hgd 55 x ho b off 8 hx (tmA ⟨k,n,a',b',c',d',lo,hi⟩ v) _ hc rfl underlying55 rfl (by kernel_rfl) h
theorem dC(hgd:o.guard=none)(x:Operand)(ho:o.op=.load 55 x)(g:Nat)(hx:a.eval x=.pointer (some ⟨g,0,none⟩))(k n a' b' c' d' lo hi:Int)(v:Value)(hown:kH w g (tmC ⟨k,n,a',b',c',d',lo,hi⟩ v))
  (h:wpList prog ops Q rest (a.put o.dst (.agg #[.int .i64 k,.int .u64 a',.int .u64 b',.int .u64 c',.int .u64 d',.int .i64 lo,.int .i64 hi,v])) w):wpList prog ops Q (o::rest) a w:=by
 obtain⟨A,hg,hs,hA⟩:=hown.whole;have hA2:A=tmA ⟨k,n,a',b',c',d',lo,hi⟩ v:=by rw[<-Array.toArray_toList (xs:=A),hA,q9g]
 subst hA2;exact mZ hgd 55 8 x ho g hx (tmA ⟨k,n,a',b',c',d',lo,hi⟩ v) rfl hg _ underlying55 rfl (by kernel_rfl) h
theorem bT(hgd:o.guard=none)(x y:Operand)(ho:o.op=.store 55 x y)(g:Nat)(hx:a.eval x=.pointer (some ⟨g,0,none⟩))(z:Nd)(u:Value)(hu:u.oneCell'=true)(hy:a.eval y=.agg (tmA z u))
  (zs:List Value) (hB:kH w g zs) (hz:zs.length=8) (h:∀w',kH w' g (tmC z u)->w.grownBy w' (some g)->wpList prog ops Q rest (a.put o.dst undef) w'):wpList prog ops Q (o::rest) a w:=by
 refine bK hgd 55 x y ho g 55 g 8 8 hx (tmA z u) hy (by kernel_rfl) zs hB (by rw[hz];exact qb 8) (qaq hu) fun w' hw hg=>h w' ?_ hg;rw[jp (by rw[hz];exact qb 8),j7]at hw;exact hw
end
theorem kH.load{w:World}{g:Nat}{y:Nd}{v:Value}(h:kH w g (tmC y v)):(loadVar 55 ⟨g,0,none⟩).run prog w=.ok (.agg (tmA y v)) w:=U5 h _ underlying55 rfl (by kernel_rfl)
theorem q5a{fn:Func}{tmps:Array Value}{w:World}{ds:List Deferred}{s g:Nat}{y:Nd}{v:Value}{R:Ending->World->Prop}(hf:fn.results=#[.cell s 55])(ha:tmps.getD s undef=.pointer (some ⟨g,0,none⟩))(hd:ds=[])
  (hB:kH w g (tmC y v)) (h:R (.returned (.agg (tmA y v))) w):bodyPost prog fn R .ret ⟨tmps,ds⟩ w:=dV hf ha hd hB.load h
theorem xY(w:World)(x:Nd)(u:Value):SlK 8 (w.alloc (.cells (tmA x u) 55)) (.slice (some ⟨w.heap.size,0,none⟩) 1 1) [tmC x u]:=tD 8 w (tmA x u) 55 [tmC x u] rfl (by simp[tmC]) (show(1:Nat)<=4294967296 by decide)
theorem qar(w:World)(A:Nat->Prop)(x:Nd)(u:Value)(k:Fo)(h:bA A w u k)(hA:∀b,A b->b<w.heap.size):pF A (w.alloc (.cells (tmA x u) 55)) w.heap.size 55 (.slice (some ⟨w.heap.size,0,none⟩) 1 1) (.cons x k .nil):=by
 refine⟨[tmC x u],oU 8 w w.heap.size (tmA x u) 55 [tmC x u] rfl (by simp[tmC]) (show(1:Nat)<=4294967296 by decide) (qb _),cA.single ((h.up (aD w _)).mono fun b hb=>⟨.inl hb,fun e=>?_⟩)⟩;have:=hA b hb;simp only[Value.ownBlock,jC]at e;omega
theorem fQ{ops:Array Oper}{rest:List Oper}{o:Oper}{a:Act}{w:World}{Q:Exit->Act->World->Prop}(hgd:o.guard=none)(s x:Operand)(ho:o.op=.call {callee:=.builtin .append,args:=#[s,x],argTypes:=#[50,50]})
  (A:Nat->Prop) (B:Nat) (v:Value) (f:Fo) (hs:a.eval s=v) (hown:pF A w B 55 v f) (xv:Value) (hxe:a.eval x=xv) (ns:List (List Value)) (g:Fo) (hx:SlK 8 w xv ns)
  (hn:cA (fun b=>upA A B b/\v.ownBlock≠some b) w ns g) (hlen:cnt f+cnt g<=1000000000) (hB:B<=w.heap.size)
  (h:∀v' w',pF A w' B 55 v' (iE f g)->w.grownBy w' v.ownBlock->(∀q,v.ownBlock=some q->B<=q)->(∀q,v'.ownBlock=some q->v.ownBlock=some q\/w.heap.size<=q)->wpList prog ops Q rest (a.put o.dst v') w'):wpList prog ops Q (o::rest) a w:=by
 obtain⟨rs,h1,h2⟩:=hown;refine eP 8 hgd s x 50 ho B 55 (.agg (tmA ⟨0,0,0,0,0,0,0,0⟩ (.slice none 0 0))) 80 underlying50 (by kernel_rfl) rfl (by decide) (by decide) v rs hs h1 xv ns hxe hx hn.wide hn.flat1 (by rw[h2.len,hn.len];exact hlen) hB ?_;intro v' w' ho hg hk;exact h v' w' (pF.app h2 hn ho hg hk) hg (fun q hq=>(h1.lt q hq).1) hk
theorem q2n{w:World}(A:Nat->Prop):Calls prog 72 #[] w (nR A gL w):=by
 go_enter func72,ntmps72;go_wp2;exact q5a rfl rfl rfl (dX w emT (.slice none 0 0)) ⟨_,rfl,bA.nil _ _,aD _ _⟩
theorem q3p{w:World}(A:Nat->Prop):Calls prog 48 #[] w (nR A iG w):=by
 go_enter func48,ntmps48;go_wp2;exact q5a rfl rfl rfl (dX w noT (.slice none 0 0)) ⟨_,rfl,bA.nil _ _,aD _ _⟩
theorem q8v{w:World}(n:Int)(h: -1<=n/\n<=1000000):Calls prog 78 #[.int .i64 n] w fun e w'=>e=.returned (.int .i64 (gE n))/\∃x,w'=ext w x:=by
 obtain⟨r,hr⟩:∃r,r=gE n:=⟨_,rfl⟩;rw[<-hr];unfold gE at hr;by_cases h1:n= -1
 ·rw[qw h1]at hr
  have HR:=qa (hr.trans h1);subst h1;clear hr;go_enter func78,ntmps78;go_wp2;go_ret;exact⟨by rw[HR.o];rfl,dP _⟩
 rw[qv h1]at hr;have HR:=qa hr;clear hr;go_enter func78,ntmps78;go_wp2
 all_goals(go_ret;refine⟨j0 (fun z=>Ending.returned (Value.int .i64 z)) ?_,dP _⟩;rw[HR.o];omega)
theorem M4{w:World}(x:Nd)(u:Value):Calls prog 41 #[.agg (tmA x u)] w fun e w'=>e=.returned (.bool (kG x))/\∃x,w'=ext w x:=by
 obtain⟨r,hr⟩:∃r,r=kG x:=⟨_,rfl⟩;have HR:=qa hr;rw[<-hr];have c2:=q1T;have g1:=mN;clear hr;obtain⟨k,n,a,b,c,d,lo,hi⟩:=x;unfold tmA;go_enter func41,ntmps41;by_cases h1:k=1
 ·go_wp2
  all_goals(go_ret;refine⟨j0 (fun b=>Ending.returned (Value.bool b)) ?_,aJ (aD _ _)⟩)
  all_goals(rw[HR.o,jk];unfold kG;simp[h1])
 go_wp2
 all_goals(go_ret;refine⟨j0 (fun b=>Ending.returned (Value.bool b)) ?_,aJ (aD _ _)⟩)
 all_goals(rw[HR.o];unfold kG;simp[h1])
theorem pF.away{A:Nat->Prop}{w W:World}{B E:Nat}{ov v:Value}{acc j:Fo}(h:pF A w B E ov acc)(hA:∀b,A b->b<B)(hn:bA A W v j):bA (fun b=>upA A B b/\ov.ownBlock≠some b) W v j:=
 hn.mono fun b hb=>⟨.inl hb,fun e=>by have:=(h.lt b e).1;have:=hA b hb;omega⟩
theorem pF.after{A:Nat->Prop}{w W:World}{B E:Nat}{ov v:Value}{acc j:Fo}(h:pF A w B E ov acc)(hA:∀b,A b->b<B)(hB:B<=w.heap.size)(hn:bA (upA A w.heap.size) W v j):bA (fun b=>upA A B b/\ov.ownBlock≠some b) W v j:=
 hn.mono fun b hb=>⟨hb.imp id (fun h=>qc hB h),fun e=>by
  have h1:=h.lt b e;rcases hb with h2|h2
  ·have:=hA b h2;omega
  omega⟩
abbrev tm0:Array Value:=tmA ⟨0,0,0,0,0,0,0,0⟩ (.slice none 0 0)
theorem iY{A A0:Nat->Prop}{fn:Func}{tmps:Array Value}{w W W':World}{ds:List Deferred}{s g:Nat}{x:Nd}{u:Value}{k:Fo}(hf:fn.results=#[.cell s 55])(ha:tmps.getD s undef=.pointer (some ⟨g,0,none⟩))(hd:ds=[])
  (hA:∀b,A0 b->A b/\b<w.heap.size) (hwg:w.heap.size<=g) (hT:bA (upA A0 (g+1)) W u k) (hb:Below w.heap.size w W) (hg:W.grownBy W' (some g)) (hB:kH W' g (tmC x u)):bodyPost prog fn (nR A (x,k) w) .ret ⟨tmps,ds⟩ W':=by
 refine q5a hf ha hd hB ⟨u,rfl,(hT.keep hg.size (fun b hb hlt=>hg.block b hlt ?_)).mono (fun b hb=>?_),hb.grown hg hb.size (by rintro k ⟨⟩;exact hwg)⟩
 ·intro e
  injection e with e;rcases hb with h|h
  ·have:=(hA b h).2;omega
  omega
 rcases hb with h|h
 ·exact .inl (hA b h).1
 exact .inr (by omega)
structure qas(A:Nat->Prop)(w:World)(rs:List (List Value))(b off m:Nat)(k:Fo):Prop where
 cell:∀i,i<m->∀c,c<8->w.cell? ⟨b,off+i*8+c,none⟩=some ((rs.getD i []).getD c undef)
 rows:cA A w rs k
 len:rs.length=m
 blk:0<m->b<w.heap.size
theorem bA.form{A:Nat->Prop}{w:World}{v:Value}{f:Fo}(h:bA A w v f):∃o n c,v=.slice o n c/\n=cnt f:=by
 obtain⟨rs,oa,cap,b,off,rfl,-⟩:=h.open;exact⟨oa,cnt f,cap,rfl,rfl⟩
theorem qas.next{A:Nat->Prop}{w W:World}{rs:List (List Value)}{b off m i:Nat}{k r:Fo}(h:qas A w rs b off m k)(hr:cA A w (rs.drop i) r)(hi:i<m)(hb:Below w.heap.size w W):
  ∃y o n c j r',r=.cons y j r'/\bA A w (.slice o n c) j/\cA A w (rs.drop (i+1)) r'/\∀q,q<8->W.cell? ⟨b,off+i*8+q,none⟩=some ((tmA y (.slice o n c)).getD q undef):=by
 obtain⟨y,v,j,r',rfl,hrow,ht,hrr⟩:=hr.step (by rw[h.len];exact hi);obtain⟨o,n,c,rfl,-⟩:=ht.form;refine⟨y,o,n,c,j,r',rfl,ht,hrr,fun q hq=>?_⟩;rw[hb.cell (p:=⟨b,off+i*8+q,none⟩) (h.blk (by omega)),h.cell i hi q hq,hrow,q7t]
theorem bA.walk{A:Nat->Prop}{w:World}{v:Value}{f:Fo}(h:bA A w v f):∃rs oa cap b off,v=.slice oa (cnt f) cap/\Hd w oa (cnt f) cap b off/\qas A w rs b off (cnt f) f:=by
 obtain⟨rs,oa,cap,b,off,rfl,hd,hl,hc,hr⟩:=h.open;exact⟨rs,oa,cap,b,off,rfl,hd,hc,hr,hl,hd.hblk⟩
theorem q5b{A:Nat->Prop}:∀(n:Nat) {w:World} {x:Nd} {u:Value} {k:Fo},szF k<n->n<=1000000000->bA A w u k->
  Calls prog 42 #[.agg (tmA x u)] w fun e w'=>e=.returned (.int .i64 ((1+szF k:Nat):Int))/\∃x,w'=ext w x:=by
 intro n
 induction n with
 |zero=>intro w x u k h;omega
 |succ n ih=>
  intro w x u k hn hM h;obtain⟨rs,oa,cap,b,off,rfl,hd,hw⟩:=h.walk;have HIX:=qa (fE hd);have HW:=qa hw;have hm:=hd.len;obtain⟨S,hS⟩:∃S,S=1+szF k:=⟨_,rfl⟩;rw[<-hS];have HR0:Hid (cA A w (rs.drop 0) k):=qa hw.rows;have HS:Hid (1+szF k=S):=qa hS.symm;have HSM:Hid (S<=n+1/\S<=1000000000):=qa (by omega);have IH:Hid (∀(W:World) (y:Nd) (v:Value) (j:Fo),szF j<n->bA A W v j->Calls prog 42 #[.agg (tmA y v)] W fun e w'=>e=.returned (.int .i64 ((1+szF j:Nat):Int))/\∃x,w'=ext W x):=qa (fun W y v j hj hT=>ih hj (by omega) hT);generalize cnt k=m at*;clear hd hw h hS ih;obtain⟨kd,nn,a,b',c,d,lo,hi⟩:=x;go_enter func42,ntmps42;go_wp2
  go_loopg [3,9] m (fun gk nv iv wr=>∃(i acc:Nat) (r:Fo),iv=.int .i64 i/\i<=m/\nv=.int .i64 acc/\0<acc/\acc+szF r=S/\cA A w (rs.drop i) r/\Below w.heap.size w wr/\gk=m-i)
  case atStart=>exact⟨0,1,k,rfl,qd _,rfl,Nat.one_pos,HS.o,HR0.o,aD _ _,rfl⟩
  case round=>
   obtain⟨i,acc,r,rfl,hi,rfl,qcL,qg6,hrr,hB,hgk⟩:=hrel;have HB:=qa hB;have HGK:=qa hgk;have qhD:=qa qg6;have HRR:=qa hrr;clear hB hgk qg6 hrr HR0 HS;by_cases hlt:i<m
   ·have qcB:=fun W=>HIX.o W i hlt
    obtain⟨y,oj,nj,cj,j,r',hre,ht,hrr,hcc⟩:=HW.o.next HRR.o hlt HB.o;subst hre;have HCW:=qa hcc;have HTV:=qa ht;have qcF:=qa hrr;have HSJ:Hid (acc+(1+szF j)+szF r'=S):=qa (by have:=qhD.o;rw[szF]at this;omega);have HBX:=qa (dX wr y (.slice oj nj cj));have HBA:=qa (HB.o.trans ((aD wr (.cells (tmA y (.slice oj nj cj)) 55)).mono HB.o.size));have HSZ:=qa (IH.o _ y _ j (by have:=HSJ.o;have:=HSM.o;omega) (HTV.o.up HBA.o));have qet:acc+(1+szF j)<=1000000000:=by have:=HSJ.o;have:=HSM.o;omega
    clear ht hrr hcc HIX HRR qhD HTV IH HB;obtain⟨z,hz⟩:∃z,z=1+szF j:=⟨_,rfl⟩;rw[<-hz]at HSZ HSJ qet;clear hz;obtain⟨ykd,yn,ya,yb,yc,yd,ylo,yhi⟩:=y
    go_wp2_with(first
     |(refine eA rfl (.tmp 11) rfl b (off+i*8) rfl ykd yn ya yb yc yd ylo yhi (.slice oj nj cj) HCW.o ?_)
     |(refine dC rfl (.tmp 5) rfl wr.heap.size rfl ykd yn ya yb yc yd ylo yhi (.slice oj nj cj) HBX.o ?_)
     |((with_reducible refine HSZ.o.mono ?_);rintro e w5 ⟨rfl,hx⟩;have HB5:=qa (HBA.o.trans ((aI hx).mono HBA.o.size));clear hx))
    go_roundg (m-(i+1))
    case measure=>have:=HGK.o;omega
    case rel=>exact⟨i+1,acc+z,r',by go_num,by omega,by go_num,by omega,HSJ.o,qcF.o,HB5.o,rfl⟩
   have hr0:=HRR.o.done (by rw[HW.o.len];omega);subst hr0;have HE:Hid (acc=S):=qa (by have:=qhD.o;rw[szF]at this;omega);go_wp2;go_ret;exact⟨by rw[HE.o];rfl,aJ HB.o⟩
def qat(A:Nat->Prop)(f:Fo)(w:World)(e:Ending)(w':World):Prop:=∃u,e=.returned u/\bA (upA A w.heap.size) w' u f/\Below w.heap.size w w'
theorem gX:∀f g,cnt (iE f g)=cnt f+cnt g
 |.nil,g=>by simp[iE,cnt]
 |.cons x k r,g=>by rw[iE,cnt,cnt,gX r g];omega
theorem i8:∀f g h,iE (iE f g) h=iE f (iE g h)
 |.nil,g,h=>rfl
 |.cons x k r,g,h=>by rw[iE,iE,iE,i8 r g h]
theorem nI:∀f,iE f .nil=f
 |.nil=>rfl
 |.cons x k r=>by rw[iE,nI r]
theorem q8w{A:Nat->Prop}{w:World}{v:Value}{f:Fo}(kd:Int)(h:bA A w v f)(hs:szF f<=100000000):Calls prog 87 #[.int .i64 kd,v] w (qat A (gU kd f) w):=by
 obtain⟨rs,oa,cap,b,off,rfl,hd,hw⟩:=h.lt.walk;have HIX:=qa (fE hd);have HW:=qa hw;have hm:=hd.len;obtain⟨A0,hA0⟩:∃A0,A0=fun b=>A b/\b<w.heap.size:=⟨_,rfl⟩;rw[<-hA0]at HW;have HR0:Hid (cA A0 w (rs.drop 0) f):=qa HW.o.rows;have HA1:Hid (∀b,A0 b->A b/\b<w.heap.size):=qa (fun b hb=>by rw[hA0]at hb;exact hb);obtain⟨R,hR⟩:∃R,R=gU kd f:=⟨_,rfl⟩;rw[<-hR];have HR:Hid (iE .nil (gU kd f)=R):=qa hR.symm;have HSZ:Hid (cnt .nil+szF f<=100000000):=qa (by rw[show cnt .nil=0 from rfl];omega);generalize cnt f=m at*;clear hd hw h hR hA0 hs;go_enter func87,ntmps87;go_wp2
 go_loopg [5,10] m (fun gk ov iv wr=>∃(i:Nat) (acc r:Fo),iv=.int .i64 i/\i<=m/\pF A0 wr w.heap.size 55 ov acc/\Hid (iE acc (gU kd r)=R)/\cnt acc+szF r<=100000000/\cA A0 w (rs.drop i) r/\Below w.heap.size w wr/\gk=m-i)
 case atStart=>exact⟨0,.nil,f,rfl,qd _,pF.nil _ _ _ _,HR.o,HSZ.o,HR0.o,qn _ _,rfl⟩
 case round=>
  obtain⟨i,acc,r,rfl,hi,hO,HV,hsz,hrr,hB,hgk⟩:=hrel;have HB:=qa hB;have HO:=qa hO;have HGK:=qa hgk;have HRR:=qa hrr;have qcQ:=qa hsz;clear hB hgk hrr HR0 hsz hO HR HSZ;by_cases hlt:i<m
  ·have qcB:=fun W=>HIX.o W i hlt
   obtain⟨y,oj,nj,cj,j,r',hre,ht,hrr,hcc⟩:=HW.o.next HRR.o hlt HB.o;subst hre;have HCW:=qa hcc;have qcF:=qa hrr;have HBX:=qa (dX wr y (.slice oj nj cj));have hbn:=aD wr (.cells (tmA y (.slice oj nj cj)) 55);have HBA:=qa (HB.o.trans (hbn.mono HB.o.size));have HT:=qa (ht.up HBA.o);have HO2:=qa (HO.o.up hbn);clear hrr hcc HIX HRR HB HO hbn ht;by_cases hk:y.kd=kd
   ·have HV2:Hid (iE (iE acc j) (gU kd r')=R):=qa (by rw[i8,<-HV.o,gU,qw hk])
    have qdf:Hid (cnt (iE acc j)+szF r'<=100000000):=qa (by have:=qcQ.o;have:=L6 j;rw[szF]at*;rw[gX];omega);have qdq:Hid (cnt acc+cnt j<=1000000000):=qa (by have:=qdf.o;rw[gX]at this;omega);obtain⟨ns,h1,-,h3⟩:=HO2.o.away (fun b hb=>(HA1.o b hb).2) HT.o;have HX:=qa h1;have HN:=qa h3;clear h1 h3 qcQ HV;obtain⟨ykd,yn,ya,yb,yc,yd,ylo,yhi⟩:=y;simp only at hk;subst hk
    go_wp2_with(first
     |(refine eA rfl (.tmp 12) rfl b (off+i*8) rfl ykd yn ya yb yc yd ylo yhi (.slice oj nj cj) HCW.o ?_)
     |(at_builtin;refine fQ rfl (.tmp 18) (.tmp 20) rfl A0 w.heap.size _ acc rfl HO2.o _ rfl ns j HX.o HN.o qdq.o HBA.o.size ?_;intro v5 w5 hO hg hq hk5;have HO5:=qa hO;have HB5:=qa (HBA.o.grown hg HBA.o.size hq);clear hO hg hq hk5))
    exact ZmI1
   have HV2:Hid (iE (iE acc (.cons y j .nil)) (gU kd r')=R):=qa (by rw[i8,<-HV.o,gU,qv hk];rfl);have qdf:Hid (cnt (iE acc (.cons y j .nil))+szF r'<=100000000):=qa (by have:=qcQ.o;rw[szF]at*;rw[gX,cnt,cnt];omega);have qdq:Hid (cnt acc+cnt (.cons y j .nil)<=1000000000):=qa (by have:=qdf.o;rw[gX]at this;omega);have hb2:=aD (wr.alloc (.cells (tmA y (.slice oj nj cj)) 55)) (.cells (tmA y (.slice oj nj cj)) 55);have HX:=qa (xY (wr.alloc (.cells (tmA y (.slice oj nj cj)) 55)) y (.slice oj nj cj));rw[show(wr.alloc (.cells (tmA y (.slice oj nj cj)) 55)).heap.size=wr.heap.size+1 by simp]at HX;have HN:=qa (cA.single (x:=y) ((HO2.o.away (fun b hb=>(HA1.o b hb).2) HT.o).up hb2));have HO3:=qa (HO2.o.up hb2);have HBB:=qa (HBA.o.trans (hb2.mono HBA.o.size));clear qcQ HV hb2 HO2 HT;obtain⟨ykd,yn,ya,yb,yc,yd,ylo,yhi⟩:=y;simp only at hk
   go_wp2_with(first
    |(refine eA rfl (.tmp 12) rfl b (off+i*8) rfl ykd yn ya yb yc yd ylo yhi (.slice oj nj cj) HCW.o ?_)
    |(refine dC rfl (.tmp 7) rfl wr.heap.size rfl ykd yn ya yb yc yd ylo yhi (.slice oj nj cj) HBX.o ?_)
    |(at_builtin;refine fQ rfl (.tmp 22) (.tmp 24) rfl A0 w.heap.size _ acc rfl HO3.o _ rfl _ _ HX.o HN.o qdq.o HBB.o.size ?_;intro v5 w5 hO hg hq hk5;have HO5:=qa hO;have HB5:=qa (HBB.o.grown hg HBB.o.size hq);clear hO hg hq hk5))
   exact ZmI1
  have hr0:=HRR.o.done (by rw[HW.o.len];omega);subst hr0;have HE:Hid (acc=R):=qa (by rw[<-HV.o,gU,nI]);go_wp2;go_ret;rw[<-HE.o];exact⟨_,rfl,HO.o.tms.mono (fun b hb=>hb.imp (fun h=>(HA1.o b h).1) id),HB.o⟩
theorem q0a{kd:Int}{z:Tm}{f:Fo}(h:2<=cnt f):uL kd z f=q3i kd f:=by
 match f,h with
 |.cons x k (.cons y j r),_=>rfl
theorem qbl{A:Nat->Prop}{w:World}{v:Value}{f:Fo}(h:bA A w v f)(hs:szF f<=100000000):Calls prog 75 #[v] w (nR A (nZ f) w):=by
 obtain⟨A0,hA0⟩:∃A0,A0=fun b=>A b/\b<w.heap.size:=⟨_,rfl⟩;have h0:=h.lt;rw[<-hA0]at h0;have HA1:Hid (∀b,A0 b->A b/\b<w.heap.size):=qa (fun b hb=>by rw[hA0]at hb;exact hb);have hbw:=aD w (.cells tm0 55);have HFL:=qa (q8w 3 (h0.up hbw) hs);have HBW:=qa hbw;have HBG:=qa (dX w ⟨0,0,0,0,0,0,0,0⟩ (.slice none 0 0));have HNO:Hid (∀W,Calls prog 48 #[] W (nR A0 iG W)):=qa (fun W=>q3p A0);have HEM:Hid (∀W,Calls prog 72 #[] W (nR A0 gL W)):=qa (fun W=>q2n A0);have HDD:Hid (∀W y u,Calls prog 41 #[.agg (tmA y u)] W fun e w'=>e=.returned (.bool (kG y))/\∃x,w'=ext W x):=qa (fun W y u=>M4 y u);obtain⟨R,hR⟩:∃R,R=nZ f:=⟨_,rfl⟩;rw[<-hR];have HR:Hid (R=match wY (gU 3 f)with|none=>iG|some g=>uL 3 gL g):=qa hR;have hsz:=qc (uS 3 f) hs;generalize gU 3 f=F at*;obtain⟨C,hC⟩:∃C,C=wY F:=⟨_,rfl⟩;have HC:Hid ((wY F).map (iE .nil)=C):=qa (by rw[hC];cases wY F<;>rfl);rw[<-hC]at HR;have HSZ:Hid (cnt .nil+szF F<=100000000):=qa (by rw[show cnt .nil=0 from rfl];omega);clear hR hC hA0 h h0 hbw hs hsz;go_enter func75,ntmps75
 go_wp2_with((with_reducible refine HFL.o.mono ?_);rintro e w1 ⟨u7,rfl,hT,hb⟩;obtain⟨rs,oa,cap,b,off,rfl,hd,hw⟩:=hT.lt.walk;have HIX:=qa (fE hd);have HW:=qa hw;have hm:=hd.len;have HB1:=qa (HBW.o.trans (hb.mono HBW.o.size));have HG1:=qa (HBG.o.up hb);have HS1:Hid (w.heap.size+1<=w1.heap.size):=qa (by have:=hb.size;simpa using this);clear hT hd hw hb)
 obtain⟨A1,hA1⟩:∃A1,A1=fun b=>upA A0 (w.alloc (.cells tm0 55)).heap.size b/\b<w1.heap.size:=⟨_,rfl⟩;rw[<-hA1]at HW;have HA2:Hid (∀b,A1 b->upA A0 (w.heap.size+1) b/\b<w1.heap.size):=qa (fun b hb=>by rw[hA1]at hb;simpa using hb);have HR0:Hid (cA A1 w1 (rs.drop 0) F):=qa HW.o.rows;generalize cnt F=m at*;obtain⟨g0,hg0⟩:∃g0,g0=w.heap.size:=⟨_,rfl⟩;rw[<-hg0]at HG1 HS1 HA2⊢;have HG0:Hid (w.heap.size<=g0):=qa (by omega);clear hA1 HFL HBW HBG hg0
 go_loopg [3,9] m (fun gk ov iv wr=>∃(i:Nat) (acc r:Fo),iv=.int .i64 i/\i<=m/\pF A1 wr w1.heap.size 55 ov acc/\Hid ((wY r).map (iE acc)=C)/\cnt acc+szF r<=100000000/\cA A1 w1 (rs.drop i) r/\Below w1.heap.size w1 wr/\gk=m-i)
 case atStart=>exact⟨0,.nil,F,rfl,qd _,pF.nil _ _ _ _,HC,HSZ.o,HR0.o,qn _ _,rfl⟩
 case round=>
  obtain⟨i,acc,r,rfl,hi,hO,HV,hsz,hrr,hB,hgk⟩:=hrel;have HB:=qa hB;have HO:=qa hO;have HGK:=qa hgk;have HRR:=qa hrr;have qcQ:=qa hsz;have HGR:=qa (HG1.o.up hB);have HSR:Hid (g0+1<=wr.heap.size):=qa (qc HS1.o hB.size);have HBR:=qa (HB1.o.trans (hB.mono HB1.o.size));clear hB hgk hrr HR0 hsz hO HC HSZ;by_cases hlt:i<m
  ·have qcB:=fun W=>HIX.o W i hlt
   obtain⟨y,oj,nj,cj,j,r',hre,ht,hrr,hcc⟩:=HW.o.next HRR.o hlt HB.o;subst hre;have HCW:=qa hcc;have qcF:=qa hrr;have HBX:=qa (dX wr y (.slice oj nj cj));have hbn:=aD wr (.cells (tmA y (.slice oj nj cj)) 55);have HBA:=qa (HB.o.trans (hbn.mono HB.o.size));have qjt:=qa (HBR.o.trans (hbn.mono HBR.o.size));have HT:=qa (ht.up HBA.o);have HO2:=qa (HO.o.up hbn);have HGA:=qa (HGR.o.up hbn);have HSA:Hid (g0+1<=(wr.alloc (.cells (tmA y (.slice oj nj cj)) 55)).heap.size):=qa (qc HSR.o hbn.size);have HDY:=qa (HDD.o (wr.alloc (.cells (tmA y (.slice oj nj cj)) 55)) y (.slice oj nj cj));clear hrr hcc HIX HRR HB HO hbn ht HGR HSR HBR HDD;rcases hdd:kG y with _|_
   ·rw[hdd]at HDY
    by_cases hk:y.kd=2
    ·have HV2:Hid ((wY r').map (iE acc)=C):=qa (by
      rw[<-HV.o,wY,qv (by rw[hdd];decide)];cases wY r' with
      |none=>rfl
      |some q=>simp only[jP,qw hk])
     have qdf:Hid (cnt acc+szF r'<=100000000):=qa (by have:=qcQ.o;rw[szF]at this;omega);clear HV HR qcQ HT hdd HEM HNO;obtain⟨ykd,yn,ya,yb,yc,yd,ylo,yhi⟩:=y;simp only at hk;subst hk
     go_wp2_with(first
      |(refine eA rfl (.tmp 11) rfl b (off+i*8) rfl 2 yn ya yb yc yd ylo yhi (.slice oj nj cj) HCW.o ?_)
      |(refine dC rfl (.tmp 5) rfl wr.heap.size rfl 2 yn ya yb yc yd ylo yhi (.slice oj nj cj) HBX.o ?_)
      |((with_reducible refine HDY.o.mono ?_);rintro e w5 ⟨rfl,hx⟩;have hb:=aI hx;have HB5:=qa (HBA.o.trans (hb.mono HBA.o.size));have HO5:=qa (HO2.o.up hb);have HX5:=qa (HBX.o.up hb);have c0:=HX5.o.cell (i:=0) (show(0:Nat)<8 by decide);simp only[tmC,ja]at c0;clear hx hb))
     go_roundg (m-(i+1))
     case measure=>have:=HGK.o;omega
     case rel=>exact⟨i+1,acc,r',by go_num,by omega,HO5.o,HV2,qdf.o,qcF.o,HB5.o,rfl⟩
    have HV2:Hid ((wY r').map (iE (iE acc (.cons y j .nil)))=C):=qa (by
     rw[<-HV.o,wY,qv (by rw[hdd];decide)];cases wY r' with
     |none=>rfl
     |some q=>simp only[jP,qv hk,i8];rfl)
    have qdf:Hid (cnt (iE acc (.cons y j .nil))+szF r'<=100000000):=qa (by have:=qcQ.o;rw[szF]at*;rw[gX,cnt,cnt];omega);have qdq:Hid (cnt acc+cnt (.cons y j .nil)<=1000000000):=qa (by have:=qdf.o;rw[gX]at this;omega);clear HV HR qcQ hdd HEM HNO;obtain⟨ykd,yn,ya,yb,yc,yd,ylo,yhi⟩:=y;simp only at hk
    go_wp2_with(first
     |(refine eA rfl (.tmp 11) rfl b (off+i*8) rfl ykd yn ya yb yc yd ylo yhi (.slice oj nj cj) HCW.o ?_)
     |(refine dC rfl (.tmp 5) rfl wr.heap.size rfl ykd yn ya yb yc yd ylo yhi (.slice oj nj cj) HBX.o ?_)
     |((with_reducible refine HDY.o.mono ?_);rintro e w5 ⟨rfl,hx⟩;have hb:=aI hx;have HB5:=qa (HBA.o.trans (hb.mono HBA.o.size));have HO5:=qa (HO2.o.up hb);have HX5:=qa (HBX.o.up hb);have c0:=HX5.o.cell (i:=0) (show(0:Nat)<8 by decide);simp only[tmC,ja]at c0;have hb2:=aD w5 (.cells (tmA ⟨ykd,yn,ya,yb,yc,yd,ylo,yhi⟩ (.slice oj nj cj)) 55);have HX:=qa (xY w5 ⟨ykd,yn,ya,yb,yc,yd,ylo,yhi⟩ (.slice oj nj cj));have HN:=qa (cA.single (x:=⟨ykd,yn,ya,yb,yc,yd,ylo,yhi⟩) (((HO5.o.away (fun b hb=>(HA2.o b hb).2) HT.o).up hb).up hb2));have HO6:=qa (HO5.o.up hb2);have HB6:=qa (HB5.o.trans (hb2.mono HB5.o.size));clear hx hb hb2)
     |(refine dC rfl (.tmp 5) rfl wr.heap.size rfl ykd yn ya yb yc yd ylo yhi (.slice oj nj cj) HX5.o ?_)
     |(at_builtin;refine fQ rfl (.tmp 21) (.tmp 23) rfl A1 w1.heap.size _ acc rfl HO6.o _ rfl _ _ HX.o HN.o qdq.o HB6.o.size ?_;intro v7 w7 hO hg hq hk5;have HO7:=qa hO;have HB7:=qa (HB6.o.grown hg HB6.o.size hq);clear hO hg hq hk5))
    go_roundg (m-(i+1))
    case measure=>have:=HGK.o;omega
    case rel=>exact⟨i+1,_,r',by go_num,by omega,HO7.o,HV2,qdf.o,qcF.o,HB7.o,rfl⟩
   have HCN:Hid (C=none):=qa (by rw[<-HV.o,wY,qw hdd];rfl);have HRN:Hid (R=iG):=qa (by rw[HR.o,HCN.o]);rw[hdd]at HDY;clear HV HR HCN qcQ HO2 HT hdd HEM;obtain⟨ykd,yn,ya,yb,yc,yd,ylo,yhi⟩:=y
   go_wp2_with(first
    |(refine eA rfl (.tmp 11) rfl b (off+i*8) rfl ykd yn ya yb yc yd ylo yhi (.slice oj nj cj) HCW.o ?_)
    |(refine dC rfl (.tmp 5) rfl wr.heap.size rfl ykd yn ya yb yc yd ylo yhi (.slice oj nj cj) HBX.o ?_)
    |((with_reducible refine HDY.o.mono ?_);rintro e w5 ⟨rfl,hx⟩;have hb:=aI hx;have HB5:=qa (qjt.o.trans (hb.mono qjt.o.size));have HG5:=qa (HGA.o.up hb);have HS5:=qa (qc HSA.o hb.size);clear hx hb)
    |((with_reducible refine(HNO.o _).mono ?_);rintro e w6 ⟨u6,rfl,hT6,hb⟩;have HB6:=qa (HB5.o.trans (hb.mono HB5.o.size));have HG6:=qa (HG5.o.up hb);have HT6:Hid (bA (upA A0 (g0+1)) w6 u6 .nil):=qa (hT6.mono (fun b hb=>hb.imp id (qc HS5.o)));clear hb hT6)
    |(refine bT rfl (.tmp 2) (.tmp 16) rfl g0 rfl noT u6 HT6.o.one rfl _ HG6.o (by decide) ?_;intro w7 hbx hg;have HX7:=qa hbx;have qcy:=qa hg;clear hbx hg))
   rw[HRN.o];exact iY rfl rfl rfl HA1.o HG0.o HT6.o HB6.o qcy.o HX7.o
  have hr0:=HRR.o.done (by rw[HW.o.len];omega);subst hr0;have HRA:Hid (R=uL 3 gL acc):=qa (by rw[HR.o,<-HV.o,wY];simp only[jP,nI]);have HTA:=qa (HO.o.tms.mono (A':=upA A0 (g0+1)) (fun b hb=>hb.elim (fun h=>(HA2.o b h).1) (fun h=>.inr (qc HS1.o h))));clear HV HR HDD HNO HO qcQ HRR HIX
  match acc,HRA,HTA with
  |.nil,HRA,HTA=>
   obtain⟨rs2,oa2,cap2,b2,off2,rfl,-,-⟩:=HTA.o.walk;simp only[cnt]at*
   go_wp2_with(first
    |((with_reducible refine(HEM.o _).mono ?_);rintro e w6 ⟨u6,rfl,hT6,hb⟩;have HB6:=qa (HBR.o.trans (hb.mono HBR.o.size));have HG6:=qa (HGR.o.up hb);have HT6:Hid (bA (upA A0 (g0+1)) w6 u6 .nil):=qa (hT6.mono (fun b hb=>hb.imp id (qc HSR.o)));clear hb hT6)
    |(refine bT rfl (.tmp 2) (.tmp 30) rfl g0 rfl emT u6 HT6.o.one rfl _ HG6.o (by decide) ?_;intro w7 hbx hg;have HX7:=qa hbx;have qcy:=qa hg;clear hbx hg))
   rw[HRA.o];exact iY rfl rfl rfl HA1.o HG0.o HT6.o HB6.o qcy.o HX7.o
  |.cons x k .nil,HRA,HTA=>
   obtain⟨rs2,oa2,cap2,b2,off2,rfl,hd2,hw2⟩:=HTA.o.walk;simp only[cnt]at*;obtain⟨y,oj,nj,cj,j,r',hre,ht,-,hcc⟩:=hw2.next (i:=0) hw2.rows (Nat.one_pos) (qn _ _);injection hre with e1 e2 e3;subst e1;subst e2;have qew:∀W,(Instr.indexAt 50 (.slice oa2 1 cap2) (.int .i64 0)).run prog W=.ok (.pointer (some ⟨b2,off2,none⟩)) W:=fun W=>by simpa using fE hd2 W 0 Nat.one_pos
   have HCW:Hid (∀q,q<8->wr.cell? ⟨b2,off2+q,none⟩=some ((tmA x (.slice oj nj cj)).getD q undef)):=qa (by simpa using hcc);have HT6:=qa ht;clear hd2 hw2 ht hcc e3;obtain⟨ykd,yn,ya,yb,yc,yd,ylo,yhi⟩:=x
   go_wp2_with(first
    |(refine eA rfl (.tmp 34) rfl b2 off2 rfl ykd yn ya yb yc yd ylo yhi (.slice oj nj cj) HCW.o ?_)
    |(refine bT rfl (.tmp 2) (.tmp 35) rfl g0 rfl ⟨ykd,yn,ya,yb,yc,yd,ylo,yhi⟩ (.slice oj nj cj) HT6.o.one rfl _ HGR.o (by decide) ?_;intro w7 hbx hg;have HX7:=qa hbx;have qcy:=qa hg;clear hbx hg))
   rw[HRA.o];exact iY rfl rfl rfl HA1.o HG0.o HT6.o HBR.o qcy.o HX7.o
  |.cons x k (.cons y j r),HRA,HTA=>
   have HRK:=qa (HRA.o.trans (q0a (by simp only[cnt];omega)));obtain⟨M,hM⟩:∃M,M=Fo.cons x k (.cons y j r):=⟨_,rfl⟩;have hc2:2<=cnt M:=by rw[hM];simp only[cnt];omega
   rw[<-hM]at HTA HRK;have HO1:=qa HTA.o.one;obtain⟨rs2,oa2,cap2,b2,off2,rfl,-,-⟩:=HTA.o.walk;have HKT:Hid (q3i 3 M=(⟨3,cnt M,0,0,0,0,0,0⟩,M)):=qa rfl;generalize cnt M=c at*;clear hM HRA;have q0:((c:Int)==0)=false:=by simp;omega
   have q1:((c:Int)==1)=false:=by simp;omega
   go_wp2_with(first|(refine bT rfl (.tmp 2) (.tmp 37) rfl g0 rfl ⟨3,c,0,0,0,0,0,0⟩ _ HO1.o rfl _ HGR.o (by decide) ?_;intro w7 hbx hg;have HX7:=qa hbx;have qcy:=qa hg;clear hbx hg))
   rw[HRK.o,HKT.o];exact iY rfl rfl rfl HA1.o HG0.o HTA.o HBR.o qcy.o HX7.o
theorem q8x{w:World}{A:Nat->Prop}{x:Nd}{u:Value}{k:Fo}(h:bA A w u k)(hA:∀b,A b->b<w.heap.size):bA (upA A w.heap.size) (w.alloc (.cells (tmA x u) 55)) (.slice (some ⟨w.heap.size,0,none⟩) 1 1) (.cons x k .nil):=(qar w A x u k h hA).tms
theorem qau{A:Nat->Prop}{w:World}{x:Nd}{u:Value}{k:Fo}(h:bA A w u k):Calls prog 76 #[.agg (tmA x u)] w (nR A (oE (x,k)) w):=by
 obtain⟨A0,hA0⟩:∃A0,A0=fun b=>A b/\b<w.heap.size:=⟨_,rfl⟩;have h0:=h.lt;rw[<-hA0]at h0;have HA1:Hid (∀b,A0 b->A b/\b<w.heap.size):=qa (fun b hb=>by rw[hA0]at hb;exact hb);obtain⟨o,n,c,rfl,-⟩:=h.form;have hb1:=aD w (.cells (tmA x (.slice o n c)) 55);have hb2:=aD (w.alloc (.cells (tmA x (.slice o n c)) 55)) (.cells tm0 55);have HB2:=qa (hb1.trans (hb2.mono hb1.size));have HT2:=qa (h0.up HB2.o);have HX2:=qa ((dX w x (.slice o n c)).up hb2);have HG2:=qa (dX (w.alloc (.cells (tmA x (.slice o n c)) 55)) ⟨0,0,0,0,0,0,0,0⟩ (.slice none 0 0));have hs1:(w.alloc (.cells (tmA x (.slice o n c)) 55)).heap.size=w.heap.size+1:=by simp
 rw[hs1]at HG2;have HS2:Hid (w.heap.size+1+1<=((w.alloc (.cells (tmA x (.slice o n c)) 55)).alloc (.cells tm0 55)).heap.size):=qa (by simp);have HDY:=qa (M4 (w:=(w.alloc (.cells (tmA x (.slice o n c)) 55)).alloc (.cells tm0 55)) x (.slice o n c));have HEM:Hid (∀W,Calls prog 72 #[] W (nR A0 gL W)):=qa (fun W=>q2n A0);have HW1:Hid (w.heap.size<=w.heap.size+1):=qa (jd _);obtain⟨R,hR⟩:∃R,R=oE (x,k):=⟨_,rfl⟩;rw[<-hR];unfold oE at hR;simp only at hR;clear h h0 hA0 hb1 hb2 hs1;by_cases h5:x.kd=5
 ·rw[qw h5]at hR
  have HR:=qa hR;clear hR HEM HDY;obtain⟨kd,nn,a,b,c',d,lo,hi⟩:=x;simp only at h5;subst h5;go_enter func76,ntmps76
  go_wp2_with(first
   |(refine dC rfl (.tmp 1) rfl w.heap.size rfl 5 nn a b c' d lo hi (.slice o n c) HX2.o ?_)
   |(refine bT rfl (.tmp 2) (.tmp 18) rfl (w.heap.size+1) rfl ⟨5,nn,a,b,c',d,lo,hi⟩ (.slice o n c) rfl rfl _ HG2.o (show(8:Nat)=8 from rfl) ?_;intro w7 hbx hg;have HX7:=qa hbx;have qcy:=qa hg;clear hbx hg))
  rw[HR.o];exact iY rfl rfl rfl HA1.o HW1.o (HT2.o.mono fun b hb=>.inl hb) HB2.o qcy.o HX7.o
 rw[qv h5]at hR;by_cases he:x.kd=2\/kG x=true
 ·rw[qw he]at hR
  have HR:=qa hR;clear hR;rcases hdd:kG x with _|_
  ·have h2:x.kd=2:=he.resolve_right (by rw[hdd];decide)
   clear HDY he hdd;obtain⟨kd,nn,a,b,c',d,lo,hi⟩:=x;simp only at h2;subst h2;go_enter func76,ntmps76
   go_wp2_with(first
    |((with_reducible refine(HEM.o _).mono ?_);rintro e w6 ⟨u6,rfl,hT6,hb⟩;have HB6:=qa (HB2.o.trans (hb.mono HB2.o.size));have HG6:=qa (HG2.o.up hb);have HT6:Hid (bA (upA A0 (w.heap.size+1+1)) w6 u6 .nil):=qa (hT6.mono (fun b hb=>hb.imp id (qc HS2.o)));clear hb hT6)
    |(refine bT rfl (.tmp 2) (.tmp 19) rfl (w.heap.size+1) rfl emT u6 HT6.o.one rfl _ HG6.o (show(8:Nat)=8 from rfl) ?_;intro w7 hbx hg;have HX7:=qa hbx;have qcy:=qa hg;clear hbx hg))
   exact ZmI3
  rw[hdd]at HDY;have hk1:x.kd=1:=by unfold kG at hdd;simp at hdd;exact hdd.1
  clear he hdd;obtain⟨kd,nn,a,b,c',d,lo,hi⟩:=x;simp only at hk1;subst hk1;go_enter func76,ntmps76
  go_wp2_with(first
   |((with_reducible refine HDY.o.mono ?_);rintro e w5 ⟨rfl,hx⟩;have hb:=aI hx;have HB5:=qa (HB2.o.trans (hb.mono HB2.o.size));have HG5:=qa (HG2.o.up hb);have HS5:=qa (qc HS2.o hb.size);have HX5:=qa (HX2.o.up hb);have c0:=HX5.o.cell (i:=0) (show(0:Nat)<8 by decide);simp only[tmC,ja]at c0;clear hx hb)
   |((with_reducible refine(HEM.o _).mono ?_);rintro e w6 ⟨u6,rfl,hT6,hb⟩;have HB6:=qa (HB5.o.trans (hb.mono HB5.o.size));have HG6:=qa (HG5.o.up hb);have HT6:Hid (bA (upA A0 (w.heap.size+1+1)) w6 u6 .nil):=qa (hT6.mono (fun b hb=>hb.imp id (qc HS5.o)));clear hb hT6)
   |(refine bT rfl (.tmp 2) (.tmp 19) rfl (w.heap.size+1) rfl emT u6 HT6.o.one rfl _ HG6.o (show(8:Nat)=8 from rfl) ?_;intro w7 hbx hg;have HX7:=qa hbx;have qcy:=qa hg;clear hbx hg))
  exact ZmI3
 rw[qv he]at hR;have HR:=qa hR;have hd0:kG x=false:=by cases hq:kG x with|false=>rfl|true=>exact absurd (.inr hq) he
 have h2:x.kd≠2:=fun e=>he (.inl e);rw[hd0]at HDY;clear hR HEM hd0 he;obtain⟨kd,nn,a,b,c',d,lo,hi⟩:=x;simp only at h5 h2;have q5:(kd==5)=false:=by simpa using h5
 have q2:(kd==2)=false:=by simpa using h2
 go_enter func76,ntmps76
 go_wp2_with(first
  |((with_reducible refine HDY.o.mono ?_);rintro e w5 ⟨rfl,hx⟩;have hb:=aI hx;have HB5:=qa (HB2.o.trans (hb.mono HB2.o.size));have HG5:=qa (HG2.o.up hb);have HS5:=qa (qc HS2.o hb.size);have HX5:=qa (HX2.o.up hb);have HT5:=qa (q8x (x:=⟨kd,nn,a,b,c',d,lo,hi⟩) (HT2.o.up hb) (fun b hb=>qe (HA1.o b hb).2 HB5.o.size));have hba:=aD w5 (.cells (tmA ⟨kd,nn,a,b,c',d,lo,hi⟩ (.slice o n c)) 55);have HB6:=qa (HB5.o.trans (hba.mono HB5.o.size));have HG6:=qa (HG5.o.up hba);clear hx hb hba)
  |(refine dC rfl (.tmp 1) rfl w.heap.size rfl kd nn a b c' d lo hi (.slice o n c) HX5.o ?_)
  |(refine bT rfl (.tmp 2) (.tmp 22) rfl (w.heap.size+1) rfl ⟨5,1,0,0,0,0,0,0⟩ _ rfl rfl _ HG6.o (show(8:Nat)=8 from rfl) ?_;intro w7 hbx hg;have HX7:=qa hbx;have qcy:=qa hg;clear hbx hg))
 rw[HR.o];exact iY rfl rfl rfl HA1.o HW1.o (HT5.o.mono fun b hb=>hb.imp id (qc HS5.o)) HB6.o qcy.o HX7.o
def bvN(l:List Nat):List Value:=l.map fun n:Nat=>.int .u8 (n:Int)
theorem xD(a b:List Nat):bvN (a++b)=bvN a++bvN b:=by simp[bvN]
theorem kO(a:List Nat):(bvN a).length=a.length:=by simp[bvN]
def pX(l:List Nat):ByteArray:=⟨(l.map UInt8.ofNat).toArray⟩
def By8(l:List Nat):Prop:=∀n∈l,n<256
theorem q0b(l:List Nat):(pX l).size=l.length:=by simp[pX,ByteArray.size]
theorem xE{l:List Nat}(h:By8 l):dG (l.map UInt8.ofNat)=bvN l:=by
 unfold dG bvN;rw[List.map_map];refine List.map_congr_left fun n hn=>?_;have:=h n hn;show Value.int .u8 (((UInt8.ofNat n).toNat:Nat):Int)=_;rw[UInt8.toNat_ofNat',Nat.mod_eq_of_lt (by omega)]
theorem U6{a b:List Nat}(ha:By8 a)(hb:By8 b)(h:pX a=pX b):a=b:=by
 unfold pX at h;injection h with h;have h:=j0 Array.toList h;simp only at h
 have e:∀l:List Nat,By8 l->(l.map UInt8.ofNat).map UInt8.toNat=l:=fun l hl=>by
  rw[List.map_map]
  conv=>rhs;rw[<-List.map_id l]
  refine List.map_congr_left fun n hn=>?_;have:=hl n hn;show(UInt8.ofNat n).toNat=n;rw[UInt8.toNat_ofNat',Nat.mod_eq_of_lt (by omega)]
 rw[<-e a ha,<-e b hb,h]
theorem U7{a b:List Nat}(ha:By8 a)(hb:By8 b):By8 (a++b):=fun n hn=>(List.mem_append.1 hn).elim (ha n) (hb n)
theorem q2o{x:Nd}(hx:1<=x.kd/\x.kd<=8):By8 (pD x):=by
 intro n hn
 have hw:∀z,∀m∈l9 z,m<256:=fun z m hm=>by
  unfold l9 at hm;obtain⟨i,-,rfl⟩:=List.mem_map.1 hm;exact jW _ (by decide)
 unfold pD at hn;rcases List.mem_cons.1 hn with rfl|hn
 ·omega
 rcases List.mem_append.1 hn with hn|hn
 ·split at hn
  ·simp only[List.mem_append]at hn
   rcases hn with((hn|hn)|hn)|hn<;>exact hw _ _ hn
  cases hn
 simp only[jM,List.not_mem_nil,or_false]at hn;unfold b8 at hn;rcases hn with rfl|rfl|rfl<;>omega
theorem E1:∀f,mM OkT f->By8 (txF f)
 |.nil,_=>fun n hn=>by cases hn
 |.cons x k r,h=>by
  rw[txF];refine U7 (q2o h.1.1) (U7 (E1 k h.2.1) fun n hn=>?_);rcases List.mem_cons.1 hn with rfl|hn
  ·decide
  exact E1 r h.2.2 n hn
theorem q2p(x:Nd):(pD x).length<=36:=by
 unfold pD;rw[qA,qj];split<;>simp[oD]
theorem q0c:∀f,(txF f).length<=37*szF f
 |.nil=>qb _
 |.cons x k r=>by
  have h1:=q2p x;have h2:=q0c k;have h3:=q0c r;rw[txF,szF,qj,qj,qA];omega
abbrev txT(x:Nd)(k:Fo):List Nat:=txF (.cons x k .nil)
theorem q5c(x:Nd)(k r:Fo):txF (.cons x k r)=txT x k++txF r:=by
 show pD x++(txF k++41::txF r)=(pD x++(txF k++41::[]))++txF r;simp
def U8(x:Nd)(i:Nat):Int:=if i=0 then x.a else if i=1 then x.b else if i=2 then x.c else x.d
def q3Z(x:Nd)(i:Nat):List Nat:=((List.range i).map fun q=>l9 (U8 x q)).flatten
theorem rF(x:Nd)(i:Nat):q3Z x (i+1)=q3Z x i++l9 (U8 x i):=by
 unfold q3Z;rw[jz,qH,jy];simp
theorem q7u(x:Nd):q3Z x 4=l9 x.a++l9 x.b++l9 x.c++l9 x.d:=by
 rw[rF x 3,rF x 2,rF x 1,rF x 0];rfl
def q0d(z:Int)(i:Nat):List Nat:=(List.range i).map fun q=>z.toNat/256^q%256
theorem q3q(z:Int)(i:Nat):q0d z (i+1)=q0d z i++[z.toNat/256^i%256]:=by
 unfold q0d;rw[jz,qH];rfl
theorem q5d(z:Int):q0d z 8=l9 z:=rfl
theorem q0e{z:Int}(h:0<=z)(i:Nat):z/2^(8*i)%256=((z.toNat/256^i%256:Nat):Int):=by
 obtain⟨n,rfl⟩:=jH h;have e:(256:Nat)^i=2^(8*i):=by rw[Nat.pow_mul]
 rw[qD,e,Int.natCast_emod,Int.natCast_ediv,Int.natCast_pow]
 rfl
def q5e(l:List Nat)(w:World)(e:Ending)(w':World):Prop:=e=.returned (.string (pX l))/\Below w.heap.size w w'
theorem rG(w:World)(z:Int)(h:0<=z/\z<256):Own (w.alloc (.cells #[.int .u8 z] 5)) w.heap.size 5 (.slice (some ⟨w.heap.size,0,none⟩) 1 1) (bvN [z.toNat]):=by
 have h1:=cN w w.heap.size #[.int .u8 z] 5 (show(1:Nat)<=4294967296 by decide) (qb _)
 have e:bvN [z.toNat]=[.int .u8 z]:=by
  show [Value.int .u8 ((z.toNat:Nat):Int)]=_;rw[Int.toNat_of_nonneg h.1]
 rw[e];exact h1
theorem q5f(W:World)(x:Nd)(i:Nat)(hi:i<4):(Instr.index 53 (.agg #[.int .u64 x.a,.int .u64 x.b,.int .u64 x.c,.int .u64 x.d]) (.int .i64 (i:Int))).run prog W=.ok (.int .u64 (U8 x i)) W:=by
 rcases(show i=0\/i=1\/i=2\/i=3 by omega)with rfl|rfl|rfl|rfl<;>kernel_rfl
theorem q8y{A:Nat->Prop}:∀(n:Nat) {w:World} {x:Nd} {u:Value} {k:Fo},szF k<n->n<=10000000->OkT x->mM OkT k->bA A w u k->
  Calls prog 50 #[.agg (tmA x u)] w (q5e (txT x k) w):=by
 intro n
 induction n with
 |zero=>intro w x u k h;omega
 |succ n ih=>
  intro w x u k hn hM hx hk h;obtain⟨o,nk,c,rfl,-⟩:=h.form;have HOK:=qa hx;have HB8:Hid (By8 (pD x)):=qa (q2o hx.1);have hkd:=hx.1;have HT:=qa h;have hb1:=aD w (.cells (tmA x (.slice o nk c)) 55);have HX1:=qa (dX w x (.slice o nk c));have HB1:=qa hb1;clear h hb1 hx;obtain⟨kd,nn,a,b,c',d,lo,hi⟩:=x;simp only at hkd;have hq:0<=48+kd/\48+kd<256:=by omega
  have hm:(48+kd)%256=48+kd:=by omega
  obtain⟨T,hT⟩:∃T,T=txT ⟨kd,nn,a,b,c',d,lo,hi⟩ k:=⟨_,rfl⟩;rw[<-hT];have HTE:=qa hT;clear hT;go_enter func50,ntmps50
  go_upto_if 16 with(fail)
  have hs1:(w.alloc (.cells (tmA ⟨kd,nn,a,b,c',d,lo,hi⟩ (.slice o nk c)) 55)).heap.size=w.heap.size+1:=by simp
  have HO2:=qa (rG (w.alloc (.cells (tmA ⟨kd,nn,a,b,c',d,lo,hi⟩ (.slice o nk c)) 55)) (48+kd) hq);have hb2:=aD (w.alloc (.cells (tmA ⟨kd,nn,a,b,c',d,lo,hi⟩ (.slice o nk c)) 55)) (.cells #[.int .u8 (48+kd)] 5);rw[hs1]at HO2;have HX2:=qa (HX1.o.up hb2);have HB2:=qa (HB1.o.trans (hb2.mono HB1.o.size));have HS2:Hid (w.heap.size+1<=((w.alloc (.cells (tmA ⟨kd,nn,a,b,c',d,lo,hi⟩ (.slice o nk c)) 55)).alloc (.cells #[.int .u8 (48+kd)] 5)).heap.size):=qa (by simp);generalize (w.alloc (.cells (tmA ⟨kd,nn,a,b,c',d,lo,hi⟩ (.slice o nk c)) 55)).alloc (.cells #[.int .u8 (48+kd)] 5)=w2 at*;obtain⟨B,hB⟩:∃B,B=w.heap.size+1:=⟨_,rfl⟩;rw[<-hB]at HO2 HS2⊢;have HBB:Hid (w.heap.size<B):=qa (by omega);have HFR:Hid (pD ⟨kd,nn,a,b,c',d,lo,hi⟩=((48+kd).toNat::(if kd=1 then l9 a++l9 b++l9 c'++l9 d else []))++[b8 lo,b8 hi,40]):=qa rfl;obtain⟨F,hF⟩:∃F,F=(48+kd).toNat::(if kd=1 then l9 a++l9 b++l9 c'++l9 d else []):=⟨_,rfl⟩;rw[<-hF]at HFR;have HF:=qa hF;clear hB hF hs1 hb2 HB1 HX1
  go_cut [3] (fun bv wx=>Own wx B 5 bv (bvN F)/\kH wx w.heap.size (tmC ⟨kd,nn,a,b,c',d,lo,hi⟩ (.slice o nk c))/\Below w.heap.size w wx/\B<=wx.heap.size)
  case first=>
   by_cases h1:kd=1
   ·have HF1:Hid (F=[49]++q3Z ⟨kd,nn,a,b,c',d,lo,hi⟩ 4):=qa (by rw[HF.o,qw h1,h1,q7u];rfl)
    subst h1;have HCL:Hid (∀i:Nat,i<4->∀W,(Instr.index 53 (.agg #[.int .u64 a,.int .u64 b,.int .u64 c',.int .u64 d]) (.int .i64 (i:Int))).run prog W=.ok (.int .u64 (U8 ⟨1,nn,a,b,c',d,lo,hi⟩ i)) W):=qa (fun i hq W=>q5f W ⟨1,nn,a,b,c',d,lo,hi⟩ i hq)
    have HWQ:Hid (∀i,0<=U8 ⟨1,nn,a,b,c',d,lo,hi⟩ i):=qa (fun i=>by
     obtain⟨q1,q2,q3,q4⟩:=HOK.o.2.2.1;unfold U8;(repeat' split)<;>first|exact q1.1|exact q2.1|exact q3.1|exact q4.1)
    have HSU:=qa (rF ⟨1,nn,a,b,c',d,lo,hi⟩);have c0:=HX2.o.cell (i:=0) (show(0:Nat)<8 by decide);have c1:=HX2.o.cell (i:=1) (show(1:Nat)<8 by decide);have c2:=HX2.o.cell (i:=2) (show(2:Nat)<8 by decide);have c3:=HX2.o.cell (i:=3) (show(3:Nat)<8 by decide);have c4:=HX2.o.cell (i:=4) (show(4:Nat)<8 by decide);simp only[tmC,ja,List.getD_cons_succ]at c0 c1 c2 c3 c4
    go_wp2_with(fail)
    go_loopg [3,19] 5 (fun gk bv iv wr=>∃i:Nat,iv=.int .i64 i/\i<=4/\Own wr B 5 bv (bvN ([49]++q3Z ⟨1,nn,a,b,c',d,lo,hi⟩ i))/\kH wr w.heap.size (tmC ⟨1,nn,a,b,c',d,lo,hi⟩ (.slice o nk c))/\Below w.heap.size w wr/\B<=wr.heap.size/\gk=5-i)
    case atStart=>exact⟨0,rfl,qd _,HO2.o,HX2.o,HB2.o,HS2.o,rfl⟩
    case round=>
     obtain⟨i,rfl,hi4,hO,hX,hBl,hS,hgk⟩:=hrel;have HO:=qa hO;have HX:=qa hX;have HB:=qa hBl;have HS:=qa hS;have HGK:=qa hgk;clear hO hX hBl hS hgk HO2 HX2 HB2 HS2 c0 c1 c2 c3 c4;by_cases hlt:i<4
     ·have hcell:=HCL.o i hlt
      have hd4:decide ((i:Int)<4)=true:=qz (by omega);have hw0:=HWQ.o i;have HSI:Hid (q3Z ⟨1,nn,a,b,c',d,lo,hi⟩ (i+1)=q3Z ⟨1,nn,a,b,c',d,lo,hi⟩ i++l9 (U8 ⟨1,nn,a,b,c',d,lo,hi⟩ i)):=qa (HSU.o i);generalize U8 ⟨1,nn,a,b,c',d,lo,hi⟩ i=W at*
      go_wp2_with(fail)
      generalize wr=wo at*
      go_loopg [3,22] 9 (fun gk bv jv wr=>∃j:Nat,jv=.int .i64 j/\j<=8/\Own wr B 5 bv (bvN ([49]++q3Z ⟨1,nn,a,b,c',d,lo,hi⟩ i++q0d W j))/\kH wr w.heap.size (tmC ⟨1,nn,a,b,c',d,lo,hi⟩ (.slice o nk c))/\Below w.heap.size w wr/\B<=wr.heap.size/\gk=9-j)
      case atStart=>exact⟨0,rfl,qd _,by simpa[q0d]using HO.o,HX.o,HB.o,HS.o,rfl⟩
      case round=>
       obtain⟨j,rfl,hj8,hO,hX,hBl,hS,hgk⟩:=hrel;have HO1:=qa hO;have HX1:=qa hX;have HB1:=qa hBl;have HS1:=qa hS;have qlf:=qa hgk;clear hO hX hBl hS hgk HO HX HB HS;by_cases qcC:j<8
       ·have hz0:0<=W/2^(8*j)%256/\W/2^(8*j)%256<256:=⟨Int.emod_nonneg _ (by decide),Int.emod_lt_of_pos _ (by decide)⟩
        have HV:Hid ((W/2^(8*j)%256).toNat=W.toNat/256^j%256):=qa (by rw[q0e hw0 j];exact qD _);have HL:=qa (rG wr (W/2^(8*j)%256) hz0);rw[HV.o]at HL;have hb5:=aD wr (.cells #[.int .u8 (W/2^(8*j)%256)] 5);have HO4:=qa (HO1.o.up hb5);have HX4:=qa (HX1.o.up hb5);have HB4:=qa (HB1.o.trans (hb5.mono HB1.o.size));have HS4:=qa (qc HS1.o hb5.size)
        have HLE:Hid ((bvN ([49]++q3Z ⟨1,nn,a,b,c',d,lo,hi⟩ i++q0d W j)).length+(bvN [W.toNat/256^j%256]).length<=4294967296):=qa (by
         have h1:(q3Z ⟨1,nn,a,b,c',d,lo,hi⟩ i).length=8*i:=by
          unfold q3Z
          have:∀n,(((List.range n).map fun q=>l9 (U8 ⟨1,nn,a,b,c',d,lo,hi⟩ q)).flatten).length=8*n:=by
           intro n
           induction n with
           |zero=>rfl
           |succ n ih=>rw[jz,qH,jy,qj,ih];simp[oD];omega
          exact this i
         rw[kO,kO];simp only[qj,qE,h1,q0d,qB,List.length_range];omega)
        clear hb5 HO1 HX1 HB1 HS1
        go_wp2_with(at_builtin;refine bF rfl (.tmp 25) (.tmp 32) 58 rfl B 5 (.int .u8 0) 1 underlying58 (by kernel_rfl) rfl (by decide) _ _ rfl HO4.o _ _ rfl HL.o.sl (by intro u hu;simp only[bvN,qJ,ju,jg]at hu;subst hu;rfl) HLE.o HS4.o ?_;intro v5 w5 hown1 hg1 hk1;have HO5:=qa hown1;have HX5:=qa (HX4.o.keep hg1 (.inr (fun e=>by have h1:=(HO4.o.lt w.heap.size e.symm).1;have h2:=HBB.o;omega)));have HB5:=qa (HB4.o.grown hg1 HB4.o.size (fun q e=>qc (jq HBB.o) (HO4.o.lt q e).1));have HS5:=qa (qc HS4.o hg1.size);clear hown1 hg1 hk1)
        go_roundg (9-(j+1))
        case measure=>have:=qlf.o;omega
        case rel=>exact⟨j+1,by go_num,by omega,by rw[q3q,<-qk,xD];exact HO5.o,HX5.o,HB5.o,HS5.o,rfl⟩
       obtain rfl:j=8:=by omega
       go_wp2
       go_roundg (5-(i+1))
       case measure=>have:=HGK.o;omega
       case rel=>exact⟨i+1,by go_num,by omega,by rw[HSI.o,<-qk,<-q5d];exact HO1.o,HX1.o,HB1.o,HS1.o,rfl⟩
     obtain rfl:i=4:=by omega
     go_wp2
     go_meet
     case rel=>exact⟨by rw[HF1.o];exact HO.o,HX.o,HB.o,HS.o⟩
   have HF1:Hid (F=[(48+kd).toNat]):=qa (by rw[HF.o,qv h1]);have q1:(kd==1)=false:=by simpa using h1
   have c0:=HX2.o.cell (i:=0) (show(0:Nat)<8 by decide);simp only[tmC,ja]at c0;go_wp2
   go_meet
   case rel=>exact⟨by rw[HF1.o];exact HO2.o,HX2.o,HB2.o,HS2.o⟩
  case rest=>
   obtain⟨hO,hX,hBl,hS⟩:=hcut;have HO:=qa hO;have HX:=qa hX;have HB:=qa hBl;have HS:=qa hS;clear hO hX hBl hS HO2 HX2 HB2 HS2 hq hm;have c5:=HX.o.cell (i:=5) (show(5:Nat)<8 by decide);have c6:=HX.o.cell (i:=6) (show(6:Nat)<8 by decide);simp only[tmC,ja,List.getD_cons_succ]at c5 c6
   have HXA:Hid (Sl (wc.alloc (.cells #[.int .u8 (lo%256),.int .u8 (hi%256),.int .u8 40] 5)) (.slice (some ⟨wc.heap.size,0,none⟩) 3 3) (bvN [b8 lo,b8 hi,40])):=qa (by
    have h1:=eK wc #[.int .u8 (lo%256),.int .u8 (hi%256),.int .u8 40] 5 (show(3:Nat)<=4294967296 by decide)
    have e:bvN [b8 lo,b8 hi,40]=[.int .u8 (lo%256),.int .u8 (hi%256),.int .u8 40]:=by
     simp only[bvN,qJ,ju,b8];rw[Int.toNat_of_nonneg (Int.emod_nonneg _ (by decide)),Int.toNat_of_nonneg (Int.emod_nonneg _ (by decide))];rfl
    rw[e];exact h1)
   have hb3:=aD wc (.cells #[.int .u8 (lo%256),.int .u8 (hi%256),.int .u8 40] 5);have HO3:=qa (HO.o.up hb3);have HX3:=qa (HX.o.up hb3);have HB3:=qa (HB.o.trans (hb3.mono HB.o.size));have HS3:=qa (qc HS.o hb3.size);have HHL:=qa (q2p ⟨kd,nn,a,b,c',d,lo,hi⟩)
   have HLE:Hid ((bvN F).length+(bvN [b8 lo,b8 hi,40]).length<=4294967296):=qa (by
    have:=HHL.o;rw[HFR.o,qj]at this;rw[kO,kO];omega)
   clear hb3 HO HX HB HS HF
   go_wp2_with(at_builtin;refine bF rfl (.tmp 36) (.tmp 43) 58 rfl B 5 (.int .u8 0) 1 underlying58 (by kernel_rfl) rfl (by decide) _ _ rfl HO3.o _ _ rfl HXA.o (by intro u hu;simp only[bvN,qJ,ju,jM,List.not_mem_nil,or_false]at hu;rcases hu with rfl|rfl|rfl<;>rfl) HLE.o HS3.o ?_;intro v5 w5 hown1 hg1 hk1;have HO5:=qa hown1;have HX5:=qa (HX3.o.keep hg1 (.inr (fun e=>by have h1:=(HO3.o.lt w.heap.size e.symm).1;have h2:=HBB.o;omega)));have HB5:=qa (HB3.o.grown hg1 HB3.o.size (fun q e=>qc (jq HBB.o) (HO3.o.lt q e).1));have HS5:=qa (qc HS3.o hg1.size);have c7:=HX5.o.cell (i:=7) (show(7:Nat)<8 by decide);simp only[tmC,ja,List.getD_cons_succ]at c7;clear hown1 hg1 hk1)
   have HTX:Hid (pD ⟨kd,nn,a,b,c',d,lo,hi⟩++txF k++[41]=txT ⟨kd,nn,a,b,c',d,lo,hi⟩ k):=qa (by show _=pD ⟨kd,nn,a,b,c',d,lo,hi⟩++(txF k++41::[]);rw[qk]);have HLT:Hid ((pD ⟨kd,nn,a,b,c',d,lo,hi⟩).length+37*szF k<=370000000):=qa (by have:=HHL.o;omega);have HO6:Hid (Own w5 B 5 v5 (bvN (pD ⟨kd,nn,a,b,c',d,lo,hi⟩))):=qa (by rw[HFR.o,xD];exact HO5.o);have qjv:=HB8;generalize pD ⟨kd,nn,a,b,c',d,lo,hi⟩=H at*;rw[<-HTE.o]at HTX;obtain⟨rs,oa,cap,bb,off,hv,hd,hw⟩:=HT.o.walk;injection hv with e1 e2 e3;subst e1;subst e3;rw[<-e2]at hd hw;have HIX:=qa (fE hd);have HW:=qa hw;have hmx:=hd.len;have HR0:Hid (cA A w (rs.drop 0) k):=qa hw.rows;have HAK:=qa hk;have HSK:Hid (szF k<=n):=qa (by omega);have IH:Hid (∀(W:World) (y:Nd) (v:Value) (j:Fo),szF j<n->OkT y->mM OkT j->bA A W v j->Calls prog 50 #[.agg (tmA y v)] W (q5e (txT y j) W)):=qa (fun W y v j hj h1 h2 h3=>ih hj (by omega) h1 h2 h3);clear hd hw e2 hk ih HTE HO5 HFR HT HX5 c7 HHL HLE HOK
   go_loopg [3,48] nk (fun gk bv iv wr=>∃(i:Nat) (acc:List Nat) (r:Fo),iv=.int .i64 i/\i<=nk/\Own wr B 5 bv (bvN acc)/\Hid (acc++txF r++[41]=T)/\Hid (By8 acc)/\acc.length+37*szF r<=370000000/\szF r<=n/\mM OkT r/\cA A w (rs.drop i) r/\Below w.heap.size w wr/\B<=wr.heap.size/\gk=nk-i)
   case atStart=>exact⟨0,_,k,rfl,qd _,HO6.o,HTX,qjv,HLT.o,HSK.o,HAK.o,HR0.o,HB5.o,HS5.o,rfl⟩
   case round=>
    obtain⟨i,acc,r,rfl,hi',hO,HV,H8,hlen,hsz,hok,hrr,hBl,hSl,hgk⟩:=hrel;have HSR:=qa hSl;have HO:=qa hO;have HBL:=qa hBl;have HGK:=qa hgk;have HRR:=qa hrr;have HLN:=qa hlen;have HSZ:=qa hsz;have qeD:=qa hok;clear hO hBl hSl hgk hrr hlen hsz hok HR0 HAK HSK HLT HO6 HTX qjv;by_cases hlt:i<nk
    ·have qcB:=fun W=>HIX.o W i hlt
     obtain⟨y,oj,nj,cj,j,r',hre,ht,hrr,hcc⟩:=HW.o.next HRR.o hlt HBL.o;subst hre;have HCW:=qa hcc;have qcF:=qa hrr;have HBX:=qa (dX wr y (.slice oj nj cj));have hbn:=aD wr (.cells (tmA y (.slice oj nj cj)) 55);have HBA:=qa (HBL.o.trans (hbn.mono HBL.o.size));have HO2:=qa (HO.o.up hbn);have HSA:=qa (qc HSR.o hbn.size);obtain⟨o1,o2,o3⟩:=qeD.o;have qem:=qa o3;have hz1:=HSZ.o;rw[szF]at hz1;have qcQ:Hid (szF r'<=n):=qa (by omega);have HTT:=qa (IH.o (wr.alloc (.cells (tmA y (.slice oj nj cj)) 55)) y (.slice oj nj cj) j (by omega) o1 o2 (ht.up HBA.o));have HV2:Hid ((acc++txT y j)++txF r'++[41]=T):=qa (by rw[<-HV.o,q5c y j r'];simp only[qk]);have H8J:Hid (By8 (txT y j)):=qa (E1 (.cons y j .nil) ⟨o1,o2,trivial⟩);have HLJ:=qa (q0c (.cons y j .nil));have HL2:Hid ((acc++txT y j).length+37*szF r'<=370000000):=qa (by have h1:(txT y j).length<=37*(1+szF j):=HLJ.o;have h2:=HLN.o;rw[szF]at h2;rw[qj];omega);have H82:=qa (U7 H8.o H8J.o);obtain⟨tx,htx⟩:∃tx,tx=txT y j:=⟨_,rfl⟩;rw[<-htx]at HTT HV2 H8J HL2 H82;have HBY:=qa (xE H8J.o);have HSL:Hid ((bvN acc).length+(pX tx).size<=4294967296):=qa (by rw[kO,q0b];have:=HL2.o;rw[qj]at this;omega);clear hrr hcc HIX HRR HBL HO hbn ht o1 o2 o3 hz1 HSZ HLN HV H8 HLJ htx IH qeD;obtain⟨ykd,yn,ya,yb,yc,yd,ylo,yhi⟩:=y
     go_wp2_with(first
      |(refine eA rfl (.tmp 50) rfl bb (off+i*8) rfl ykd yn ya yb yc yd ylo yhi (.slice oj nj cj) HCW.o ?_)
      |(refine dC rfl (.tmp 8) rfl wr.heap.size rfl ykd yn ya yb yc yd ylo yhi (.slice oj nj cj) HBX.o ?_)
      |((with_reducible refine HTT.o.mono ?_);rintro e w6 ⟨rfl,hb⟩;have HO6:=qa (HO2.o.up hb);have HB6:=qa (HBA.o.trans (hb.mono HBA.o.size));have HS6:Hid (B<=w6.heap.size):=qa (qc HSA.o hb.size);clear hb)
      |(at_builtin;refine J1 rfl (.tmp 52) (.tmp 54) 58 9 rfl B 5 (.int .u8 0) 1 underlying58 underlying9 (by kernel_rfl) rfl (by decide) _ _ rfl HO6.o (pX tx) rfl HSL.o HS6.o ?_;intro v7 w7 hown hg hk;rw[show dG (pX tx).data.toList=bvN tx from HBY.o,<-xD]at hown;have HO7:=qa hown;have HB7:=qa (HB6.o.grown hg HB6.o.size (fun q e=>qc (jq HBB.o) (HO6.o.lt q e).1));have HS7:=qa (qc HS6.o hg.size);clear hown hg hk))
     go_roundg (nk-(i+1))
     case measure=>have:=HGK.o;omega
     case rel=>exact⟨i+1,_,r',by go_num,by omega,HO7.o,HV2,H82,HL2.o,qcQ.o,qem.o,qcF.o,HB7.o,HS7.o,rfl⟩
    have hr0:=HRR.o.done (by rw[HW.o.len];omega);subst hr0;have HE:Hid (acc++[41]=T):=qa (by have:=HV.o;rwa [txF,j7]at this);have HX9:=qa (rG wr 41 (by decide));have hb9:=aD wr (.cells #[.int .u8 41] 5);have HO9:=qa (HO.o.up hb9);have HB9:=qa (HBL.o.trans (hb9.mono HBL.o.size));have HS9:Hid (B<=(wr.alloc (.cells #[.int .u8 41] 5)).heap.size):=qa (qc HSR.o hb9.size);have qlc:Hid ((bvN acc).length+(bvN [41]).length<=4294967296):=qa (by rw[kO,kO];have:=HLN.o;simp only[qE];omega);have H8T:Hid (By8 T):=qa (by rw[<-HE.o];exact U7 H8.o (fun n hn=>by rw[List.mem_singleton.1 hn];decide));have HCV:Hid (∀W v,Sl W v (bvN T)->(convert 58 9 v).run prog W=.ok (.string (pX T)) W):=qa (fun W v hv=>fW (P:=prog) W 58 9 5 underlying58 underlying5 underlying9 v _ (by rw[xE H8T.o];exact hv));clear hb9 HO HBL HV H8 HRR HIX IH
    go_wp2_with(first
     |(at_builtin;refine bF rfl (.tmp 57) (.tmp 58) 58 rfl B 5 (.int .u8 0) 1 underlying58 (by kernel_rfl) rfl (by decide) _ _ rfl HO9.o _ (bvN [41]) rfl HX9.o.sl (by intro u hu;simp only[bvN,qJ,ju,jg]at hu;subst hu;rfl) qlc.o HS9.o ?_;intro v7 w7 hown hg hk;rw[<-xD,HE.o]at hown;have hcv:=HCV.o w7 v7 hown.sl;have qgk:=qa (HB9.o.grown hg HB9.o.size (fun q e=>qc (jq HBB.o) (HO9.o.lt q e).1));clear hown hg hk))
    go_ret;exact⟨rfl,qgk.o⟩
theorem q9h{A:Nat->Prop}:∀(n:Nat) {w:World} {x:Nd} {u:Value} {k:Fo},szF k<n->bA A w u k->
  Calls prog 43 #[.agg (tmA x u)] w fun e w'=>e=.returned (.bool (L1 x (tJ k)))/\∃x,w'=ext w x:=by
 intro n
 induction n with
 |zero=>intro w x u k h;omega
 |succ n ih=>
  intro w x u k hn h;obtain⟨rs,oa,cap,b,off,rfl,hd,hw⟩:=h.walk;have HIX:=qa (fE hd);have HW:=qa hw;have hm:=hd.len;obtain⟨S,hS⟩:∃S,S=L1 x (tJ k):=⟨_,rfl⟩;have HS:=qa hS;rw[<-hS];have HR0:Hid (cA A w (rs.drop 0) k):=qa hw.rows;have IH:Hid (∀(W:World) (y:Nd) (v:Value) (j:Fo),szF j<n->bA A W v j->Calls prog 43 #[.agg (tmA y v)] W fun e w'=>e=.returned (.bool (L1 y (tJ j)))/\∃x,w'=ext W x):=qa (fun W y v j hj hT=>ih hj hT);have HP:Hid (szF k<=n):=qa (by omega);generalize cnt k=m at*;rcases hp:tJ k with⟨p,q⟩;rw[hp]at HS;have HPQ:=qa hp;clear hd hw h hS ih hp;obtain⟨kd,nn,a,b',c,d,lo,hi⟩:=x;go_enter func43,ntmps43;go_wp2;have HB0:=qa (aD w (.cells (tmA ⟨kd,nn,a,b',c,d,lo,hi⟩ (.slice oa m cap)) 55))
  go_loopg [3,4,11] m (fun gk av sv iv wr=>∃(i:Nat) (al so:Bool) (r:Fo),iv=.int .i64 i/\i<=m/\av=.bool al/\sv=.bool so/\Hid ((al&&(tJ r).1)=p/\(so||(tJ r).2)=q)/\szF r<=n/\cA A w (rs.drop i) r/\Below (w.heap.size+1) (w.alloc (.cells (tmA ⟨kd,nn,a,b',c,d,lo,hi⟩ (.slice oa m cap)) 55)) wr/\gk=m-i)
  case atStart=>exact⟨0,true,false,k,rfl,qd _,rfl,rfl,qa (by rw[HPQ.o];exact⟨j6 _,Bool.false_or _⟩),HP.o,HR0.o,by simpa using qn _ _,rfl⟩
  case round=>
   obtain⟨i,al,so,r,rfl,hi,rfl,rfl,HV,hsz,hrr,hB,hgk⟩:=hrel;have HB:=qa hB;have HBW:=qa (HB0.o.trans (hB.mono (jd _)));have HGK:=qa hgk;have HRR:=qa hrr;have HSZ:=qa hsz;clear hB hgk hrr HR0 hsz;by_cases hlt:i<m
   ·have qcB:=fun W=>HIX.o W i hlt
    obtain⟨y,oj,nj,cj,j,r',hre,ht,hrr,hcc⟩:=HW.o.next HRR.o hlt HBW.o;subst hre;have HCW:=qa hcc;have qcF:=qa hrr;have HBX:=qa (dX wr y (.slice oj nj cj));have hbn:=aD wr (.cells (tmA y (.slice oj nj cj)) 55);have HBA:=qa (HBW.o.trans (hbn.mono HBW.o.size));have qju:=qa (HB.o.trans (hbn.mono (by have:=HB.o.size;simpa using this)));have HNL:=qa (IH.o _ y _ j (by have:=HSZ.o;rw[szF]at this;omega) (ht.up HBA.o));have qcQ:Hid (szF r'<=n):=qa (by have:=HSZ.o;rw[szF]at this;omega);have HV2:Hid ((al&&(L1 y (tJ j)&&(tJ r').1))=p/\(so||(L1 y (tJ j)||(tJ r').2))=q):=HV;clear ht hrr hcc HIX HRR HSZ IH HB HV hbn;generalize L1 y (tJ j)=t at*;obtain⟨ykd,yn,ya,yb,yc,yd,ylo,yhi⟩:=y
    go_upto_region 6 with(first
     |(refine eA rfl (.tmp 13) rfl b (off+i*8) rfl ykd yn ya yb yc yd ylo yhi (.slice oj nj cj) HCW.o ?_)
     |(refine dC rfl (.tmp 6) rfl wr.heap.size rfl ykd yn ya yb yc yd ylo yhi (.slice oj nj cj) HBX.o ?_)
     |((with_reducible refine HNL.o.mono ?_);rintro e w5 ⟨rfl,hx⟩;have HB5:=qa (qju.o.trans ((aI hx).mono (by have:=qju.o.size;simpa using this)));clear hx))
    all_goals(cases al<;>cases so<;>cases t<;>go_wp2<;>go_roundg (m-(i+1)))
    all_goals first
     |(have:=HGK.o;omega)
     |exact⟨i+1,_,_,r',by go_num,by omega,rfl,rfl,qa (by have h1:=HV2.o.1;have h2:=HV2.o.2;simp at h1 h2;simp[h1,h2]),qcQ.o,qcF.o,HB5.o,rfl⟩
   have hr0:=HRR.o.done (by rw[HW.o.len];omega);subst hr0;obtain⟨h1,h2⟩:=HV.o;have e1:al=p:=by simpa[tJ]using h1
   have e2:so=q:=by simpa[tJ]using h2
   subst e1;subst e2;clear h1 h2;have HC0:Hid (wr.cell? ⟨w.heap.size,0,none⟩=some (.int .i64 kd)):=qa (by rw[HB.o.cell (p:=⟨w.heap.size,0,none⟩) (qV _),World.cell?_alloc_new];rfl);have HC5:Hid (wr.cell? ⟨w.heap.size,5,none⟩=some (.int .i64 lo)):=qa (by rw[HB.o.cell (p:=⟨w.heap.size,5,none⟩) (qV _),World.cell?_alloc_new];rfl);have c0:=HC0.o;have c5:=HC5.o;unfold L1 at HS;simp only at HS;cases al<;>go_wp2
   all_goals(go_ret;refine⟨j0 (fun b=>Ending.returned (Value.bool b)) ?_,aJ HBW.o⟩;rw[HS.o];simp only[a7,beq_eq_false_iff_ne]at*;first|(simp[*];done)|(simp[*];rw[jk];simp))
def qa2(N:Nat)(f:Nat->Bool):List Value:=(List.range N).map fun q=>.bool (f q)
def q5D(N:Nat)(G:Nat->Nat->Bool):List (List Value):=(List.range N).map fun p=>qa2 N (G p)
@[simp] theorem q7E(N:Nat)(f:Nat->Bool):(qa2 N f).length=N:=by simp[qa2]
@[simp] theorem q5E(N:Nat)(G:Nat->Nat->Bool):(q5D N G).length=N:=by simp[q5D]
theorem q7F{N:Nat}{f:Nat->Bool}{q:Nat}(h:q<N):(qa2 N f).getD q undef=.bool (f q):=by simp[qa2,List.getD,h]
theorem q5F{N:Nat}{G:Nat->Nat->Bool}{p:Nat}(h:p<N):(q5D N G).getD p []=qa2 N (G p):=by simp[q5D,List.getD,h]
def q5G(w:World)(v:Value)(N:Nat)(G:Nat->Nat->Bool):Prop:=zO w v (q5D N G)
theorem q5G.up{w w':World}{v:Value}{N:Nat}{G:Nat->Nat->Bool}(h:q5G w v N G)(hb:Below w.heap.size w w'):q5G w' v N G:=zO.up h hb
theorem q5G.open{w:World}{v:Value}{N:Nat}{G:Nat->Nat->Bool}(h:q5G w v N G):
  ∃oa cap b off,v=.slice oa N cap/\Hd w oa N cap b off/\∀p,p<N->∃op cp bp fp,w.cell? ⟨b,off+p,none⟩=some (.slice op N cp)/\Hd w op N cp bp fp/\∀q,q<N->w.cell? ⟨bp,fp+q,none⟩=some (.bool (G p q)):=by
 obtain⟨oa,cap,b,off,rfl,hd,hc⟩:=zO.open h;rw[q5E]at hd hc⊢;refine⟨oa,cap,b,off,rfl,hd,fun p hp=>?_⟩;obtain⟨op,cp,bp,fp,h1,h2,h3,-⟩:=hc p hp;rw[q5F hp,q7E]at h1 h2 h3;exact⟨op,cp,bp,fp,h1,h2,fun q hq=>by rw[h3 q hq,q7F hq]⟩
inductive Sta(A:Nat->Nat->Bool)(N p:Nat):Nat->Prop
 |refl:Sta A N p p
 |step {q r:Nat}:Sta A N p q->q<N->r<N->A q r=true->Sta A N p r
theorem Sta.trans{A:Nat->Nat->Bool}{N p q r:Nat}(h:Sta A N p q)(k:Sta A N q r):Sta A N p r:=by
 induction k with
 |refl=>exact h
 |step _ h1 h2 h3 ih=>exact .step ih h1 h2 h3
theorem Sta.lt{A:Nat->Nat->Bool}{N p q:Nat}(h:Sta A N p q)(hp:p<N):q<N:=by
 cases h with
 |refl=>exact hp
 |step _ _ h _=>exact h
def GL(L:Lng)(t:List Nat)(N:Nat)(G:Nat->Nat->Bool):Prop:=∀p r,p<N->r<N->(G p r=true↔p<=r/\L ((t.drop p).take (r-p)))
theorem GL.congr{L L':Lng}{t:List Nat}{N:Nat}{G:Nat->Nat->Bool}(h:GL L t N G)(hl:∀w,L w↔L' w):GL L' t N G:=fun p r hp hr=>(h p r hp hr).trans (and_congr_right fun _=>hl _)
structure q0n(w:World)(v:Value)(l:List Nd)(i:Nat)(x:Nd)(k:Fo):Prop where
 at_:bE w v l
 len:l.length<=400
 drop:∃post,l.drop i=x::(bO k++post)
 n:x.n=cnt k
 wf:wf k
theorem q0n.up{w w':World}{v:Value}{l:List Nd}{i:Nat}{x:Nd}{k:Fo}(h:q0n w v l i x k)(hb:Below w.heap.size w w'):q0n w' v l i x k:=⟨h.at_.up hb,h.len,h.drop,h.n,h.wf⟩
theorem q0n.open{w:World}{v:Value}{l:List Nd}{i:Nat}{x:Nd}{k:Fo}(h:q0n w v l i x k):
  ∃oa cap b off,v=.slice oa l.length cap/\(∀W:World,(Instr.indexAt 42 v (.int .i64 i)).run prog W=.ok (.pointer (some ⟨b,off+i*8,none⟩)) W)/\b<w.heap.size/\∀c,c<8->w.cell? ⟨b,off+i*8+c,none⟩=some ((ndC x).getD c undef):=by
 obtain⟨post,hd0⟩:=h.drop;obtain⟨oa,cap,b,off,rfl,hd,hc⟩:=h.at_.open;obtain⟨hi,hx,-⟩:=gS (d:=zN) hd0;refine⟨oa,cap,b,off,rfl,fun W=>?_,hd.hblk (by omega),fun c hcl=>by rw[hc i hi c hcl,hx]⟩;have:=fG hd W .i64 i (by omega) (by omega);simpa using this
theorem q9r{x:Ed}(h:WQ x.a/\WQ x.b/\WQ x.c/\WQ x.d):qbg x:=fun q=>by
 obtain⟨h1,h2,h3,h4⟩:=h;unfold mG
 (repeat' split)<;>first|exact h1.1|exact h2.1|exact h3.1|exact h4.1
theorem q7G{w:World}{A:Array Value}{e:List (List Ed)}{F:Int}{r:List Int}(h:X4 w A e F r){v:Value}{st:List Int}(hs:eB w v st)(c:Nat)(hc:c<256):
  Calls prog 29 #[.agg A,v,.int .u8 c] w fun en w'=>∃u,en=.returned u/\Own w' w.heap.size 3 u (ints (nz (pW e F r st c)))/\Below w.heap.size w w':=by
 have HH:=qa h;obtain⟨ve,vr,rfl,he,hr⟩:=h;obtain⟨oe,ce,be,fe,rfl,-,-⟩:=he.open;obtain⟨orr,cr,br,fr,rfl,-,-⟩:=hr.open;obtain⟨R,hR⟩:∃R,R=dK e F r:=⟨_,rfl⟩;obtain⟨n,hn⟩:∃n,n=e.length:=⟨_,rfl⟩;obtain⟨m,hm⟩:∃m,m=r.length:=⟨_,rfl⟩;rw[<-hn,<-hm]at HH⊢;have HA:=qa (aD w (.cells #[.slice oe n ce,.int .i64 F,.slice orr m cr] 35));have HRT:=qa (q4r (HH.o.up HA.o));rw[<-hR]at HRT;have HBX:=qa (by simpa using cN w 0 #[.slice oe n ce,.int .i64 F,.slice orr m cr] 35 (by simp) (qd _):Own (w.alloc (.cells #[.slice oe n ce,.int .i64 F,.slice orr m cr] 35)) 0 35 (.slice (some ⟨w.heap.size,0,none⟩) 3 3) [.slice oe n ce,.int .i64 F,.slice orr m cr]);have HS:=qa hs;obtain⟨os,cs,bs,fs,rfl,-,-⟩:=hs.open;clear he hr hs hn hm;cases R with
 |false=>
  have HC:Hid (pW e F r st c=[]):=qa (by unfold pW;rw[qv (by rw[<-hR];decide)]);clear hR;go_enter func29,ntmps29
  go_wp2_with((with_reducible go_at_call 60);refine HRT.o.mono ?_;rintro en w2 ⟨rfl,x2,rfl⟩)
  go_ret;exact⟨_,rfl,by rw[HC.o];exact Own.nil _ _ _,HA.o.trans ((aE _ x2).mono HA.o.size)⟩
 |true=>
  have HC:Hid (pW e F r st c=tI e st c):=qa (by unfold pW;rw[qw hR.symm]);have HRR:=qa hR.symm;clear hR;go_enter func29,ntmps29
  go_wp2_with(first
   |((with_reducible go_at_call 60);refine HRT.o.mono ?_;rintro en w2 ⟨rfl,x2,rfl⟩;have HB2:=qa (HA.o.trans ((aE _ x2).mono HA.o.size));have qcP:=qa (HBX.o.up (aE _ x2));generalize ext (w.alloc (.cells #[.slice oe n ce,.int .i64 F,.slice orr m cr] 35)) x2=w2 at*;have c0:=qcP.o.cell (i:=0) (by simp);have c1:=qcP.o.cell (i:=1) (by simp);have c2:=qcP.o.cell (i:=2) (by simp);simp only[ja,List.getD_cons_succ]at c0 c1 c2;have hp:=qcP.o.blk.2)
   |(refine aH rfl 35 _ rfl w.heap.size 0 3 rfl _ _ (pR qcP.o) rfl underlying35 rfl (by kernel_rfl) ?_)
   |((with_reducible go_at_call 65);refine(qbh (HH.o.up HB2.o) HRR.o (HS.o.up HB2.o) c hc).mono ?_;rintro en w3 ⟨u3,rfl,ho,hb⟩;have HO:=qa ho;have HB3:=qa (HB2.o.trans (hb.mono HB2.o.size));clear ho hb))
  go_ret;exact⟨_,rfl,by rw[HC.o];exact HO.o.mono HB2.o.size,HB3.o⟩
def sK(n:Int):UInt8:=UInt8.ofNat (n%256).toNat
theorem M9(n:Int):((sK n).toNat:Int)=n%256:=by
 have h2:(n%256).toNat<256:=by omega
 simp[sK];omega
def iV(n:Nat):List UInt8:=[sK n,sK (n/256)]
theorem q0o{a b:Nat}(ha:a<65536)(hb:b<65536)(h:iV a=iV b):a=b:=by
 simp only[iV,List.cons.injEq,and_true]at h;have h1:=j0 (fun x:UInt8=>(x.toNat:Int)) h.1;have h2:=j0 (fun x:UInt8=>(x.toNat:Int)) h.2;simp only[M9]at h1 h2;omega
def iA(l:List Nat):List UInt8:=l.flatMap iV
theorem rK(l:List Nat):(iA l).length=2*l.length:=by
 induction l with
 |nil=>rfl
 |cons a l ih=>simp only[iA,List.flatMap_cons,qj,qA]at ih⊢;rw[ih];simp[iV];omega
theorem q0p:∀{l m:List Nat},(∀x∈l,x<65536)->(∀x∈m,x<65536)->iA l=iA m->l=m
 |[],[],_,_,_=>rfl
 |[],b::m,_,_,h=>by have:=j0 List.length h;simp[rK]at this
 |a::l,[],_,_,h=>by have:=j0 List.length h;simp[rK]at this
 |a::l,b::m,ha,hb,h=>by
  simp only[iA,List.flatMap_cons]at h;obtain⟨h1,h2⟩:=List.append_inj h (by simp[iV]);rw[q0o (ha a (by simp)) (hb b (by simp)) h1,q0p (fun x hx=>ha x (by simp[hx])) (fun x hx=>hb x (by simp[hx])) h2]
theorem E8(n:Nat):dG (iV n)=[.int .u8 ((n:Int)%256),.int .u8 ((n:Int)/256%256)]:=by simp[dG,iV,M9]
theorem q5H{w:World}{v:Value}{l:List Nat}(h:eB w v (nz l))(hl:l.length<=100000):
  Calls prog 62 #[v] w fun e w'=>e=.returned (.string ⟨(iA l).toArray⟩)/\∃x,w'=ext w x:=by
 obtain⟨oa,cap,b,off,rfl,hd,hc⟩:=h.open;rw[zT]at hd hc⊢;have hix:=fun(W:World) (i:Nat) (hi:i<l.length)=>aT (P:=prog) 27 3 underlying27 (by kernel_rfl) hd W .i64 i (by omega) (by omega);simp only[qD]at hix;have hb:=hd.hblk;have HC:=qa hc;obtain⟨n,hn⟩:∃n,n=l.length:=⟨_,rfl⟩;have HN:=qa hn;rw[<-hn]at hix hb HC hl⊢;clear hd hc h hn;go_enter func62,ntmps62;go_wp2
 go_loopg [3,8] n (fun gk vb iv wr=>∃k:Nat,iv=.int .i64 k/\k<=n/\Own wr w.heap.size 5 vb (dG (iA (l.take k)))/\Below w.heap.size w wr/\gk=n-k)
 case atStart=>exact⟨0,rfl,qd _,Own.nil _ _ _,qn _ _,rfl⟩
 case round=>
  obtain⟨k,rfl,hk,hown,qcw,rfl⟩:=hrel;have HO:=qa hown;have HB:=qa qcw;clear hown qcw;by_cases hlt:k<n
  ·have hcell:=HC.o k hlt
   rw[zU _ _ (by rw[<-HN.o];exact hlt)]at hcell;have hb1:=hb (by omega);have hcw:=(HB.o.cell (p:=⟨b,off+k,none⟩) hb1).trans hcell;have hbw:b<wr.heap.size:=by have:=HB.o.size;omega
   have qd5:=fun W=>hix W k hlt
   have HT:Hid (dG (iA (l.take (k+1)))=dG (iA (l.take k))++dG (iV (l.getD k 0))):=qa (by
    rw[<-vD,aV l k 0 (by rw[<-HN.o];exact hlt)];simp[iA])
   have HLE:Hid ((dG (iA (l.take k))).length<=200000):=qa (by rw[i9,rK,qX];omega);generalize l.getD k 0=y at*;generalize dG (iA (l.take k))=bs at*;have hlW:=qa (aD wr (.cells #[.int .u8 ((y:Int)%256),.int .u8 ((y:Int)/256%256)] 5));have HX:Hid (Sl (wr.alloc (.cells #[.int .u8 ((y:Int)%256),.int .u8 ((y:Int)/256%256)] 5)) (.slice (some ⟨wr.heap.size,0,none⟩) 2 2) (dG (iV y))):=qa (by rw[E8];simpa using eK wr #[.int .u8 ((y:Int)%256),.int .u8 ((y:Int)/256%256)] 5 (by simp));have HT1:=qa (HO.o.up hlW.out);have HT3:Hid (bs.length+(dG (iV y)).length<=4294967296):=qa (by have:=HLE.o;rw[E8];simp;omega);have HT4:Hid (w.heap.size<=(wr.alloc (.cells #[.int .u8 ((y:Int)%256),.int .u8 ((y:Int)/256%256)] 5)).heap.size):=qa (qc HB.o.size hlW.out.size);clear hcell
   go_wp2_with(at_builtin;refine bF rfl (.tmp 12) (.tmp 18) 58 rfl w.heap.size 5 (.int .u8 0) 1 underlying58 (by kernel_rfl) rfl (by decide) u3 bs rfl HT1.o (.slice (some ⟨wr.heap.size,0,none⟩) 2 2) (dG (iV y)) rfl HX.o (M5 _) HT3.o HT4.o ?_;intro v' w5 hown1 hg1 hk1;have HO5:=qa hown1;have HG1:=qa hg1;clear hown1 hg1 hk1;have HB5:=qa (eO (HB.o.trans (hlW.out.mono HB.o.size)) HT4.o HT1.o HG1.o))
   go_roundg (n-(k+1))
   case measure=>omega
   case rel=>exact⟨k+1,by go_num,by omega,by rw[HT.o];exact HO5.o,HB5.o,rfl⟩
  have hke:k=n:=by omega
  subst hke;have hcv:=fW (P:=prog) wr 58 9 5 underlying58 underlying5 underlying9 u3 _ HO.o.sl;rw[HN.o,j3]at hcv;go_wp2;go_ret;exact⟨rfl,aJ HB.o⟩
end Go.Cm
namespace Go.Cm
open Go.RowKit Go.Proofs Go.Maps
theorem rL:Keyed prog 9:=string_keyed underlying9
theorem pH(w:World):(zeroValue 3).run prog w=.ok (.int .i64 0) w:=by kernel_rfl
theorem xI.has_yes{α:Type} [DecidableEq α]{lit:α->Lit}{D:DataW Unit}{ks:List α}(h:xI lit D ks){k:α}(hk:k∈ks):Maps.has D (lit k)=true:=(h.2.2.1 k).trans (qz hk)
theorem xI.has_no{α:Type} [DecidableEq α]{lit:α->Lit}{D:DataW Unit}{ks:List α}(h:xI lit D ks){k:α}(hk:k∉ks):Maps.has D (lit k)=false:=(h.2.2.1 k).trans (qx hk)
def qa4(s:List UInt8):Lit:=.string s
def y7(R:List (List Nat)):List (List Value):=R.map fun L=>ints (nz L)
theorem mL(R:List (List Nat)):(y7 R).length=R.length:=by simp[y7]
theorem N0{R:List (List Nat)}{i:Nat}(h:i<R.length):(y7 R).getD i []=ints (nz (R.getD i [])):=by simp[y7,List.getD,h]
def q5I(R:List (List Nat)):Prop:=∀L∈R,L.length<=100000/\∀s∈L,s<65536
theorem q7I{α β:Type} [DecidableEq α] [DecidableEq β](f:α->β){R:List α}{L:α}(h:∀a∈R,f a=f L->a=L):idx (R.map f) (f L)=idx R L:=by
 unfold idx
 induction R with
 |nil=>rfl
 |cons a R ih=>
  rw[qJ,List.idxOf_cons,List.idxOf_cons,ih (fun b hb=>h b (by simp[hb]))];by_cases e:a=L
  ·subst e;simp
  have e2:f a≠f L:=fun q=>e (h a (by simp) q);rw[show(f a==f L)=false by simpa using e2,show(a==L)=false by simpa using e]
theorem q9s{R:List (List Nat)}{L:List Nat}(h:∀a∈R,iA a=iA L->a=L):idx (R.map iA) (iA L)=idx R L:=q7I iA h
theorem mem_map{R:List (List Nat)}{L:List Nat}(h:∀a∈R,iA a=iA L->a=L):iA L∈R.map iA↔L∈R:=by
 rw[jB];exact⟨fun⟨a,ha,e⟩=>h a ha e▸ha,fun hL=>⟨L,hL,rfl⟩⟩
structure MkN(w:World)(B q m:Nat)(ve vr:Value)(F:Int)(lv:Value)(vs:List Value)(R:List (List Nat)):Prop where
 box:Own w B 86 (.slice (some ⟨q,0,none⟩) 5 5) [ve,.int .i64 F,vr,lv,.map (some m)]
 lists:eG w B 27 3 lv vs (y7 R)
 map:eS prog 9 3 qa4 w m (R.map iA)
 mB:B<=m
 qm:q≠m
 offQ:eG.free lv vs (some q)
 offM:eG.free lv vs (some m)
theorem q9t:q7H qa4:=⟨fun a b h=>by unfold qa4 at h;injection h,fun _=>trivial⟩
theorem vL{v v' x:Value}{vs:List Value}{q n:Nat}(h:eG.free v vs (some q))(hx:x.ownBlock≠some q)(hk:∀k,v'.ownBlock=some k->v.ownBlock=some k\/n<=k)(hn:q<n):eG.free v' (vs++[x]) (some q):=by
 refine⟨fun k hk1 e=>?_,fun i hi k hk1 e=>?_⟩
 ·injection e with e
  subst e;rcases hk _ hk1 with h1|h1
  ·exact h.1 _ h1 rfl
  omega
 injection e with e;subst e;rw[qj,qE]at hi;rcases Nat.lt_succ_iff_lt_or_eq.1 hi with h1|rfl
 ·rw[bC h1]at hk1
  exact h.2 i h1 _ hk1 rfl
 rw[cJ]at hk1;exact hx hk1
def wG(q m:Nat)(lv:Value)(k:Nat):Prop:=k=q\/k=m\/lv.ownBlock=some k
section
variable {w w' : World} {B q m : Nat} {ve vr : Value} {F : Int} {lv : Value} {vs : List Value} {R : List (List Nat)}
theorem MkN.up(h:MkN w B q m ve vr F lv vs R)(hb:Below w.heap.size w w'):MkN w' B q m ve vr F lv vs R:=
 ⟨h.box.up hb,h.lists.up hb,h.map.up hb,h.mB,h.qm,h.offQ,h.offM⟩
theorem MkN.lt(h:MkN w B q m ve vr F lv vs R):∀k,wG q m lv k->B<=k/\k<w.heap.size:=fun k hk=>by
 rcases hk with rfl|rfl|hk
 ·exact h.box.lt _ rfl
 ·exact⟨h.mB,h.map.lt⟩
 exact h.lists.outer.lt k hk
theorem MkN.c(h:MkN w B q m ve vr F lv vs R):w.cell? ⟨q,0,none⟩=some ve/\w.cell? ⟨q,1,none⟩=some (.int .i64 F)/\w.cell? ⟨q,2,none⟩=some vr/\w.cell? ⟨q,3,none⟩=some lv/\w.cell? ⟨q,4,none⟩=some (.map (some m))/\q<w.heap.size:=
 ⟨h.box.cell (i:=0) (by simp),h.box.cell (i:=1) (by simp),h.box.cell (i:=2) (by simp),h.box.cell (i:=3) (by simp),h.box.cell (i:=4) (by simp),h.box.blk.2⟩
end
theorem q5J{w0 w:World}{B q m:Nat}{ve vr:Value}{F:Int}{lv:Value}{vs:List Value}{R:List (List Nat)}(h0:MkN w0 B q m ve vr F lv vs R)(hb0:Below w0.heap.size w0 w){x:Value}{L:List Nat}(hx:Own w w0.heap.size 3 x (ints (nz L)))(hT:q5I R)(hL:L.length<=100000/\∀s∈L,s<65536)(hR:R.length<=100000):
  Calls prog 27 #[.pointer (some ⟨q,0,none⟩),x] w fun e w'=>e=.returned (.int .i64 (idx (aQ R L) L:Nat))/\∃lv' vs',MkN w' B q m ve vr F lv' vs' (aQ R L)/\Gw (wG q m lv) w (wG q m lv') w'/\(∀k,k<w0.heap.size->eG.free lv vs (some k)->eG.free lv' vs' (some k)):=by
 have HX0:=qa (fun k hk=>(hx.lt k hk).1);have HWB:=qa hb0.size;have qgG:∀a∈R,iA a=iA L->a=L:=fun a ha e=>q0p (hT a ha).2 hL.2 e;have HIX:=qa (q9s qgG);have HME:=qa (mem_map qgG);have hB0:B<=w0.heap.size:=jq (Nat.lt_of_le_of_lt (h0.lt q (.inl rfl)).1 (h0.lt q (.inl rfl)).2)
 have HFX:Hid (eG.free lv vs x.ownBlock):=qa (by
  cases hxo:x.ownBlock with
  |none=>exact eG.free_none
  |some k=>exact h0.lists.free_new (hx.lt k hxo).1)
 have HXQ:Hid (x.ownBlock≠some q/\x.ownBlock≠some m):=qa ⟨fun e=>by have:=(hx.lt q e).1;have:=(h0.lt q (.inl rfl)).2;omega,fun e=>by have:=(hx.lt m e).1;have:=(h0.lt m (.inr (.inl rfl))).2;omega⟩;have HTX:=qa (q5H (show eB w x (nz L)from hx.sl) hL.1);have HX:=qa (hx.mono hB0);have HM:=qa (h0.up hb0);have HTL:=qa (rK L)
 have hkey:keyOf prog 9 (.string ⟨(iA L).toArray⟩)=some (.string (iA L)):=by
  have:=Go.WideMaps.keyOf_string_mk (P:=prog) (k:=9) underlying9 (s:=⟨(iA L).toArray⟩) (by show(iA L).toArray.size<=_;simp[maxLen,rK];omega);simpa using this
 have HKEY:=qa hkey;clear hx hT hL qgG h0 hb0 hkey hB0;obtain⟨t,ht⟩:∃t,t=iA L:=⟨_,rfl⟩;have HTT:=qa ht;rw[<-ht]at HIX HME HTX HTL HKEY;clear ht
 obtain⟨ox,lx,cx,rfl⟩:∃ox lx cx,x=.slice ox lx cx:=by
  obtain⟨o,c,g,e,-⟩:=HX.o.cases;exact⟨o,_,c,e⟩
 obtain⟨og,cg,gg,hlv,-⟩:=HM.o.lists.outer.cases;have hvl:=HM.o.lists.len;rw[mL]at hvl;rw[hvl]at hlv;subst hlv;obtain⟨-,-,-,c3,c4,hq⟩:=HM.o.c;by_cases qcx:L∈R
 ·have HNR:Hid (aQ R L=R):=qa (by unfold aQ;rw[qw qcx])
  have qcG:=qa qcx;obtain⟨D,hD,hMp⟩:=HM.o.map;have HD:=qa hD;have HMI:=qa hMp;have qdb:Hid (Maps.has D (.string t)=true):=qa (hMp.has_yes (HME.o.2 qcx));have HAT:Hid (∀c:Int,D.atKey (.string t) (.lit (.int .i64 0))=.lit (.int .i64 c)->c=(idx R L:Nat)):=qa (fun c hc=>by rw[<-HIX.o];exact hMp.at_eq (HME.o.2 qcx) hc);clear hD hMp qcx;rw[HNR.o];go_enter func27,ntmps27
  go_wp2_with(first
   |((with_reducible go_at_call 62);refine HTX.o.mono ?_;rintro en w1 ⟨rfl,x1,rfl⟩;have HB1:=qa (aE w x1);have HM1:=qa (HM.o.up (aE w x1));have HD1:=qa (HD.o.kept (aK (aE w x1) none) (by simp));generalize ext w x1=w1 at*;obtain⟨-,-,-,d3,d4,hq1⟩:=HM1.o.c;clear c3 c4 hq)
   |(at_lookup;go_loud (refine wpList_lookup_own_ok_int _ rfl _ _ 65 rfl 9 3 .i64 rL underlying65 underlying3 (pH _) m _ D rfl HD1.o _ _ rfl HKEY.o ?_;intro c hat hwc;rw[qdb.o];have hce:=HAT.o c hat;subst hce;clear hat hwc)))
  go_ret;exact⟨rfl,_,_,HM1.o,d7 _ HB1.o,fun _ _ h=>h⟩
 have HNR:Hid (aQ R L=R++[L]):=qa (by unfold aQ;rw[qv qcx]);have HID:Hid (idx (aQ R L) L=R.length):=qa (by rw[HNR.o,cV qcx]);obtain⟨D,hD,hMp⟩:=HM.o.map;have HD:=qa hD;have HMI:=qa hMp;have HNM:Hid (t∉R.map iA):=qa (fun e=>qcx (HME.o.1 e));have qdb:Hid (Maps.has D (.string t)=false):=qa (hMp.has_no HNM.o);clear hD hMp qcx;rw[HID.o];have hml:=HM.o.lists;go_enter func27,ntmps27
 go_upto_region 6 with(first
  |((with_reducible go_at_call 62);refine HTX.o.mono ?_;rintro en w1 ⟨rfl,x1,rfl⟩;have HB1:=qa (aE w x1);have HM1:=qa (HM.o.up (aE w x1));have HX1:=qa (HX.o.up (aE w x1));have HD1:=qa (HD.o.kept (aK (aE w x1) none) (by simp));generalize ext w x1=w1 at*;obtain⟨-,-,-,d3,d4,hq1⟩:=HM1.o.c;clear c3 c4 hq)
  |(at_lookup;go_loud (refine wpList_lookup_own_ok_int _ rfl _ _ 65 rfl 9 3 .i64 rL underlying65 underlying3 (pH _) m _ D rfl HD1.o _ _ rfl HKEY.o ?_;intro c hat hwc;rw[qdb.o];clear hat hwc)))
 clear hml
 go_upto_region 7 with(at_mapUpdate;go_loud (refine wpList_mapUpdate_own _ rfl _ _ _ 65 rfl 9 3 rL underlying65 _ m _ D rfl HD1.o (by rw[qB];unfold maxLen;omega) _ _ _ rfl rfl HKEY.o _ [] (plainElem_int underlying3 (qa3 _ (by omega))) ?_;intro w2 hown1 qcS;have HD2:=qa hown1;have HG2:=qa qcS;clear hown1 qcS))
 have hM1:=HM1.o;have qcP:=qa (hM1.box.keep HG2.o (.inr (fun e=>by injection e with e;exact hM1.qm e)));have qiZ:=qa (hM1.lists.keep' HG2.o hM1.offM);have HX2:=qa (HX1.o.keep HG2.o (.inr HXQ.o.2));have HMB:=qa hM1.mB;have HQM:=qa hM1.qm;have HOQ:=qa hM1.offQ;have HOM:=qa hM1.offM;have e3:=qcP.o.cell (i:=3) (by simp);have e4:=qcP.o.cell (i:=4) (by simp);simp only[ja,List.getD_cons_succ]at e3 e4;have f3:=qcP.o.free 3;have hq2:=qcP.o.blk.2;have HGW:Hid (Gw (wG q m (.slice og R.length cg)) w (wG q m (.slice og R.length cg)) w2):=qa ((d7 _ HB1.o).trans (dQ HG2.o (fun k hk=>.inr (.inl (by injection hk with hk;exact hk.symm))) (fun k hk=>.inl hk)));clear hM1 d3 d4 hq1 HM1 HM HD1 HD HX1 HX;have hlW:=qa (aD w2 (.cells #[.slice ox lx cx] 27));have HSX:Hid (Sl (w2.alloc (.cells #[.slice ox lx cx] 27)) (.slice (some ⟨w2.heap.size,0,none⟩) 1 1) [.slice ox lx cx]):=qa (by simpa using eK w2 #[.slice ox lx cx] 27 (by simp));have HT1:=qa (qiZ.o.outer.up hlW.out);have HVL:Hid ((vs++[Value.slice ox lx cx]).length=R.length+1):=qa (by simp;omega);have HT3:Hid (vs.length+[Value.slice ox lx cx].length<=4294967296):=qa (by simp;omega);have HT4:Hid (B<=(w2.alloc (.cells #[.slice ox lx cx] 27)).heap.size):=qa (by have:=qcP.o.blk;have:=hlW.out.size;omega);have e3a:=((hlW.out.cell (p:=⟨q,3,none⟩) hq2).trans e3)
 go_wp2_with(at_builtin;refine bF rfl (.tmp 37) (.tmp 39) 26 rfl B 27 (.slice none 0 0) 24 underlying26 (by kernel_rfl) rfl (by decide) (.slice og R.length cg) vs rfl HT1.o (.slice (some ⟨w2.heap.size,0,none⟩) 1 1) [.slice ox lx cx] rfl HSX.o (by simp[Value.oneCell']) HT3.o HT4.o ?_;intro v' w5 hown1 hg1 hk1;obtain⟨o5,c5,g5',rfl,-⟩:=hown1.cases;rw[HVL.o]at hown1 hk1⊢;have HO5:=qa hown1;have HG5:=qa hg1;have HK5:=qa hk1;clear hown1 hg1 hk1;have qcO:=qa ((qcP.o.up hlW.out).keep HG5.o (.inr (fun e=>HOQ.o.1 q e.symm rfl)));have g5:=qcO.o.free 3;have h5:=qcO.o.cell (i:=3) (by simp);have hq5:=qcO.o.blk.2)
 go_ret;have hst:=qcO.o.store 3 (.slice o5 (R.length+1) c5);have qeZ:=eG.push qiZ.o HX2.o HFX.o (aK hlW.out none) HO5.o HG5.o HK5.o;have hcl:y7 R++[ints (nz L)]=y7 (R++[L]):=by simp[y7]
 rw[hcl]at qeZ;have hsz:=hlW.out.size;have qjZ:m<w2.heap.size:=HD2.o.lt;have hfq:=vL HOQ.o HXQ.o.1 HK5.o (by omega:q<(w2.alloc (.cells #[.slice ox lx cx] 27)).heap.size);have hfm:=vL HOM.o HXQ.o.2 HK5.o (by omega:m<(w2.alloc (.cells #[.slice ox lx cx] 27)).heap.size)
 have hm2:eS prog 9 3 qa4 w2 m ((R++[L]).map iA):=by
  have h1:=HMI.o.snoc q9t HNM.o;have h2:(R++[L]).map iA=R.map iA++[t]:=by rw[qH,HTT.o];rfl
  rw[h2];refine⟨_,?_,h1⟩;rw[qj,qE,qB];have h3:=HD2.o;rw[qB]at h3;exact h3
 have hm5:=(((hm2.up hlW.out).keep HG5.o (fun e=>HOM.o.1 m e.symm rfl)).keep hst.2 (fun e=>HQM.o (by injection e with e;exact e.symm)));rw[HNR.o];refine⟨rfl,_,vs++[.slice ox lx cx],⟨hst.1,qeZ.keep' hst.2 hfq,hm5,HMB.o,HQM.o,hfq,hfm⟩,?_,fun k hk hf=>vL hf (fun e=>by have:=HX0.o k e;omega) HK5.o (by have:=HWB.o;have:=HGW.o.size;omega)⟩;have g1:Gw (wG q m (.slice og R.length cg)) w (wG q m (.slice og R.length cg)) (w2.alloc (.cells #[.slice ox lx cx] 27)):=HGW.o.up hlW.out
 have g2:Gw (wG q m (.slice og R.length cg)) (w2.alloc (.cells #[.slice ox lx cx] 27)) (wG q m (.slice o5 (R.length+1) c5)) w5:=dQ HG5.o (fun k hk=>.inr (.inr hk)) (fun k hk=>by
  rcases hk with h|h|h
  ·exact .inl (.inl h)
  ·exact .inl (.inr (.inl h))
  exact(HK5.o k h).imp (fun e=>.inr (.inr e)) id)
 exact(g1.trans g2).trans (dQ hst.2 (fun k hk=>.inl (by injection hk with hk;exact hk.symm)) (fun k hk=>.inl hk))
end Go.Cm
namespace Go.Cm
open Go.RowKit Go.Proofs
theorem q5K(r:List Int)(L:List Nat)(k:Nat)(h:k<L.length):(L.take (k+1)).foldl (sS r) (-1)=sS r ((L.take k).foldl (sS r) (-1)) (L.getD k 0):=by
 rw[aV L k 0 h,qZ];rfl
theorem qbp{a b:Int}(h:a=b):Ending.returned (.int .i64 a)=.returned (.int .i64 b):=by rw[h]
theorem qbq{w:World}{q:Nat}{vr:Value}{r:List Int}(hc:w.cell? ⟨q,2,none⟩=some vr)(hq:q<w.heap.size)(hr:eB w vr r){v:Value}{L:List Nat}(hl:eB w v (nz L))(hs:∀s∈L,s<r.length)(hrg:∀s,-1<=r.getD s 0/\r.getD s 0<32):
  Calls prog 30 #[.pointer (some ⟨q,0,none⟩),v] w fun e w'=>e=.returned (.int .i64 (mS r L))/\∃x,w'=ext w x:=by
 obtain⟨orr,cr,br,fr,rfl,hdr,hcr⟩:=hr.open;obtain⟨oa,cap,b,off,rfl,hd,hcl⟩:=hl.open;rw[zT]at hd hcl⊢;have qdW:=A6 hdr;have hix:=A6 hd;have hbr:=hdr.hblk;have hb:=hd.hblk;have hm:=hd.len;have HCR:=qa hcr;have HC:=qa hcl;have HS:=qa hs;have HRG:=qa hrg;have HLT:=qa (fun k (h:k<L.length)=>q5K r L k h);have HLR:=qa (fun k=>D8 hrg (L.take k) (-1) (by omega) (by omega));obtain⟨n,hn⟩:∃n,n=L.length:=⟨_,rfl⟩;have HN:=qa hn;rw[<-hn]at hix hb hm HC HLT⊢;clear hdr hcr hd hcl hr hl hs hrg hn;go_enter func30,ntmps30;go_wp2
 go_loopg [5,11] n (fun gk ov iv wr=>∃(k:Nat) (o:Int),ov=.int .i64 o/\iv=.int .i64 k/\k<=n/\o=(L.take k).foldl (sS r) (-1)/\Below w.heap.size w wr/\gk=n-k)
 case atStart=>exact⟨0,-1,rfl,rfl,qd _,rfl,qn _ _,rfl⟩
 case round=>
  obtain⟨k,o,rfl,rfl,hk,ho,hbl,rfl⟩:=hrel;have HO:=qa ho;have HW:=qa hbl;have hor:=HLR.o k;rw[<-ho]at hor;clear ho hbl;by_cases hlt:k<n
  ·have hb1:=hb (by omega)
   have hcell:=HC.o k hlt;rw[zU _ _ (by rw[<-HN.o];exact hlt)]at hcell;have qcx:=HS.o _ (cE L k 0 (by rw[<-HN.o];exact hlt));have HT:=qa (HLT.o k hlt);rw[<-HO.o]at HT;have qd5:=fun W=>hix W k hlt;generalize L.getD k 0=s at*;have hcw:=(HW.o.cell (p:=⟨b,off+k,none⟩) hb1).trans hcell;have hbw:b<wr.heap.size:=by have:=HW.o.size;omega
   have qkx:=hbr (by omega);have qkk:=(HW.o.cell (p:=⟨br,fr+s,none⟩) qkx).trans (HCR.o s qcx);have qmr:br<wr.heap.size:=by have:=HW.o.size;omega
   have hcq:=(HW.o.cell (p:=⟨q,2,none⟩) hq).trans hc;have hqw:q<wr.heap.size:=by have:=HW.o.size;omega
   have qgD:=fun W=>qdW W s qcx;have hrs:=HRG.o s;have HLE:Hid (∀z,z=r.getD s 0->sS r o s=if 0<=z/\(o<0\/z<o)then z else o):=qa (fun z hz=>by unfold sS;rw[hz]);obtain⟨z,hz⟩:∃z,z=r.getD s 0:=⟨_,rfl⟩;have HZ:=qa (HLE.o z hz);rw[<-hz]at qkk hrs;clear hz hcell HLE;by_cases h1: -1<z
   ·by_cases h2:o= -1
    ·have HFN:Hid ((L.take (k+1)).foldl (sS r) (-1)=z):=qa (by rw[HT.o,HZ.o,qw ⟨by omega,.inl (by omega)⟩])
     have d2:(o== -1)=true:=by simpa using h2
     clear h2;go_wp2
     exact ZmI2
    have d2:(o== -1)=false:=by simpa using h2
    by_cases h3:z<o
    ·have HFN:Hid ((L.take (k+1)).foldl (sS r) (-1)=z):=qa (by rw[HT.o,HZ.o,qw ⟨by omega,.inr h3⟩])
     go_wp2
     exact ZmI2
    exact ZmI0
   exact ZmI0
  have hke:k=n:=by omega
  subst hke;go_wp2;go_ret;refine⟨qbp ?_,aJ HW.o⟩;rw[HO.o,HN.o,j3];rfl
def q8H:Array Value:=(ints (List.replicate 256 0)).toArray
theorem zF(W:World):(zeroValue 25).run prog W=.ok (.agg q8H) W:=by kernel_rfl
theorem q5L:q8H.toList=ints (List.replicate 256 0):=rfl
theorem qa5(w:World)(A:Array Value)(hA:A=q8H):sU (w.alloc (.cells A 25)) 25 256 w.heap.size (List.replicate 256 0):=by
 subst hA;exact q6Q w 25 q8H (List.replicate 256 0) q5L (by rw[qP];decide)
theorem iB{P:Program}{ops:Array Oper}{rest:List Oper}{o:Oper}{a:Act}{w:World}{Q:Exit->Act->World->Prop}(hgd:o.guard=none)(T n:Nat)(x y:Operand)(ho:o.op=.store T x y)
  (g:Nat) (hx:a.eval x=.pointer (some ⟨g,0,none⟩)) (cl c2:List Int) (hy:a.eval y=.agg (ints c2).toArray) (h2:c2.length=n) (hi:(P.info? T).map (·.size)=some n) (hown:sU w T n g cl)
  (h:∀w',sU w' T n g c2->w.grownBy w' (some g)->wpList P ops Q rest (a.put o.dst undef) w'):wpList P ops Q (o::rest) a w:=by
 have hs:(ints c2).toArray.size=n:=by simp[h2]
 have hl:(ints cl).length=n:=by rw[aS,hown.len]
 refine bK hgd T x y ho g T g n n hx (ints c2).toArray hy (by rw[hs];exact hi) (ints cl) hown.own (by omega) (fun u hu=>?_) fun w' hw hg=>h w' ⟨?_,h2⟩ hg
 ·simp only[ints,jB]at hu
  obtain⟨z,-,rfl⟩:=hu;rfl
 rw[jp (by omega),j7]at hw;exact hw
noncomputable def q3w(e:List (List Ed))(F:Int)(r:List Int):List Int:=if dK e F r then i7 e else List.replicate 256 0
noncomputable def q5M(e:List (List Ed))(F:Int)(r:List Int):Nat:=if dK e F r then(aY e).length else 0
theorem q2D(e:List (List Ed))(F:Int)(r:List Int):(q3w e F r).length=256:=by
 unfold q3w;split
 ·exact zC e
 exact qP
def q5N(e:List (List Ed))(F:Int)(r:List Int)(w:World)(en:Ending)(w':World):Prop:=
 en=.returned (.tuple #[.agg (ints (q3w e F r)).toArray,.int .i64 (q5M e F r)])/\Below w.heap.size w w'
theorem q9u{e:List (List Ed)}{cl:List Int}(hl:cl.length=256)(h:∀i,i<256->cl.getD i 0=(xB e i:Nat)):cl=i7 e:=by
 refine jV (by rw[hl,zC]) fun i h1 h2=>?_;have h3:=h i (by omega);have h4:=U3 e (c:=i) (by omega);rw[<-h4]at h3;simpa[List.getD,h1,h2]using h3
end Go.Cm
namespace Go.Cm
open Go.RowKit Go.Proofs Go.WideShapes Go.ChangeShapes Go.Deep
def EdW(x:Ed):Prop:=WQ x.a/\WQ x.b/\WQ x.c/\WQ x.d
theorem EdW.set{x:Ed}(h:EdW x):qbg x:=q9r h
instance :Inhabited Ed:=⟨⟨0,false,0,0,0,0⟩⟩
end Go.Cm
namespace Go.Cm
open Go.RowKit Go.Proofs Go.Maps
def pI(x:Ed):List Value:=[.int .u64 x.a,.int .u64 x.b,.int .u64 x.c,.int .u64 x.d]
def kv(x:Ed):Value:=.agg #[.int .u64 x.a,.int .u64 x.b,.int .u64 x.c,.int .u64 x.d]
theorem q8I{x y:Ed}:kv x=kv y↔fZ x=fZ y:=by
 unfold kv fZ;simp
theorem q2F:laidOutB prog=true:=by kernel_rfl
theorem vN:Keyed prog 53:=Keyed.of_law (deep_law_laid q2F (m:=2) (by omega) (jc (by kernel_rfl)) (by kernel_rfl) (by kernel_rfl))
theorem qaI{a:Int}(h:WQ a):(Lit.int .u64 a).wf=true:=by
 unfold WQ at h;simp[Lit.wf,IntKind.min,IntKind.max,IntKind.signed,IntKind.bits];omega
theorem vO(d:Nat){a:Int}(h:WQ a):prog.keyLits (d+1) 51 [.int .u64 a]=some [.int .u64 a]:=by
 unfold Program.keyLits;simp[underlying51,qaI h]
theorem q5P{x:Ed}(h:EdW x):∃l,keyOf prog 53 (kv x)=some l:=by
 obtain⟨ha,hb,hc,hd⟩:=h;obtain⟨d,hd1⟩:∃d,prog.types.size=d+1:=Nat.exists_eq_succ_of_ne_zero (jc (by kernel_rfl));have c4:prog.cellsOf 53=4:=by kernel_rfl
 have c1:prog.cellsOf 51=1:=by kernel_rfl
 have hk:prog.keyType 53=true:=by kernel_rfl
 have hl:prog.keyLits (d+1+1) 53 [.int .u64 x.a,.int .u64 x.b,.int .u64 x.c,.int .u64 x.d]=some [.int .u64 x.a,.int .u64 x.b,.int .u64 x.c,.int .u64 x.d]:=by
  unfold Program.keyLits;rw[underlying53];simp only[c4,c1,qA,qO];rw[qw trivial];have h0:=vO d ha;have h1:=vO d hb;have h2:=vO d hc;have h3:=vO d hd;simp[List.range,List.range.loop,h0,h1,h2,h3]
 unfold keyOf;rw[underlying53];simp only[kv,hk,j6];rw[hd1]
 have hf:(Value.agg #[.int .u64 x.a,.int .u64 x.b,.int .u64 x.c,.int .u64 x.d]).formed prog 53=true:=by
  unfold Value.formed;rw[underlying53];simp[c4]
 rw[qw hf];have hv:(Value.agg #[.int .u64 x.a,.int .u64 x.b,.int .u64 x.c,.int .u64 x.d]).cells.toList=[.int .u64 x.a,.int .u64 x.b,.int .u64 x.c,.int .u64 x.d]:=rfl;rw[hv,hl];exact⟨_,rfl⟩
def gY(e:List (List Ed))(i j:Nat):List Ed:=((e.take i).flatten++(e.getD i []).take j).filter (fun x=> !x.free)
theorem N3(e:List (List Ed)):gY e 0 0=[]:=by simp[gY]
theorem q5Q(e:List (List Ed)){i:Nat}(h:i<e.length):gY e i (e.getD i []).length=gY e (i+1) 0:=by
 unfold gY;rw[j3,List.take_zero,j7,aV e i [] h,jy];simp
theorem q5R(e:List (List Ed)):gY e e.length 0=bQ e:=by unfold gY bQ;simp
theorem q3z(e:List (List Ed))(i:Nat){j:Nat}(h:j<(e.getD i []).length):gY e i (j+1)=if((e.getD i []).getD j cY).free then gY e i j else gY e i j++[(e.getD i []).getD j cY]:=by
 unfold gY;generalize e.getD i []=row at*;rw[aV row j cY h,<-qk,List.filter_append];generalize row.getD j cY=z at*;cases hf:z.free<;>simp[hf]
theorem N4{P:Program}{C:World->Prop}{o:Oper}{a:Act}{K:Act->Prop}(T:TypeId)(m x:Operand)(ho:o.op=.lookup T m x false)(mv xv v:Value)(hm:a.eval m=mv)(hx:a.eval x=xv)
  (h:∀w',C w'->(Instr.lookup T mv xv false).run P w'=.ok v w') (hk:K (a.put o.dst v)):o.quiet P a C K:=by
 refine⟨v,fun w' hw'=>?_,hk⟩;unfold Oper.quietAt execOp;simp only[ho,hm,hx,Sem.run_bind,h w' hw',Result.andThen_ok,Sem.run_pure,Oper.quietUpon];exact⟨trivial,trivial⟩
theorem pJ(l:List Ed):∀x∈l.map pI,x.length=4:=by
 intro x hx;obtain⟨e,-,rfl⟩:=List.mem_map.1 hx
 rfl
theorem q2G{l:List Ed}{x:Ed}:kv x∈l.map kv↔fZ x∈l.map fZ:=by
 simp only[jB];exact⟨fun⟨a,ha,h⟩=>⟨a,ha,q8I.1 h⟩,fun⟨a,ha,h⟩=>⟨a,ha,q8I.2 h⟩⟩
theorem qbt{w:World}{A:Array Value}{e:List (List Ed)}{F:Int}{r:List Int}(h:X4 w A e F r)(hw:∀a x,x∈Row e a->EdW x)(ht:tot e<=1000000):
  Calls prog 61 #[.agg A] w fun en w'=>∃u,en=.returned u/\eL 4 w' w.heap.size 53 u ((q07 e).map pI)/\Below w.heap.size w w':=by
 obtain⟨ve,vr,rfl,he,-⟩:=h;obtain⟨oe,ce,be,fe,rfl,hde,hce⟩:=he.open;have qdw:=uJ hde;have hme:=hde.len;have hbe:=hde.hblk;have HCE:=qa hce;have HTS:Hid (∀i,i<e.length->tot (e.take (i+1))=tot (e.take i)+(e.getD i []).length):=qa (fun i hi=>by unfold tot;rw[qM hi,qH,List.sum_append];simp[List.getD,hi])
 have HTL:Hid (∀i,tot (e.take i)<=1000000):=qa (fun i=>by
  have h1:tot (e.take i++e.drop i)=tot (e.take i)+tot (e.drop i):=by unfold tot;rw[qH,List.sum_append]
  rw[j8]at h1;omega)
 have HPR:=qa (fun i (hi:i<e.length)=>q5Q e hi);have HPA:=qa (q5R e);have HPS:=qa (fun i j (hj:j<(e.getD i []).length)=>q3z e i hj)
 have HPL:Hid (∀i j,(aU fZ (gY e i j)).length<=tot (e.take i)+j):=qa (fun i j=>by
  refine qc (sE _ _) ?_;unfold gY tot;refine qc (a6 _ _) ?_;rw[qj,List.length_flatten,qX];omega)
 obtain⟨n,hn⟩:∃n,n=e.length:=⟨_,rfl⟩;have HN:=qa hn;rw[<-hn]at qdw hme hbe HCE HTS HPR HPA⊢;clear he hde hce hn ht;have hmm:=@run_makeMap prog;have HA:Hid (Below w.heap.size w ((w.alloc (.cells #[.slice oe n ce,.int .i64 F,vr] 35)).alloc (.map #[] 0))):=qa aO;have hsz:((w.alloc (.cells #[.slice oe n ce,.int .i64 F,vr] 35)).alloc (.map #[] 0)).heap.size=w.heap.size+2:=by simp
 have HB0:Hid ((w.alloc (.cells #[.slice oe n ce,.int .i64 F,vr] 35)).cell? ⟨w.heap.size,0,none⟩=some (.slice oe n ce)):=qa (by rw[World.cell?_alloc_new];rfl)
 have HM0:Hid (vK prog 53 ((w.alloc (.cells #[.slice oe n ce,.int .i64 F,vr] 35)).alloc (.map #[] 0)) (w.heap.size+1) [] 0):=qa (by
  have:=vK.made prog 53 (w.alloc (.cells #[.slice oe n ce,.int .i64 F,vr] 35));simpa using this)
 go_enter func61,ntmps61;go_wp2;generalize ((w.alloc (.cells #[.slice oe n ce,.int .i64 F,vr] 35)).alloc (.map #[] 0))=w1 at*;clear hmm HB0;obtain⟨mb,hmb⟩:∃mb,mb=w.heap.size+1:=⟨_,rfl⟩;rw[<-hmb]at HM0⊢;have qlT:w.heap.size+1<=mb:=by omega
 have qlS:mb<=w.heap.size+1:=by omega
 clear hmb
 go_loopg [3,13] n (fun gk lv iv wr=>∃i N:Nat,iv=.int .i64 i/\i<=n/\eL 4 wr (mb+1) 53 lv ((aU fZ (gY e i 0)).map pI)/\vK prog 53 wr mb ((aU fZ (gY e i 0)).map kv) N/\N<=tot (e.take i)/\Below mb w1 wr/\gk=n-i)
 case atStart=>exact⟨0,0,rfl,qd _,by rw[N3];exact eL.nil _ _ _ _,by rw[N3];exact HM0.o,qd _,qn _ _,rfl⟩
 case round=>
  obtain⟨i,N,rfl,hi,how,hmp,hN,qcw,rfl⟩:=hrel;have HO:=qa how;have HM:=qa hmp;have HNB:=qa hN;have HW:=qa qcw;have qgo:=qcw.size;have HWW:=qa (HA.o.trans (qcw.mono (by omega)));clear how hmp qcw hN HM0;by_cases hlt:i<n
  ·obtain⟨oi,ci,bi,fi,hrow,hdi,hcell⟩:=HCE.o i hlt
   have qfp:=hbe (by omega);have hrow2:=(HWW.o.cell (p:=⟨be,fe+i,none⟩) qfp).trans hrow;have qdL:be<wr.heap.size:=by omega
   have qe9:=fun W=>qdw W i hlt;have qcB:=s9 hdi;have hbi:=hdi.hblk;have hmi:=hdi.len;have HCI:=qa hcell;have HPI:=qa (HPR.o i hlt);have HTI:=qa (HTS.o i hlt);have HPJ:=qa (HPS.o i);have qkQ:=qa (HTL.o (i+1));obtain⟨row,hrw⟩:∃row,row=e.getD i []:=⟨_,rfl⟩;have HRO:=qa hrw;rw[<-hrw]at hrow2 qcB hbi hmi HCI HPI HTI HPJ;obtain⟨ln,hln⟩:∃ln,ln=row.length:=⟨_,rfl⟩;have HLN:=qa hln;rw[<-hln]at hrow2 qcB hbi hmi HCI HPI HTI HPJ;have HSR:Hid (∀j,j<ln->EdW (row.getD j cY)):=qa (fun j hj=>hw i _ (by show _∈e.getD i [];rw[<-hrw];exact cE _ _ _ (by omega)));clear hrow hdi hcell hrw hln;go_wp2;have HWO:=HW;have HOO:=HO;have HMO:=HM;clear HW HO HM HWW hrow2 qdL qgo;generalize wr=wo at*
   go_loopg [3,19] ln (fun gk lv jv wr=>∃j N:Nat,jv=.int .i64 j/\j<=ln/\eL 4 wr (mb+1) 53 lv ((aU fZ (gY e i j)).map pI)/\vK prog 53 wr mb ((aU fZ (gY e i j)).map kv) N/\N<=tot (e.take i)+j/\Below mb w1 wr/\gk=ln-j)
   case atStart=>exact⟨0,N,rfl,qd _,HOO.o,HMO.o,HNB.o,HWO.o,rfl⟩
   case round=>
    obtain⟨j,N,rfl,hj,how,hmp,hN,qcw,rfl⟩:=hrel;have HO:=qa how;have HM:=qa hmp;have HNJ:=qa hN;have HW:=qa qcw;have qgo:=qcw.size;have HWW:=qa (HA.o.trans (qcw.mono (by omega)));clear how hmp qcw hN HOO HMO HWO HNB;by_cases qcC:j<ln
    ·obtain⟨ed,hed⟩:∃ed,ed=row.getD j cY:=⟨_,rfl⟩
     have HST:=qa (HPJ.o j qcC);rw[<-hed]at HST;have qdK:=hbi (by omega)
     have HCD:Hid (∀c,c<6->wr.cell? ⟨bi,fi+j*6+c,none⟩=some ((edA ed).getD c undef)):=qa (by
      intro c hcl;rw[(HWW.o.cell (p:=⟨bi,fi+j*6+c,none⟩) qdK),HCI.o j qcC c hcl,R8,hed])
     have HEW:=qa (HSR.o j qcC);rw[<-hed]at HEW;have qdX:=fun W=>qcB W j qcC;obtain⟨tq,fr',a1,b1,c1,d1⟩:=ed;unfold edA at HCD;simp only at HCD;clear hed;cases fr' with
     |true=>
      have HEQ:Hid (gY e i (j+1)=gY e i j):=qa HST.o;have HA6:=qa (aD wr (.cells #[.int .i64 tq,.bool true,.int .u64 a1,.int .u64 b1,.int .u64 c1,.int .u64 d1] 114));have QC:Hid (∀k v,(#[.int .i64 tq,.bool true,.int .u64 a1,.int .u64 b1,.int .u64 c1,.int .u64 d1]:Array Value)[k]? =some v->(wr.alloc (.cells #[.int .i64 tq,.bool true,.int .u64 a1,.int .u64 b1,.int .u64 c1,.int .u64 d1] 114)).cell? ⟨wr.heap.size,k,none⟩=some v):=qa (fun k v hv=>(World.cell?_alloc_new wr _ _ k).trans hv);have qs:wr.heap.size<(wr.alloc (.cells #[.int .i64 tq,.bool true,.int .u64 a1,.int .u64 b1,.int .u64 c1,.int .u64 d1] 114)).heap.size:=by simp
      have q1:=QC.o 1 (.bool true) rfl;have HZ:=qa (HW.o.trans (HA6.o.mono (by omega)));have HO6:=qa (HO.o.up HA6.o);have HM6:=qa (HM.o.up HA6.o);have qi6:mb<wr.heap.size:=HM.o.lt;clear HA6 HO HM HWW
      go_wp2_with(refine aH rfl 114 _ rfl bi (fi+j*6) 6 rfl _ _ HCD.o rfl underlying114 rfl (by kernel_rfl) ?_)
      clear HCD
      go_roundg (ln-(j+1))
      case measure=>omega
      case rel=>exact⟨j+1,N,by go_num,by omega,by rw[HEQ.o];exact HO6.o,by rw[HEQ.o];exact HM6.o,by have:=HNJ.o;omega,HZ.o,rfl⟩
     |false=>
      have HE1:Hid (fZ ⟨tq,false,a1,b1,c1,d1⟩∈(aU fZ (gY e i j)).map fZ->aU fZ (gY e i (j+1))=aU fZ (gY e i j)):=qa (fun hm=>by
       have:=HST.o;rw[qv (by intro hh;cases hh)]at this;rw[this,dN,qw hm])
      have HE2:Hid (fZ ⟨tq,false,a1,b1,c1,d1⟩∉(aU fZ (gY e i j)).map fZ->aU fZ (gY e i (j+1))=aU fZ (gY e i j)++[⟨tq,false,a1,b1,c1,d1⟩]):=qa (fun hm=>by
       have:=HST.o;rw[qv (by intro hh;cases hh)]at this;rw[this,dN,qv hm])
      have HA6:=qa (aD wr (.cells #[.int .i64 tq,.bool false,.int .u64 a1,.int .u64 b1,.int .u64 c1,.int .u64 d1] 114));have QC:Hid (∀k v,(#[.int .i64 tq,.bool false,.int .u64 a1,.int .u64 b1,.int .u64 c1,.int .u64 d1]:Array Value)[k]? =some v->(wr.alloc (.cells #[.int .i64 tq,.bool false,.int .u64 a1,.int .u64 b1,.int .u64 c1,.int .u64 d1] 114)).cell? ⟨wr.heap.size,k,none⟩=some v):=qa (fun k v hv=>(World.cell?_alloc_new wr _ _ k).trans hv);have qs:wr.heap.size<(wr.alloc (.cells #[.int .i64 tq,.bool false,.int .u64 a1,.int .u64 b1,.int .u64 c1,.int .u64 d1] 114)).heap.size:=by simp
      have q1:=QC.o 1 (.bool false) rfl;have HZ:=qa (HW.o.trans (HA6.o.mono (by omega)));have HO6:=qa (HO.o.up HA6.o);have HM6:=qa (HM.o.up HA6.o);have qi6:mb<wr.heap.size:=HM.o.lt;clear HA6 HO HM HWW
      go_wp2_with(refine aH rfl 114 _ rfl bi (fi+j*6) 6 rfl _ _ HCD.o rfl underlying114 rfl (by kernel_rfl) ?_)
      clear HCD;generalize hwy:wr.alloc (.cells #[.int .i64 tq,.bool false,.int .u64 a1,.int .u64 b1,.int .u64 c1,.int .u64 d1] 114)=wy at*;obtain⟨pz,hpz⟩:∃pz,pz=wr.heap.size:=⟨_,rfl⟩;rw[<-hpz]at QC qs qi6⊢;have HPZ:Hid (pz<=wr.heap.size/\wr.heap.size<=pz):=qa ⟨by omega,by omega⟩;clear hwy hpz;have HM7:=qa (HM6.o.up (aX wy 1));rw[<-World.drew_is_drewN]at HM7
      have qfL:Hid (∃c:Int,∃ks',qb7 prog 53 63 wy.drew mb ((aU fZ (gY e i j)).map kv) N (.agg #[.int .u64 a1,.int .u64 b1,.int .u64 c1,.int .u64 d1]) c ks'/\0<=c/\c<=N/\((c=0/\ks'=(aU fZ (gY e i j)++[(⟨tq,false,a1,b1,c1,d1⟩:Ed)]).map kv/\aU fZ (gY e i (j+1))=aU fZ (gY e i j)++[⟨tq,false,a1,b1,c1,d1⟩])\/(1<=c/\ks'=(aU fZ (gY e i j)).map kv/\aU fZ (gY e i (j+1))=aU fZ (gY e i j)))):=qa (by
       obtain⟨lk,hk⟩:=q5P (x:=(⟨tq,false,a1,b1,c1,d1⟩:Ed)) HEW.o;by_cases hm:fZ ⟨tq,false,a1,b1,c1,d1⟩∈(aU fZ (gY e i j)).map fZ
       ·obtain⟨c,h1,h2,h3⟩:=q8G vN underlying63 (fun w=>pH w) hk HM7.o ((q2G (x:=(⟨tq,false,a1,b1,c1,d1⟩:Ed))).2 hm)
        exact⟨c,_,h3,by omega,h2,.inr ⟨h1,rfl,HE1.o hm⟩⟩
       have h3:=q8F vN underlying63 (fun w=>pH w) hk HM7.o (fun h=>hm ((q2G (x:=(⟨tq,false,a1,b1,c1,d1⟩:Ed))).1 h));exact⟨0,_,h3,by omega,by omega,.inl ⟨rfl,by rw[qH];rfl,HE2.o hm⟩⟩)
      obtain⟨c,ks',qfg,hc0,hcN,qdA⟩:=qfL.o;obtain⟨st,w1',w2',i1,i2,i3,i4,i5,g1,g2,hm2⟩:=qfg.step;have HG1:=qa g1;have HG2:=qa g2;have HMM:=qa hm2;have HCS:=qa qdA;have hpm:some pz≠some mb:=by intro hh;injection hh with hh;omega
      have HQD:Hid (∀w',wy.drew.grownBy w' (some mb)->∀c,c<4->w'.cell? ⟨pz,2+c,none⟩=some ((#[.int .u64 a1,.int .u64 b1,.int .u64 c1,.int .u64 d1]:Array Value).getD c undef)):=qa (by
       intro w' hg c hc;have hk:∀k v,(#[.int .i64 tq,.bool false,.int .u64 a1,.int .u64 b1,.int .u64 c1,.int .u64 d1]:Array Value)[k]? =some v->w'.cell? ⟨pz,k,none⟩=some v:=fun k v hv=>hg.cell (QC.o k v hv) hpm;rcases(show c=0\/c=1\/c=2\/c=3 by omega)with rfl|rfl|rfl|rfl
       ·exact hk 2 _ rfl
       ·exact hk 3 _ rfl
       ·exact hk 4 _ rfl
       exact hk 5 _ rfl)
      have HCM:Hid (c<=1000000):=qa (by have:=HTL.o (i+1);have:=HNJ.o;have:=qkQ.o;have:=HTI.o;omega);clear qfL qfg hm2 qdA g1 g2 HM7 HM6 HE1 HE2;have hcb:c<=1000000:=HCM.o;refine cL (fun w'=>w'=wy.drew\/w'=w1') [0,1,2,3,4] [5,6] [7] (by kernel_rfl) (by kernel_rfl) (.inl rfl) ?_;simp only[pk]
      repeat(first
       |(go_big_quiet_want;refine cB 53 4 _ rfl pz 2 rfl #[.int .u64 a1,.int .u64 b1,.int .u64 c1,.int .u64 d1] rfl (fun w' hw'=>HQD.o w' (by rcases hw' with rfl|rfl;exact dL _ _;exact HG1.o)) _ underlying53 rfl (by kernel_rfl) ?_;go_simp;go_big_quiet_on)
       |(go_big_quiet_want;refine N4 63 _ _ rfl (.map (some mb)) (.agg #[.int .u64 a1,.int .u64 b1,.int .u64 c1,.int .u64 d1]) (.int .i64 c) rfl rfl (fun w' hw'=>by rcases hw' with rfl|rfl;exact i2;exact i3) ?_;go_simp;go_big_quiet_on)
       |go_big_quiet_step (fail))
      refine wpQuiet_nil ?_
      (unfold aF;go_wp2;refine⟨.inr rfl,?_⟩)
      (unfold aF;go_wp2;refine⟨.inr rfl,?_⟩)
      unfold aF;have QC2:=qa (HQD.o w2' HG2.o)
      have HO7:=qa ((HO6.o.up (by rw[World.drew_is_drewN];exact aX wy 1)).keep HG2.o (by
       rcases hv:u3.ownBlock with _|q
       ·exact .inl rfl
       exact .inr (by intro hh;injection hh with hh;have:=(HO6.o.lt q hv).1;omega)))
      have hds:wy.drew.heap.size=wy.heap.size:=rfl;have HZ7:=qa ((HZ.o.trans ((show Below wy.heap.size wy wy.drew by rw[World.drew_is_drewN];exact aX wy 1).mono (by omega))).grown HG2.o (by omega) (fun k hk=>by cases hk;exact qb _));have qhL:wy.heap.size<=w2'.heap.size:=HG2.o.size;clear HQD HG1 HO6 HZ hds;rcases HCS.o with⟨rfl,h2,h3⟩|⟨h1,h2,h3⟩
      ·have H2:=qa h2
       have H3:=qa h3;clear h2 h3;rw[show(0:Int)+1=1 from rfl]at i4 i5
       (unfold aF;go_wp2;refine⟨trivial,?_⟩)
       unfold aF;have hl7:Below w2'.heap.size w2' (w2'.alloc (.cells #[.int .u64 a1,.int .u64 b1,.int .u64 c1,.int .u64 d1] 53)):=aD _ _
       have HX:Hid (SlK 4 (w2'.alloc (.cells #[.int .u64 a1,.int .u64 b1,.int .u64 c1,.int .u64 d1] 53)) (.slice (some ⟨w2'.heap.size,0,none⟩) 1 1) ([(⟨tq,false,a1,b1,c1,d1⟩:Ed)].map pI)):=qa (by
        have h1:=tD 4 w2' #[.int .u64 a1,.int .u64 b1,.int .u64 c1,.int .u64 d1] 53 ([(⟨tq,false,a1,b1,c1,d1⟩:Ed)].map pI) (by simp[pI]) (pJ _) (by simp);simpa using h1)
       have HT1:=qa (HO7.o.up hl7);have HZ8:=qa (HZ7.o.trans (hl7.mono (by omega)));have HM8:=qa (HMM.o.up hl7);have HT2:Hid (∀u∈([(⟨tq,false,a1,b1,c1,d1⟩:Ed)].map pI).flatten,u.oneCell'=true):=qa (by intro u hu;simp[pI]at hu;rcases hu with rfl|rfl|rfl|rfl<;>rfl);have HT3:Hid (((aU fZ (gY e i j)).map pI).length+([(⟨tq,false,a1,b1,c1,d1⟩:Ed)].map pI).length<=1000000000):=qa (by have:=HPL.o i j;have:=HTL.o (i+1);have:=HTL.o i;have:=HTI.o;simp only[qB,qE];omega);have HMB:Hid (mb+1<=(w2'.alloc (.cells #[.int .u64 a1,.int .u64 b1,.int .u64 c1,.int .u64 d1] 53)).heap.size):=qa (by have:=hl7.size;omega);clear hl7 HO7 HZ7 HMM
       go_wp2_with(first|(refine aH rfl 53 _ rfl pz 2 4 rfl _ _ QC2.o rfl underlying53 rfl (by kernel_rfl) ?_)|(at_builtin;refine eP 4 rfl (.tmp 37) (.tmp 40) 61 rfl (mb+1) 53 (.agg #[.int .u64 0,.int .u64 0,.int .u64 0,.int .u64 0]) 32 underlying61 (by kernel_rfl) rfl (by decide) (by decide) u3 ((aU fZ (gY e i j)).map pI) rfl HT1.o (.slice (some ⟨w2'.heap.size,0,none⟩) 1 1) ([(⟨tq,false,a1,b1,c1,d1⟩:Ed)].map pI) rfl HX.o (pJ _) HT2.o HT3.o HMB.o ?_;intro v' w5 hown1 hg1 hk1;have HO1:=qa hown1;have HG1:=qa hg1;have HK1:=qa hk1;clear hown1 hg1 hk1))
       have qcX:Hid (∀k,u3.ownBlock=some k->mb+1<=k):=qa (fun k hk=>(HT1.o.lt k hk).1)
       go_roundg (ln-(j+1))
       case measure=>omega
       case rel=>exact⟨j+1,N+1,by go_num,by omega,by rw[H3.o,qH];exact HO1.o,by rw[H3.o,<-H2.o];exact HM8.o.keep HG1.o (by intro hh;have:=qcX.o mb hh.symm;omega),by have:=HNJ.o;omega,HZ8.o.grown HG1.o (by have:=HMB.o;omega) (fun k hk=>by have:=qcX.o k hk;omega),rfl⟩
      have H2:=qa h2;have H3:=qa h3;have d1:decide (c+1=1)=false:=by simp;omega
      clear h2 h3
      (unfold aF;go_wp2;refine⟨trivial,?_⟩)
      unfold aF
      go_wp2_with(refine aH rfl 53 _ rfl pz 2 4 rfl _ _ QC2.o rfl underlying53 rfl (by kernel_rfl) ?_)
      go_roundg (ln-(j+1))
      case measure=>omega
      case rel=>exact⟨j+1,N+1,by go_num,by omega,by rw[H3.o];exact HO7.o,by rw[H3.o,<-H2.o];exact HMM.o,by have:=HNJ.o;omega,HZ7.o,rfl⟩
    have hje:j=ln:=by omega
    subst hje;have qmw:=HPI;go_wp2
    go_roundg (n-(i+1))
    case measure=>omega
    case rel=>exact⟨i+1,N,by go_num,by omega,by rw[<-HPI.o];exact HO.o,by rw[<-HPI.o];exact HM.o,by rw[HTI.o];exact HNJ.o,HW.o,rfl⟩
  have hie:i=n:=by omega
  subst hie;go_wp2;go_ret;have h1:=HO.o;rw[HPA.o]at h1;exact⟨_,rfl,h1.mono (by omega),HWW.o⟩
end Go.Cm
