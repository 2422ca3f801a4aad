/- Walks of functions and plain facts, joined and squeezed by a program. Conditions: as each says. -/
import Derived.Deep.LoopGhost
import Derived.Laws.Bits64b
import Derived.Lib.TrailingZeros
import Derived.Deep.DeepCutAuto
import Derived.Shelf.Abstract
import Derived.Test.YtiladjhipahiiaaDMXA
set_option maxHeartbeats 8000000
set_option maxRecDepth 100000
set_option linter.unusedSimpArgs false
open Go.Proofs.Try
namespace Go.Cm
open Go.RowKit Go.Proofs
theorem ZmB0{P:Prop}(h:P:=by
 go_wp2
 all_goals(go_ret;refine⟨qZ (fun b=>Ending.returned (Value.bool b)) ?_,aF ?_⟩)
 all_goals first
  |(rw[HR.o,jj];unfold okN g8 pH;simp;omega)
  |(repeat' first|exact qn _ _|refine Below.setCell ?_ ?_ _|refine Below.alloc ?_ ?_ _|(simp;done)|(simp;omega))):P:=h
theorem ZmB1{P:Prop}(h:P:=by
 obtain⟨j,wn,rfl,rfl,hw1,hw2,hrr⟩:=hrel;by_cases hlt:j<l.length
 ·have hcell:=HC.o j hlt
  have hb:=HB.o (by omega);have he:=HE.o wn l j hlt;rw[<-hrr]at he;have hw3:=hw2 hlt;generalize l.getD j zN=x at*;obtain⟨xk,n,xa,xb,xc,xd,xl,xh⟩:=x;simp only at hcell he;clear hrr hw2;by_cases h1:n<0
  ·rw[qv (.inl h1)]at he
   have HE2:=qa he;clear he;go_wp2;go_ret;exact⟨by rw[HE2.o];rfl,cB _⟩
  by_cases h2:(l.length:Int)<n
  ·rw[qv (.inr h2)]at he
   have HE2:=qa he;clear he;go_wp2;go_ret;exact⟨by rw[HE2.o];rfl,cB _⟩
  rw[qu (by omega)]at he;have hwr:(wn-1)+n=wn+(n-1):=by omega
  by_cases h3:wn+(n-1)=0
  ·rw[qv h3]at he
   have HE2:=qa he;clear he;go_wp2;go_ret;exact⟨by rw[HE2.o];rfl,cB _⟩
  rw[qu h3]at he;have HE2:=qa he;clear he;go_wp2
  go_round
  case rel=>
   refine⟨j+1,wn+(n-1),by go_num,by go_num,by omega,fun h=>by omega,HE2.o⟩
  case measure=>simp[intOf];omega
 have hdr:l.drop j=[]:=List.drop_eq_nil_of_le (by omega);rw[hdr]at hrr;simp only[pG]at hrr;have HE2:=qa hrr;clear hrr;go_wp2;go_ret;exact⟨by rw[HE2.o];rfl,cB _⟩):P:=h
theorem ZmB2{P:Prop}(h:P:=by
 go_roundg (cnt k-(j+1))
 case measure=>omega
 case rel=>
  exact⟨j+1,at_+1+(aT ky).length,r',s+t,by go_num,by go_num,by omega,by omega,HDR.o,HW3.o,HA3.o,HLS.o,by omega,by omega,by omega,yJ HBL.o HBL.o.size x6,rfl⟩):P:=h
theorem ZmB3{P:Prop}(h:P:=by
 have HV:=qa (H0.o (HCH.o.2 ⟨by omega,h0,HZ.o,fun y hy=>by
  obtain⟨q,hq,rfl⟩:=ji hy;have:=HA.o q (by omega);rwa [q0m l q hq]at this⟩))
 go_wp2;go_ret;exact⟨by rw[HV.o];rfl,xr,rfl⟩):P:=h
theorem ZmB4{P:Prop}(h:P:=by
 have HV:=qa (H4.o (fun h=>by have:=(HCH.o.1 h).1;omega))
 go_wp2;go_ret;exact⟨by rw[HV.o];rfl,cB _⟩):P:=h
theorem ZmB5{P:Prop}(h:P:=by have HR:=qa hR;clear hR h hd hc;go_enter func36,ntmps36;go_wp2;go_ret;exact⟨by rw[HR.o];rfl,cB _⟩):P:=h
structure p3(S:Nat->Prop)(w w':World):Prop where
 os:w'.os=w.os
 tape:w'.tape=w.tape
 output:w'.output=w.output
 size:w.heap.size<=w'.heap.size
 block:∀k,k<w.heap.size->¬S k->w'.heap[k]? =w.heap[k]?
structure Gw(S:Nat->Prop)(w:World)(S':Nat->Prop)(w':World):Prop where
 fx:p3 S w w'
 sub:∀k,S' k->S k\/w.heap.size<=k
section
variable {S S' S1 S2 : Nat → Prop} {w w' w1 w2 : World}
theorem p3.refl(S:Nat->Prop)(w:World):p3 S w w:=⟨rfl,rfl,rfl,qb _,fun _ _ _=>rfl⟩
theorem Gw.refl(S:Nat->Prop)(w:World):Gw S w S w:=⟨p3.refl S w,fun _ h=>.inl h⟩
theorem Gw.trans(h:Gw S w S1 w1)(k:Gw S1 w1 S2 w2):Gw S w S2 w2:=
 ⟨⟨k.fx.os.trans h.fx.os,k.fx.tape.trans h.fx.tape,k.fx.output.trans h.fx.output,qc h.fx.size k.fx.size,fun i hi h1=>by
   rw[k.fx.block i (qe hi h.fx.size) (fun e=>(h.sub i e).elim h1 (fun z=>by omega)),h.fx.block i hi h1]⟩,
  fun i hi=>(k.sub i hi).elim (h.sub i) (fun z=>.inr (qc h.fx.size z))⟩
theorem bZ(S:Nat->Prop)(h:Below w.heap.size w w1):Gw S w S w1:=⟨⟨h.os,h.tape,h.output,h.size,fun k hk _=>h.block k hk⟩,fun _ h=>.inl h⟩
theorem Gw.up(h:Gw S w S1 w1)(k:Below w1.heap.size w1 w2):Gw S w S1 w2:=h.trans (bZ S1 k)
theorem dB{row:Option Nat}(h:w.grownBy w1 row)(hr:∀k,row=some k->S k)(hs:∀k,S' k->S k\/w.heap.size<=k):Gw S w S' w1:=
 ⟨⟨h.os,h.tape,h.output,h.size,fun k hk h1=>h.block k hk (fun e=>h1 (hr k e.symm))⟩,hs⟩
theorem Gw.out(h:Gw S w S' w1){p:Nat}(hp:p<w.heap.size)(hn:¬S p):¬S' p:=fun e=>(h.sub p e).elim hn (fun z=>by omega)
theorem Gw.blk(h:Gw S w S' w1){p:Nat}(hp:p<w.heap.size)(hn:¬S p):w1.heap[p]? =w.heap[p]? :=h.fx.block p hp hn
theorem Gw.cell(h:Gw S w S' w1){b o:Nat}(hb:b<w.heap.size)(hn:¬S b):w1.cell? ⟨b,o,none⟩=w.cell? ⟨b,o,none⟩:=World.cell?_of_block (w:=w) (h.fx.block b hb hn)
theorem Gw.size(h:Gw S w S' w1):w.heap.size<=w1.heap.size:=h.fx.size
theorem Gw.below(h:Gw S w S' w1){n:Nat}(hn:n<=w.heap.size)(hS:∀k,S k->n<=k):Below n w w1:=
 ⟨h.fx.os,h.fx.tape,h.fx.output,h.fx.size,fun k hk=>h.fx.block k (by omega) (fun e=>by have:=hS k e;omega)⟩
end
def Sep(L:List (Option Nat)):Prop:=∀i j k:Nat,L[i]? =some (some k)->L[j]? =some (some k)->i=j
theorem Sep.set{L:List (Option Nat)}(h:Sep L){n i:Nat}{b:Option Nat}(hlt:∀j k:Nat,L[j]? =some (some k)->k<n)(hb:∀k:Nat,b=some k->L[i]? =some (some k)\/n<=k):Sep (L.set i b):=by
 intro x y k hx hy;rw[jO]at hx hy;by_cases hix:i=x<;>by_cases hiy:i=y
 ·omega
 ·rw[qv hix]at hx
  rw[qu hiy]at hy;split at hx
  ·have hbk:b=some k:=by injection hx
   rcases hb k hbk with h1|h1
   ·exact absurd (h i y k h1 hy) hiy
   have:=hlt y k hy;omega
  cases hx
 ·rw[qu hix]at hx
  rw[qv hiy]at hy;split at hy
  ·have hbk:b=some k:=by injection hy
   rcases hb k hbk with h1|h1
   ·exact absurd (h i x k h1 hx) hix
   have:=hlt x k hx;omega
  cases hy
 rw[qu hix]at hx;rw[qu hiy]at hy;exact h x y k hx hy
theorem Sep.snoc{L:List (Option Nat)}(h:Sep L):Sep (L++[none]):=by
 have key:∀x k:Nat,(L++[none])[x]? =some (some k)->L[x]? =some (some k):=fun x k hx=>by
  by_cases hl:x<L.length
  ·rwa [qV hl]at hx
  rw[jh (by omega)]at hx;by_cases h0:x-L.length=0
  ·rw[h0]at hx;simp at hx
  rw[qP (by simp;omega)]at hx;cases hx
 exact fun x y k hx hy=>h x y k (key x k hx) (key y k hy)
structure Ed where
 tgt:Int
 free:Bool
 a:Int
 b:Int
 c:Int
 d:Int
def edC(e:Ed):List Value:=[.int .i64 e.tgt,.bool e.free,.int .u64 e.a,.int .u64 e.b,.int .u64 e.c,.int .u64 e.d]
theorem uG(l:List Ed):∀x∈l.map edC,x.length=6:=by
 intro x hx;obtain⟨e,-,rfl⟩:=List.mem_map.1 hx
 rfl
def stV(q:Nat):Value:=.func (.func 57) #[] #[.pointer (some ⟨q,0,none⟩)]
def ffV(q:Nat):Value:=.func (.func 58) #[] #[.pointer (some ⟨q,0,none⟩)]
def mkL(q g:Nat)(ve vr:Value)(vs:List Value):List (Option Nat):=some q::some g::ve.ownBlock::vr.ownBlock::vs.map Value.ownBlock
def MkS(g:Nat)(ve vr:Value)(vs:List Value)(k:Nat):Prop:=k=g\/ve.ownBlock=some k\/vr.ownBlock=some k\/∃i,i<vs.length/\(vs.getD i undef).ownBlock=some k
structure Mk(w:World)(g q:Nat)(ve:Value)(vs:List Value)(vr:Value)(ll:List (List Ed))(rl:List Int)(F:Int):Prop where
 box:Own w 0 91 (.slice (some ⟨g,0,none⟩) 5 5) [ve,.int .i64 F,vr,stV q,ffV q]
 hq:w.cell? ⟨q,0,none⟩=some (.pointer (some ⟨g,0,none⟩))
 hql:q<w.heap.size
 outer:Own w 0 109 ve vs
 len:vs.length=ll.length
 rows:∀i,i<ll.length->d4 6 w 0 111 (vs.getD i undef) ((ll.getD i []).map edC)
 rules:Own w 0 3 vr (ints rl)
 sep:Sep (mkL q g ve vr vs)
section
variable {w w' w0 w1 : World} {g q : Nat} {ve vr : Value} {vs : List Value} {ll : List (List Ed)} {rl : List Int} {F : Int}
theorem lB(q g:Nat)(ve vr:Value)(vs:List Value)(i:Nat)(hi:i<vs.length):(mkL q g ve vr vs)[i+4]? =some (vs.getD i undef).ownBlock:=by
 simp[mkL,List.getD,hi]
theorem Mk.c0(h:Mk w g q ve vs vr ll rl F):w.cell? ⟨g,0,none⟩=some ve:=h.box.cell (by simp)
theorem Mk.c1(h:Mk w g q ve vs vr ll rl F):w.cell? ⟨g,1,none⟩=some (.int .i64 F):=h.box.cell (by simp)
theorem Mk.c2(h:Mk w g q ve vs vr ll rl F):w.cell? ⟨g,2,none⟩=some vr:=h.box.cell (by simp)
theorem Mk.c3(h:Mk w g q ve vs vr ll rl F):w.cell? ⟨g,3,none⟩=some (stV q):=h.box.cell (by simp)
theorem Mk.c4(h:Mk w g q ve vs vr ll rl F):w.cell? ⟨g,4,none⟩=some (ffV q):=h.box.cell (by simp)
theorem Mk.f(h:Mk w g q ve vs vr ll rl F)(c:Nat):w.frozen? ⟨g,c,none⟩=false:=h.box.free c
theorem Mk.lt(h:Mk w g q ve vs vr ll rl F):g<w.heap.size:=h.box.blk.2
theorem Mk.all(h:Mk w g q ve vs vr ll rl F):∀j k:Nat,(mkL q g ve vr vs)[j]? =some (some k)->k<w.heap.size:=by
 intro j k hj;rcases j with _|_|_|_|j
 ·simp[mkL]at hj;subst hj;exact h.hql
 ·simp[mkL]at hj;subst hj;exact h.lt
 ·simp[mkL]at hj;exact(h.outer.lt k hj).2
 ·simp[mkL]at hj;exact(h.rules.lt k hj).2
 by_cases hjl:j<vs.length
 ·rw[lB _ _ _ _ _ j hjl]at hj
  injection hj with hj;exact((h.rows j (by rw[<-h.len];exact hjl)).lt k hj).2
 simp[mkL,qP (show vs.length<=j by omega)]at hj
theorem Mk.mem(h:Mk w g q ve vs vr ll rl F){k:Nat}(hk:MkS g ve vr vs k):∃j,1<=j/\(mkL q g ve vr vs)[j]? =some (some k):=by
 rcases hk with rfl|hk|hk|⟨i,hi,hk⟩
 ·exact⟨1,by omega,rfl⟩
 ·exact⟨2,by omega,by simp[mkL,hk]⟩
 ·exact⟨3,by omega,by simp[mkL,hk]⟩
 exact⟨i+4,by omega,by rw[lB _ _ _ _ _ i hi,hk]⟩
theorem Mk.mlt(h:Mk w g q ve vs vr ll rl F){k:Nat}(hk:MkS g ve vr vs k):k<w.heap.size:=by
 obtain⟨j,-,hj⟩:=h.mem hk;exact h.all j k hj
theorem Mk.mq(h:Mk w g q ve vs vr ll rl F):¬MkS g ve vr vs q:=by
 intro hk;obtain⟨j,h1,hj⟩:=h.mem hk;have:=h.sep 0 j q rfl hj;omega
theorem Mk.keep(h:Mk w g q ve vs vr ll rl F){row:Option Nat}(hg:w.grownBy w' row)(hr:∀j k:Nat,(mkL q g ve vr vs)[j]? =some (some k)->row≠some k):Mk w' g q ve vs vr ll rl F:=
 ⟨h.box.keep hg (aY fun k hk=>hr 1 k (by rw[show k=g from(qp hk).symm];rfl)),by rw[<-h.hq];exact World.cell?_of_block (w:=w) (hg.block q h.hql (fun e=>hr 0 q rfl e.symm)),qe h.hql hg.size,h.outer.keep hg (aY fun k hk=>hr 2 k (by simp[mkL,hk])),h.len,
  fun i hi=>(h.rows i hi).keep hg (aY fun k hk=>hr (i+4) k (by rw[lB _ _ _ _ _ i (by rw[h.len];exact hi),hk])),h.rules.keep hg (aY fun k hk=>hr 3 k (by simp[mkL,hk])),h.sep⟩
theorem Mk.up(h:Mk w g q ve vs vr ll rl F)(hb:Below w.heap.size w w'):Mk w' g q ve vs vr ll rl F:=h.keep (row:=none) (aI hb none) (fun _ _ _ e=>by cases e)
end
end Go.Cm
namespace Go.Cm
structure St where
 e:List (List Ed)
 r:List Int
structure Pc where
 f:Nat
 l:Nat
def q30(tgt:Int):Ed:=⟨tgt,true,0,0,0,0⟩
def M5(ll:List (List Ed))(i:Nat)(e:Ed):List (List Ed):=ll.set i (ll.getD i []++[e])
def gM(s:St):St:=⟨s.e++[[]],s.r++[-1]⟩
def bT(i tgt:Nat)(s:St):St:=⟨M5 s.e i (q30 tgt),s.r⟩
def two(s:St):St:=gM (gM s)
def aP(s:St):Pc:=⟨s.e.length,s.e.length+1⟩
def bW(x:Nd)(tgt:Nat):Ed:=⟨tgt,decide (x.kd=2),x.a,x.b,x.c,x.d⟩
def rM(x:Nd)(s:St):St:=⟨(two s).e.set s.e.length [bW x (s.e.length+1)],(two s).r⟩
def iff(b:Bool)(f:St->St)(s:St):St:=if b then f s else s
def lD(out again:Bool)(q:Pc)(s:St):St:=
 let p:=aP s
 iff again (bT q.l q.f) (iff out (bT p.f p.l) (bT q.l p.l (bT p.f q.f (two s))))
def zP:Pc:=⟨0,0⟩
def fC(ps:List Pc):Nat->St->St
 |0,s=>s
 |i+1,s=>iff (decide (0<i)) (bT (ps.getD (i-1) zP).l (ps.getD i zP).f) (fC ps i s)
def rN(ps:List Pc):Pc:=⟨(ps.getD 0 zP).f,(ps.getD (ps.length-1) zP).l⟩
def d5(p:Pc)(ps:List Pc):Nat->St->St
 |0,s=>s
 |i+1,s=>bT (ps.getD i zP).l p.l (bT p.f (ps.getD i zP).f (d5 p ps i s))
def M6(x:Nd)(t:Nat)(p:Pc)(part:St->Pc×St)(i:Nat)(y:Nat×St):Nat×St:=
 let qs:=part y.2
 (qs.1.l,iff (decide (x.hi<0/\i+1=t)) (bT qs.1.l qs.1.f) (iff (decide (x.lo<=i+1)) (bT qs.1.l p.l) (bT y.1 qs.1.f qs.2)))
def cT(x:Nd)(t:Nat)(p:Pc)(part:St->Pc×St)(s:St):Nat->Nat×St
 |0=>(p.f,s)
 |i+1=>M6 x t p part i (cT x t p part s i)
def pW(x:Nd)(part:St->Pc×St)(s:St):Pc×St:=
 let p:=aP s
 (p,(cT x (dC x).toNat p part (iff (decide (x.lo=0)) (bT p.f p.l) (two s)) (dC x).toNat).2)
def dD(y:List Pc×St):Pc×St:=(y.1.getD 0 zP,y.2)
def cY(x:Nd)(K:St->List Pc×St)(s:St):Pc×St:=
 if x.kd=1\/x.kd=2 then(aP s,rM x s)
 else if x.kd=8 then pW x (fun s=>dD (K s)) s
 else if x.kd=5\/x.kd=6\/x.kd=7 then(aP (K s).2,lD (decide (x.kd≠6)) (decide (x.kd≠7)) (dD (K s)).1 (K s).2)
 else if x.kd=3 then(rN (K s).1,fC (K s).1 (K s).1.length (K s).2)
 else(aP (K s).2,d5 (aP (K s).2) (K s).1 (K s).1.length (two (K s).2))
def eN:Fo->St->List Pc×St
 |.nil,s=>([],s)
 |.cons x k r,s=>
  let y:=cY x (fun s=>eN k s) s
  let z:=eN r y.2
  (y.1::z.1,z.2)
def bS(x:Nd)(u:Nat):Nat:=if x.kd=1\/x.kd=2 then 2 else if x.kd=4\/x.kd=5\/x.kd=6\/x.kd=7 then u+2 else if x.kd=8 then 2+(dC x).toNat*u else u
def usz:Fo->Nat
 |.nil=>0
 |.cons x k r=>bS x (usz k)+usz r
theorem uJ:∀f,gT okN f->(dM f=usz f\/(1000000<=dM f/\1000000<=(usz f:Int)))
 |.nil,_=>.inl rfl
 |.cons x k r,h=>by
  have hk:=uJ k h.2.1;have hr:=uJ r h.2.2;have h0:=(eM r h.2.2).1
  have key:gU x (dM k)=bS x (usz k)\/(1000000<=gU x (dM k)/\1000000<=(bS x (usz k):Int)):=by
   have hok:=okN_kd' h.1;unfold gU bS;by_cases h12:x.kd=1\/x.kd=2
   ·rw[qv h12,qv h12];left;rfl
   rw[qu h12,qu h12];by_cases h47:x.kd=4\/x.kd=5\/x.kd=6\/x.kd=7
   ·rw[qv h47,qv h47];push_cast;omega
   rw[qu h47,qu h47];by_cases h8:x.kd=8
   ·rw[qv h8,qv h8]
    have ht:=lC h.1 h8;obtain⟨t,ht'⟩:∃t:Nat,dC x=t:=⟨(dC x).toNat,by omega⟩;rw[ht']at ht⊢;simp only[qC]
    push_cast
    rcases hk with hk|⟨hk1,hk2⟩
    ·rw[hk]
     have:(0:Int)<=(t:Int)*(usz k:Int):=Int.mul_nonneg (by omega) (by omega);omega
    rcases jE t with h|h
    ·subst h;left;simp;omega
    have e1:(1:Int)*dM k<=t*dM k:=Int.mul_le_mul_of_nonneg_right (by omega) (by omega);have e2:(1:Int)*(usz k:Int)<=t*(usz k:Int):=Int.mul_le_mul_of_nonneg_right (by omega) (by omega);omega
   rw[qu h8,qu h8];omega
  simp only[dM,usz]
  push_cast
  omega
where
  okN_kd' {x : Nd} (h : okN x) : x.kd = 1 ∨ x.kd = 2 ∨ x.kd = 3 ∨ x.kd = 4 ∨ x.kd = 5 ∨ x.kd = 6 ∨ x.kd = 7 ∨ x.kd = 8 := by unfold okN at h; omega
theorem q1p{f:Fo}(h:gT okN f)(hs:dM f<=10000):dM f=usz f:=by
 rcases uJ f h with h1|⟨h1,h2⟩
 ·exact h1
 omega
def tot(ll:List (List Ed)):Nat:=(ll.map List.length).sum
theorem yM(ll:List (List Ed)):∀(i:Nat) (r:List Ed),tot (ll.set i r)+(ll.getD i []).length<=tot ll+r.length:=by
 induction ll with
 |nil=>intro i r;simp[tot,List.getD]
 |cons x l ih=>
  intro i r;cases i with
  |zero=>simp[tot,List.getD];omega
  |succ i=>
   have h:=ih i r;simp only[tot,List.set_cons_succ,qI,List.sum_cons,List.getD_cons_succ]at h⊢;omega
theorem q21(ll:List (List Ed))(i:Nat)(e:Ed):tot (M5 ll i e)<=tot ll+1:=by
 have h:=yM ll i (ll.getD i []++[e]);rw[qj,qD]at h;unfold M5;omega
theorem I5(ll:List (List Ed))(i:Nat):(ll.getD i []).length<=tot ll:=by
 have h:=yM ll i [];simp only[qN]at h;omega
theorem M7(ll:List (List Ed))(i:Nat)(e:Ed):(M5 ll i e).length=ll.length:=by simp[M5]
@[simp] theorem dN(i tgt:Nat)(s:St):(bT i tgt s).e.length=s.e.length:=M7 _ _ _
@[simp] theorem M8(i tgt:Nat)(s:St):(bT i tgt s).r=s.r:=rfl
theorem cS(i tgt:Nat)(s:St):tot (bT i tgt s).e<=tot s.e+1:=q21 _ _ _
@[simp] theorem i9(s:St):(two s).e.length=s.e.length+2:=by simp[two,gM]
@[simp] theorem q4u(s:St):(two s).r.length=s.r.length+2:=by simp[two,gM]
@[simp] theorem lE(s:St):tot (two s).e=tot s.e:=by simp[two,gM,tot]
@[simp] theorem q4m(x:Nd)(s:St):(rM x s).e.length=s.e.length+2:=by simp[rM]
@[simp] theorem q58(x:Nd)(s:St):(rM x s).r.length=s.r.length+2:=by simp[rM]
theorem q0h(x:Nd)(s:St):tot (rM x s).e<=tot s.e+1:=by
 have h:=yM (two s).e s.e.length [bW x (s.e.length+1)];rw[lE]at h;simp only[rM];simp only[qD]at h;omega
theorem q22(b:Bool)(f:St->St)(s:St)(h:(f s).e.length=s.e.length):(iff b f s).e.length=s.e.length:=by unfold iff;split<;>simp[h]
theorem q4v(b:Bool)(f:St->St)(s:St)(h:(f s).r=s.r):(iff b f s).r=s.r:=by unfold iff;split<;>simp[h]
theorem q23(b:Bool)(f:St->St)(s:St)(h:tot (f s).e<=tot s.e+1):tot (iff b f s).e<=tot s.e+1:=by unfold iff;split<;>omega
@[simp] theorem tB(b:Bool)(i tgt:Nat)(s:St):(iff b (bT i tgt) s).e.length=s.e.length:=q22 _ _ _ (dN _ _ _)
@[simp] theorem q0i(b:Bool)(i tgt:Nat)(s:St):(iff b (bT i tgt) s).r=s.r:=q4v _ _ _ rfl
theorem gS(b:Bool)(i tgt:Nat)(s:St):tot (iff b (bT i tgt) s).e<=tot s.e+1:=q23 _ _ _ (cS _ _ _)
@[simp] theorem lF(ps:List Pc)(s:St):∀i,(fC ps i s).e.length=s.e.length
 |0=>rfl
 |i+1=>by simp[fC,lF ps s i]
@[simp] theorem M9(ps:List Pc)(s:St):∀i,(fC ps i s).r=s.r
 |0=>rfl
 |i+1=>by simp[fC,M9 ps s i]
theorem rO(ps:List Pc)(s:St):∀i,tot (fC ps i s).e<=tot s.e+(i-1)
 |0=>by simp[fC]
 |1=>by simp[fC,iff]
 |i+2=>by
  have h1:=rO ps s (i+1);have h2:=gS (decide (0<i+1)) (ps.getD (i+1-1) zP).l (ps.getD (i+1) zP).f (fC ps (i+1) s);rw[fC];omega
@[simp] theorem gV(p:Pc)(ps:List Pc)(s:St):∀i,(d5 p ps i s).e.length=s.e.length
 |0=>rfl
 |i+1=>by simp[d5,gV p ps s i]
@[simp] theorem q39(p:Pc)(ps:List Pc)(s:St):∀i,(d5 p ps i s).r=s.r
 |0=>rfl
 |i+1=>by simp[d5,q39 p ps s i]
theorem yN(p:Pc)(ps:List Pc)(s:St):∀i,tot (d5 p ps i s).e<=tot s.e+2*i
 |0=>by simp[d5]
 |i+1=>by
  have h1:=yN p ps s i;have h2:=cS p.f (ps.getD i zP).f (d5 p ps i s);have h3:=cS (ps.getD i zP).l p.l (bT p.f (ps.getD i zP).f (d5 p ps i s));rw[d5];omega
@[simp] theorem uK(o a:Bool)(q:Pc)(s:St):(lD o a q s).e.length=s.e.length+2:=by simp[lD]
@[simp] theorem q3a(o a:Bool)(q:Pc)(s:St):(lD o a q s).r.length=s.r.length+2:=by simp[lD]
theorem q0j(o a:Bool)(q:Pc)(s:St):tot (lD o a q s).e<=tot s.e+4:=by
 unfold lD
 dsimp only
 have h1:=cS (aP s).f q.f (two s);have h2:=cS q.l (aP s).l (bT (aP s).f q.f (two s));have h3:=gS o (aP s).f (aP s).l (bT q.l (aP s).l (bT (aP s).f q.f (two s)));have h4:=gS a q.l q.f (iff o (bT (aP s).f (aP s).l) (bT q.l (aP s).l (bT (aP s).f q.f (two s))));rw[lE]at h1;omega
structure wD(s:St)(y:List Pc×St)(u c:Nat):Prop where
 len:y.2.e.length=s.e.length+u
 rlen:y.2.r.length=s.r.length+u
 plen:y.1.length=c
 rng:∀i,i<c->(y.1.getD i zP).f<y.2.e.length/\(y.1.getD i zP).l<y.2.e.length
 tot:tot y.2.e+3*c<=tot s.e+2*u
 two:2*c<=u
structure q24(s:St)(u:Nat)(i:Nat)(y:Nat×St):Prop where
 len:y.2.e.length=s.e.length+2+i*u
 rlen:y.2.r.length=s.r.length+2+i*u
 at_:y.1<y.2.e.length
 tot:tot y.2.e<=tot s.e+1+i*(2*u)
theorem zW(x:Nd)(t:Nat)(part:St->Pc×St)(u:Nat)(hp:∀s,wD s ([(part s).1],(part s).2) u 1)(s:St):∀i,q24 s u i (cT x t (aP s) part (iff (decide (x.lo=0)) (bT (aP s).f (aP s).l) (two s)) i)
 |0=>by
  refine⟨by simp[cT],by simp[cT],by simp[cT,aP],?_⟩;have:=gS (decide (x.lo=0)) (aP s).f (aP s).l (two s);rw[lE]at this;simp only[cT];omega
 |i+1=>by
  have h:=zW x t part u hp s i;simp only[cT,M6];generalize cT x t (aP s) part (iff (decide (x.lo=0)) (bT (aP s).f (aP s).l) (two s)) i=y at*;have hq:=hp y.2;have h1:=hq.len;have h2:=hq.rlen;have h3:=hq.rng 0 (by omega);have h4:=hq.tot;simp only[j9]at h1 h2 h3 h4;have e:(i+1)*u=i*u+u:=by rw[jL,Nat.one_mul]
  have e2:(i+1)*(2*u)=i*(2*u)+2*u:=by rw[jL,Nat.one_mul]
  refine⟨?_,?_,?_,?_⟩
  ·simp only[tB,dN];rw[h1,h.len,e];omega
  ·simp only[q0i,M8];rw[h2,h.rlen,e];omega
  ·simp only[tB,dN];exact h3.2
  have a1:=cS y.1 (part y.2).1.f (part y.2).2;have a2:=gS (decide (x.lo<=(i:Int)+1)) (part y.2).1.l (aP s).l (bT y.1 (part y.2).1.f (part y.2).2);have a3:=gS (decide (x.hi<0/\i+1=t)) (part y.2).1.l (part y.2).1.f (iff (decide (x.lo<=(i:Int)+1)) (bT (part y.2).1.l (aP s).l) (bT y.1 (part y.2).1.f (part y.2).2));have a4:=h.tot;rw[e2];simp only;omega
theorem iZ(x:Nd)(K:St->List Pc×St)(u c:Nat)(hx:okN x)(hc:x.n=c)(hK:∀s,wD s (K s) u c)(s:St):wD s ([(cY x K s).1],(cY x K s).2) (bS x u) 1:=by
 have q6o:∀(p:Pc) (m:Nat),p.f<m->p.l<m->∀i,i<1->(([p]:List Pc).getD i zP).f<m/\(([p]:List Pc).getD i zP).l<m:=fun p m h1 h2 i hi=>by
  obtain rfl:i=0:=by omega
  exact⟨h1,h2⟩
 have hk:=hK s;have k1:=hk.len;have k2:=hk.rlen;have k3:=hk.plen;have k4:=hk.rng;have k5:=hk.tot;have k6:=hk.two;unfold okN at hx;unfold cY bS;by_cases h12:x.kd=1\/x.kd=2
 ·rw[qv h12,qv h12]
  have:=q0h x s;exact⟨by simp,by simp,rfl,q6o _ _ (by simp[aP]) (by simp[aP]),by simp only;omega,by omega⟩
 rw[qu h12,qu h12];by_cases h8:x.kd=8
 ·rw[qv h8,qu (by omega),qv h8]
  have hc1:c=1:=by omega
  subst hc1
  have hp:∀s,wD s ([(dD (K s)).1],(dD (K s)).2) u 1:=fun s=>by
   have h:=hK s;exact⟨h.len,h.rlen,rfl,q6o _ _ (h.rng 0 (by omega)).1 (h.rng 0 (by omega)).2,h.tot,h.two⟩
  have hr:=zW x (dC x).toNat (fun s=>dD (K s)) u hp s (dC x).toNat;unfold pW
  dsimp only
  have r1:=hr.len;have r2:=hr.rlen;have r4:=hr.tot;have e:(dC x).toNat*(2*u)=2*((dC x).toNat*u):=by rw[Nat.mul_left_comm]
  rw[e]at r4;generalize cT x (dC x).toNat (aP s) (fun s=>dD (K s)) _ (dC x).toNat=y at*;exact⟨by dsimp only;omega,by dsimp only;omega,rfl,q6o _ _ (by dsimp only[aP];omega) (by dsimp only[aP];omega),by dsimp only;omega,by omega⟩
 rw[qu h8];by_cases qap:x.kd=5\/x.kd=6\/x.kd=7
 ·rw[qv qap,qv (by omega)]
  have hc1:c=1:=by omega
  subst hc1;have:=q0j (decide (x.kd≠6)) (decide (x.kd≠7)) (dD (K s)).1 (K s).2;exact⟨by simp only[uK];omega,by simp only[q3a];omega,rfl,q6o _ _ (by simp only[uK,aP];omega) (by simp only[uK,aP];omega),by simp only;omega,by omega⟩
 rw[qu qap];by_cases h3:x.kd=3
 ·rw[qv h3,qu (by omega),qu h8]
  have:=rO (K s).1 (K s).2 (K s).1.length;rw[k3]at this;have hc2:2<=c:=by omega
  exact⟨by simp only[lF];exact k1,by simp only[M9];exact k2,rfl,q6o _ _ (by simp only[lF,rN];exact(k4 0 (by omega)).1) (by simp only[lF,rN,k3];exact(k4 (c-1) (by omega)).2),by simp only[k3];omega,by omega⟩
 rw[qu h3,qv (by omega)];have:=yN (aP (K s).2) (K s).1 (two (K s).2) (K s).1.length;rw[k3,lE]at this;exact⟨by simp only[gV,i9];omega,by simp only[q39,q4u];omega,rfl,q6o _ _ (by simp only[gV,i9,aP];omega) (by simp only[gV,i9,aP];omega),by simp only[k3];omega,by omega⟩
theorem hJ:∀(f:Fo),wf f->gT okN f->∀s,wD s (eN f s) (usz f) (cnt f)
 |.nil,_,_,s=>⟨rfl,rfl,rfl,fun i hi=>absurd hi (qB i),qb _,qb _⟩
 |.cons x k r,hw,ha,s=>by
  have h1:=iZ x (fun s=>eN k s) (usz k) (cnt k) ha.1 hw.1 (hJ k hw.2.1 ha.2.1) s;have h2:=hJ r hw.2.2 ha.2.2 (cY x (fun s=>eN k s) s).2;simp only[eN,usz,cnt];generalize cY x (fun s=>eN k s) s=y at*;have a1:=h1.len;have a2:=h1.rlen;have a3:=h1.rng 0 (by omega);have a4:=h1.tot;have a5:=h1.two;have b1:=h2.len;have b2:=h2.rlen;have b3:=h2.plen;have b4:=h2.tot;have b5:=h2.two;simp only[j9]at a1 a2 a3 a4;refine⟨by dsimp only;omega,by dsimp only;omega,by simp[b3],fun i hi=>?_,by dsimp only;omega,by omega⟩;cases i with
  |zero=>simp only[j9];omega
  |succ i=>simp only[List.getD_cons_succ];exact h2.rng i (by omega)
end Go.Cm
namespace Go.Cm
open Go.RowKit Go.Proofs
def ndC(x:Nd):List Value:=[.int .i64 x.kd,.int .i64 x.n,.int .u64 x.a,.int .u64 x.b,.int .u64 x.c,.int .u64 x.d,.int .i64 x.lo,.int .i64 x.hi]
def zN:Nd:=⟨0,0,0,0,0,0,0,0⟩
def aO(w:World)(v:Value)(l:List Nd):Prop:=SlK 8 w v (l.map ndC)
theorem aO.up{w w':World}{v:Value}{l:List Nd}(h:aO w v l)(hb:Below w.heap.size w w'):aO w' v l:=SlK.up h hb
theorem aO.open{w:World}{v:Value}{l:List Nd}(h:aO w v l):
  ∃oa cap b off,v=.slice oa l.length cap/\Hd w oa l.length cap b off/\∀i,i<l.length->∀c,c<8->w.cell? ⟨b,off+i*8+c,none⟩=some ((ndC (l.getD i zN)).getD c undef):=by
 obtain⟨oa,cap,b,off,rfl,hd,hc⟩:=h;rw[qA]at hd hc⊢;refine⟨oa,cap,b,off,rfl,hd,fun i hi c hcl=>?_⟩;rw[hc i hi c hcl];simp[List.getD,hi]
theorem d8{w:World}{oa:Option Addr}{b off len cap:Nat}(h:Hd w oa len cap b off):
  ∀(W:World) (kd:IntKind) (i:Int),0<=i->i<len->(Instr.indexAt 39 (.slice oa len cap) (.int kd i)).run prog W=.ok (.pointer (some ⟨b,off+i.toNat*8,none⟩)) W:=
 lU (P:=prog) 8 39 77 underlying39 (by kernel_rfl) h
theorem wG(L:Nat)(want:Int)(l:List Nd)(k:Nat)(h:k<l.length):
  pG L want (l.drop k) k=if(l.getD k zN).n<0\/(L:Int)<(l.getD k zN).n then -1 else if want+((l.getD k zN).n-1)=0 then(k:Int)+1 else pG L (want+((l.getD k zN).n-1)) (l.drop (k+1)) (k+1):=by
 rw[jC h];simp[pG,List.getD,h]
theorem q59{w:World}{v:Value}{l:List Nd}(h:aO w v l)(hl:l.length<=400)(i:Nat):
  Calls prog 65 #[v,.int .i64 i] w fun e w'=>e=.returned (.int .i64 (pG l.length 1 (l.drop i) i))/\∃x,w'=ext w x:=by
 obtain⟨oa,cap,b,off,rfl,hd,hc⟩:=h.open;have hix:=d8 hd;have HC:Hid (∀i,i<l.length->w.cell? ⟨b,off+i*8+1,none⟩=some (.int .i64 (l.getD i zN).n)):=qa (fun i hi=>hc i hi 1 (by decide));have HB:=qa hd.hblk;have HE:=qa (wG l.length);obtain⟨R,hR⟩:∃R,R=pG l.length 1 (l.drop i) i:=⟨_,rfl⟩;have HR:=qa hR;rw[<-hR];clear h hd hc hR;go_enter func65,ntmps65;go_wp2
 go_loop [1,5] (fun iv wv=>∃(j:Nat) (wn:Int),iv=.int .i64 j/\wv=.int .i64 wn/\1<=wn/\(j<l.length->wn<=1+400*j)/\R=pG l.length wn (l.drop j) j) (fun iv _=>l.length-(intOf iv).toNat)
 case atStart=>exact⟨i,1,rfl,rfl,by omega,by omega,HR.o⟩
 case round=>
  exact ZmB1
theorem q5a{w:World}{v:Value}{l:List Nd}(h:aO w v l)(hl:l.length<=400)(i:Nat):
  Calls prog 26 #[v,.int .i64 i] w fun e w'=>e=.returned (.int .i64 (pG l.length 1 (l.drop i) i))/\∃x,w'=ext w x:=by
 obtain⟨oa,cap,b,off,rfl,hd,hc⟩:=h.open;have hix:=d8 hd;have HC:Hid (∀i,i<l.length->w.cell? ⟨b,off+i*8+1,none⟩=some (.int .i64 (l.getD i zN).n)):=qa (fun i hi=>hc i hi 1 (by decide));have HB:=qa hd.hblk;have HE:=qa (wG l.length);obtain⟨R,hR⟩:∃R,R=pG l.length 1 (l.drop i) i:=⟨_,rfl⟩;have HR:=qa hR;rw[<-hR];clear h hd hc hR;go_enter func26,ntmps26;go_wp2
 go_loop [5,6] (fun wv iv=>∃(j:Nat) (wn:Int),iv=.int .i64 j/\wv=.int .i64 wn/\1<=wn/\(j<l.length->wn<=1+400*j)/\R=pG l.length wn (l.drop j) j) (fun _ iv=>l.length-(intOf iv).toNat)
 case atStart=>exact⟨i,1,rfl,rfl,by omega,by omega,HR.o⟩
 case round=>
  exact ZmB1
theorem pI {P : Program} (w : World) (κ : IntKind) (T E n : Nat) (hT : P.underlying T = some (.array n E)) (hE : P.underlying E = some (.int κ)) (hs : (P.info? E).map (·.size) = some 1)
    (xs ys : Array Value) (l m : List Int) (hl : l.length = n) (hm : m.length = n) (hx : ∀ i, i < n → xs[i]? = some (.int κ (l.getD i 0))) (hy : ∀ i, i < n → ys[i]? = some (.int κ (m.getD i 0))) (d : Nat) :
    (Op.equalIn (d + 2) T (.agg xs) (.agg ys)).run P w = .ok (decide (l = m)) w := by
  have hsz : ∀ W, (sizeOf E).run P W = .ok 1 W := fun W => by
    cases hq : P.info? E with
    | none => simp [hq] at hs
    | some inf => have : inf.size = 1 := by simpa [hq] using hs
                  simp [sizeOf, typeInfo, hq, this]
  have hag : ∀ W, (isAgg E).run P W = .ok false W := fun W => by unfold isAgg; rw [Sem.run_bind, run_underlying hE]; rfl
  have q7H : ∀ (zs : Array Value) (q : List Int) (i : Nat) (W : World), zs[i]? = some (.int κ (q.getD i 0)) → (part E zs (i * 1)).run P W = .ok (.int κ (q.getD i 0)) W := fun zs q i W h => by
    unfold part; rw [Sem.run_bind, hag]; simp only [Result.andThen, Nat.mul_one, h]; rfl
  have hel : ∀ (x y : Int) (W : World), (Op.equalIn (d + 1) E (.int κ x) (.int κ y)).run P W = .ok (x == y) W := fun x y W => by
    rw [Op.equalIn, Sem.run_bind, run_underlying hE]; simp [Result.andThen]
  rw [Op.equalIn, Sem.run_bind, run_underlying hT]
  simp only [Result.andThen_ok, Sem.run_bind, hsz]
  have key : ∀ (k s : Nat), s + k = n → l.take s = m.take s → ∀ W, (forIn (List.range' s k) ((none, ()) : Option Bool × Unit) fun i r => do
      let __do_lift ← part E xs (i * 1)
      let __do_lift_1 ← part E ys (i * 1)
      let __do_lift ← Op.equalIn (d + 1) E __do_lift __do_lift_1
      if (!__do_lift) = true then pure (ForInStep.done (some false, ())) else pure (ForInStep.yield (none, ())) : Sem (Option Bool × Unit)).run P W = .ok (if l = m then (none, ()) else (some false, ())) W := by
    intro k
    induction k with
    | zero =>
      intro s hs' ht W
      have : l = m := by rwa [qE (by omega), qE (by omega)] at ht
      simp [this]
    | succ k ih =>
      intro s hs' ht W
      simp only [List.range'_succ, List.forIn_cons, Sem.run_bind, q7H xs l s W (hx s (by omega)), Result.andThen_ok, q7H ys m s W (hy s (by omega)), hel]
      by_cases he : l.getD s 0 = m.getD s 0
      · have h2 : l.take (s + 1) = m.take (s + 1) := by
          have he' : l[s]'(by omega) = m[s]'(by omega) := by simpa [List.getD, show s < l.length by omega, show s < m.length by omega] using he
          rw [qL (by omega), qL (by omega), ht, he']
        have h3 := ih (s + 1) (by omega) h2 W
        simp only [he, beq_self_eq_true, Bool.not_true, qS, jr]
        exact h3
      · have hne : l ≠ m := fun h => he (by rw [h])
        have hb : (l.getD s 0 == m.getD s 0) = false := by simpa using he
        simp only [hb, Bool.not_false, jH, Sem.run_pure, Result.andThen_ok, hne, jr]
  have h0 := key n 0 (by omega) (by simp) w
  rw [Std.Legacy.Range.forIn_eq_forIn_range']
  simp only [Std.Legacy.Range.size, Nat.sub_zero, Nat.add_sub_cancel, Nat.div_one]
  rw [h0]
  by_cases he : l = m <;> simp [he]
def L8(a b c d:Int):Array Value:=#[.int .u64 a,.int .u64 b,.int .u64 c,.int .u64 d]
def ndA(x:Nd):Array Value:=#[.int .i64 x.kd,.int .i64 x.n,.int .u64 x.a,.int .u64 x.b,.int .u64 x.c,.int .u64 x.d,.int .i64 x.lo,.int .i64 x.hi]
theorem N3(a b c d:Int):∀i,i<4->(L8 a b c d)[i]? =some (.int .u64 ([a,b,c,d].getD i 0)):=by
 intro i hi;rcases(show i=0\/i=1\/i=2\/i=3 by omega)with rfl|rfl|rfl|rfl<;>rfl
theorem k9(W:World)(q:Nat)(a b c d a' b' c' d':Int):(Op.equalIn (q+2) 54 (.agg (L8 a b c d)) (.agg (L8 a' b' c' d'))).run prog W=.ok (decide ([a,b,c,d]=[a',b',c',d'])) W:=
 pI W .u64 54 52 4 underlying54 underlying52 (by kernel_rfl) _ _ [a,b,c,d] [a',b',c',d'] rfl rfl (N3 a b c d) (N3 a' b' c' d') q
theorem I6(W:World)(a b c d a' b' c' d':Int):(binOp .eql 54 (.agg (L8 a b c d)) (.agg (L8 a' b' c' d'))).run prog W=.ok (.bool (decide ([a,b,c,d]=[a',b',c',d']))) W:=by
 rw[run_eql_struct,k9 W 9998];rfl
theorem I7(W:World)(a b c d a' b' c' d':Int):(binOp .neq 54 (.agg (L8 a b c d)) (.agg (L8 a' b' c' d'))).run prog W=.ok (.bool (!decide ([a,b,c,d]=[a',b',c',d']))) W:=by
 rw[run_neq_struct,k9 W 9998];rfl
theorem q0l(W:World)(x:Nd):(part 54 (ndA x) 2).run prog W=.ok (.agg (L8 x.a x.b x.c x.d)) W:=by
 unfold part;have h1:(isAgg 54).run prog W=.ok true W:=by unfold isAgg;rw[Sem.run_bind,run_underlying underlying54];rfl
 rw[Sem.run_bind,h1];simp only[Result.andThen_ok,jH,Sem.run_bind,pV (P:=prog) (E:=54) (k:=4) (by kernel_rfl)]
 rfl
theorem pX(W:World)(A:Array Value)(o:Nat)(v:Int)(h:A[o]? =some (.int .i64 v)):(part 3 A o).run prog W=.ok (.int .i64 v) W:=by
 unfold part;have h1:(isAgg 3).run prog W=.ok false W:=by unfold isAgg;rw[Sem.run_bind,run_underlying underlying3];rfl
 rw[Sem.run_bind,h1];simp only[Result.andThen_ok,h];rfl
def yP(x y:Nd):Prop:=x.kd=y.kd/\x.n=y.n/\[x.a,x.b,x.c,x.d]=[y.a,y.b,y.c,y.d]/\x.lo=y.lo/\x.hi=y.hi
instance(x y:Nd):Decidable (yP x y):=by unfold yP;infer_instance
theorem sZ(W:World)(x y:Nd):(Op.equalIn 10000 77 (.agg (ndA x)) (.agg (ndA y))).run prog W=.ok (decide (yP x y)) W:=by
 have hu:prog.underlying 77=some (.struct (prog.fieldsOf 77)):=by simp only[Program.fieldsOf,underlying77]
 rw[run_equalIn_struct W 9999 77 _ _ hu (by kernel_rfl)];simp only[Program.fieldsOf,underlying77];have p0:=fun(W:World) (z:Nd)=>pX W (ndA z) 0 z.kd rfl;have p1:=fun(W:World) (z:Nd)=>pX W (ndA z) 1 z.n rfl;have p6:=fun(W:World) (z:Nd)=>pX W (ndA z) 6 z.lo rfl;have p7:=fun(W:World) (z:Nd)=>pX W (ndA z) 7 z.hi rfl;have ei:∀(a b:Int) (W:World),(Op.equalIn 9999 3 (.int .i64 a) (.int .i64 b)).run prog W=.ok (a==b) W:=fun a b W=>run_equalIn_int W 9998 3 .i64 .i64 a b underlying3;have es:∀(W:World),(Op.equalIn 9999 54 (.agg (L8 x.a x.b x.c x.d)) (.agg (L8 y.a y.b y.c y.d))).run prog W=.ok (decide ([x.a,x.b,x.c,x.d]=[y.a,y.b,y.c,y.d])) W:=fun W=>k9 W 9997 _ _ _ _ _ _ _ _;simp only[Op.eqFields,ne_eq,String.reduceEq,not_false_eq_true,jH,Sem.run_bind,Sem.run_ite,Sem.run_pure,p0,p1,p6,p7,q0l,Result.andThen_ok,ei,es]
 have hd:decide (yP x y)=(x.kd==y.kd&&(x.n==y.n&&(decide ([x.a,x.b,x.c,x.d]=[y.a,y.b,y.c,y.d])&&(x.lo==y.lo&&x.hi==y.hi)))):=by
  rw[jj,jV];unfold yP;simp only[qJ,jZ,jV]
 rw[hd];generalize (x.kd==y.kd)=b1;generalize (x.n==y.n)=b2;generalize (x.lo==y.lo)=b4;generalize (x.hi==y.hi)=b5;generalize decide ([x.a,x.b,x.c,x.d]=[y.a,y.b,y.c,y.d])=b3;cases b1<;>cases b2<;>cases b3<;>cases b4<;>cases b5<;>rfl
theorem yQ(W:World)(x y:Nd):(binOp .eql 77 (.agg (ndA x)) (.agg (ndA y))).run prog W=.ok (.bool (decide (yP x y))) W:=by
 rw[run_eql_struct,sZ];rfl
theorem yR{w:World}(lo hi:Int):Calls prog 74 #[.int .i64 lo,.int .i64 hi] w fun e w'=>e=.returned (.bool (decide (0<=lo/\lo<=30/\(hi= -1\/(lo<=hi/\hi<=30)))))/\∃x,w'=ext w x:=by
 obtain⟨r,hr⟩:∃r,r=decide (0<=lo/\lo<=30/\(hi= -1\/(lo<=hi/\hi<=30))):=⟨_,rfl⟩;have HR:=qa hr;rw[<-hr];clear hr;go_enter func74,ntmps74;go_wp2
 all_goals(go_ret;refine⟨qZ (fun b=>Ending.returned (Value.bool b)) ?_,cB _⟩;rw[HR.o,jj];simp;omega)
theorem q1q(W:World)(a b c d a' b' c' d':Int):(binOp .neq 54 (.agg #[.int .u64 a,.int .u64 b,.int .u64 c,.int .u64 d]) (.agg #[.int .u64 a',.int .u64 b',.int .u64 c',.int .u64 d'])).run prog W=.ok (.bool (!decide (a=a'/\b=b'/\c=c'/\d=d'))) W:=by
 have h:=I7 W a b c d a' b' c' d';simp only[L8,List.cons.injEq,and_true]at h;exact h
theorem zY(W:World)(a b c d a' b' c' d':Int):(binOp .eql 54 (.agg #[.int .u64 a,.int .u64 b,.int .u64 c,.int .u64 d]) (.agg #[.int .u64 a',.int .u64 b',.int .u64 c',.int .u64 d'])).run prog W=.ok (.bool (decide (a=a'/\b=b'/\c=c'/\d=d'))) W:=by
 have h:=I6 W a b c d a' b' c' d';simp only[L8,List.cons.injEq,and_true]at h;exact h
theorem zZ(W:World)(k n a b c d lo hi k' n' a' b' c' d' lo' hi':Int):(binOp .eql 77 (.agg #[.int .i64 k,.int .i64 n,.int .u64 a,.int .u64 b,.int .u64 c,.int .u64 d,.int .i64 lo,.int .i64 hi]) (.agg #[.int .i64 k',.int .i64 n',.int .u64 a',.int .u64 b',.int .u64 c',.int .u64 d',.int .i64 lo',.int .i64 hi'])).run prog W=
  .ok (.bool (decide (k=k'/\n=n'/\(a=a'/\b=b'/\c=c'/\d=d')/\lo=lo'/\hi=hi'))) W:=by
 have h:=yQ W ⟨k,n,a,b,c,d,lo,hi⟩ ⟨k',n',a',b',c',d',lo',hi'⟩;simp only[ndA,yP,List.cons.injEq,and_true]at h;exact h
theorem kC(W:World)(o:BinOp)(x y:Operand)(X Y:Array Value):(eqGuard o 54 x y (.agg X) (.agg Y)).run prog W=.ok () W:=run_eqGuard_agg W o 54 x y X Y (by kernel_rfl)
theorem pA(W:World)(o:BinOp)(x y:Operand)(X Y:Array Value):(eqGuard o 77 x y (.agg X) (.agg Y)).run prog W=.ok () W:=run_eqGuard_agg W o 77 x y X Y (by kernel_rfl)
theorem N4{w:World}(x:Nd):Calls prog 66 #[.agg (ndA x)] w fun e w'=>e=.returned (.bool (decide (okN x)))/\∃x,w'=ext w x:=by
 have HCN:=qa (fun w=>yR (w:=w) x.lo x.hi);obtain⟨r,hr⟩:∃r,r=decide (okN x):=⟨_,rfl⟩;have HR:=qa hr;rw[<-hr];have c1:=q1q;have c2:=zY;have c3:=zZ;have g1:=kC;have g2:=pA;clear hr;obtain⟨k,n,a,b,c,d,lo,hi⟩:=x;unfold ndA;simp only at HCN;go_enter func66,ntmps66;by_cases h1:k=1
 ·exact ZmB0
 skip
 by_cases h2:k=2
 ·exact ZmB0
 skip
 by_cases h3:k=3
 ·exact ZmB0
 skip
 by_cases h4:k=4
 ·exact ZmB0
 skip
 by_cases h5:k=5
 ·exact ZmB0
 skip
 by_cases h6:k=6
 ·exact ZmB0
 skip
 by_cases h7:k=7
 ·exact ZmB0
 skip
 by_cases h8:k=8
 ·go_wp2_with(with_reducible go_at_call 74;refine(HCN.o _).mono ?_;rintro en w' ⟨rfl,x5,rfl⟩)
  all_goals(go_ret;refine⟨qZ (fun b=>Ending.returned (Value.bool b)) ?_,aF ?_⟩)
  all_goals first
   |(rw[HR.o,jj];unfold okN g8 pH;simp;omega)
   |(repeat' first|exact qn _ _|refine Below.setCell ?_ ?_ _|refine Below.alloc ?_ ?_ _|refine dW ?_ _|(simp;done)|(simp;omega))
 skip
 exact ZmB0
theorem q3b{w:World}(x:Nd):Calls prog 27 #[.agg (ndA x)] w fun e w'=>e=.returned (.bool (decide (okN x)))/\∃x,w'=ext w x:=by
 obtain⟨r,hr⟩:∃r,r=decide (okN x):=⟨_,rfl⟩;have HR:=qa hr;rw[<-hr];have c1:=q1q;have c2:=zY;have c3:=zZ;have g1:=kC;have g2:=pA;clear hr;obtain⟨k,n,a,b,c,d,lo,hi⟩:=x;unfold ndA;go_enter func27,ntmps27;by_cases h1:k=1
 ·exact ZmB0
 skip
 by_cases h2:k=2
 ·exact ZmB0
 skip
 by_cases h3:k=3
 ·exact ZmB0
 skip
 by_cases h4:k=4
 ·exact ZmB0
 skip
 by_cases h5:k=5
 ·exact ZmB0
 skip
 by_cases h6:k=6
 ·exact ZmB0
 skip
 by_cases h7:k=7
 ·exact ZmB0
 skip
 by_cases h8:k=8
 ·go_wp2
  all_goals(go_ret;refine⟨qZ (fun b=>Ending.returned (Value.bool b)) ?_,aF ?_⟩)
  all_goals first
   |(rw[HR.o,jj];unfold okN g8 pH;simp;omega)
   |(repeat' first|exact qn _ _|refine Below.setCell ?_ ?_ _|refine Below.alloc ?_ ?_ _|refine dW ?_ _|(simp;done)|(simp;omega))
 skip
 exact ZmB0
def gI(l:List Nd):Int:=if Chk l then 0 else 4
theorem oJ(x:Nd)(c:Nat):(ndC x).getD c undef=(ndA x).getD c undef:=by unfold ndC ndA;simp[List.getD,qR]
theorem q0m(l:List Nd)(q:Nat)(h:q<l.length):l.getD q zN=l[q]:=by simp[List.getD,h]
theorem A3{w:World}{v:Value}{l:List Nd}(h:aO w v l):
  Calls prog 39 #[v] w fun e w'=>e=.returned (.int .i64 (gI l))/\∃x,w'=ext w x:=by
 have q72:=qa (fun hl=>q59 h hl 0);obtain⟨oa,cap,b,off,rfl,hd,hc⟩:=h.open;have hix:=d8 hd;have HC:Hid (∀i,i<l.length->∀c,c<8->w.cell? ⟨b,off+i*8+c,none⟩=some ((ndA (l.getD i zN)).getD c undef)):=qa (fun i hi c h8=>by rw[hc i hi c h8,oJ]);have HB:=qa hd.hblk;have hm:=hd.len;obtain⟨R,hR⟩:∃R,R=gI l:=⟨_,rfl⟩;have HR:=qa hR;have HF:Hid (∀w k n a b c d lo hi,Calls prog 66 #[.agg #[.int .i64 k,.int .i64 n,.int .u64 a,.int .u64 b,.int .u64 c,.int .u64 d,.int .i64 lo,.int .i64 hi]] w fun e w'=>e=.returned (.bool (decide (okN ⟨k,n,a,b,c,d,lo,hi⟩)))/\∃x,w'=ext w x):=qa (fun w k n a b c d lo hi=>N4 ⟨k,n,a,b,c,d,lo,hi⟩);have H4:Hid (¬Chk l->R=4):=qa (fun h=>by rw[hR];unfold gI;rw[qu h]);have H0:Hid (Chk l->R=0):=qa (fun h=>by rw[hR];unfold gI;rw[qv h]);have HCH:Hid (Chk l↔(l.length<=400/\l.length≠0/\pG l.length 1 l 0=l.length/\∀x∈l,okN x)):=qa (by unfold Chk;exact Iff.rfl);rw[<-hR];clear h hd hc hR;go_enter func39,ntmps39;by_cases h0:l.length=0
 ·have HV:=qa (H4.o (fun h=>(HCH.o.1 h).2.1 h0))
  go_wp2;go_ret;exact⟨by rw[HV.o];rfl,cB _⟩
 by_cases h1:400<l.length
 ·exact ZmB4
 have hb0:((l.length:Int)==0)=false:=by simpa using h0
 have hb1:decide ((400:Int)<l.length)=false:=by simp;omega
 have HE:=qa (q72.o (by omega));obtain⟨z,hz⟩:∃z,z=pG l.length 1 (l.drop 0) 0:=⟨_,rfl⟩;rw[<-hz]at HE;rw[List.drop_zero]at hz;rw[show((0:Nat):Int)=0 from rfl]at HE;by_cases h2:z=l.length
 ·have HZ:=qa (hz.symm.trans h2)
  clear hz;subst h2
  go_wp2_with(with_reducible go_at_call 65;refine(HE.o).mono ?_;rintro en w' ⟨rfl,x1,rfl⟩)
  go_loopg [22] (l.length) (fun gk iv wr=>∃j:Nat,iv=.int .i64 j/\j<=l.length/\(∀q,q<j->okN (l.getD q zN))/\(∃x,wr=ext w x)/\gk=l.length-j)
  case atStart=>exact⟨0,rfl,qd _,fun q hq=>absurd hq (qB q),⟨x1,rfl⟩,rfl⟩
  case round=>
   obtain⟨j,rfl,hj,hall,⟨xr,rfl⟩,rfl⟩:=hrel;have HA:=qa hall;clear hall;by_cases hlt:j<l.length
   ·have hcell:=HC.o j hlt
    have HBJ:=qa (HB.o (by omega));obtain⟨y,hy⟩:∃y,y=l.getD j zN:=⟨_,rfl⟩;rw[<-hy]at hcell;have HY:=qa hy;clear hy;obtain⟨k,n,a,b',c,d,lo,hi⟩:=y;have HCE:Hid (∀c',c'<8->(ext w xr).cell? ⟨b,off+j*8+c',none⟩=some ((#[.int .i64 k,.int .i64 n,.int .u64 a,.int .u64 b',.int .u64 c,.int .u64 d,.int .i64 lo,.int .i64 hi]:Array Value).getD c' undef)):=qa (fun c' h=>by rw[cell?_ext _ _ _ _ HBJ.o];exact hcell c' h);clear hcell;have HF1:=qa (fun w=>HF.o w k n a b' c d lo hi);by_cases hok:okN ⟨k,n,a,b',c,d,lo,hi⟩
    ·have hdo:decide (okN ⟨k,n,a,b',c,d,lo,hi⟩)=true:=by simpa using hok
     have HOK:=qa hok;clear hok;rw[hdo]at HF1
     go_wp2_with(first|(refine aJ rfl 77 _ rfl b (off+j*8) 8 rfl _ _ HCE.o rfl underlying77 rfl (by kernel_rfl) ?_)|((with_reducible go_at_call 66);refine(HF1.o _).mono ?_;rintro en w' ⟨rfl,x2,rfl⟩))
     go_roundg (l.length-(j+1))
     case measure=>omega
     case rel=>
      refine⟨j+1,by go_num,by omega,fun q hq=>?_,aF (dW (Below.alloc (aC w xr) (fX w xr) _) x2),rfl⟩;by_cases hqj:q=j
      ·rw[hqj,<-HY.o];exact HOK.o
      exact HA.o q (by omega)
    have hdo:decide (okN ⟨k,n,a,b',c,d,lo,hi⟩)=false:=by simpa using hok
    have HV:=qa (H4.o (fun h=>hok (by rw[HY.o];exact(HCH.o.1 h).2.2.2 _ (by rw[q0m l j hlt];exact jk hlt))));clear hok;rw[hdo]at HF1
    go_wp2_with(first|(refine aJ rfl 77 _ rfl b (off+j*8) 8 rfl _ _ HCE.o rfl underlying77 rfl (by kernel_rfl) ?_)|((with_reducible go_at_call 66);refine(HF1.o _).mono ?_;rintro en w' ⟨rfl,x2,rfl⟩))
    go_ret;exact⟨by rw[HV.o];rfl,aF (dW (Below.alloc (aC w xr) (fX w xr) _) x2)⟩
   exact ZmB3
 have HV:=qa (H4.o (fun h=>h2 (hz.trans (HCH.o.1 h).2.2.1)));clear hz
 go_wp2_with(with_reducible go_at_call 65;refine(HE.o).mono ?_;rintro en w' ⟨rfl,x1,rfl⟩)
 go_ret;exact⟨by rw[HV.o];rfl,x1,rfl⟩
theorem N5{w:World}{v:Value}{l:List Nd}(h:aO w v l):
  Calls prog 11 #[v] w fun e w'=>e=.returned (.int .i64 (gI l))/\∃x,w'=ext w x:=by
 have q72:=qa (fun hl=>q5a h hl 0);obtain⟨oa,cap,b,off,rfl,hd,hc⟩:=h.open;have hix:=d8 hd;have HC:Hid (∀i,i<l.length->∀c,c<8->w.cell? ⟨b,off+i*8+c,none⟩=some ((ndA (l.getD i zN)).getD c undef)):=qa (fun i hi c h8=>by rw[hc i hi c h8,oJ]);have HB:=qa hd.hblk;have hm:=hd.len;obtain⟨R,hR⟩:∃R,R=gI l:=⟨_,rfl⟩;have HR:=qa hR;have HF:Hid (∀w k n a b c d lo hi,Calls prog 27 #[.agg #[.int .i64 k,.int .i64 n,.int .u64 a,.int .u64 b,.int .u64 c,.int .u64 d,.int .i64 lo,.int .i64 hi]] w fun e w'=>e=.returned (.bool (decide (okN ⟨k,n,a,b,c,d,lo,hi⟩)))/\∃x,w'=ext w x):=qa (fun w k n a b c d lo hi=>q3b ⟨k,n,a,b,c,d,lo,hi⟩);have H4:Hid (¬Chk l->R=4):=qa (fun h=>by rw[hR];unfold gI;rw[qu h]);have H0:Hid (Chk l->R=0):=qa (fun h=>by rw[hR];unfold gI;rw[qv h]);have HCH:Hid (Chk l↔(l.length<=400/\l.length≠0/\pG l.length 1 l 0=l.length/\∀x∈l,okN x)):=qa (by unfold Chk;exact Iff.rfl);rw[<-hR];clear h hd hc hR;go_enter func11,ntmps11;by_cases h1:400<l.length
 ·exact ZmB4
 have hb1:decide ((400:Int)<l.length)=false:=by simp;omega
 have HE:=qa (q72.o (by omega));obtain⟨z,hz⟩:∃z,z=pG l.length 1 (l.drop 0) 0:=⟨_,rfl⟩;rw[<-hz]at HE;rw[List.drop_zero]at hz;rw[show((0:Nat):Int)=0 from rfl]at HE;by_cases h2:z=l.length
 ·have HZ:=qa (hz.symm.trans h2)
  have h0:l.length≠0:=by
   intro h;have hl0:l=[]:=List.length_eq_zero_iff.1 h;rw[hl0]at hz h2;rw[hz]at h2;simp[pG]at h2
  have hb0:((l.length:Int)==0)=false:=by simpa using h0
  clear hz;subst h2
  go_wp2_with(with_reducible go_at_call 26;refine(HE.o).mono ?_;rintro en w' ⟨rfl,x1,rfl⟩)
  go_loopg [3] (l.length) (fun gk iv wr=>∃j:Nat,iv=.int .i64 j/\j<=l.length/\(∀q,q<j->okN (l.getD q zN))/\(∃x,wr=ext w x)/\gk=l.length-j)
  case atStart=>exact⟨0,rfl,qd _,fun q hq=>absurd hq (qB q),⟨x1,rfl⟩,rfl⟩
  case round=>
   obtain⟨j,rfl,hj,hall,⟨xr,rfl⟩,rfl⟩:=hrel;have HA:=qa hall;clear hall;by_cases hlt:j<l.length
   ·have hcell:=HC.o j hlt
    have HBJ:=qa (HB.o (by omega));obtain⟨y,hy⟩:∃y,y=l.getD j zN:=⟨_,rfl⟩;rw[<-hy]at hcell;have HY:=qa hy;clear hy;obtain⟨k,n,a,b',c,d,lo,hi⟩:=y;have HCE:Hid (∀c',c'<8->(ext w xr).cell? ⟨b,off+j*8+c',none⟩=some ((#[.int .i64 k,.int .i64 n,.int .u64 a,.int .u64 b',.int .u64 c,.int .u64 d,.int .i64 lo,.int .i64 hi]:Array Value).getD c' undef)):=qa (fun c' h=>by rw[cell?_ext _ _ _ _ HBJ.o];exact hcell c' h);clear hcell;have HF1:=qa (fun w=>HF.o w k n a b' c d lo hi);by_cases hok:okN ⟨k,n,a,b',c,d,lo,hi⟩
    ·have hdo:decide (okN ⟨k,n,a,b',c,d,lo,hi⟩)=true:=by simpa using hok
     have HOK:=qa hok;clear hok;rw[hdo]at HF1
     go_wp2_with(first|(refine aJ rfl 77 _ rfl b (off+j*8) 8 rfl _ _ HCE.o rfl underlying77 rfl (by kernel_rfl) ?_)|((with_reducible go_at_call 27);refine(HF1.o _).mono ?_;rintro en w' ⟨rfl,x2,rfl⟩))
     go_roundg (l.length-(j+1))
     case measure=>omega
     case rel=>
      refine⟨j+1,by go_num,by omega,fun q hq=>?_,aF (dW (aC w xr) x2),rfl⟩;by_cases hqj:q=j
      ·rw[hqj,<-HY.o];exact HOK.o
      exact HA.o q (by omega)
    have hdo:decide (okN ⟨k,n,a,b',c,d,lo,hi⟩)=false:=by simpa using hok
    have HV:=qa (H4.o (fun h=>hok (by rw[HY.o];exact(HCH.o.1 h).2.2.2 _ (by rw[q0m l j hlt];exact jk hlt))));clear hok;rw[hdo]at HF1
    go_wp2_with(first|(refine aJ rfl 77 _ rfl b (off+j*8) 8 rfl _ _ HCE.o rfl underlying77 rfl (by kernel_rfl) ?_)|((with_reducible go_at_call 27);refine(HF1.o _).mono ?_;rintro en w' ⟨rfl,x2,rfl⟩))
    go_ret;exact⟨by rw[HV.o];rfl,aF (dW (aC w xr) x2)⟩
   exact ZmB3
 have HV:=qa (H4.o (fun h=>h2 (hz.trans (HCH.o.1 h).2.2.1)));clear hz
 go_wp2_with(with_reducible go_at_call 26;refine(HE.o).mono ?_;rintro en w' ⟨rfl,x1,rfl⟩)
 go_ret;exact⟨by rw[HV.o];rfl,x1,rfl⟩
def dX:Fo->Nat->List Nat
 |.nil,_=>[]
 |.cons _ k r,at_=>at_::dX r (at_+1+(aT k).length)
theorem cD:∀(f:Fo) (at_:Nat),(dX f at_).length=cnt f
 |.nil,_=>rfl
 |.cons x k r,at_=>by simp[dX,cnt,cD r]
def nz(l:List Nat):List Int:=l.map Int.ofNat
theorem mU(l:List Nat):(nz l).length=l.length:=by simp[nz]
theorem uM(l:List Nat)(j:Nat)(h:j<l.length):(nz l).getD j 0=(l.getD j 0:Nat):=by simp[nz,List.getD,h]
theorem wH(a b:List Nat):nz (a++b)=nz a++nz b:=by simp[nz]
theorem pY(a b:List Int):ints (a++b)=ints a++ints b:=by simp[ints]
theorem wI(l:List Int):∀u∈ints l,u.oneCell'=true:=by
 intro u hu;simp only[ints,jz]at hu;obtain⟨x,-,rfl⟩:=hu
 rfl
theorem cZ{α:Type}{l t:List α}{x d:α}{i:Nat}(h:l.drop i=x::t):i<l.length/\l.getD i d=x/\l.drop (i+1)=t:=by
 have hi:i<l.length:=by
  apply qi;intro hn;rw[List.drop_eq_nil_of_le (by omega)]at h;cases h
 rw[jC hi]at h;simp only[List.cons.injEq]at h;exact⟨hi,by simp[List.getD,hi,h.1],h.2⟩
theorem kD{α:Type}{l a b:List α}{i:Nat}(h:l.drop i=a++b):l.drop (i+a.length)=b:=by
 rw[<-List.drop_drop,h,List.drop_left]
theorem q26{w:World}{v:Value}{l post:List Nd}{x:Nd}{k:Fo}{i:Nat}(h:aO w v l)(hl:l.length<=400)(hd0:l.drop i=x::(aT k++post))(hn:x.n=cnt k)(hk:wf k):
  Calls prog 28 #[v,.int .i64 i] w fun e w'=>∃u,e=.returned u/\fN w' u (nz (dX k (i+1)))/\∃x,w'=ext w x:=by
 have q72:=qa (fun w' hb j=>q5a (aO.up h hb (w':=w')) hl j);obtain⟨oa,cap,b,off,rfl,hd,hc⟩:=h.open;obtain⟨hi,hx,hd1⟩:=cZ (d:=zN) hd0;have hix:=fun(W:World)=>d8 hd W .i64 i (by omega) (by omega);have hcell:=hc i hi 1 (by decide);rw[hx]at hcell;have q6E:w.cell? ⟨b,off+i*8+1,none⟩=some (.int .i64 (cnt k:Nat)):=by rw[<-hn];exact hcell
 have hb:=hd.hblk (by omega);have hck:=cnt_le k
 have hlk:i+1+(aT k).length+post.length=l.length:=by
  have:=qZ List.length hd1;simp only[j3,qj]at this;omega
 simp only[qC]at hix;have HD:=qa hd1;have HK:=qa hk;clear h hd hc hcell hx hd0 hd1 hk hn;go_enter func28,ntmps28;go_wp2
 go_loopg [5,6,7] (cnt k) (fun gk ov av jv wr=>∃(j at_:Nat) (r:Fo) (ls:List Nat),jv=.int .i64 j/\av=.int .i64 at_/\at_+(aT r).length+post.length=l.length/\j+cnt r=cnt k/\l.drop at_=aT r++post/\wf r/\ls++dX r at_=dX k (i+1)/\ls.length=j/\Own wr w.heap.size 3 ov (ints (nz ls))/\Below w.heap.size w wr/\gk=cnt k-j)
 case atStart=>exact⟨0,i+1,k,[],rfl,by push_cast;rfl,by omega,by omega,HD.o,HK.o,rfl,rfl,Own.nil _ _ _,qn _ _,rfl⟩
 case round=>
  obtain⟨j,at_,r,ls,rfl,rfl,q6q,hj,hdr,hwr,hls,hll,hown,q5T,rfl⟩:=hrel;have HO:=qa hown;have HBL:=qa q5T;have HLS:=qa hls;clear hown q5T hls;have hcw:=(HBL.o.cell (p:=⟨b,off+i*8+1,none⟩) hb).trans q6E;have hbw:b<wr.heap.size:=by have:=HBL.o.size;omega
  cases r with
  |nil=>
   have hje:j=cnt k:=by simpa[cnt]using hj
   have HE:Hid (nz ls=nz (dX k (i+1))):=qa (by rw[<-HLS.o];simp[dX]);go_wp2;go_ret;refine⟨u5,rfl,?_,aF HBL.o⟩;rw[<-HE.o];exact HO.o.sl
  |cons y ky r'=>
   simp only[cnt]at hj;simp only[aT,jl,qk]at hdr;simp only[aT,qz,qj]at q6q;obtain⟨hy1,hy2,hy3⟩:=hwr;have hend:=wB l.length (aT r'++post) y ky hy1 hy2 (by omega) at_;rw[<-hdr]at hend;obtain⟨-,-,q6f⟩:=cZ (d:=zN) hdr;have HDR:Hid (l.drop (at_+1+(aT ky).length)=aT r'++post):=qa (kD q6f);have hee:((at_:Int)+(1+(aT ky).length))=((at_+1+(aT ky).length:Nat):Int):=by push_cast;omega
   rw[hee]at hend;have HEN:=qa hend;have HW3:=qa hy3;clear hdr q6f hend hee hy1 hy2 hy3;have hlW:=qa (aB wr (.cells #[.int .i64 (at_:Int)] 3));have HX:Hid (Sl (wr.alloc (.cells #[.int .i64 (at_:Int)] 3)) (.slice (some ⟨wr.heap.size,0,none⟩) 1 1) (ints (nz [at_]))):=qa (by simpa[ints,nz]using fZ wr #[.int .i64 (at_:Int)] 3 (by simp));have HT1:=qa (HO.o.up hlW.out);have HT3:Hid ((ints (nz ls)).length+(ints (nz [at_])).length<=4294967296):=qa (by simp[nz];omega);have HT4:Hid (w.heap.size<=(wr.alloc (.cells #[.int .i64 (at_:Int)] 3)).heap.size):=qa (qc HBL.o.size hlW.out.size)
   go_wp2_with(first|(at_builtin;refine bU rfl (.tmp 19) (.tmp 21) 27 rfl w.heap.size 3 (.int .i64 0) 8 underlying27 (by kernel_rfl) rfl (by decide) u5 (ints (nz ls)) rfl HT1.o (.slice (some ⟨wr.heap.size,0,none⟩) 1 1) (ints (nz [at_])) rfl HX.o (wI _) HT3.o HT4.o ?_;intro v' w5 hown1 hg1 hk1;have HO1:=qa hown1;have HG1:=qa hg1;clear hown1 hg1 hk1;have HB5:=qa (iW (HBL.o.trans (hlW.out.mono HBL.o.size)) HT4.o HT1.o HG1.o))|((with_reducible go_at_call 26);refine(q72.o _ HB5.o at_).mono ?_;rintro en w' ⟨rfl,x6,rfl⟩;rw[HEN.o]))
   go_roundg (cnt k-(j+1))
   case measure=>omega
   case rel=>
    refine⟨j+1,at_+1+(aT ky).length,r',ls++[at_],by go_num,rfl,by omega,by omega,HDR.o,HW3.o,?_,by simp[hll],?_,yJ HB5.o HB5.o.size x6,rfl⟩
    ·rw[<-HLS.o];simp[dX]
    rw[wH,pY];exact HO1.o.upB (qb _) (aC w5 x6)
theorem A4{x:Nd}(h:okN x):x.kd=1\/x.kd=2\/x.kd=3\/x.kd=4\/x.kd=5\/x.kd=6\/x.kd=7\/x.kd=8:=by
 unfold okN at h;omega
theorem q4w(N:Nat):∀(w:World) (v:Value) (l post:List Nd) (x:Nd) (k:Fo) (i:Nat),(aT k).length<N->aO w v l->l.length<=400->l.drop i=x::(aT k++post)->x.n=cnt k->wf k->okN x->gT okN k->
  Calls prog 43 #[v,.int .i64 i] w fun e w'=>e=.returned (.int .i64 (gU x (dM k)))/\∃x,w'=ext w x:=by
 induction N with
 |zero=>intro w v l post x k i h;omega
 |succ N ih=>
 intro w v l post x k i hN h hl hd0 hn hk hok hall;have HIH:=qa ih;have q7j:=qa (q26 h hl hd0 hn hk);have HAT:=qa h;obtain⟨oa,cap,b,off,rfl,hd,hc⟩:=h.open;obtain⟨hi,hx,hd1⟩:=cZ (d:=zN) hd0;have hix:=fun(W:World)=>d8 hd W .i64 i (by omega) (by omega);have hc0:=hc i hi 0 (by decide);have hc6:=hc i hi 6 (by decide);have hc7:=hc i hi 7 (by decide);rw[hx]at hc0 hc6 hc7;rw[jD]at hc0;have hb:=hd.hblk (by omega);have hck:=cnt_le k
 have hlk:i+1+(aT k).length+post.length=l.length:=by
  have:=qZ List.length hd1;simp only[j3,qj]at this;omega
 have hsz:=eM k hall;simp only[qC]at hix;have HD:=qa hd1;have HK:=qa hk;have HA:=qa hall;have HKD:=qa (A4 hok);have HTM:=qa (lC hok);obtain⟨R,hR⟩:∃R,R=gU x (dM k):=⟨_,rfl⟩;have HR:=qa hR;rw[<-hR];obtain⟨xk,xn,xa,xb,xc,xd,xl,xh⟩:=x;change w.cell? ⟨b,off+i*8,none⟩=some (.int .i64 xk)at hc0;change w.cell? ⟨b,off+i*8+6,none⟩=some (.int .i64 xl)at hc6;change w.cell? ⟨b,off+i*8+7,none⟩=some (.int .i64 xh)at hc7;clear ih h hd hc hx hd0 hd1 hk hn hR hok hall;go_enter func43,ntmps43
 go_wp2_with((with_reducible go_at_call 28);refine q7j.o.mono ?_;rintro en w1 ⟨u,rfl,hu,x1,rfl⟩;(have HB1:=qa (aC w x1));obtain⟨ok,ck,bk,fk,rfl,hdk,q5V⟩:=hu.open;(rw[show(nz (dX k (i+1))).length=cnt k by rw[mU,cD]]at hdk q5V⊢);(generalize ext w x1=w1 at*))
 have q67:=aZ (P:=prog) 27 3 underlying27 (by kernel_rfl) hdk;have HCK:=qa q5V;have HBK:=qa hdk.hblk;have hw1:=HB1.o.size;clear hu hdk q5V
 go_loopg [6,7] (cnt k) (fun gk sv jv wr=>∃(j at_:Nat) (r:Fo) (s:Int),jv=.int .i64 j/\sv=.int .i64 s/\at_+(aT r).length+post.length=l.length/\j+cnt r=cnt k/\l.drop at_=aT r++post/\wf r/\gT okN r/\(dX k (i+1)).drop j=dX r at_/\0<=s/\s+dM r=dM k/\(aT r).length<=(aT k).length/\Below w1.heap.size w1 wr/\gk=cnt k-j)
 case atStart=>exact⟨0,i+1,k,0,rfl,rfl,by omega,by omega,HD.o,HK.o,HA.o,rfl,by omega,by omega,qb _,qn _ _,rfl⟩
 case round=>
  obtain⟨j,at_,r,s,rfl,rfl,q6q,hj,hdr,hwr,har,hls,hs0,hss,hrk,q5T,rfl⟩:=hrel;have HBL:=qa q5T;have HBW:=qa (HB1.o.trans (q5T.mono hw1));clear q5T;cases r with
  |nil=>
   have hje:j=cnt k:=by simpa[cnt]using hj
   have hse:s=dM k:=by simpa[dM]using hss
   subst hje;have HR2:=HR;rw[<-hse]at HR2;have hsB:s<=400000000:=by omega
   clear hss hdr hwr har hls HR hse;have h0:=(HBW.o.cell (p:=⟨b,off+i*8,none⟩) hb).trans hc0;have h6:=(HBW.o.cell (p:=⟨b,off+i*8+6,none⟩) hb).trans hc6;have h7:=(HBW.o.cell (p:=⟨b,off+i*8+7,none⟩) hb).trans hc7;have hbw:b<wr.heap.size:=by have:=HBW.o.size;omega
   clear hc0 hc6 hc7;have q6b:=HTM.o;have hkd:=HKD.o
   try simp only at q6b
   try simp only at hkd
   clear HTM HKD;have fin:∀t:Int,0<=t->t<=30->0<=t*s/\t*s<=30*400000000:=fun t h0 h1=>⟨Int.mul_nonneg h0 hs0,Int.mul_le_mul h1 (by omega) hs0 (by omega)⟩;rcases hkd with h|h|h|h|h|h|h|h
   all_goals subst h
   case inr.inr.inr.inr.inr.inr.inr=>
    have ht:=q6b rfl;unfold dC at ht;simp only at ht;by_cases q7n:xh<0
    ·rw[qv q7n]at ht
     have ft:=fin _ ht.1 ht.2;have HR3:Hid (R=min (2+max xl 1*s) 1000000):=qa (by rw[HR2.o];simp[gU,dC,q7n]);clear q6b fin;by_cases hx1:1<=xl
     all_goals
      first|rw[show max xl 1=xl by omega]at HR3 ft ht|rw[show max xl 1=1 by omega]at HR3 ft ht
      go_wp2
      all_goals(go_ret;refine⟨qZ (fun b=>Ending.returned (Value.int .i64 b)) ?_,aF HBW.o⟩;rw[HR3.o];omega)
    rw[qu q7n]at ht;have ft:=fin _ ht.1 ht.2;have HR3:Hid (R=min (2+xh*s) 1000000):=qa (by rw[HR2.o];simp[gU,dC,q7n]);clear q6b fin;go_wp2
    all_goals(go_ret;refine⟨qZ (fun b=>Ending.returned (Value.int .i64 b)) ?_,aF HBW.o⟩;rw[HR3.o];omega)
   all_goals
    clear q6b fin;go_wp2
    all_goals(go_ret;refine⟨qZ (fun b=>Ending.returned (Value.int .i64 b)) ?_,aF HBW.o⟩;rw[HR2.o];first|(simp[gU];done)|(simp[gU];omega))
  |cons y ky r'=>
   simp only[cnt]at hj;simp only[aT,jl,qk]at hdr;simp only[aT,qz,qj]at q6q hrk;obtain⟨hy1,hy2,hy3⟩:=hwr;obtain⟨ha1,ha2,ha3⟩:=har;simp only[dX]at hls;obtain⟨hjl,hja,q7R⟩:=cZ (d:=0) hls;rw[cD]at hjl;have hcj:=HCK.o j hjl;rw[uM _ _ (by rw[cD];exact hjl),hja]at hcj;have hbk:=HBK.o (by omega);have q91:=(HBL.o.cell (p:=⟨bk,fk+j,none⟩) hbk).trans hcj;have q7a:bk<wr.heap.size:=by have:=HBL.o.size;omega
   obtain⟨-,-,q6f⟩:=cZ (d:=zN) hdr;have HDR:Hid (l.drop (at_+1+(aT ky).length)=aT r'++post):=qa (kD q6f);have HCL:=qa (HIH.o wr _ l (aT r'++post) y ky at_ (by omega) (HAT.o.up HBW.o) hl hdr hy1 hy2 ha1 ha2);have hs1:=(f9 ha1 (eM ky ha2).1);have hs2:=eM r' ha3;simp only[dM]at hss;generalize gU y (dM ky)=t at*;have HW3:=qa hy3;have HA3:=qa ha3;have HLS:=qa q7R;clear hdr q6f hy1 hy2 hy3 ha1 ha2 ha3 hls q7R hja hcj
   go_wp2_with((with_reducible go_at_call 43);refine HCL.o.mono ?_;rintro en w' ⟨rfl,x6,rfl⟩)
   exact ZmB2
theorem q27(N:Nat):∀(w:World) (v:Value) (l post:List Nd) (x:Nd) (k:Fo) (i:Nat),(aT k).length<N->aO w v l->l.length<=400->l.drop i=x::(aT k++post)->x.n=cnt k->wf k->okN x->gT okN k->
  Calls prog 12 #[v,.int .i64 i] w fun e w'=>∃n:Int,e=.returned (.int .i64 n)/\0<=n/\n<=100000/\∃x,w'=ext w x:=by
 induction N with
 |zero=>intro w v l post x k i h;omega
 |succ N ih=>
 intro w v l post x k i hN h hl hd0 hn hk hok hall;have HIH:=qa ih;have q7j:=qa (q26 h hl hd0 hn hk);have HAT:=qa h;obtain⟨oa,cap,b,off,rfl,hd,hc⟩:=h.open;obtain⟨hi,hx,hd1⟩:=cZ (d:=zN) hd0;have hix:=fun(W:World)=>d8 hd W .i64 i (by omega) (by omega);have hc0:=hc i hi 0 (by decide);have hc6:=hc i hi 6 (by decide);have hc7:=hc i hi 7 (by decide);rw[hx]at hc0 hc6 hc7;rw[jD]at hc0;have hb:=hd.hblk (by omega);have hck:=cnt_le k
 have hlk:i+1+(aT k).length+post.length=l.length:=by
  have:=qZ List.length hd1;simp only[j3,qj]at this;omega
 have hsz:=eM k hall;simp only[qC]at hix;have HD:=qa hd1;have HK:=qa hk;have HA:=qa hall;have HKD:=qa (A4 hok);have HTM:Hid (x.kd=8->0<=x.lo/\x.lo<=30/\ -1<=x.hi/\x.hi<=30):=qa (fun h8=>by unfold okN at hok;omega);obtain⟨xk,xn,xa,xb,xc,xd,xl,xh⟩:=x;change w.cell? ⟨b,off+i*8,none⟩=some (.int .i64 xk)at hc0;change w.cell? ⟨b,off+i*8+6,none⟩=some (.int .i64 xl)at hc6;change w.cell? ⟨b,off+i*8+7,none⟩=some (.int .i64 xh)at hc7;clear ih h hd hc hx hd0 hd1 hk hn hok hall hsz;go_enter func12,ntmps12
 go_wp2_with((with_reducible go_at_call 28);refine q7j.o.mono ?_;rintro en w1 ⟨u,rfl,hu,x1,rfl⟩;(have HB1:=qa (aC w x1));obtain⟨ok,ck,bk,fk,rfl,hdk,q5V⟩:=hu.open;(rw[show(nz (dX k (i+1))).length=cnt k by rw[mU,cD]]at hdk q5V⊢);(generalize ext w x1=w1 at*))
 have q67:=aZ (P:=prog) 27 3 underlying27 (by kernel_rfl) hdk;have HCK:=qa q5V;have HBK:=qa hdk.hblk;have hw1:=HB1.o.size;clear hu hdk q5V
 go_loopg [6,7] (cnt k) (fun gk sv jv wr=>∃(j at_:Nat) (r:Fo) (s:Int),jv=.int .i64 j/\sv=.int .i64 s/\at_+(aT r).length+post.length=l.length/\j+cnt r=cnt k/\l.drop at_=aT r++post/\wf r/\gT okN r/\(dX k (i+1)).drop j=dX r at_/\1<=s/\s<=1+100000*j/\(aT r).length<=(aT k).length/\Below w1.heap.size w1 wr/\gk=cnt k-j)
 case atStart=>exact⟨0,i+1,k,1,rfl,rfl,by omega,by omega,HD.o,HK.o,HA.o,rfl,by omega,by omega,qb _,qn _ _,rfl⟩
 case round=>
  obtain⟨j,at_,r,s,rfl,rfl,q6q,hj,hdr,hwr,har,hls,hs0,hss,hrk,q5T,rfl⟩:=hrel;have HBL:=qa q5T;have HBW:=qa (HB1.o.trans (q5T.mono hw1));clear q5T;cases r with
  |nil=>
   have hje:j=cnt k:=by simpa[cnt]using hj
   subst hje;clear hdr hwr har hls;have h0:=(HBW.o.cell (p:=⟨b,off+i*8,none⟩) hb).trans hc0;have h6:=(HBW.o.cell (p:=⟨b,off+i*8+6,none⟩) hb).trans hc6;have h7:=(HBW.o.cell (p:=⟨b,off+i*8+7,none⟩) hb).trans hc7;have hbw:b<wr.heap.size:=by have:=HBW.o.size;omega
   clear hc0 hc6 hc7;have q6b:=HTM.o;have hkd:=HKD.o
   try simp only at q6b
   try simp only at hkd
   clear HTM HKD;by_cases h8:xk=8
   ·subst h8
    have ht:=q6b rfl;clear q6b hkd;have fin:∀t:Int,0<=t->t<=31->0<=s*t/\s*t<=40000001*31:=fun t h0 h1=>⟨Int.mul_nonneg (by omega) h0,Int.le_trans (Int.mul_le_mul_of_nonneg_left h1 (by omega)) (by omega)⟩;obtain⟨m,hmx,hm0,hm1⟩:∃m,(if xl<xh then xh else xl)=m/\0<=m/\m<=30:=⟨_,rfl,by split<;>omega,by split<;>omega⟩;have ft:=fin (1+m) (by omega) (by omega);obtain⟨q,hq⟩:∃q,q=s*(1+m):=⟨_,rfl⟩;rw[<-hq]at ft;have HMX:=qa hmx;have HWR:Hid (wrap64 (s*(1+m))=q):=qa (by rw[<-hq];exact IntWalk.wrap64_in q ⟨by omega,by omega⟩);clear fin hmx hq;go_wp2
    go_quiet (fail)
    rw[HMX.o,HWR.o];go_wp2
    all_goals(go_ret;exact⟨_,rfl,by omega,by omega,aF (uE HBW.o _)⟩)
   clear q6b hkd;go_wp2
   all_goals(go_ret;first|exact⟨_,rfl,by omega,by omega,aF HBW.o⟩|exact⟨_,rfl,by omega,by omega,aF (uE HBW.o _)⟩)
  |cons y ky r'=>
   simp only[cnt]at hj;simp only[aT,jl,qk]at hdr;simp only[aT,qz,qj]at q6q hrk;obtain⟨hy1,hy2,hy3⟩:=hwr;obtain⟨ha1,ha2,ha3⟩:=har;simp only[dX]at hls;obtain⟨hjl,hja,q7R⟩:=cZ (d:=0) hls;rw[cD]at hjl;have hcj:=HCK.o j hjl;rw[uM _ _ (by rw[cD];exact hjl),hja]at hcj;have hbk:=HBK.o (by omega);have q91:=(HBL.o.cell (p:=⟨bk,fk+j,none⟩) hbk).trans hcj;have q7a:bk<wr.heap.size:=by have:=HBL.o.size;omega
   obtain⟨-,-,q6f⟩:=cZ (d:=zN) hdr;have HDR:Hid (l.drop (at_+1+(aT ky).length)=aT r'++post):=qa (kD q6f);have HCL:=qa (HIH.o wr _ l (aT r'++post) y ky at_ (by omega) (HAT.o.up HBW.o) hl hdr hy1 hy2 ha1 ha2);have HW3:=qa hy3;have HA3:=qa ha3;have HLS:=qa q7R;clear hdr q6f hy1 hy2 hy3 ha1 ha2 ha3 hls q7R hja hcj
   go_wp2_with((with_reducible go_at_call 12);refine HCL.o.mono ?_;rintro en w' ⟨t,rfl,ht0,ht1,x6,rfl⟩)
   exact ZmB2
theorem N6{w:World}(k n a b c d lo hi:Int):Calls prog 73 #[.agg #[.int .i64 k,.int .i64 n,.int .u64 a,.int .u64 b,.int .u64 c,.int .u64 d,.int .i64 lo,.int .i64 hi]] w fun e w'=>e=.returned (.int .i64 (dC ⟨k,n,a,b,c,d,lo,hi⟩))/\∃x,w'=ext w x:=by
 obtain⟨R,hR⟩:∃R,R=dC ⟨k,n,a,b,c,d,lo,hi⟩:=⟨_,rfl⟩;have HR:=qa hR;rw[<-hR];clear hR;go_enter func73,ntmps73;by_cases h:hi<0
 all_goals
  go_wp2
  all_goals(go_ret;refine⟨qZ (fun b=>Ending.returned (Value.int .i64 b)) ?_,aF ?_⟩)
  all_goals first
   |(rw[HR.o];simp only[dC];omega)
   |(repeat' first|exact qn _ _|refine Below.alloc ?_ ?_ _|(simp;done)|(simp;omega))
theorem aO.high{w:World}{v:Value}{l:List Nd}(h:aO w v l)(n:Nat)(hn:n<=l.length):
  ∃u,(∀W:World,(Instr.sliceAt 39 v (some (.int .i64 (n:Int))) none none).run prog W=.ok u W)/\aO w u (l.drop n):=by
 obtain⟨u,h1,h2⟩:=SlK.high (P:=prog) h 39 77 underlying39 (by kernel_rfl) n (by simpa using hn);exact⟨u,h1,by unfold aO;rw[List.map_drop];exact h2⟩
theorem aO.mid{w:World}{v:Value}{l:List Nd}(h:aO w v l)(n m:Nat)(hn:n<=m)(hm:m<=l.length):
  ∃u,(∀W:World,(Instr.sliceAt 39 v (some (.int .i64 (n:Int))) (some (.int .i64 (m:Int))) none).run prog W=.ok u W)/\aO w u ((l.drop n).take (m-n)):=by
 obtain⟨u,h1,h2⟩:=SlK.mid (P:=prog) h 39 77 underlying39 (by kernel_rfl) n m hn (by simpa using hm);exact⟨u,h1,by unfold aO;rw[List.map_take,List.map_drop];exact h2⟩
theorem q4x(N:Nat):∀(w:World) (v:Value) (l post:List Nd) (x:Nd) (k:Fo),(aT k).length<N->aO w v l->l.length<=400->l=x::(aT k++post)->x.n=cnt k->wf k->okN x->gT okN k->
  Calls prog 72 #[v] w fun e w'=>e=.returned (.tuple #[.int .i64 (gU x (dM k)),.int .i64 ((1+(aT k).length:Nat):Int)])/\∃x,w'=ext w x:=by
 induction N with
 |zero=>intro w v l post x k h;omega
 |succ N ih=>
 intro w v l post x k hN h hl hd0 hn hk hok hall;have HIH:=qa ih;have HAT:=qa h;obtain⟨oa,cap,b,off,rfl,hd,hc⟩:=h.open;obtain⟨hi,hx,hd1⟩:=cZ (d:=zN) (i:=0) (l:=l) hd0
 have hix:∀W:World,(Instr.indexAt 39 (.slice oa l.length cap) (.int .i64 0)).run prog W=.ok (.pointer (some ⟨b,off,none⟩)) W:=fun(W:World)=>by
  have:=d8 hd W .i64 0 (by omega) (by omega);simpa using this
 have hb:=hd.hblk (by omega);have hck:=cnt_le k
 have hlk:1+(aT k).length+post.length=l.length:=by
  have:=qZ List.length hd1;simp only[j3,qj]at this;omega
 have hsz:=eM k hall;have hc0:=hc 0 hi;rw[hx]at hc0;have HD:=qa hd1;have HK:=qa hk;have HA:=qa hall;have HKD:=qa (A4 hok);have HTM:=qa (lC hok);obtain⟨R,hR⟩:∃R,R=gU x (dM k):=⟨_,rfl⟩;have HR:=qa hR;obtain⟨T,hT⟩:∃T:Nat,T=1+(aT k).length:=⟨_,rfl⟩;rw[<-hR,<-hT];obtain⟨xk,xn,xa,xb,xc,xd,xl,xh⟩:=x;change xn=_ at hn;subst hn
 have HCE:Hid (∀c',c'<8->w.cell? ⟨b,off+c',none⟩=some ((#[.int .i64 xk,.int .i64 (cnt k),.int .u64 xa,.int .u64 xb,.int .u64 xc,.int .u64 xd,.int .i64 xl,.int .i64 xh]:Array Value).getD c' undef)):=qa (fun c' h=>by
  have:=hc0 c' h;rw[oJ,Nat.zero_mul,jD]at this;exact this)
 have HTT:=qa (fun w=>N6 (w:=w) xk (cnt k) xa xb xc xd xl xh);clear ih h hd hc hx hd0 hd1 hk hR hok hall hc0;go_enter func72,ntmps72
 go_wp2_with(refine aJ rfl 77 _ rfl b off 8 rfl _ _ HCE.o rfl underlying77 rfl (by kernel_rfl) ?_)
 go_loopg [5,6,14] (cnt k) (fun gk sv av jv wr=>∃(j at_:Nat) (r:Fo) (s:Int),jv=.int .i64 j/\av=.int .i64 at_/\sv=.int .i64 s/\at_+(aT r).length+post.length=l.length/\j+cnt r=cnt k/\l.drop at_=aT r++post/\wf r/\gT okN r/\0<=s/\s+dM r=dM k/\(aT r).length<=(aT k).length/\Below w.heap.size w wr/\w.heap.size<wr.heap.size/\(∀c',c'<8->wr.cell? ⟨w.heap.size,c',none⟩=some ((#[.int .i64 xk,.int .i64 (cnt k),.int .u64 xa,.int .u64 xb,.int .u64 xc,.int .u64 xd,.int .i64 xl,.int .i64 xh]:Array Value).getD c' undef))/\gk=cnt k-j)
 case atStart=>exact⟨0,1,k,0,rfl,rfl,rfl,by omega,by omega,HD.o,HK.o,HA.o,by omega,by omega,qb _,aB _ _,by simp,fun c' h=>by rw[World.cell?_alloc_new];simp[qR,h],rfl⟩
 case round=>
  obtain⟨j,at_,r,s,rfl,rfl,rfl,q6q,hj,hdr,hwr,har,hs0,hss,hrk,q5T,hbx,hcx,rfl⟩:=hrel;have HBW:=qa q5T;have HCX:=qa hcx;clear q5T hcx;cases r with
  |nil=>
   have hje:j=cnt k:=by simpa[cnt]using hj
   have hse:s=dM k:=by simpa[dM]using hss
   have hae:at_=1+(aT k).length:=by simp only[aT,qN]at q6q;omega
   rw[<-hse]at HR;have hsB:s<=400000000:=by omega
   rw[<-hT]at hae;subst hae;subst hje;clear hss hdr hwr har hse hT;have h0:=HCX.o 0 (by decide);change wr.cell? ⟨w.heap.size,0,none⟩=some (.int .i64 xk)at h0;have q6b:=HTM.o;have hkd:=HKD.o
   try simp only at q6b
   try simp only at hkd
   clear HTM HKD;have fin:∀t:Int,0<=t->t<=30->0<=t*s/\t*s<=30*400000000:=fun t h0 h1=>⟨Int.mul_nonneg h0 hs0,Int.mul_le_mul h1 (by omega) hs0 (by omega)⟩;rcases hkd with h|h|h|h|h|h|h|h
   all_goals subst h
   case inr.inr.inr.inr.inr.inr.inr=>
    have ht:=q6b rfl;have ft:=fin _ ht.1 ht.2;have HR3:Hid (R=min (2+dC ⟨8,cnt k,xa,xb,xc,xd,xl,xh⟩*s) 1000000):=qa (by rw[HR.o];simp[gU]);generalize dC ⟨8,cnt k,xa,xb,xc,xd,xl,xh⟩=t at*;clear q6b fin;have qcn:Hid (∀c',c'<8->wr.cell? ⟨w.heap.size,0+c',none⟩=some ((#[.int .i64 8,.int .i64 (cnt k),.int .u64 xa,.int .u64 xb,.int .u64 xc,.int .u64 xd,.int .i64 xl,.int .i64 xh]:Array Value).getD c' undef)):=qa (fun c' h=>by rw[qH];exact HCX.o c' h)
    go_wp2_with(first|(refine aJ rfl 77 _ rfl w.heap.size 0 8 rfl _ _ qcn.o rfl underlying77 rfl (by kernel_rfl) ?_)|((with_reducible go_at_call 73);refine(HTT.o _).mono ?_;rintro en w' ⟨rfl,x6,rfl⟩))
    all_goals(go_ret2;refine⟨qZ (fun b=>Ending.returned (Value.tuple #[Value.int .i64 b,Value.int .i64 at_])) ?_,aF (dW HBW.o x6)⟩;rw[HR3.o];omega)
   all_goals
    clear q6b fin;go_wp2
    all_goals(go_ret2;refine⟨qZ (fun b=>Ending.returned (Value.tuple #[Value.int .i64 b,Value.int .i64 at_])) ?_,aF HBW.o⟩;rw[HR.o];first|(simp[gU];done)|(simp[gU];omega))
  |cons y ky r'=>
   simp only[cnt]at hj;simp only[aT,jl,qk]at hdr;simp only[aT,qz,qj]at q6q hrk;obtain⟨hy1,hy2,hy3⟩:=hwr;obtain⟨ha1,ha2,ha3⟩:=har;obtain⟨-,-,q6f⟩:=cZ (d:=zN) hdr;have HDR:Hid (l.drop (at_+1+(aT ky).length)=aT r'++post):=qa (kD q6f);obtain⟨u,hsl,hnu⟩:=(HAT.o.up HBW.o).high at_ (by omega);have HCL:=qa (HIH.o wr u _ (aT r'++post) y ky (by omega) hnu (by rw[j3];omega) hdr hy1 hy2 ha1 ha2);have hs1:=(f9 ha1 (eM ky ha2).1);have hs2:=eM r' ha3;simp only[dM]at hss;generalize gU y (dM ky)=t at*;have HW3:=qa hy3;have HA3:=qa ha3;clear hdr q6f hy1 hy2 hy3 ha1 ha2 ha3 hnu
   go_wp2_with((with_reducible go_at_call 72);refine HCL.o.mono ?_;rintro en w' ⟨rfl,x6,rfl⟩)
   go_roundg (cnt k-(j+1))
   case measure=>omega
   case rel=>
    exact⟨j+1,at_+1+(aT ky).length,r',s+t,by go_num,by go_num,by go_num,by omega,by omega,HDR.o,HW3.o,HA3.o,by omega,by omega,by omega,dW HBW.o x6,qe hbx (fX _ _),fun c' h=>by rw[cell?_ext _ _ _ _ hbx];exact HCX.o c' h,rfl⟩
theorem iI{l:List Nd}(h:Chk l):∃x k,l=x::(aT k++[])/\x.n=cnt k/\wf k/\okN x/\gT okN k/\l.length<=400/\(aT k).length<400/\eR l=gU x (dM k):=by
 obtain⟨x,k,h1,h2,h3,h4,h5,h6⟩:=iY h;refine⟨x,k,by simpa using h1,h2,h3,h4,h5,h.1,h6,?_⟩;unfold eR;rw[qv h,h1,dR x k h2 h3];simp[dM]
theorem fT{l:List Nd}(h:Chk l):gI l=0:=by unfold gI;rw[qv h]
theorem fU{l:List Nd}(h:¬Chk l):gI l=4:=by unfold gI;rw[qu h]
theorem wJ{l:List Nd}(h:¬Chk l):eR l=0:=by unfold eR;rw[qu h]
theorem q0n{w:World}{v:Value}{l:List Nd}(h:aO w v l):
  Calls prog 56 #[v] w fun e w'=>e=.returned (.int .i64 (eR l))/\∃x,w'=ext w x:=by
 have HCH:=qa (A3 h);obtain⟨R,hR⟩:∃R,R=eR l:=⟨_,rfl⟩;rw[<-hR];by_cases hc:Chk l
 ·rw[fT hc]at HCH
  obtain⟨x,k,h1,h2,h3,h4,h5,h6,h7,h8⟩:=iI hc;have HS:=qa (fun x1=>q4x 400 (ext w x1) v l [] x k h7 (h.up (aC w x1)) h6 h1 h2 h3 h4 h5);rw[<-h8,<-hR]at HS;clear h hc h1 h2 h3 h4 h5 h6 h7 h8 hR;go_enter func56,ntmps56
  go_wp2_with(first|((with_reducible go_at_call 39);refine HCH.o.mono ?_;rintro en w' ⟨rfl,x1,rfl⟩)|((with_reducible go_at_call 72);refine(HS.o x1).mono ?_;rintro en w' ⟨rfl,x2,rfl⟩))
  go_ret;exact⟨rfl,yI w x1 x2⟩
 rw[fU hc]at HCH;rw[wJ hc]at hR;have HR:=qa hR;clear h hc hR;go_enter func56,ntmps56
 go_wp2_with((with_reducible go_at_call 39);refine HCH.o.mono ?_;rintro en w' ⟨rfl,x1,rfl⟩)
 go_ret;exact⟨by rw[HR.o];rfl,x1,rfl⟩
theorem q0o{w:World}{v:Value}{l:List Nd}(h:aO w v l):
  Calls prog 23 #[v] w fun e w'=>e=.returned (.int .i64 (eR l))/\∃x,w'=ext w x:=by
 have HCH:=qa (N5 h);obtain⟨R,hR⟩:∃R,R=eR l:=⟨_,rfl⟩;rw[<-hR];by_cases hc:Chk l
 ·rw[fT hc]at HCH
  obtain⟨x,k,h1,h2,h3,h4,h5,h6,h7,h8⟩:=iI hc;have HS:=qa (fun x1=>q4w 400 (ext w x1) v l [] x k 0 h7 (h.up (aC w x1)) h6 h1 h2 h3 h4 h5);rw[<-h8,<-hR]at HS;rw[show((0:Nat):Int)=0 from rfl]at HS;clear h hc h1 h2 h3 h4 h5 h6 h7 h8 hR;go_enter func23,ntmps23
  go_wp2_with(first|((with_reducible go_at_call 11);refine HCH.o.mono ?_;rintro en w' ⟨rfl,x1,rfl⟩)|((with_reducible go_at_call 43);refine(HS.o x1).mono ?_;rintro en w' ⟨rfl,x2,rfl⟩))
  go_ret;exact⟨rfl,yI w x1 x2⟩
 rw[fU hc]at HCH;rw[wJ hc]at hR;have HR:=qa hR;clear h hc hR;go_enter func23,ntmps23
 go_wp2_with((with_reducible go_at_call 11);refine HCH.o.mono ?_;rintro en w' ⟨rfl,x1,rfl⟩)
 go_ret;exact⟨by rw[HR.o];rfl,x1,rfl⟩
def dO(w:World)(v:Value)(ll:List (List Nd)):Prop:=
 ∃vs,Sl w v vs/\vs.length=ll.length/\∀i,i<ll.length->aO w (vs.getD i undef) (ll.getD i [])
theorem dO.up{w w':World}{v:Value}{ll:List (List Nd)}(h:dO w v ll)(hb:Below w.heap.size w w'):dO w' v ll:=by
 obtain⟨vs,h1,h2,h3⟩:=h;exact⟨vs,h1.up hb,h2,fun i hi=>(h3 i hi).up hb⟩
theorem dO.open{w:World}{v:Value}{ll:List (List Nd)}(h:dO w v ll):
  ∃oa cap b off,v=.slice oa ll.length cap/\Hd w oa ll.length cap b off/\∀i,i<ll.length->∃u,w.cell? ⟨b,off+i,none⟩=some u/\aO w u (ll.getD i []):=by
 obtain⟨vs,⟨oa,cap,b,off,rfl,hd,hc⟩,h2,h3⟩:=h;rw[h2]at hd hc⊢;exact⟨oa,cap,b,off,rfl,hd,fun i hi=>⟨_,hc i hi,h3 i hi⟩⟩
theorem d9{w:World}{oa:Option Addr}{b off len cap:Nat}(h:Hd w oa len cap b off):
  ∀(W:World) (kd:IntKind) (i:Int),0<=i->i<len->(Instr.indexAt 22 (.slice oa len cap) (.int kd i)).run prog W=.ok (.pointer (some ⟨b,off+i.toNat,none⟩)) W:=
 aZ (P:=prog) 22 39 underlying22 (by kernel_rfl) h
noncomputable def pB(ll:List (List Nd))(j:Nat):Int:=((ll.take j).map eR).sum
theorem mV(ll:List (List Nd))(j:Nat)(h:j<ll.length):pB ll (j+1)=pB ll j+eR (ll.getD j []):=by
 unfold pB;rw[qL h,qG,List.sum_append];simp[List.getD,h]
theorem A5(ll:List (List Nd)):pB ll ll.length=(ll.map eR).sum:=by unfold pB;rw[j0]
theorem q5p{w:World}{v:Value}{ll:List (List Nd)}(h:dO w v ll):
  Calls prog 36 #[v] w fun e w'=>e=.returned (.int .i64 (oC ll))/\∃x,w'=ext w x:=by
 obtain⟨oa,cap,b,off,rfl,hd,hc⟩:=h.open;have hix:=d9 hd;have hm:=hd.len;have HB:=qa hd.hblk;have HC:=qa hc;obtain⟨R,hR⟩:∃R,R=oC ll:=⟨_,rfl⟩;have HSS:=qa (mV ll);have HSA:=qa (A5 ll);rw[<-hR];unfold oC at hR;by_cases h0:ll.length=0
 ·rw[qv h0]at hR
  exact ZmB5
 rw[qu h0]at hR;by_cases h1:32<ll.length
 ·rw[qv h1]at hR
  exact ZmB5
 rw[qu h1]at hR;have hb0:((ll.length:Int)==0)=false:=by simpa using h0
 have hb1:decide ((32:Int)<ll.length)=false:=by simp;omega
 have HR:=qa hR;clear hR h hd hc;go_enter func36,ntmps36;go_wp2
 go_loopg [3,16] (ll.length) (fun gk nv jv wr=>∃(j:Nat),jv=.int .i64 j/\nv=.int .i64 (1+pB ll j)/\0<=pB ll j/\pB ll j<=1000000*j/\j<=ll.length/\(∀q,q<j->Chk (ll.getD q []))/\Below w.heap.size w wr/\gk=ll.length-j)
 case atStart=>exact⟨0,rfl,rfl,by simp[pB],by simp[pB],qd _,fun q hq=>absurd hq (qB q),qn _ _,rfl⟩
 case round=>
  obtain⟨j,rfl,rfl,hs0,hs1,hj,hall,q5T,rfl⟩:=hrel;have HA:=qa hall;have HBW:=qa q5T;clear hall q5T;by_cases hlt:j<ll.length
  ·obtain⟨u,hcu,hnu⟩:=HC.o j hlt
   have hb:=HB.o (by omega);have hcw:=(HBW.o.cell (p:=⟨b,off+j,none⟩) hb).trans hcu;have hbw:b<wr.heap.size:=by have:=HBW.o.size;omega
   have HN:=qa (hnu.up HBW.o);have HCH:=qa (A3 HN.o);have hsl:=uI (ll.getD j []);have hss:=HSS.o j hlt;generalize pB ll j=s at*;clear hcu hnu;by_cases hck:Chk (ll.getD j [])
   ·rw[fT hck]at HCH
    have HK:=qa hck;have HSZ:=qa (fun x1=>q0n (HN.o.up (aC wr x1)));generalize eR (ll.getD j [])=t at*;have HSN:=qa hss;clear hck hss
    go_wp2_with(first|((with_reducible go_at_call 39);refine HCH.o.mono ?_;rintro en w' ⟨rfl,x1,rfl⟩)|((with_reducible go_at_call 56);refine(HSZ.o x1).mono ?_;rintro en w' ⟨rfl,x2,rfl⟩))
    go_roundg (ll.length-(j+1))
    case measure=>omega
    case rel=>
     refine⟨j+1,by go_num,?_,?_,?_,by omega,fun q hq=>?_,yJ (dW HBW.o x1) (qc HBW.o.size (fX _ _)) x2,rfl⟩
     ·rw[HSN.o];go_num
     ·rw[HSN.o];omega
     ·rw[HSN.o];omega
     by_cases hqj:q=j
     ·rw[hqj];exact HK.o
     exact HA.o q (by omega)
   rw[fU hck]at HCH;have HV:Hid (R=4):=qa (by rw[HR.o,qv (fun h=>hck (h _ (by simp[List.getD,hlt])))]);clear hck
   go_wp2_with((with_reducible go_at_call 39);refine HCH.o.mono ?_;rintro en w' ⟨rfl,x1,rfl⟩)
   go_ret;exact⟨by rw[HV.o];rfl,aF (dW HBW.o x1)⟩
  have hje:j=ll.length:=by omega
  subst hje
  have q8s:Hid (∀l∈ll,Chk l):=qa (fun l hl=>by
   obtain⟨q,hq,rfl⟩:=ji hl;have:=HA.o q hq;simpa[List.getD,hq]using this)
  have q6t:=HSA.o;generalize pB ll ll.length=s at*;by_cases h3:3000<1+s
  ·have HV:Hid (R=3):=qa (by rw[HR.o,qu (fun h=>h q8s.o),<-q6t,qv h3])
   clear q6t;go_wp2;go_ret;exact⟨by rw[HV.o];rfl,aF HBW.o⟩
  have HV:Hid (R=0):=qa (by rw[HR.o,qu (fun h=>h q8s.o),<-q6t,qu h3]);clear q6t;go_wp2;go_ret;exact⟨by rw[HV.o];rfl,aF HBW.o⟩
end Go.Cm
namespace Go.Cm
open Go.RowKit Go.Proofs
section
variable {w w' w0 w1 : World} {g q : Nat} {ve vr : Value} {vs : List Value} {ll : List (List Ed)} {rl : List Int} {F : Int}
theorem Mk.ne_g(h:Mk w g q ve vs vr ll rl F):ve.ownBlock≠some g/\vr.ownBlock≠some g/\q≠g:=by
 refine⟨fun e=>?_,fun e=>?_,fun e=>?_⟩
 ·have:=h.sep 1 2 g rfl (by simp[mkL,e]);omega
 ·have:=h.sep 1 3 g rfl (by simp[mkL,e]);omega
 have:=h.sep 0 1 g (by simp[mkL,e]) rfl;omega
theorem Mk.ne_q(h:Mk w g q ve vs vr ll rl F):ve.ownBlock≠some q/\vr.ownBlock≠some q/\g≠q:=by
 refine⟨fun e=>?_,fun e=>?_,fun e=>h.ne_g.2.2 e.symm⟩
 ·have:=h.sep 0 2 q rfl (by simp[mkL,e]);omega
 have:=h.sep 0 3 q rfl (by simp[mkL,e]);omega
theorem Mk.ne_er(h:Mk w g q ve vs vr ll rl F):∀k,ve.ownBlock=some k->vr.ownBlock≠some k:=fun k h1 h2=>by
 have:=h.sep 2 3 k (by simp[mkL,h1]) (by simp[mkL,h2]);omega
theorem Mk.ne_row(h:Mk w g q ve vs vr ll rl F){i k:Nat}(hi:i<ll.length)(hk:(vs.getD i undef).ownBlock=some k):k≠q/\k≠g/\ve.ownBlock≠some k/\vr.ownBlock≠some k/\(∀j,j<ll.length->j≠i->(vs.getD j undef).ownBlock≠some k):=by
 have hr:=lB q g ve vr vs i (by rw[h.len];exact hi);rw[hk]at hr;refine⟨fun e=>?_,fun e=>?_,fun e=>?_,fun e=>?_,fun j hj hji e=>?_⟩
 ·have:=h.sep 0 (i+4) k (by rw[e];rfl) hr;omega
 ·have:=h.sep 1 (i+4) k (by rw[e];rfl) hr;omega
 ·have:=h.sep 2 (i+4) k (by simp[mkL,e]) hr;omega
 ·have:=h.sep 3 (i+4) k (by simp[mkL,e]) hr;omega
 have h2:=lB q g ve vr vs j (by rw[h.len];exact hj);rw[e]at h2;have:=h.sep (j+4) (i+4) k h2 hr;omega
theorem Mk.pushE(h:Mk w g q ve vs vr ll rl F){v':Value}(ho:Own w1 0 109 v' (vs++[.slice none 0 0]))(hg:w.grownBy w1 ve.ownBlock)(hk:∀k,v'.ownBlock=some k->ve.ownBlock=some k\/w.heap.size<=k):
  Mk (w1.setCell ⟨g,0,none⟩ v') g q v' (vs++[.slice none 0 0]) vr (ll++[[]]) rl F/\Gw (MkS g ve vr vs) w (MkS g v' vr (vs++[.slice none 0 0])) (w1.setCell ⟨g,0,none⟩ v'):=by
 have hlt:=h.lt;have hng:=h.ne_g;have hb1:=h.box.keep hg (.inr (fun e=>hng.1 e.symm));obtain⟨hb2,hg2⟩:=hb1.store 0 v';have q8M:v'.ownBlock≠some g:=fun e=>(hk g e).elim hng.1 (fun z=>by omega);have hgg:w.grownBy w1 ve.ownBlock:=hg;have q75:∀i,i<ll.length->∀k,(vs.getD i undef).ownBlock=some k->some g≠some k:=fun i hi k hk' e=>(h.ne_row hi hk').2.1 (qp e).symm
 have q62:∀k,MkS g v' vr (vs++[.slice none 0 0]) k->MkS g ve vr vs k\/w.heap.size<=k:=by
  rintro k (rfl|h1|h1|⟨i,hi,h1⟩)
  ·exact .inl (.inl rfl)
  ·exact(hk k h1).imp (fun z=>.inr (.inl z)) id
  ·exact .inl (.inr (.inr (.inl h1)))
  by_cases hil:i<vs.length
  ·rw[aV hil]at h1
   exact .inl (.inr (.inr (.inr ⟨i,hil,h1⟩)))
  have hie:i=vs.length:=by rw[qj,qD]at hi;omega
  subst hie;rw[bV]at h1;cases h1
 refine⟨⟨hb2,?_,qe h.hql (qc hg.size hg2.size),ho.keep hg2 (.inr q8M),by simp[h.len],fun i hi=>?_,(h.rules.keep hg (aY fun k hk' e=>h.ne_er k e hk')).keep hg2 (.inr (fun e=>hng.2.1 e)),?_⟩,?_⟩
 ·rw[<-h.hq]
  exact World.cell?_of_block (w:=w) (by rw[hg2.block q (qe h.hql hg.size) (fun e=>hng.2.2 (qp e)),hg.block q h.hql (fun e=>h.ne_q.1 e.symm)])
 ·by_cases hil:i<ll.length
  ·rw[aV (by rw[h.len];exact hil),aV hil]
   exact((h.rows i hil).keep hg (aY fun k hk' e=>(h.ne_row hil hk').2.2.1 e)).keep hg2 (aY (q75 i hil))
  have hie:i=ll.length:=by rw[qj,qD]at hi;omega
  subst hie;rw[bV,<-h.len,bV];exact d4.nil _ _ _ _
 ·have e:mkL q g v' vr (vs++[.slice none 0 0])=(mkL q g ve vr vs).set 2 v'.ownBlock++[none]:=by simp[mkL,Value.ownBlock]
  rw[e];refine(h.sep.set h.all fun k hk'=>?_).snoc;exact(hk k hk').imp (fun z=>by simp[mkL,z]) id
 exact(dB hg (fun k e=>.inr (.inl e)) q62).trans (dB hg2 (fun k e=>.inl (qp e).symm) (fun k hk'=>.inl hk'))
theorem Mk.pushR(h:Mk w g q ve vs vr ll rl F){v':Value}{rl':List Int}(ho:Own w1 0 3 v' (ints rl'))(hg:w.grownBy w1 vr.ownBlock)(hk:∀k,v'.ownBlock=some k->vr.ownBlock=some k\/w.heap.size<=k):
  Mk (w1.setCell ⟨g,2,none⟩ v') g q ve vs v' ll rl' F/\Gw (MkS g ve vr vs) w (MkS g ve v' vs) (w1.setCell ⟨g,2,none⟩ v'):=by
 have hlt:=h.lt;have hng:=h.ne_g;have hb1:=h.box.keep hg (.inr (fun e=>hng.2.1 e.symm));obtain⟨hb2,hg2⟩:=hb1.store 2 v';have q8M:v'.ownBlock≠some g:=fun e=>(hk g e).elim hng.2.1 (fun z=>by omega);have q75:∀i,i<ll.length->∀k,(vs.getD i undef).ownBlock=some k->some g≠some k:=fun i hi k hk' e=>(h.ne_row hi hk').2.1 (qp e).symm
 have q62:∀k,MkS g ve v' vs k->MkS g ve vr vs k\/w.heap.size<=k:=by
  rintro k (rfl|h1|h1|⟨i,hi,h1⟩)
  ·exact .inl (.inl rfl)
  ·exact .inl (.inr (.inl h1))
  ·exact(hk k h1).imp (fun z=>.inr (.inr (.inl z))) id
  exact .inl (.inr (.inr (.inr ⟨i,hi,h1⟩)))
 refine⟨⟨hb2,?_,qe h.hql (qc hg.size hg2.size),(h.outer.keep hg (aY fun k hk' e=>h.ne_er k hk' e)).keep hg2 (.inr (fun e=>hng.1 e)),h.len,fun i hi=>?_,ho.keep hg2 (.inr q8M),?_⟩,?_⟩
 ·rw[<-h.hq]
  exact World.cell?_of_block (w:=w) (by rw[hg2.block q (qe h.hql hg.size) (fun e=>hng.2.2 (qp e)),hg.block q h.hql (fun e=>h.ne_q.2.1 e.symm)])
 ·exact((h.rows i hi).keep hg (aY fun k hk' e=>(h.ne_row hi hk').2.2.2.1 e)).keep hg2 (aY (q75 i hi))
 ·have e:mkL q g ve v' vs=(mkL q g ve vr vs).set 3 v'.ownBlock:=by simp[mkL]
  rw[e];refine h.sep.set h.all fun k hk'=>?_;exact(hk k hk').imp (fun z=>by simp[mkL,z]) id
 exact(dB hg (fun k e=>.inr (.inr (.inl e))) q62).trans (dB hg2 (fun k e=>.inl (qp e).symm) (fun k hk'=>.inl hk'))
theorem Mk.setRow{ge n cap:Nat}(h:Mk w g q (.slice (some ⟨ge,0,none⟩) n cap) vs vr ll rl F){i:Nat}(hi:i<ll.length){r:Value}{xs:List Ed}(hr:d4 6 w1 0 111 r (xs.map edC))(hg:w.grownBy w1 (vs.getD i undef).ownBlock)(hk:∀k,r.ownBlock=some k->(vs.getD i undef).ownBlock=some k\/w.heap.size<=k):
  Mk (w1.setCell ⟨ge,i,none⟩ r) g q (.slice (some ⟨ge,0,none⟩) n cap) (vs.set i r) vr (ll.set i xs) rl F/\Gw (MkS g (.slice (some ⟨ge,0,none⟩) n cap) vr vs) w (MkS g (.slice (some ⟨ge,0,none⟩) n cap) vr (vs.set i r)) (w1.setCell ⟨ge,i,none⟩ r):=by
 have hvi:i<vs.length:=by rw[h.len];exact hi
 have hgb:=h.outer.blk.2;have hown:(Value.slice (some ⟨ge,0,none⟩) n cap).ownBlock=some ge:=rfl;have hnr:=fun k (hk':(vs.getD i undef).ownBlock=some k)=>h.ne_row hi hk';have hng:=h.ne_g;have hnq:=h.ne_q;have ho:=h.outer.keep hg (aY fun k hk' e=>(hnr k e).2.2.1 hk');obtain⟨ho2,hg2⟩:=ho.store i r;have hrg:∀k,r.ownBlock=some k->k≠ge:=fun k hk' e=>(hk k hk').elim (fun z=>(hnr k z).2.2.1 (by rw[e];rfl)) (fun z=>by omega);have qbt:ge≠g:=fun e=>hng.1 (by rw[<-e];rfl);have qbs:ge≠q:=fun e=>hnq.1 (by rw[<-e];rfl)
 have q62:∀k,MkS g (.slice (some ⟨ge,0,none⟩) n cap) vr (vs.set i r) k->MkS g (.slice (some ⟨ge,0,none⟩) n cap) vr vs k\/w.heap.size<=k:=by
  rintro k (rfl|h1|h1|⟨j,hj,h1⟩)
  ·exact .inl (.inl rfl)
  ·exact .inl (.inr (.inl h1))
  ·exact .inl (.inr (.inr (.inl h1)))
  rw[ja]at hj;by_cases hij:i=j
  ·subst hij
   rw[cA hvi]at h1;exact(hk k h1).imp (fun z=>.inr (.inr (.inr ⟨i,hvi,z⟩))) id
  rw[cE hij]at h1;exact .inl (.inr (.inr (.inr ⟨j,hj,h1⟩)))
 refine⟨⟨(h.box.keep hg (aY fun k hk' e=>(hnr k e).2.1 (qp hk').symm)).keep hg2 (.inr (fun e=>qbt (qp e).symm)),?_,qe h.hql (qc hg.size hg2.size),ho2,by simp[h.len],fun j hj=>?_,(h.rules.keep hg (aY fun k hk' e=>(hnr k e).2.2.2.1 hk')).keep hg2 (aY fun k hk' e=>h.ne_er k e hk'),?_⟩,?_⟩
 ·rw[<-h.hq]
  exact World.cell?_of_block (w:=w) (by rw[hg2.block q (qe h.hql hg.size) (fun e=>qbs (qp e).symm),hg.block q h.hql (fun e=>(hnr q e.symm).1 rfl)])
 ·rw[ja]at hj
  by_cases hij:i=j
  ·subst hij
   rw[cA hvi,cA hi];exact hr.keep hg2 (aY fun k hk' e=>hrg k hk' (qp e).symm)
  rw[cE hij,cE hij];exact((h.rows j hj).keep hg (aY fun k hk' e=>(h.ne_row hj hk').2.2.2.2 i hi hij e)).keep hg2 (aY fun k hk' e=>(h.ne_row hj hk').2.2.1 e)
 ·have e:mkL q g (.slice (some ⟨ge,0,none⟩) n cap) vr (vs.set i r)=(mkL q g (.slice (some ⟨ge,0,none⟩) n cap) vr vs).set (i+4) r.ownBlock:=by simp[mkL,aA]
  rw[e];refine h.sep.set h.all fun k hk'=>?_;exact(hk k hk').imp (fun z=>by rw[lB _ _ _ _ _ i hvi,z]) id
 exact(dB hg (fun k e=>.inr (.inr (.inr ⟨i,hvi,e⟩))) q62).trans (dB hg2 (fun k e=>.inr (.inl (by rw[<-e];rfl))) (fun k hk'=>.inl hk'))
theorem Mk.setRule{gr n cap:Nat}(h:Mk w g q ve vs (.slice (some ⟨gr,0,none⟩) n cap) ll rl F)(i:Nat)(x:Int):
  Mk (w.setCell ⟨gr,i,none⟩ (.int .i64 x)) g q ve vs (.slice (some ⟨gr,0,none⟩) n cap) ll (rl.set i x) F/\Gw (MkS g ve (.slice (some ⟨gr,0,none⟩) n cap) vs) w (MkS g ve (.slice (some ⟨gr,0,none⟩) n cap) vs) (w.setCell ⟨gr,i,none⟩ (.int .i64 x)):=by
 obtain⟨ho2,hg2⟩:=h.rules.store i (.int .i64 x);have hng:=h.ne_g;have hnq:=h.ne_q;have hgg:gr≠g:=fun e=>hng.2.1 (by rw[<-e];rfl);have hgq:gr≠q:=fun e=>hnq.2.1 (by rw[<-e];rfl);refine⟨⟨h.box.keep hg2 (.inr (fun e=>hgg (qp e).symm)),?_,qe h.hql hg2.size,h.outer.keep hg2 (aY fun k hk' e=>h.ne_er k hk' e),h.len,fun j hj=>(h.rows j hj).keep hg2 (aY fun k hk' e=>(h.ne_row hj hk').2.2.2.1 e),?_,h.sep⟩,dB hg2 (fun k e=>.inr (.inr (.inl (by rw[<-e];rfl)))) (fun k hk'=>.inl hk')⟩
 ·rw[<-h.hq]
  exact World.cell?_of_block (w:=w) (hg2.block q h.hql (fun e=>hgq (qp e).symm))
 have e:(ints rl).set i (.int .i64 x)=ints (rl.set i x):=by simp[ints,aA]
 rw[e]at ho2;exact ho2
theorem Mk.setF(h:Mk w g q ve vs vr ll rl F)(x:Int):Mk (w.setCell ⟨g,1,none⟩ (.int .i64 x)) g q ve vs vr ll rl x/\Gw (MkS g ve vr vs) w (MkS g ve vr vs) (w.setCell ⟨g,1,none⟩ (.int .i64 x)):=by
 obtain⟨ho2,hg2⟩:=h.box.store 1 (.int .i64 x);have hng:=h.ne_g;refine⟨⟨ho2,?_,qe h.hql hg2.size,h.outer.keep hg2 (.inr (fun e=>hng.1 e)),h.len,fun j hj=>(h.rows j hj).keep hg2 (aY fun k hk' e=>(h.ne_row hj hk').2.1 (qp e).symm),h.rules.keep hg2 (.inr (fun e=>hng.2.1 e)),h.sep⟩,dB hg2 (fun k e=>.inl (qp e).symm) (fun k hk'=>.inl hk')⟩;rw[<-h.hq];exact World.cell?_of_block (w:=w) (hg2.block q h.hql (fun e=>hng.2.2 (qp e)))
end
end Go.Cm
namespace Go.Cm
open Go.RowKit Go.Proofs
def MkW(w:World)(S:Nat->Prop)(g q:Nat)(ll:List (List Ed))(rl:List Int)(F:Int):Prop:=∃ve vs vr,Mk w g q ve vs vr ll rl F/\S=MkS g ve vr vs
theorem MkW.up{w w':World}{S:Nat->Prop}{g q:Nat}{ll:List (List Ed)}{rl:List Int}{F:Int}(h:MkW w S g q ll rl F)(hb:Below w.heap.size w w'):MkW w' S g q ll rl F:=by
 obtain⟨ve,vs,vr,h1,h2⟩:=h;exact⟨ve,vs,vr,h1.up hb,h2⟩
theorem MkW.lt{w:World}{S:Nat->Prop}{g q:Nat}{ll:List (List Ed)}{rl:List Int}{F:Int}(h:MkW w S g q ll rl F){k:Nat}(hk:S k):k<w.heap.size:=by
 obtain⟨ve,vs,vr,h1,rfl⟩:=h;exact h1.mlt hk
theorem O1 {w : World} {S : Nat → Prop} {g q : Nat} {ll : List (List Ed)} {rl : List Int} {F : Int} (h : MkW w S g q ll rl F) (hl : ll.length ≤ 1000000) (hr : rl.length ≤ 1000000) :
    Calls prog 57 #[.pointer (some ⟨q, 0, none⟩)] w fun e w' => e = .returned (.int .i64 (ll.length : Nat)) ∧ ∃ S', MkW w' S' g q (ll ++ [[]]) (rl ++ [-1]) F ∧ Gw S w S' w' := by
  obtain ⟨ve, vs, vr, hm, rfl⟩ := h
  have HM := qa hm
  have hcq := hm.hq
  have hql := hm.hql
  have hc0 := hm.c0
  have hg := hm.lt
  have hf0 := hm.f 0
  have q76 : some g ≠ ve.ownBlock := fun e => hm.ne_g.1 e.symm
  have q7M : some q ≠ ve.ownBlock := fun e => hm.ne_q.1 e.symm
  obtain ⟨n, hn⟩ : ∃ n, n = ll.length := ⟨_, rfl⟩
  rw [← hn]
  have HN := qa hn
  have HVL := qa (hm.len.trans hn.symm)
  have hlW : Below w.heap.size w (w.alloc (.cells #[.slice none 0 0] 109)).drew := aS
  have HX : Hid (Sl (w.alloc (.cells #[.slice none 0 0] 109)).drew (.slice (some ⟨w.heap.size, 0, none⟩) 1 1) [.slice none 0 0]) := qa (by
        have h1 := (fZ w #[.slice none 0 0] 109 (by simp)).up (aW _ 1)
        rw [← World.drew_is_drewN] at h1
        simpa using h1)
  have HT1 := qa (hm.outer.up hlW)
  have HMW := qa (hm.up hlW)
  have HLW := qa hlW
  have HT2 : Hid (∀ u ∈ [Value.slice none 0 0], u.oneCell' = true) := qa (by intro u hu; simp at hu; subst hu; rfl)
  have HT3 : Hid (vs.length + [Value.slice none 0 0].length ≤ 4294967296) := qa (by rw [HVL.o]; simp; omega)
  have hnB : n ≤ 1000000 := by omega
  clear hm hlW hn
  go_enter func57, ntmps57
  go_wp2
  refine bQ (fun w' => ∃ x, w' = chg w ve.ownBlock x) [0,1,2,3,4,5] [6,7,8,9,10] [11] (by kernel_rfl) (by kernel_rfl) (cO (eK _ _)) ?_
  simp only [pk]
  repeat (go_big_quiet_step (fail))
  refine wpQuiet_nil ?_
  (unfold aD; go_wp2; refine ⟨cO (aI aS _), ?_⟩)
  unfold aD
  go_wp2_with (at_builtin; refine bU rfl (.tmp 7) (.tmp 8) 46 rfl 0 109 (.slice none 0 0) 24 underlying46 (by kernel_rfl) rfl (by decide) ve vs rfl HT1.o (.slice (some ⟨w.heap.size, 0, none⟩) 1 1) [.slice none 0 0] rfl HX.o HT2.o HT3.o (qd _) ?_; intro v' w5 hown1 hg1 hk1; have HO1 := qa hown1; have HG1 := qa hg1; have HK1 := qa hk1; clear hown1 hg1 hk1)
  refine ⟨cO (aK (aI aS _) HG1.o), ?_⟩
  (unfold aD; go_wp2; refine ⟨cO (aK (aI aS _) HG1.o), ?_⟩)
  (unfold aD; go_wp2; refine ⟨cO (aK (aI aS _) HG1.o), ?_⟩)
  (unfold aD; go_wp2; refine ⟨cO (aK (aI aS _) HG1.o), ?_⟩)
  have HPU := qa (HMW.o.pushE HO1.o HG1.o HK1.o)
  have hb5 := HMW.o.box.keep HG1.o (.inr q76)
  have q8z : w5.cell? ⟨g, 0, none⟩ = some ve := hb5.cell (by simp)
  have q8y : w5.frozen? ⟨g, 0, none⟩ = false := hb5.free 0
  have hg5 : g < w5.heap.size := hb5.blk.2
  have HGW : Hid (Gw (MkS g ve vr vs) w (MkS g ve vr vs) (w.alloc (.cells #[.slice none 0 0] 109)).drew) := qa (bZ _ HLW.o)
  obtain ⟨o5, c5, g5, hv5, -⟩ := HO1.o.cases
  subst hv5
  clear hb5 hcq hql hc0 hg hf0 q76 q7M HM HX HT1 HMW HLW HT2 HT3 HO1 HG1 HK1
  have hlv : (vs ++ [Value.slice none 0 0]).length = n + 1 := by rw [qj, HVL.o]; rfl
  rw [hlv] at HPU ⊢
  clear hlv
  unfold aD
  unfold aD
  go_wp2
  refine ⟨trivial, ?_⟩
  unfold aD
  have hm2 := HPU.o.1
  have HG2 := qa (HGW.o.trans HPU.o.2)
  clear HPU HGW q8z q8y hg5
  generalize w5.setCell ⟨g, 0, none⟩ (.slice o5 (n + 1) c5) = w6 at *
  have hcq := hm2.hq
  have hql := hm2.hql
  have hc2 := hm2.c2
  have hg := hm2.lt
  have hf2 := hm2.f 2
  have q76 : some g ≠ vr.ownBlock := fun e => hm2.ne_g.2.1 e.symm
  have q7M : some q ≠ vr.ownBlock := fun e => hm2.ne_q.2.1 e.symm
  have hlW : Below w6.heap.size w6 (w6.alloc (.cells #[.int .i64 (-1)] 3)).drew := aS
  have HX : Hid (Sl (w6.alloc (.cells #[.int .i64 (-1)] 3)).drew (.slice (some ⟨w6.heap.size, 0, none⟩) 1 1) (ints [-1])) := qa (by
        have h1 := (fZ w6 #[.int .i64 (-1)] 3 (by simp)).up (aW _ 1)
        rw [← World.drew_is_drewN] at h1
        simpa [ints] using h1)
  have HT1 := qa (hm2.rules.up hlW)
  have HMW := qa (hm2.up hlW)
  have HLW := qa hlW
  have HT2 : Hid (∀ u ∈ ints [-1], u.oneCell' = true) := qa (by intro u hu; simp [ints] at hu; subst hu; rfl)
  have HT3 : Hid ((ints rl).length + (ints [-1]).length ≤ 4294967296) := qa (by simp; omega)
  clear hm2 hlW
  go_wp2
  refine bQ (fun w' => ∃ x, w' = chg w6 vr.ownBlock x) [0,1,2,3,4,5] [6,7,8,9,10] [11] (by kernel_rfl) (by kernel_rfl) (cO (eK _ _)) ?_
  simp only [pk]
  repeat (go_big_quiet_step (fail))
  refine wpQuiet_nil ?_
  (unfold aD; go_wp2; refine ⟨cO (aI aS _), ?_⟩)
  unfold aD
  go_wp2_with (at_builtin; refine bU rfl (.tmp 18) (.tmp 19) 27 rfl 0 3 (.int .i64 0) 8 underlying27 (by kernel_rfl) rfl (by decide) vr (ints rl) rfl HT1.o (.slice (some ⟨w6.heap.size, 0, none⟩) 1 1) (ints [-1]) rfl HX.o HT2.o HT3.o (qd _) ?_; intro v' w7 hown1 hg1 hk1; have HO1 := qa hown1; have HG1 := qa hg1; have HK1 := qa hk1; clear hown1 hg1 hk1)
  refine ⟨cO (aK (aI aS _) HG1.o), ?_⟩
  (unfold aD; go_wp2; refine ⟨cO (aK (aI aS _) HG1.o), ?_⟩)
  (unfold aD; go_wp2; refine ⟨cO (aK (aI aS _) HG1.o), ?_⟩)
  (unfold aD; go_wp2; refine ⟨cO (aK (aI aS _) HG1.o), ?_⟩)
  have HO2 : Hid (Own w7 0 3 v' (ints (rl ++ [-1]))) := qa (by have := HO1.o; simpa [ints] using this)
  have HPU := qa (HMW.o.pushR HO2.o HG1.o HK1.o)
  have hb5 := HMW.o.box.keep HG1.o (.inr q76)
  have q8z : w7.cell? ⟨g, 2, none⟩ = some vr := hb5.cell (by simp)
  have q8y : w7.frozen? ⟨g, 2, none⟩ = false := hb5.free 2
  have hg5 : g < w7.heap.size := hb5.blk.2
  have HGW : Hid (Gw (MkS g (.slice o5 (n + 1) c5) vr (vs ++ [.slice none 0 0])) w6 (MkS g (.slice o5 (n + 1) c5) vr (vs ++ [.slice none 0 0])) (w6.alloc (.cells #[.int .i64 (-1)] 3)).drew) := qa (bZ _ HLW.o)
  obtain ⟨o7, c7, g7, hv7, -⟩ := HO2.o.cases
  subst hv7
  clear hb5 hcq hql hc2 hg hf2 q76 q7M HX HT1 HMW HLW HT2 HT3 HO1 HG1 HK1 HO2
  generalize (ints (rl ++ [-1])).length = l7 at *
  unfold aD
  unfold aD
  go_wp2
  refine ⟨trivial, ?_⟩
  unfold aD
  have hm3 := HPU.o.1
  have HG3 := qa (HG2.o.trans (HGW.o.trans HPU.o.2))
  clear HPU HGW q8z q8y hg5 HG2
  generalize w7.setCell ⟨g, 2, none⟩ (.slice o7 l7 c7) = w8 at *
  have hcq := hm3.hq
  have hql := hm3.hql
  have hc0 := hm3.c0
  have hg := hm3.lt
  have HM3 := qa hm3
  clear hm3
  go_wp2
  go_ret
  exact ⟨rfl, _, ⟨_, _, _, HM3.o, rfl⟩, HG3.o⟩
def q5s(ll:List (List Ed))(i:Nat)(e:Ed):List (List Ed):=ll.set i (ll.getD i []++[e])
def frE(tgt:Int):Ed:=⟨tgt,true,0,0,0,0⟩
theorem q4y {w : World} {S : Nat → Prop} {g q : Nat} {ll : List (List Ed)} {rl : List Int} {F : Int} (h : MkW w S g q ll rl F) (i : Nat) (tgt : Int) (hi : i < ll.length) (hr : (ll.getD i []).length ≤ 1000000) (hl : ll.length ≤ 1000000) :
    Calls prog 58 #[.int .i64 i, .int .i64 tgt, .pointer (some ⟨q, 0, none⟩)] w fun e w' => e = .returned (.tuple #[]) ∧ ∃ S', MkW w' S' g q (q5s ll i (frE tgt)) rl F ∧ Gw S w S' w' := by
  obtain ⟨ve, vs, vr, hm, rfl⟩ := h
  have hvl := hm.len
  obtain ⟨oa, cap, ge, rfl, hdo, -, hco, hfo, -⟩ := hm.outer.cases
  have hoa := hdo.hat (by omega)
  subst hoa
  have hix := fun (W : World) => aZ (P := prog) 46 109 underlying46 (by kernel_rfl) hdo W .i64 i (by omega) (by omega)
  simp only [qC, qH] at hix
  have hcr := hco i (by omega)
  have q7o := hdo.hblk (by omega)
  have HM := qa hm
  have hcq := hm.hq
  have hql := hm.hql
  have hc0 := hm.c0
  have hg := hm.lt
  obtain ⟨r, hrv⟩ : ∃ r, r = vs.getD i undef := ⟨_, rfl⟩
  have hnr := fun k (hk' : (vs.getD i undef).ownBlock = some k) => hm.ne_row hi hk'
  have hrow := hm.rows i hi
  rw [← hrv] at hnr hcr hrow
  have q76 : some g ≠ r.ownBlock := fun e => (hnr g e.symm).2.1 rfl
  have q7M : some q ≠ r.ownBlock := fun e => (hnr q e.symm).1 rfl
  have q9X : some ge ≠ r.ownBlock := fun e => (hnr ge e.symm).2.2.1 rfl
  have hlW : Below w.heap.size w (w.alloc (.cells #[.int .i64 tgt, .bool true, .int .u64 0, .int .u64 0, .int .u64 0, .int .u64 0] 111)).drew := aS
  have HX : Hid (SlK 6 (w.alloc (.cells #[.int .i64 tgt, .bool true, .int .u64 0, .int .u64 0, .int .u64 0, .int .u64 0] 111)).drew (.slice (some ⟨w.heap.size, 0, none⟩) 1 1) ([frE tgt].map edC)) := qa (by
        have h1 := (oI 6 w #[.int .i64 tgt, .bool true, .int .u64 0, .int .u64 0, .int .u64 0, .int .u64 0] 111 ([frE tgt].map edC) (by simp [edC, frE]) (uG _) (by simp)).up (aW _ 1)
        rw [← World.drew_is_drewN] at h1
        simpa using h1)
  have HT1 := qa (hrow.up hlW)
  have HMW := qa (hm.up hlW)
  have HLW := qa hlW
  have HT2 : Hid (∀ u ∈ ([frE tgt].map edC).flatten, u.oneCell' = true) := qa (by intro u hu; simp [edC, frE] at hu; rcases hu with rfl | rfl | rfl <;> rfl)
  have HT3 : Hid (((ll.getD i []).map edC).length + ([frE tgt].map edC).length ≤ 1000000000) := qa (by simp only [qA, qD]; omega)
  have HRV := qa hrv
  have HI := qa hi
  have qcD : vs.length ≤ 1000000 := by omega
  clear hm hlW hrv hnr hrow hdo hco hfo hi hr hl hvl
  go_enter func58, ntmps58
  go_wp2
  refine bQ (fun w' => ∃ x, w' = chg w r.ownBlock x) [0,1,2,3,4,5,6,7,8,9,10,11,12,13,14,15] [16,17,18] [19] (by kernel_rfl) (by kernel_rfl) (cO (eK _ _)) ?_
  simp only [pk]
  repeat (go_big_quiet_step (fail))
  refine wpQuiet_nil ?_
  (unfold aD; go_wp2; refine ⟨cO (aI aS _), ?_⟩)
  unfold aD
  go_wp2_with (at_builtin; refine dI 6 rfl (.tmp 18) (.tmp 21) 109 rfl 0 111 (.agg #[.int .i64 0, .bool false, .int .u64 0, .int .u64 0, .int .u64 0, .int .u64 0]) 48 underlying109 (by kernel_rfl) rfl (by decide) (by decide) r ((ll.getD i []).map edC) rfl HT1.o (.slice (some ⟨w.heap.size, 0, none⟩) 1 1) ([frE tgt].map edC) rfl HX.o (uG _) HT2.o HT3.o (qd _) ?_; intro v' w5 hown1 hg1 hk1; have HO1 := qa hown1; have HG1 := qa hg1; have HK1 := qa hk1; clear hown1 hg1 hk1)
  refine ⟨cO (aK (aI aS _) HG1.o), ?_⟩
  (unfold aD; go_wp2; refine ⟨cO (aK (aI aS _) HG1.o), ?_⟩)
  have HO2 : Hid (d4 6 w5 0 111 v' ((ll.getD i [] ++ [frE tgt]).map edC)) := qa (by have := HO1.o; rwa [← qG] at this)
  have HG2 := HG1
  have HK2 := HK1
  rw [HRV.o] at HG2 HK2
  have HPU := qa (HMW.o.setRow HI.o HO2.o HG2.o HK2.o)
  have HGW : Hid (Gw (MkS g (.slice (some ⟨ge, 0, none⟩) vs.length cap) vr vs) w (MkS g (.slice (some ⟨ge, 0, none⟩) vs.length cap) vr vs) (w.alloc (.cells #[.int .i64 tgt, .bool true, .int .u64 0, .int .u64 0, .int .u64 0, .int .u64 0] 111)).drew) := qa (bZ _ HLW.o)
  have hb5 := HMW.o.outer.keep HG1.o (.inr q9X)
  have hvi : i < vs.length := by have := HM.o.len; have := HI.o; omega
  have q8z : w5.cell? ⟨ge, i, none⟩ = some (vs.getD i undef) := hb5.cell hvi
  have q8y : w5.frozen? ⟨ge, i, none⟩ = false := hb5.free i
  have hg5 : ge < w5.heap.size := hb5.blk.2
  obtain ⟨o5, c5, b5, f5, hv5, -⟩ := HO1.o.sl
  subst hv5
  clear hb5 hcq hql hc0 hg q76 q7M q9X hcr HX HT1 HMW HLW HT2 HT3 HO1 HG1 HK1 HO2 HG2 HK2
  generalize (List.map edC (ll.getD i []) ++ List.map edC [frE tgt]).length = l5 at *
  unfold aD
  unfold aD
  go_wp2
  refine ⟨trivial, ?_⟩
  unfold aD
  go_wp2
  go_end0
  exact ⟨rfl, _, ⟨_, _, _, HPU.o.1, rfl⟩, HGW.o.trans HPU.o.2⟩
abbrev MkT(w:World)(S:Nat->Prop)(g q:Nat)(s:St)(F:Int):Prop:=MkW w S g q s.e s.r F
section
variable {w w' : World} {S : Nat → Prop} {g q : Nat} {s : St} {F : Int}
theorem MkW.f3{ll:List (List Ed)}{rl:List Int}(h:MkW w S g q ll rl F):w.cell? ⟨g,3,none⟩=some (.func (.func 57) #[] #[.pointer (some ⟨q,0,none⟩)]):=by
 obtain⟨ve,vs,vr,h1,rfl⟩:=h;exact h1.c3
theorem MkW.f4{ll:List (List Ed)}{rl:List Int}(h:MkW w S g q ll rl F):w.cell? ⟨g,4,none⟩=some (.func (.func 58) #[] #[.pointer (some ⟨q,0,none⟩)]):=by
 obtain⟨ve,vs,vr,h1,rfl⟩:=h;exact h1.c4
theorem MkW.glt{ll:List (List Ed)}{rl:List Int}(h:MkW w S g q ll rl F):g<w.heap.size:=by
 obtain⟨ve,vs,vr,h1,rfl⟩:=h;exact h1.lt
theorem MkW.no{ll:List (List Ed)}{rl:List Int}(h:MkW w S g q ll rl F){p:Nat}(hp:w.heap.size<=p):¬S p:=fun e=>by
 have:=h.lt e;omega
end
theorem MkW.gq{w:World}{S:Nat->Prop}{g q:Nat}{ll:List (List Ed)}{rl:List Int}{F:Int}(h:MkW w S g q ll rl F):q<w.heap.size/\¬S q:=by
 obtain⟨ve,vs,vr,h1,rfl⟩:=h;exact⟨h1.hql,h1.mq⟩
theorem MkW.keep{w w':World}{S:Nat->Prop}{g q:Nat}{ll:List (List Ed)}{rl:List Int}{F:Int}(h:MkW w S g q ll rl F){p:Nat}(hg:w.grownBy w' (some p))(hp:¬S p)(hq:p≠q):MkW w' S g q ll rl F:=by
 obtain⟨ve,vs,vr,h1,rfl⟩:=h;refine⟨ve,vs,vr,h1.keep hg (fun j k hj e=>?_),rfl⟩;obtain rfl:=qp e;rcases jE j with h0|h0
 ·subst h0;exact hq (qp (qp hj)).symm
 refine hp ?_;rcases j with _|_|_|_|j
 ·omega
 ·exact .inl (qp (qp hj)).symm
 ·exact .inr (.inl (by simpa[mkL]using hj))
 ·exact .inr (.inr (.inl (by simpa[mkL]using hj)))
 by_cases hjl:j<vs.length
 ·rw[lB _ _ _ _ _ j hjl]at hj
  exact .inr (.inr (.inr ⟨j,hjl,qp hj⟩))
 simp[mkL,qP (show vs.length<=j by omega)]at hj
theorem Gw.new {S S1 : Nat → Prop} {w w1 w2 : World} (h : Gw S w S1 w1) {p : Nat} (hg : w1.grownBy w2 (some p)) (hp : w.heap.size ≤ p) : Gw S w S1 w2 :=
  ⟨⟨hg.os.trans h.fx.os, hg.tape.trans h.fx.tape, hg.output.trans h.fx.output, qc h.fx.size hg.size, fun k hk h1 => by
    rw [hg.block k (qe hk h.fx.size) (fun e => by have := qp e; omega), h.fx.block k hk h1]⟩, h.sub⟩
theorem Own.of_blk_NfQ{w w':World}{B E:Nat}{v:Value}{xs:List Value}(h:Own w B E v xs)(hb:∀k,v.ownBlock=some k->w'.heap[k]? =w.heap[k]?):Own w' B E v xs:=by
 refine⟨⟨h.1.1,h.1.2.imp id ?_⟩,h.2⟩;rintro⟨g,cap,cur,rfl,h2,h3,h4⟩;exact⟨g,cap,cur,rfl,h2,by rw[hb g rfl];exact h3,h4⟩
theorem Gw.own{S S1:Nat->Prop}{w w1:World}(h:Gw S w S1 w1){B E:Nat}{v:Value}{xs:List Value}(ho:Own w B E v xs)(hv:∀k,v.ownBlock=some k->¬S k):Own w1 B E v xs:=
 ho.of_blk_NfQ fun k hk=>h.fx.block k (ho.lt k hk).2 (hv k hk)
structure PcB(w:World)(p:Nat)(f l:Int):Prop where
 own:Own w p 93 (.slice (some ⟨p,0,none⟩) 2 2) [.int .i64 f,.int .i64 l]
section
variable {w w' : World} {p : Nat} {f l : Int}
theorem PcB.c0(h:PcB w p f l):w.cell? ⟨p,0,none⟩=some (.int .i64 f):=h.own.cell (by simp)
theorem PcB.c1(h:PcB w p f l):w.cell? ⟨p,1,none⟩=some (.int .i64 l):=h.own.cell (by simp)
theorem PcB.free(h:PcB w p f l)(c:Nat):w.frozen? ⟨p,c,none⟩=false:=h.own.free c
theorem PcB.lt(h:PcB w p f l):p<w.heap.size:=h.own.blk.2
theorem PcB.up(h:PcB w p f l)(hb:Below w.heap.size w w'):PcB w' p f l:=⟨h.own.up hb⟩
theorem PcB.gw{S S1:Nat->Prop}(h:PcB w p f l)(hg:Gw S w S1 w')(hn:¬S p):PcB w' p f l:=⟨hg.own h.own (fun k hk=>by injection hk with hk;subst hk;exact hn)⟩
theorem PcB.keep(h:PcB w p f l){row:Option Nat}(hg:w.grownBy w' row)(hne:row≠some p):PcB w' p f l:=⟨h.own.keep hg (.inr (fun e=>hne e.symm))⟩
theorem PcB.set(h:PcB w p f l)(a b:Int):PcB ((w.setCell ⟨p,0,none⟩ (.int .i64 a)).setCell ⟨p,1,none⟩ (.int .i64 b)) p a b/\w.grownBy ((w.setCell ⟨p,0,none⟩ (.int .i64 a)).setCell ⟨p,1,none⟩ (.int .i64 b)) (some p):=by
 obtain⟨h1,h2⟩:=h.own.store 0 (.int .i64 a);obtain⟨h3,h4⟩:=h1.store 1 (.int .i64 b);exact⟨⟨h3⟩,aK h2 h4⟩
theorem dS(w:World)(f l:Int):PcB (w.alloc (.cells #[.int .i64 f,.int .i64 l] 93)) w.heap.size f l:=
 ⟨by have h:=cX w w.heap.size #[.int .i64 f,.int .i64 l] 93 (by simp) (qb _);simpa using h⟩
theorem PcB.load(h:PcB w p f l):(loadVar 93 ⟨p,0,none⟩).run prog w=.ok (.agg #[.int .i64 f,.int .i64 l]) w:=
 eL w p 0 2 93 #[.int .i64 f,.int .i64 l] _ (fun c hc=>by
  rcases(show c=0\/c=1 by omega)with rfl|rfl
  ·exact h.c0
  exact h.c1) rfl underlying93 rfl (by kernel_rfl)
end
theorem pJ{P:Program}{fn:Func}{tmps:Array Value}{w:World}{a t:Nat}{ad:Addr}{v:Value}(hf:fn.results=#[.cell a t])(ha:tmps.getD a undef=.pointer (some ad))(hl:(loadVar t ad).run P w=.ok v w):
  (results fn tmps).run P w=.ok v w:=by
 have ha':tmps[a]?.getD undef=.pointer (some ad):=by simpa using ha
 simp[results,hf,asAddr,ha',hl]
theorem bI{P:Program}{fn:Func}{tmps:Array Value}{w:World}{ds:List Deferred}{s t:Nat}{ad:Addr}{x:Value}{R:Ending->World->Prop}(hf:fn.results=#[.cell s t])(ha:tmps.getD s undef=.pointer (some ad))(hd:ds=[])
  (hl:(loadVar t ad).run P w=.ok x w) (h:R (.returned x) w):bodyPost P fn R .ret ⟨tmps,ds⟩ w:=
 bodyPost_ret (v:=x) (pJ hf ha hl) hd h
theorem oK{w:World}{S:Nat->Prop}{g q:Nat}{s:St}{F:Int}(h:MkT w S g q s F)(hl:s.e.length<=10000)(hr:s.r.length<=10000)(n m:Nat)(hn:n=s.e.length)(hm:m=s.e.length+1):
  Calls prog 60 #[.pointer (some ⟨g,0,none⟩)] w fun e w'=>e=.returned (.agg #[.int .i64 n,.int .i64 m])/\∃S',MkT w' S' g q (two s) F/\Gw S w S' w':=by
 have HM:=qa h;have hg:=h.glt;have hc3:=h.f3;have hno:=h.no (qb _);have HM0:=qa (h.up (aB w (.cells #[.int .i64 0,.int .i64 0] 93)));have HN:=qa hn;have HMM:=qa hm;have hnb:n<=10000:=by omega
 clear h hn hm;go_enter func60,ntmps60;have HP0:=qa (dS w 0 0)
 go_wp2_with(with_reducible (go_at_call 57);first|(refine(O1 HM0.o (by omega) (by omega)).mono ?_;rintro en w1 ⟨rfl,S1,hm1,hg1⟩;have HM1:=qa hm1;have HG1:=qa hg1;have qcZ:=hm1.f3;have qcP:=hm1.glt;clear hm1 hg1)|(refine(O1 HM1.o (by rw[qj];simp;omega) (by rw[qj];simp;omega)).mono ?_;rintro en w2 ⟨rfl,S2,hm2,hg2⟩;have HM2:=qa hm2;have HG2:=qa (HG1.o.trans hg2);(have HP2:=qa (HP0.o.gw (HG1.o.trans hg2) hno));(have hc0:=HP2.o.c0);(have hc1:=HP2.o.c1);(have hf0:=HP2.o.free 0);(have hf1:=HP2.o.free 1);(have hpl:=HP2.o.lt);clear hm2 hg2))
 have HST:=qa (HP2.o.set (s.e.length:Nat) ((s.e.length:Nat)+1));have hgq:=HM.o.gq;refine bI rfl rfl rfl HST.o.1.load ?_;refine⟨by rw[HN.o,HMM.o];rfl,S2,?_,((bZ S (aB w _)).trans HG2.o).new HST.o.2 (qb _)⟩;exact HM2.o.keep HST.o.2 (HG2.o.out (by simp) hno) (by omega)
structure LB(w:World)(S:Nat->Prop)(p:Nat)(f l:Int):Prop where
 box:PcB w p f l
 no:¬S p
theorem LB.gw{S S1:Nat->Prop}{w w':World}{p:Nat}{f l:Int}(h:LB w S p f l)(hg:Gw S w S1 w'):LB w' S1 p f l:=⟨h.box.gw hg h.no,hg.out h.box.lt h.no⟩
theorem LB.up{S:Nat->Prop}{w w':World}{p:Nat}{f l:Int}(h:LB w S p f l)(hb:Below w.heap.size w w'):LB w' S p f l:=⟨h.box.up hb,h.no⟩
theorem kW{w:World}{S:Nat->Prop}{g q:Nat}{s:St}{F:Int}(h:MkT w S g q s F)(i tgt:Nat)(hi:i<s.e.length)(ht:tot s.e<=900000)(hl:s.e.length<=10000):
  Calls prog 58 #[.int .i64 i,.int .i64 tgt,.pointer (some ⟨q,0,none⟩)] w fun e w'=>e=.returned (.tuple #[])/\∃S',MkT w' S' g q (bT i tgt s) F/\Gw S w S' w':=
 q4y h i tgt hi (qc (I5 s.e i) (by omega)) (by omega)
theorem aG(w:World):Below w.heap.size w w.drew:=fR (qn _ _)
theorem q2b{w:World}{S:Nat->Prop}{g q:Nat}{s:St}{F:Int}(h:MkT w S g q s F)(hl:s.e.length<=9000)(hr:s.r.length<=9000)(ht:tot s.e<=800000)(o a:Bool)(f l:Nat)(_hf:f<s.e.length)(hll:l<s.e.length)(n m:Nat)(hn:n=s.e.length)(hm:m=s.e.length+1):
  Calls prog 63 #[.pointer (some ⟨g,0,none⟩),.bool o,.bool a,.agg #[.int .i64 f,.int .i64 l]] w fun e w'=>e=.returned (.agg #[.int .i64 n,.int .i64 m])/\∃S',MkT w' S' g q (lD o a ⟨f,l⟩ s) F/\Gw S w S' w':=by
 have HM:=qa h;have hg:=h.glt;have hgq:=h.gq;have hno:=h.no (qb _);have q70:=h.no (jc _);have qaF:=qa (dS w f l);have HMA:=qa ((h.up (aB w (.cells #[.int .i64 f,.int .i64 l] 93))).up (aB _ (.cells #[.int .i64 0,.int .i64 0] 93)));have HQP:=qa (qaF.o.up (aB _ (.cells #[.int .i64 0,.int .i64 0] 93)))
 have HRP:Hid (PcB ((w.alloc (.cells #[.int .i64 f,.int .i64 l] 93)).alloc (.cells #[.int .i64 0,.int .i64 0] 93)) (w.heap.size+1) 0 0):=qa (by
  have h:=dS (w.alloc (.cells #[.int .i64 f,.int .i64 l] 93)) 0 0;simpa using h)
 have HAR:=qa (oK HMA.o (by omega) (by omega) n m hn hm);have HLS:Hid (lD o a ⟨f,l⟩ s=iff a (bT l f) (iff o (bT n m) (bT l m (bT n f (two s))))):=qa (by unfold lD;simp only[aP];rw[<-hm,<-hn]);have T2:=lE s;have L2:=i9 s;have hGA:Gw S w S ((w.alloc (.cells #[.int .i64 f,.int .i64 l] 93)).alloc (.cells #[.int .i64 0,.int .i64 0] 93)):=bZ S ((aB w _).trans ((aB _ _).mono (by simp)));have HGA:=qa hGA;have hsA:((w.alloc (.cells #[.int .i64 f,.int .i64 l] 93)).alloc (.cells #[.int .i64 0,.int .i64 0] 93)).heap.size=w.heap.size+2:=by simp
 clear h qaF hGA;obtain⟨s0,hs0⟩:∃s0,s0=two s:=⟨_,rfl⟩;rw[<-hs0]at T2 L2 HAR HLS;have HL0:Hid (s0.e.length=s.e.length+2/\tot s0.e=tot s.e):=qa ⟨L2,T2⟩;have hnb:n<=9000:=by omega
 have hmb:m<=9001:=by omega
 have HB:Hid (n<s0.e.length/\l<s0.e.length/\s0.e.length<=9002/\tot s0.e<=800000):=qa ⟨by omega,by omega,by omega,by omega⟩;clear hs0 T2 L2 hn hm _hf hll hl hr ht;go_enter func63,ntmps63
 go_wp2_with((with_reducible go_at_call 60);refine HAR.o.mono ?_;rintro en w1 ⟨rfl,S1,hm1,hg1⟩;have HM1:=qa hm1;have HG1:=qa hg1;clear hm1 hg1)
 have HM2:=qa (HM1.o.up (aB w1 (.cells #[.int .i64 n,.int .i64 m] 93)));have P92:Hid (LB (w1.alloc (.cells #[.int .i64 n,.int .i64 m] 93)) S1 w1.heap.size n m):=qa ⟨dS w1 n m,HM1.o.no (qb _)⟩;have P72:Hid (LB (w1.alloc (.cells #[.int .i64 n,.int .i64 m] 93)) S1 w.heap.size f l):=qa ((LB.mk HQP.o hno).gw HG1.o |>.up (aB w1 _));have P82:Hid (LB (w1.alloc (.cells #[.int .i64 n,.int .i64 m] 93)) S1 (w.heap.size+1) 0 0):=qa ((LB.mk HRP.o q70).gw HG1.o |>.up (aB w1 _));have HG2:Hid (Gw S w S1 (w1.alloc (.cells #[.int .i64 n,.int .i64 m] 93))):=qa ((HGA.o.trans HG1.o).up (aB w1 _));have hp9:w.heap.size+2<=w1.heap.size:=by have:=HG1.o.size;omega
 generalize w1.heap.size=p9 at*;generalize w1.alloc (.cells #[.int .i64 n,.int .i64 m] 93)=w2 at*;clear HM1 HG1 HGA HQP HRP HMA HAR hsA hno q70;obtain⟨hb1,hb2,hb3,hb4⟩:=HB.o;have hc4:=HM2.o.f4;have hgl:=HM2.o.glt;have P7a:=P72.o.box.c0;have P7b:=P72.o.box.c1;have P7l:=P72.o.box.lt;have P8a:=P82.o.box.c0;have P8b:=P82.o.box.c1;have P8l:=P82.o.box.lt;have P9a:=P92.o.box.c0;have P9b:=P92.o.box.c1;have P9l:=P92.o.box.lt;go_wp2;refine aH [0,1,2,3,4,5,6,7] [] [8] (by kernel_rfl) (by kernel_rfl) ?_;simp only[pk]
 repeat(go_big_quiet_step (fail))
 refine wpQuiet_nil ?_;unfold aD;unfold aD
 go_wp2_with((with_reducible go_at_call 58);refine(kW (HM2.o.up (aG _)) n f hb1 (by omega) (by omega)).mono ?_;rintro en w3 ⟨rfl,S3,hm,hg⟩;have HM3:=qa hm;have HG3:=qa ((HG2.o.up (aG _)).trans hg);have P73:=qa ((P72.o.up (aG _)).gw hg);have P83:=qa ((P82.o.up (aG _)).gw hg);have P93:=qa ((P92.o.up (aG _)).gw hg);clear hm hg)
 refine⟨trivial,?_⟩;unfold aD;clear hc4 hgl P7a P7b P7l P8a P8b P8l P9a P9b P9l HM2 HG2 P72 P82 P92;have t3:=cS n f s0;have l3:=dN n f s0;obtain⟨s3,hs3⟩:∃s3,s3=bT n f s0:=⟨_,rfl⟩;rw[<-hs3]at t3 l3 HM3 HLS;clear hs3;have hc4:=HM3.o.f4;have hgl:=HM3.o.glt;have P7a:=P73.o.box.c0;have P7b:=P73.o.box.c1;have P7l:=P73.o.box.lt;have P8a:=P83.o.box.c0;have P8b:=P83.o.box.c1;have P8l:=P83.o.box.lt;have P9a:=P93.o.box.c0;have P9b:=P93.o.box.c1;have P9l:=P93.o.box.lt;go_wp2;refine aH [0,1,2,3,4,5,6,7] [] [8] (by kernel_rfl) (by kernel_rfl) ?_;simp only[pk]
 repeat(go_big_quiet_step (fail))
 refine wpQuiet_nil ?_;unfold aD;unfold aD
 go_wp2_with((with_reducible go_at_call 58);refine(kW (HM3.o.up (aG _)) l m (by omega) (by omega) (by omega)).mono ?_;rintro en w4 ⟨rfl,S4,hm,hg⟩;have HM4:=qa hm;have HG4:=qa ((HG3.o.up (aG _)).trans hg);have P74:=qa ((P73.o.up (aG _)).gw hg);have P84:=qa ((P83.o.up (aG _)).gw hg);have P94:=qa ((P93.o.up (aG _)).gw hg);clear hm hg)
 refine⟨trivial,?_⟩;unfold aD;clear hc4 hgl P7a P7b P7l P8a P8b P8l P9a P9b P9l HM3 HG3 P73 P83 P93;have t4:=cS l m s3;have l4:=dN l m s3;obtain⟨s4,hs4⟩:∃s4,s4=bT l m s3:=⟨_,rfl⟩;rw[<-hs4]at t4 l4 HM4 HLS;clear hs4;cases o with
 |true=>
  simp only[iff,jH]at HLS;have hc4:=HM4.o.f4;have hgl:=HM4.o.glt;have P7a:=P74.o.box.c0;have P7b:=P74.o.box.c1;have P7l:=P74.o.box.lt;have P8a:=P84.o.box.c0;have P8b:=P84.o.box.c1;have P8l:=P84.o.box.lt;have P9a:=P94.o.box.c0;have P9b:=P94.o.box.c1;have P9l:=P94.o.box.lt;go_wp2;refine aH [0,1,2,3,4,5,6,7] [] [8] (by kernel_rfl) (by kernel_rfl) ?_;simp only[pk]
  repeat(go_big_quiet_step (fail))
  refine wpQuiet_nil ?_;unfold aD;unfold aD
  go_wp2_with((with_reducible go_at_call 58);refine(kW (HM4.o.up (aG _)) n m (by omega) (by omega) (by omega)).mono ?_;rintro en w5 ⟨rfl,S5,hm,hg⟩;have HM5:=qa hm;have HG5:=qa ((HG4.o.up (aG _)).trans hg);have P75:=qa ((P74.o.up (aG _)).gw hg);have P85:=qa ((P84.o.up (aG _)).gw hg);have P95:=qa ((P94.o.up (aG _)).gw hg);clear hm hg)
  refine⟨trivial,?_⟩;unfold aD;clear hc4 hgl P7a P7b P7l P8a P8b P8l P9a P9b P9l HM4 HG4 P74 P84 P94;have t5:=cS n m s4;have l5:=dN n m s4;obtain⟨s5,hs5⟩:∃s5,s5=bT n m s4:=⟨_,rfl⟩;rw[<-hs5]at t5 l5 HM5 HLS;clear hs5;cases a with
  |true=>
   simp only[jH]at HLS;have hc4:=HM5.o.f4;have hgl:=HM5.o.glt;have P7a:=P75.o.box.c0;have P7b:=P75.o.box.c1;have P7l:=P75.o.box.lt;have P8a:=P85.o.box.c0;have P8b:=P85.o.box.c1;have P8l:=P85.o.box.lt;have P9a:=P95.o.box.c0;have P9b:=P95.o.box.c1;have P9l:=P95.o.box.lt;go_wp2;refine aH [0,1,2,3,4,5,6,7] [] [8] (by kernel_rfl) (by kernel_rfl) ?_;simp only[pk]
   repeat(go_big_quiet_step (fail))
   refine wpQuiet_nil ?_;unfold aD;unfold aD
   go_wp2_with((with_reducible go_at_call 58);refine(kW (HM5.o.up (aG _)) l f (by omega) (by omega) (by omega)).mono ?_;rintro en w6 ⟨rfl,S6,hm,hg⟩;have HM6:=qa hm;have HG6:=qa ((HG5.o.up (aG _)).trans hg);have P76:=qa ((P75.o.up (aG _)).gw hg);have P86:=qa ((P85.o.up (aG _)).gw hg);have P96:=qa ((P95.o.up (aG _)).gw hg);clear hm hg)
   refine⟨trivial,?_⟩;unfold aD;clear hc4 hgl P7a P7b P7l P8a P8b P8l P9a P9b P9l HM5 HG5 P75 P85 P95;have P8a:=P86.o.box.c0;have P8b:=P86.o.box.c1;have P8l:=P86.o.box.lt;have P8f:=P86.o.box.free 0;have P8g:=P86.o.box.free 1;have P9a:=P96.o.box.c0;have P9b:=P96.o.box.c1;have P9l:=P96.o.box.lt;have HST:=qa (P86.o.box.set n m);go_wp2;refine bI rfl rfl rfl HST.o.1.load ?_;exact⟨rfl,S6,by rw[HLS.o];exact HM6.o.keep HST.o.2 P86.o.no (by omega),HG6.o.new HST.o.2 (by omega)⟩
  |false=>
   simp only[qS,jr]at HLS;have P8a:=P85.o.box.c0;have P8b:=P85.o.box.c1;have P8l:=P85.o.box.lt;have P8f:=P85.o.box.free 0;have P8g:=P85.o.box.free 1;have P9a:=P95.o.box.c0;have P9b:=P95.o.box.c1;have P9l:=P95.o.box.lt;have HST:=qa (P85.o.box.set n m);go_wp2;refine bI rfl rfl rfl HST.o.1.load ?_;exact⟨rfl,S5,by rw[HLS.o];exact HM5.o.keep HST.o.2 P85.o.no (by omega),HG5.o.new HST.o.2 (by omega)⟩
 |false=>
  simp only[iff,qS,jr]at HLS;cases a with
  |true=>
   simp only[jH]at HLS;have hc4:=HM4.o.f4;have hgl:=HM4.o.glt;have P7a:=P74.o.box.c0;have P7b:=P74.o.box.c1;have P7l:=P74.o.box.lt;have P8a:=P84.o.box.c0;have P8b:=P84.o.box.c1;have P8l:=P84.o.box.lt;have P9a:=P94.o.box.c0;have P9b:=P94.o.box.c1;have P9l:=P94.o.box.lt;go_wp2;refine aH [0,1,2,3,4,5,6,7] [] [8] (by kernel_rfl) (by kernel_rfl) ?_;simp only[pk]
   repeat(go_big_quiet_step (fail))
   refine wpQuiet_nil ?_;unfold aD;unfold aD
   go_wp2_with((with_reducible go_at_call 58);refine(kW (HM4.o.up (aG _)) l f (by omega) (by omega) (by omega)).mono ?_;rintro en w5 ⟨rfl,S5,hm,hg⟩;have HM5:=qa hm;have HG5:=qa ((HG4.o.up (aG _)).trans hg);have P75:=qa ((P74.o.up (aG _)).gw hg);have P85:=qa ((P84.o.up (aG _)).gw hg);have P95:=qa ((P94.o.up (aG _)).gw hg);clear hm hg)
   refine⟨trivial,?_⟩;unfold aD;clear hc4 hgl P7a P7b P7l P8a P8b P8l P9a P9b P9l HM4 HG4 P74 P84 P94;have P8a:=P85.o.box.c0;have P8b:=P85.o.box.c1;have P8l:=P85.o.box.lt;have P8f:=P85.o.box.free 0;have P8g:=P85.o.box.free 1;have P9a:=P95.o.box.c0;have P9b:=P95.o.box.c1;have P9l:=P95.o.box.lt;have HST:=qa (P85.o.box.set n m);go_wp2;refine bI rfl rfl rfl HST.o.1.load ?_;exact⟨rfl,S5,by rw[HLS.o];exact HM5.o.keep HST.o.2 P85.o.no (by omega),HG5.o.new HST.o.2 (by omega)⟩
  |false=>
   simp only[qS,jr]at HLS;have P8a:=P84.o.box.c0;have P8b:=P84.o.box.c1;have P8l:=P84.o.box.lt;have P8f:=P84.o.box.free 0;have P8g:=P84.o.box.free 1;have P9a:=P94.o.box.c0;have P9b:=P94.o.box.c1;have P9l:=P94.o.box.lt;have HST:=qa (P84.o.box.set n m);go_wp2;refine bI rfl rfl rfl HST.o.1.load ?_;exact⟨rfl,S4,by rw[HLS.o];exact HM4.o.keep HST.o.2 P84.o.no (by omega),HG4.o.new HST.o.2 (by omega)⟩
theorem SlK.midB{P:Program}{k:Nat}{w:World}{v:Value}{l:List (List Value)}(h:SlK k w v l)(t E:TypeId)(ht:P.underlying t=some (.slice E))(hE:(P.info? E).map (·.size)=some k)(n m:Nat)(hn:n<=m)(hm:m<=l.length):
  ∃u,(∀W:World,(Instr.sliceAt t v (some (.int .i64 (n:Int))) (some (.int .i64 (m:Int))) none).run P W=.ok u W)/\SlK k w u ((l.drop n).take (m-n))/\u.ownBlock=v.ownBlock/\u.oneCell'=true:=by
 obtain⟨oa,cap,b,off,rfl,hd,hc⟩:=h;obtain⟨h1,h2⟩:=mS t E ht hE;have hcap:=hd.hcap;have hl:((l.drop n).take (m-n)).length=m-n:=by rw[qW,j3];omega
 refine⟨sliced oa n m cap k,fun W=>?_,?_,?_,rfl⟩
 ·rw[run_sliceAt_slice (P:=P) (t:=t) (h:=h1),run_slice_lh (t:=t) (ht:=h1) (h0:=by omega) (h1:=by omega) (h2:=by omega),h2]
  simp[Result.andThen]
 ·refine⟨if cap=n then oa else oa.map (·.add (n*k)),cap-n,b,off+n*k,by rw[hl];simp[sliced],⟨fun h0=>?_,by omega,by have:=hd.hmax;omega,by have:=hd.hsml;omega,fun h0=>hd.hblk (by omega)⟩,fun i hi c hcl=>?_⟩
  ·rw[hl]at h0
   rw[qu (by omega),hd.hat (by omega)];simp[gH]
  rw[hl]at hi;have:=hc (n+i) (by omega) c hcl;rw[jL,<-jJ]at this;rw[this];simp[List.getD,hi]
 cases oa with
 |none=>by_cases hcn:cap=n<;>simp[sliced,Value.ownBlock,hcn]
 |some a=>
  have:(a.add (n*k)).block=a.block:=by unfold Addr.add;split<;>rfl
  by_cases hcn:cap=n<;>simp[sliced,Value.ownBlock,hcn,this]
structure dE(w:World)(b:Nat)(v:Value)(l:List Nd):Prop where
 at_:aO w v l
 blk:v.ownBlock=some b
 pos:0<l.length
 one:v.oneCell'=true
theorem dE.lt{w:World}{b:Nat}{v:Value}{l:List Nd}(h:dE w b v l):b<w.heap.size:=by
 obtain⟨oa,cap,b',off,rfl,hd,-⟩:=h.at_.open;obtain rfl:=hd.hat h.pos;have:=h.blk;simp only[Value.ownBlock,jA]at this;subst this;exact hd.hblk h.pos
theorem dE.gw{S S1:Nat->Prop}{w w':World}{b:Nat}{v:Value}{l:List Nd}(h:dE w b v l)(hg:Gw S w S1 w')(hn:¬S b):dE w' b v l:=by
 refine⟨?_,h.blk,h.pos,h.one⟩;obtain⟨oa,cap,b',off,rfl,hd,hc⟩:=h.at_;have q69:0<(l.map ndC).length:=by rw[qA];exact h.pos
 obtain rfl:=hd.hat q69;have hb:=h.blk;simp only[Value.ownBlock,jA]at hb;subst hb;exact⟨_,cap,b',off,rfl,⟨hd.hat,hd.hcap,hd.hmax,hd.hsml,fun h0=>qe (hd.hblk h0) hg.size⟩,fun i hi c hcl=>(hg.cell (hd.hblk q69) hn).trans (hc i hi c hcl)⟩
theorem dE.up{w w':World}{b:Nat}{v:Value}{l:List Nd}(h:dE w b v l)(hb:Below w.heap.size w w'):dE w' b v l:=⟨h.at_.up hb,h.blk,h.pos,h.one⟩
theorem dE.form{w:World}{b:Nat}{v:Value}{l:List Nd}(h:dE w b v l):∃o n c,v=.slice o n c:=by
 obtain⟨oa,cap,b',off,hv,-,-⟩:=h.at_.open;exact⟨_,_,_,hv⟩
theorem dE.mid{w:World}{b:Nat}{v:Value}{l:List Nd}(h:dE w b v l)(n m:Nat)(hn:n<m)(hm:m<=l.length):
  ∃u,(∀W:World,(Instr.sliceAt 39 v (some (.int .i64 (n:Int))) (some (.int .i64 (m:Int))) none).run prog W=.ok u W)/\dE w b u ((l.drop n).take (m-n)):=by
 obtain⟨u,h1,h2,h3,h4⟩:=SlK.midB (P:=prog) h.at_ 39 77 underlying39 (by kernel_rfl) n m (by omega) (by simpa using hm);exact⟨u,h1,by unfold aO;rw[List.map_take,List.map_drop];exact h2,h3.trans h.blk,by rw[qW,j3];omega,h4⟩
def bO:Fo->List (List Nd)
 |.nil=>[]
 |.cons x k r=>(x::aT k)::bO r
theorem bX:∀f,(bO f).length=cnt f
 |.nil=>rfl
 |.cons x k r=>by simp[bO,cnt,bX r]
structure pK(w:World)(B b:Nat)(u:Value)(vs:List Value)(tl:List (List Nd)):Prop where
 own:Own w B 39 u vs
 len:vs.length=tl.length
 rows:∀i,i<tl.length->dE w b (vs.getD i undef) (tl.getD i [])
theorem O2{w:World}{v:Value}{b:Nat}{x:Nd}{k:Fo}(h:dE w b v (x::aT k))(hl:(aT k).length<400)(hn:x.n=cnt k)(hk:wf k):
  Calls prog 59 #[v] w fun e w'=>∃u vs,e=.returned u/\pK w' w.heap.size b u vs (bO k)/\Below w.heap.size w w':=by
 have HB:=qa h;have q72:=qa (fun w' hb j=>q59 (aO.up h.at_ hb (w':=w')) (by simp;omega) j);obtain⟨oa,cap,b',off,rfl,hd,hc⟩:=h.at_.open
 have hix:∀W:World,(Instr.indexAt 39 (.slice oa (x::aT k).length cap) (.int .i64 0)).run prog W=.ok (.pointer (some ⟨b',off,none⟩)) W:=fun(W:World)=>by
  have:=d8 hd W .i64 0 (by omega) (by simp);simpa using this
 have hcell:=hc 0 (by simp) 1 (by decide);change w.cell? ⟨b',off+0*8+1,none⟩=some (.int .i64 x.n)at hcell;have q6E:w.cell? ⟨b',off+1,none⟩=some (.int .i64 (cnt k:Nat)):=by rw[Nat.zero_mul,jD,hn]at hcell;exact hcell
 have hb:=hd.hblk (by simp);have hck:=cnt_le k;have HK:=qa hk;obtain⟨l,hle⟩:∃l,l=x::aT k:=⟨_,rfl⟩;have hl1:l.length<=1+(aT k).length:=by rw[hle];simp;omega
 have hl2:1+(aT k).length<=l.length:=by rw[hle];simp;omega
 have HLD:Hid (l.drop 1=aT k):=qa (by rw[hle];rfl);rw[<-hle]at HB q72 hix⊢;clear h hd hc hcell hk hn hle;go_enter func59,ntmps59;go_wp2
 go_loopg [3,4,10] (cnt k) (fun gk ov av jv wr=>∃(j at_:Nat) (r:Fo) (vs:List Value) (dn:List (List Nd)),jv=.int .i64 j/\av=.int .i64 at_/\at_+(aT r).length=l.length/\j+cnt r=cnt k/\l.drop at_=aT r/\wf r/\dn++bO r=bO k/\dn.length=j/\pK wr w.heap.size b ov vs dn/\Below w.heap.size w wr/\gk=cnt k-j)
 case atStart=>exact⟨0,1,k,[],[],rfl,by push_cast;rfl,by omega,by omega,HLD.o,HK.o,rfl,rfl,⟨Own.nil _ _ _,rfl,fun i hi=>absurd hi (qB i)⟩,qn _ _,rfl⟩
 case round=>
  obtain⟨j,at_,r,vs,dn,rfl,rfl,q6q,hj,hdr,hwr,hls,q8w,hown,q5T,rfl⟩:=hrel;have HO:=qa hown;have HBL:=qa q5T;have HLS:=qa hls;clear hown q5T hls;have hcw:=(HBL.o.cell (p:=⟨b',off+1,none⟩) hb).trans q6E;have hbw:b'<wr.heap.size:=by have:=HBL.o.size;omega
  cases r with
  |nil=>
   have hje:j=cnt k:=by simpa[cnt]using hj
   have HE:Hid (dn=bO k):=qa (by rw[<-HLS.o];simp[bO]);go_wp2;go_ret;refine⟨u3,vs,rfl,?_,HBL.o⟩;rw[<-HE.o];exact HO.o
  |cons y ky r'=>
   simp only[cnt]at hj;simp only[aT]at hdr;simp only[aT,qz,qj]at q6q;obtain⟨hy1,hy2,hy3⟩:=hwr;have hend:=wB l.length (aT r') y ky hy1 hy2 (by omega) at_;rw[<-hdr]at hend;obtain⟨-,-,q6f⟩:=cZ (d:=zN) hdr;have HDR:Hid (l.drop (at_+1+(aT ky).length)=aT r'):=qa (kD q6f);have hee:((at_:Int)+(1+(aT ky).length))=((at_+1+(aT ky).length:Nat):Int):=by push_cast;omega
   rw[hee]at hend;obtain⟨u,hsl,hnu⟩:=HB.o.mid at_ (at_+1+(aT ky).length) (by omega) (by omega)
   have htk:(l.drop at_).take (at_+1+(aT ky).length-at_)=y::aT ky:=by
    rw[hdr,show at_+1+(aT ky).length-at_=(aT ky).length+1 by omega,List.take_succ_cons,List.take_left]
   rw[htk]at hnu;obtain⟨ou,lu,cu,rfl⟩:=hnu.form;obtain⟨en,hen⟩:∃en,en=at_+1+(aT ky).length:=⟨_,rfl⟩;rw[<-hen]at hend hsl HDR;have HEN:=qa hend;have HW3:=qa hy3;have HNU:=qa hnu;have HVL:Hid (vs.length=j):=qa (HO.o.len.trans q8w);have hvb:vs.length+1<=4294967296:=by have:=HVL.o;omega
   have HE2:=qa hen;clear hdr q6f hend hee hy1 hy2 hy3 htk hnu hen;have HEC:=qa (q72.o wr HBL.o at_)
   go_wp2_with(first|((with_reducible go_at_call 65);refine HEC.o.mono ?_;rintro en' w' ⟨rfl,x6,rfl⟩;rw[HEN.o];have HWX:Hid (Below wr.heap.size wr ((ext wr x6).alloc (.cells #[.slice ou lu cu] 39))):=qa ((aC wr x6).trans ((aB (ext wr x6) (.cells #[.slice ou lu cu] 39)).mono (fX wr x6))))|(at_builtin;refine bU rfl (.tmp 15) (.tmp 20) 22 rfl w.heap.size 39 (.slice none 0 0) 24 underlying22 (by kernel_rfl) rfl (by decide) u3 vs rfl (HO.o.own.up HWX.o) (.slice (some ⟨(ext wr x6).heap.size,0,none⟩) 1 1) [.slice ou lu cu] rfl (by simpa using fZ (ext wr x6) #[.slice ou lu cu] 39 (by simp)) (by intro z hz;rw[jf]at hz;rw[hz];exact HNU.o.one) (by simpa using hvb) (qc HBL.o.size HWX.o.size) ?_;intro v' w5 hown1 hg1 hk1;have HO1:=qa hown1;have HG1:=qa hg1;clear hown1 hg1 hk1))
   have HB5:=qa (iW (HBL.o.trans (HWX.o.mono HBL.o.size)) (qc HBL.o.size HWX.o.size) (HO.o.own.up HWX.o) HG1.o)
   go_roundg (cnt k-(j+1))
   case measure=>omega
   case rel=>
    have hlv:=HVL.o;have hen:=HE2.o;refine⟨j+1,en,r',vs++[.slice ou lu cu],dn++[y::aT ky],by go_num,rfl,by omega,by omega,HDR.o,HW3.o,?_,by simp[q8w],⟨HO1.o,by rw[qj,qj,hlv,q8w];rfl,fun i hi=>?_⟩,HB5.o,rfl⟩
    ·rw[<-HLS.o];simp[bO]
    rw[qj,qD]at hi;have hgx:Gw (fun k=>w.heap.size<=k) w (fun k=>w.heap.size<=k) w5:=⟨⟨HB5.o.os,HB5.o.tape,HB5.o.output,HB5.o.size,fun k hk _=>HB5.o.block k hk⟩,fun k h=>.inl h⟩;have hbb:=HB.o.lt;by_cases hil:i<dn.length
    ·rw[aV (by omega),aV hil]
     exact(HO.o.rows i hil).gw (S:=fun k=>w.heap.size<=k) (S1:=fun k=>w.heap.size<=k) ⟨⟨HWX.o.os.trans rfl |>.trans rfl |> fun e=>by have h1:=HB5.o.os;have h2:=HBL.o.os;rw[h1,h2],by have h1:=HB5.o.tape;have h2:=HBL.o.tape;rw[h1,h2],by have h1:=HB5.o.output;have h2:=HBL.o.output;rw[h1,h2],qc HWX.o.size HG1.o.size,fun k hk hn=>by rw[HB5.o.block k (by omega),HBL.o.block k (by omega)]⟩,fun k h=>.inl h⟩ (by omega)
    have hie:i=dn.length:=by omega
    subst hie;rw[bV,q8w,<-hlv,bV];exact HNU.o.gw hgx (by omega)
def pcC(p:Pc):List Value:=[.int .i64 (p.f:Nat),.int .i64 (p.l:Nat)]
theorem uR(l:List Pc):∀x∈l.map pcC,x.length=2:=by
 intro x hx;obtain⟨e,-,rfl⟩:=List.mem_map.1 hx
 rfl
structure O3(w:World)(v:Value)(b off cap:Nat)(ps:List Pc):Prop where
 v:v=.slice (some ⟨b,off,none⟩) ps.length cap
 hd:Hd w (some ⟨b,off,none⟩) ps.length cap b off
 pos:0<ps.length
 c0:∀i,i<ps.length->w.cell? ⟨b,off+i*2,none⟩=some (.int .i64 ((ps.getD i zP).f:Nat))
 c1:∀i,i<ps.length->w.cell? ⟨b,off+i*2+1,none⟩=some (.int .i64 ((ps.getD i zP).l:Nat))
theorem A6{w:World}{B E:Nat}{v:Value}{ps:List Pc}(h:d4 2 w B E v (ps.map pcC))(hp:0<ps.length):∃b off cap,O3 w v b off cap ps/\v.ownBlock=some b:=by
 obtain⟨oa,cap,b,off,hv,hd,hc⟩:=h.sl;rw[qA]at hv hd hc;obtain rfl:=hd.hat hp;refine⟨b,off,cap,⟨hv,hd,hp,fun i hi=>?_,fun i hi=>?_⟩,by rw[hv];rfl⟩
 ·have:=hc i hi 0 (by decide)
  rw[jD]at this;rw[this];simp[List.getD,hi,pcC]
 rw[hc i hi 1 (by decide)];simp[List.getD,hi,pcC]
theorem O3.gw{S S1:Nat->Prop}{w w':World}{v:Value}{b off cap:Nat}{ps:List Pc}(h:O3 w v b off cap ps)(hg:Gw S w S1 w')(hn:¬S b):O3 w' v b off cap ps:=by
 have hb:=h.hd.hblk h.pos;exact⟨h.v,⟨h.hd.hat,h.hd.hcap,h.hd.hmax,h.hd.hsml,fun h0=>qe (h.hd.hblk h0) hg.size⟩,h.pos,fun i hi=>(hg.cell hb hn).trans (h.c0 i hi),fun i hi=>(hg.cell hb hn).trans (h.c1 i hi)⟩
theorem O3.up{w w':World}{v:Value}{b off cap:Nat}{ps:List Pc}(h:O3 w v b off cap ps)(hb:Below w.heap.size w w'):O3 w' v b off cap ps:=h.gw (bZ (fun _=>False) hb) id
theorem rT{w:World}{v:Value}{b off cap:Nat}{ps:List Pc}(h:O3 w v b off cap ps):
  ∀(W:World) (i:Nat),i<ps.length->(Instr.indexAt 116 (.slice (some ⟨b,off,none⟩) ps.length cap) (.int .i64 i)).run prog W=.ok (.pointer (some ⟨b,off+i*2,none⟩)) W:=fun W i hi=>by
 have:=lU (P:=prog) 2 116 93 underlying116 (by kernel_rfl) h.hd W .i64 i (by omega) (by omega);simpa using this
theorem q3f{w:World}{S:Nat->Prop}{g q:Nat}{s:St}{F:Int}{v:Value}{b off cap:Nat}{ps:List Pc}(h:MkT w S g q s F)(hl:s.e.length<=9000)(ht:tot s.e+ps.length<=800000)(hps:O3 w v b off cap ps)(hbn:¬S b)(hrg:∀i,i<ps.length->(ps.getD i zP).f<s.e.length/\(ps.getD i zP).l<s.e.length)(n m:Nat)(hn:n=(rN ps).f)(hm:m=(rN ps).l):
  Calls prog 64 #[.pointer (some ⟨g,0,none⟩),v] w fun e w'=>e=.returned (.agg #[.int .i64 n,.int .i64 m])/\∃S',MkT w' S' g q (fC ps ps.length s) F/\Gw S w S' w':=by
 have hgq:=h.gq;have hno:=h.no (qb _);have qbG:=hps.hd.hblk hps.pos;have q69:=hps.pos;obtain rfl:=hps.v;have hix:=rT hps;have hmx:=hps.hd.len;have HM:=qa h;have HPS:=qa hps;have HRG:=qa hrg;have HN:=qa hn;have HMM:=qa hm;have HL:=qa hl;have HTT:=qa ht;have HCL:=qa (lF ps s);have HCT:=qa (rO ps s);clear h hps hrg hn hm hl ht;go_enter func64,ntmps64;go_wp2
 go_loopg [9] (ps.length) (fun gk iv wr=>∃(j:Nat) (Sr:Nat->Prop),iv=.int .i64 j/\j<=ps.length/\MkT wr Sr g q (fC ps j s) F/\Gw S w Sr wr/\O3 wr (.slice (some ⟨b,off,none⟩) ps.length cap) b off cap ps/\¬Sr b/\LB wr Sr w.heap.size 0 0/\gk=ps.length-j)
 case atStart=>exact⟨0,S,rfl,qd _,HM.o.up (aB _ _),bZ S (aB _ _),HPS.o.up (aB _ _),hbn,⟨dS w 0 0,hno⟩,rfl⟩
 case round=>
  obtain⟨j,Sr,rfl,hj,hm,hgw,q7G,hnb,hlb,rfl⟩:=hrel;have HM1:=qa hm;have HG1:=qa hgw;have HP1:=qa q7G;have HB1:=qa hlb;have HNB:=qa hnb;clear hm hgw q7G hlb hnb HM HPS;by_cases hlt:j<ps.length
  ·obtain⟨pj,hpj⟩:∃p,p=ps.getD j zP:=⟨_,rfl⟩
   have HCE:Hid (∀c',c'<2->wr.cell? ⟨b,off+j*2+c',none⟩=some ((#[.int .i64 (pj.f:Nat),.int .i64 (pj.l:Nat)]:Array Value).getD c' undef)):=qa (fun c' h=>by
    rw[hpj];rcases(show c'=0\/c'=1 by omega)with rfl|rfl
    ·exact HP1.o.c0 j hlt
    exact HP1.o.c1 j hlt)
   have hrg:=HRG.o j hlt;rw[<-hpj]at hrg;have hcl:=HCL.o j;have hct:=HCT.o j;have hl:=HL.o;have htt:=HTT.o;have HPJ:=qa hpj;clear hpj;cases j with
   |zero=>
    have q6Q:=fun W=>hix W 0 q69;clear hix
    go_wp2_with(refine aJ rfl 93 _ rfl b (off+0*2) 2 rfl _ _ HCE.o rfl underlying93 rfl (by kernel_rfl) ?_)
    go_roundg (ps.length-1)
    case measure=>omega
    case rel=>
     exact⟨1,Sr,rfl,by omega,HM1.o.up (aB _ _),HG1.o.up (aB _ _),HP1.o.up (aB _ _),HNB.o,HB1.o.up (aB _ _),rfl⟩
   |succ j=>
    have q8x:∀W,(Instr.indexAt 116 (.slice (some ⟨b,off,none⟩) ps.length cap) (.int .i64 ((j:Int)+1))).run prog W=.ok (.pointer (some ⟨b,off+(j+1)*2,none⟩)) W:=fun W=>by have:=hix W (j+1) hlt;simpa using this
    have q64:=fun W=>hix W j (by omega);obtain⟨pi,hpi⟩:∃p,p=ps.getD j zP:=⟨_,rfl⟩;have qba:=HRG.o j (by omega);rw[<-hpi]at qba;have hci:=HP1.o.c1 j (by omega);rw[<-hpi]at hci;have hbr:=HP1.o.hd.hblk HP1.o.pos;have HPI:=qa hpi;have HCS:Hid (fC ps (j+2) s=bT pi.l pj.f (fC ps (j+1) s)):=qa (by rw[HPI.o,HPJ.o];simp[fC,iff]);have hsr:=HG1.o.size;clear hix hpi
    go_wp2_with(refine aJ rfl 93 _ rfl b (off+(j+1)*2) 2 rfl _ _ HCE.o rfl underlying93 rfl (by kernel_rfl) ?_)
    have HL6:Hid (LB (wr.alloc (.cells #[.int .i64 (pj.f:Nat),.int .i64 (pj.l:Nat)] 93)) Sr wr.heap.size pj.f pj.l):=qa ⟨dS wr _ _,HM1.o.no (qb _)⟩;have HM2:=qa (HM1.o.up (aB wr (.cells #[.int .i64 (pj.f:Nat),.int .i64 (pj.l:Nat)] 93)));have HG2:=qa (HG1.o.up (aB wr (.cells #[.int .i64 (pj.f:Nat),.int .i64 (pj.l:Nat)] 93)));have HP2:=qa (HP1.o.up (aB wr (.cells #[.int .i64 (pj.f:Nat),.int .i64 (pj.l:Nat)] 93)));have HB2:=qa (HB1.o.up (aB wr (.cells #[.int .i64 (pj.f:Nat),.int .i64 (pj.l:Nat)] 93)));have qbx:=HP2.o.c1 j (by omega);rw[<-HPI.o]at qbx;have hb2:=HP2.o.hd.hblk q69;clear hci hbr HM1 HG1 HP1 HB1 HCE;generalize wr.heap.size=p6 at*;generalize wr.alloc (.cells #[.int .i64 (pj.f:Nat),.int .i64 (pj.l:Nat)] 93)=w2 at*;have hc4:=HM2.o.f4;have hgl:=HM2.o.glt;have h60:=HL6.o.box.c0;have h6l:=HL6.o.box.lt;refine aH [0,1,2,3,4,5,6,7,8,9,10,11] [] [12] (by kernel_rfl) (by kernel_rfl) ?_;simp only[pk]
    repeat(go_big_quiet_step (fail))
    refine wpQuiet_nil ?_;unfold aD;unfold aD
    go_wp2_with((with_reducible go_at_call 58);refine(kW (HM2.o.up (aG _)) pi.l pj.f (by omega) (by omega) (by omega)).mono ?_;rintro en w3 ⟨rfl,S3,hm,hg⟩;have HM3:=qa hm;have HG3:=qa ((HG2.o.up (aG _)).trans hg);have HP3:=qa ((HP2.o.up (aG _)).gw hg HNB.o);(have qcf:=qa (hg.out (qe hb2 (aG _).size) HNB.o));have HB3:=qa ((HB2.o.up (aG _)).gw hg);clear hm hg)
    refine⟨trivial,?_⟩;unfold aD;go_wp2
    go_roundg (ps.length-(j+2))
    case measure=>omega
    case rel=>
     exact⟨j+2,S3,by go_num,by omega,by rw[HCS.o];exact HM3.o,HG3.o,HP3.o,qcf.o,HB3.o,rfl⟩
  have hje:j=ps.length:=by omega
  subst hje;have qbB:=HP1.o.c0 0 q69;have qbA:=HP1.o.c1 (ps.length-1) (by omega);have hnv:((ps.getD 0 zP).f:Int)=n:=by rw[HN.o];rfl
  have hmv:((ps.getD (ps.length-1) zP).l:Int)=m:=by rw[HMM.o];rfl
  rw[hnv,Nat.zero_mul,jD]at qbB;rw[hmv]at qbA;have hbr:=HP1.o.hd.hblk q69;have q6Q:∀W,(Instr.indexAt 116 (.slice (some ⟨b,off,none⟩) ps.length cap) (.int .i64 0)).run prog W=.ok (.pointer (some ⟨b,off,none⟩)) W:=fun W=>by have:=hix W 0 q69;simpa using this
  have qcJ:∀W,(Instr.indexAt 116 (.slice (some ⟨b,off,none⟩) ps.length cap) (.int .i64 ((ps.length:Int)-1))).run prog W=.ok (.pointer (some ⟨b,off+(ps.length-1)*2,none⟩)) W:=fun W=>by
   have:=hix W (ps.length-1) (by omega);rwa [show((ps.length-1:Nat):Int)=(ps.length:Int)-1 by omega]at this
  have P4a:=HB1.o.box.c0;have P4b:=HB1.o.box.c1;have P4l:=HB1.o.box.lt;have P4f:=HB1.o.box.free 0;have P4g:=HB1.o.box.free 1;have HST:=qa ((HB1.o.box.up (aG _)).set n m);clear hix hnv hmv;go_wp2;refine aH [0,1,2,3,4,5,6,7,8,9,10,11] [] [12] (by kernel_rfl) (by kernel_rfl) ?_;simp only[pk]
  repeat(go_big_quiet_step (fail))
  refine wpQuiet_nil ?_;unfold aD;unfold aD;go_wp2;refine⟨trivial,?_⟩;unfold aD;go_wp2;refine bI rfl rfl rfl HST.o.1.load ?_;exact⟨rfl,Sr,(HM1.o.up (aG _)).keep HST.o.2 HB1.o.no (by omega),(HG1.o.up (aG _)).new HST.o.2 (qb _)⟩
theorem q4G(x i:Nat):wdR x i<18446744073709551616:=jU _ (by decide)
theorem K6(x i j:Nat):(wdR x i).testBit j=(decide (j<64)&&x.testBit (64*i+j)):=by
 unfold wdR;rw[jQ,Nat.testBit_div_two_pow,Nat.add_comm]
theorem q3C(x y i:Nat):wdR (x|||y) i=wdR x i|||wdR y i:=by
 refine jn fun j=>?_;rw[Nat.testBit_or,K6,K6,K6,Nat.testBit_or];cases decide (j<64)<;>simp
theorem q1L(c i:Nat):wdR (2^c) i=if c/64=i then 2^(c%64)else 0:=by
 refine jn fun j=>?_;rw[K6,a8];split
 ·rename_i h
  rw[a8];by_cases hj:j<64
  ·rw[qy hj,j5]
   by_cases h2:c=64*i+j
   ·rw[qy h2,qy (by omega)]
   rw[qw h2,qw (by omega)]
  rw[qw hj,jM,qw (by omega)]
 rename_i h;rw[Nat.zero_testBit];by_cases hj:j<64
 ·rw[qy hj,j5,qw (by omega)]
 rw[qw hj,jM]
theorem q3D{x y:Nat}(hx:x<2^256)(hy:y<2^256)(h:∀i,i<4->wdR x i=wdR y i):x=y:=by
 refine jn fun k=>?_;by_cases hk:k<256
 ·have:=qZ (fun z=>z.testBit (k%64)) (h (k/64) (by omega))
  simp only[K6,qy (jU k (show 64>0 by decide)),j5]at this;rwa [show 64*(k/64)+k%64=k by omega]at this
 have h1:2^256<=2^k:=qg (by decide) (by omega);rw[Nat.testBit_lt_two_pow (qe hx h1),Nat.testBit_lt_two_pow (qe hy h1)]
theorem U7(i:Nat):wdR 0 i=0:=by simp[wdR]
theorem gQ{x y:Nat}(hx:x<2^256)(hy:y<2^256):x|||y<2^256:=Nat.or_lt_two_pow hx hy
theorem xM(x:Nat):vZ x<2^256:=by
 unfold vZ;have:0<2^256:=Nat.two_pow_pos 256;omega
def q0c(a b k:Nat):Nat:=(List.range k).foldl (fun x c=>if a<=c/\c<=b then x|||2^c else x) 0
theorem xN(a b k:Nat):q0c a b (k+1)=if a<=k/\k<=b then q0c a b k|||2^k else q0c a b k:=by
 unfold q0c;rw[jx,qY];rfl
theorem vI(a b:Nat):∀k i,(q0c a b k).testBit i=(decide (i<k)&&decide (a<=i/\i<=b))
 |0,i=>by simp[q0c]
 |k+1,i=>by
  rw[xN];have ih:=vI a b k i;by_cases h:a<=k/\k<=b
  ·rw[qv h,Nat.testBit_or,ih,a8]
   by_cases hik:i=k
   ·subst hik;simp[h]
   by_cases h1:i<k
   ·rw[qy h1,qy (show i<k+1 by omega),qw (show¬k=i by omega)];simp
   rw[qw h1,qw (show¬i<k+1 by omega),qw (show¬k=i by omega)];simp
  rw[qu h,ih];by_cases hik:i=k
  ·subst hik;rw[qw h];simp
  by_cases h1:i<k
  ·rw[qy h1,qy (show i<k+1 by omega)]
  rw[qw h1,qw (show¬i<k+1 by omega)]
theorem U8(a b i:Nat):(iD a b).testBit i=(decide (i<256)&&decide (a<=i/\i<=b)):=vI a b 256 i
theorem tW(a b:Nat):iD a b<2^256:=by
 refine Nat.lt_pow_two_of_testBit _ fun i hi=>?_;rw[U8,qw (by omega)];rfl
theorem U9(c:UInt8):gG c=2^c.toNat:=by
 refine jn fun i=>?_;have:=c.toNat_lt;unfold gG;rw[U8,a8];by_cases h:c.toNat=i
 ·subst h;simp;omega
 rw[qw (show¬(c.toNat<=i/\i<=c.toNat) by omega),qw h];simp
theorem pF(c:UInt8):gG c<2^256:=tW _ _
def wsV(x:Nat):List Value:=[.int .u64 (wdR x 0:Nat),.int .u64 (wdR x 1:Nat),.int .u64 (wdR x 2:Nat),.int .u64 (wdR x 3:Nat)]
def dU(x:Nat):Value:=.agg (wsV x).toArray
theorem zE(x:Nat){i:Nat}(hi:i<4):(wsV x)[i]? =some (.int .u64 (wdR x i:Nat)):=by
 obtain rfl|rfl|rfl|rfl:i=0\/i=1\/i=2\/i=3:=by omega
 all_goals rfl
theorem sK(x:Nat):(wsV x).length=4:=rfl
theorem V0{x y i:Nat}(hi:i<4)(h:∀j,j<4->j≠i->wdR y j=wdR x j):(wsV x).set i (.int .u64 (wdR y i:Nat))=wsV y:=by
 refine List.ext_getElem? fun j=>?_;rw[jO];by_cases hj:j<4
 ·rw[zE y hj]
  split
  ·rename_i e;subst e;rw[qv (by rw[sK];exact hi)]
  rename_i e;rw[zE x hj,h j hj (fun e2=>e e2.symm)]
 rw[qu (by omega),qP (by rw[sK];omega),qP (by rw[sK];omega)]
structure fP(w:World)(g x:Nat):Prop where
 own:Own w g 54 (.slice (some ⟨g,0,none⟩) 4 4) (wsV x)
section
variable {w w' : World} {g x : Nat}
theorem fP.up(h:fP w g x)(hb:Below w.heap.size w w'):fP w' g x:=⟨h.own.up hb⟩
theorem fP.keep{row:Option Nat}(h:fP w g x)(hg:w.grownBy w' row)(hne:row≠some g):fP w' g x:=⟨h.own.keep hg (.inr (fun e=>hne e.symm))⟩
theorem fP.lt(h:fP w g x):g<w.heap.size:=(h.own.lt g rfl).2
theorem fP.cell(h:fP w g x){c:Nat}(hc:c<4):w.cell? ⟨g,c,none⟩=some (.int .u64 (wdR x c:Nat)):=by
 rw[h.own.cell (by rw[sK];exact hc),qt,zE x hc];rfl
theorem fP.free(h:fP w g x)(c:Nat):w.frozen? ⟨g,c,none⟩=false:=h.own.free c
theorem fP.set(h:fP w g x){y i:Nat}(hi:i<4)(hy:∀j,j<4->j≠i->wdR y j=wdR x j):fP (w.setCell ⟨g,i,none⟩ (.int .u64 (wdR y i:Nat))) g y/\w.grownBy (w.setCell ⟨g,i,none⟩ (.int .u64 (wdR y i:Nat))) (some g):=by
 obtain⟨h1,h2⟩:=h.own.store i (.int .u64 (wdR y i:Nat));rw[V0 hi hy]at h1;exact⟨⟨h1⟩,h2⟩
theorem fP.load(h:fP w g x):(loadVar 54 ⟨g,0,none⟩).run prog w=.ok (dU x) w:=vB h.own _ underlying54 rfl (by kernel_rfl)
theorem m4(w:World)(x:Nat):fP (w.alloc (.cells (wsV x).toArray 54)) w.heap.size x:=by
 have h:=cX w w.heap.size (wsV x).toArray 54 (by simp[wsV]) (qb _);simp only[jB,sK]at h;exact⟨h⟩
end
def z4:Array Value:=(wsV 0).toArray
theorem nQ(W:World):(zeroValue 54).run prog W=.ok (.agg z4) W:=by kernel_rfl
theorem fH(w:World)(A:Array Value)(hA:A=z4):fP (w.alloc (.cells A 54)) w.heap.size 0:=by
 subst hA;exact m4 w 0
theorem aL{ops:Array Oper}{rest:List Oper}{o:Oper}{a:Act}{w:World}{Q:Exit->Act->World->Prop}(hgd:o.guard=none)(x y:Operand)(ho:o.op=.store 54 x y)
  (g:Nat) (hx:a.eval x=.pointer (some ⟨g,0,none⟩)) (s t:Nat) (hy:a.eval y=dU t) (hown:fP w g s)
  (h:∀w',fP w' g t->w.grownBy w' (some g)->wpList prog ops Q rest (a.put o.dst undef) w'):wpList prog ops Q (o::rest) a w:=by
 refine bD hgd 54 x y ho g 54 g 4 4 hx (wsV t).toArray hy (by kernel_rfl) (wsV s) hown.own (by simp[wsV]) (fun u hu=>?_) fun w' hw hg=>h w' ⟨?_⟩ hg
 ·simp only[wsV,jK,List.not_mem_nil,or_false]at hu
  rcases hu with rfl|rfl|rfl|rfl<;>rfl
 exact hw
theorem aU{ops:Array Oper}{rest:List Oper}{o:Oper}{a:Act}{w:World}{Q:Exit->Act->World->Prop}(hgd:o.guard=none)(x:Operand)(ho:o.op=.load 54 x)
  (g:Nat) (hx:a.eval x=.pointer (some ⟨g,0,none⟩)) (s:Nat) (hown:fP w g s)
  (h:wpList prog ops Q rest (a.put o.dst (dU s)) w):wpList prog ops Q (o::rest) a w:=by
 obtain⟨A,hg,hs,hA⟩:=hown.own.whole;have hA2:A=(wsV s).toArray:=by rw[<-hA]
 refine mR hgd 54 4 x ho g hx A hs hg _ underlying54 rfl (by kernel_rfl) ?_;rw[hA2];exact h
theorem K7{x k:Nat}:∀j,j≠k/64->wdR (x|||2^k) j=wdR x j:=fun j hj=>by
 rw[q3C,q1L,qu (fun e=>hj e.symm),Nat.or_zero]
theorem V1(x k:Nat):wdR (x|||2^k) (k/64)=wdR x (k/64)|||2^(k%64):=by
 rw[q3C,q1L,qv rfl]
def eG(x:Nat)(w:World)(e:Ending)(w':World):Prop:=e=.returned (dU x)/\∃y,w'=ext w y
theorem q3E(x k:Nat):bits .or .u64 ((wdR x (k/64):Nat):Int) (IntKind.u64.wrap ((2:Int)^(k%64)))=((wdR (x|||2^k) (k/64):Nat):Int):=by
 have h:2^(k%64)<2^64:=Nat.pow_lt_pow_right (by decide) (jU _ (by decide));have e:(2:Int)^(k%64)=((2^(k%64):Nat):Int):=by simp
 have hs:=V1 x k;have hw:=q4G x (k/64);rw[e,hs];clear e hs;generalize 2^(k%64)=m at*;rw[IntKind.wrap_u64,Int.emod_eq_of_lt (by omega) (by omega),bits_or_u64_nat _ _ hw (by omega)]
theorem q0P(n:Nat)(h:n<256):[Value.int .u8 (n:Int)]=dF [UInt8.ofNat n]:=by
 simp[dF];omega
end Go.Cm
namespace Go.Cm
structure Stp(s:dG)(z z':PS):Prop where
 le:z.p<=z'.p
 len:z.p<=s.length->z'.p<=s.length
 er:z.e≠0->z'=z
 cod:z.e<=18->z'.e<=18
 bd:z.b<=s.length->z.p<=s.length->z'.b<=s.length
theorem Stp.refl(s:dG)(z:PS):Stp s z z:=⟨qb _,id,fun _=>rfl,id,fun h _=>h⟩
theorem Stp.trans{s:dG}{a b c:PS}(h:Stp s a b)(k:Stp s b c):Stp s a c:=
 ⟨qc h.le k.le,fun x=>k.len (h.len x),fun x=>by have e:=h.er x;subst e;exact k.er x,fun x=>k.cod (h.cod x),fun x y=>k.bd (h.bd x y) (h.len y)⟩
theorem f7{s:dG}{z:PS}{c:UInt8}(h:nxR s z=some c):z.e=0/\z.p<s.length/\s.getD z.p 0=c:=by
 unfold nxR at h;split at h
 ·rename_i g;exact⟨g.1,g.2,by simpa using h⟩
 cases h
theorem xP{s:dG}{z:PS}(h:z.e≠0):nxR s z=none:=by
 unfold nxR;rw[qu (fun g=>h g.1)]
theorem nS{s:dG}{z:PS}{c:UInt8}(h:(nxR s z).getD 0=c)(hc:c≠0):nxR s z=some c:=by
 cases hn:nxR s z with
 |none=>rw[hn]at h;exact absurd h.symm hc
 |some d=>rw[hn]at h;exact qZ some h
theorem fI{s:dG}{z:PS}{c:UInt8}(h:nxR s z=some c):Stp s z (bA z):=by
 obtain⟨h0,h1,-⟩:=f7 h;exact⟨jc _,fun _=>h1,fun g=>absurd h0 g,id,fun h _=>h⟩
theorem dV(s:dG){e a:Nat}(he:e<=18)(ha:a<=s.length)(z:PS):Stp s z (b9 e a z):=by
 unfold b9;split
 ·rename_i h0;exact⟨qb _,id,fun g=>absurd h0 g,fun _=>he,fun _ _=>ha⟩
 exact Stp.refl s z
theorem bN{e a:Nat}(z:PS)(he:e≠0):(b9 e a z).e≠0:=by
 unfold b9;split
 ·exact he
 assumption
theorem oT{e a:Nat}{z:PS}(h:z.e≠0):b9 e a z=z:=by unfold b9;rw[qu h]
theorem dH{e a:Nat}(z:PS):(b9 e a z).p=z.p:=by unfold b9;split<;>rfl
theorem fJ(s:dG)(c:UInt8)(z:PS):Stp s z (b7 s c z).2:=by
 unfold b7;split
 ·rename_i h;exact fI h
 exact Stp.refl s z
theorem m5{s:dG}{c:UInt8}{z:PS}(h:z.e≠0):b7 s c z=(false,z):=by
 unfold b7;rw[xP h];rfl
theorem V5{s:dG}{c:UInt8}{z:PS}(h:(b7 s c z).1=true):nxR s z=some c/\(b7 s c z).2=bA z:=by
 unfold b7 at h⊢;split
 ·rename_i g;exact⟨g,rfl⟩
 rename_i g;rw[qu g]at h;cases h
theorem E0(b:Int):okD 0 b=false:=by
 unfold okD dgR;simp
theorem q3F{s:dG}{z:PS}{b:Int}(h:okD ((nxR s z).getD 0) b=true):∃c,nxR s z=some c/\okD c b=true:=by
 cases hn:nxR s z with
 |none=>rw[hn]at h;exact absurd h (by rw[show(none:Option UInt8).getD 0=0 from rfl,E0];decide)
 |some c=>rw[hn]at h;exact⟨c,rfl,h⟩
theorem V6{s:dG}{a z:PS}(h:Stp s a z){e:Nat}(he:e<=18)(ha:a.p<=s.length):Stp s a (b9 e z.p z):=h.trans (dV s he (h.len ha) z)
theorem zF{s:dG}{z:PS}(hz:z.p<=s.length):Stp s z (mA s z).2:=by
 unfold mA;simp only;split
 ·rename_i h
  obtain⟨c,hc,-⟩:=q3F h;split
  ·rename_i h2
   obtain⟨d,hd,-⟩:=q3F h2;exact(fI hc).trans (fI hd)
  exact fI hc
 exact dV s (by decide) hz z
theorem E1{s:dG}(low:Nat){z:PS}(hz:z.p<=s.length):Stp s z (pN s low z).2:=by
 unfold pN;have ht:=fJ s 44 z;simp only;split
 ·split
  ·exact ht
  exact ht.trans (zF (ht.len hz))
 exact ht
theorem V7{s:dG}{z:PS}{c:UInt8}(h:nxR s z=some c):Stp s z (pO s z).2:=by
 have hz:=(f7 h).2.1;have h1:=fI h;have h2:=h1.trans (zF (h1.len (jp hz)));have h3:=h2.trans (E1 (mA s (bA z)).1 (h2.len (jp hz)));have h4:=h3.trans (fJ s 125 _)
 have h5:Stp s z (if(b7 s 125 (pN s (mA s (bA z)).1 (mA s (bA z)).2).2).1 then(b7 s 125 (pN s (mA s (bA z)).1 (mA s (bA z)).2).2).2 else b9 15 (b7 s 125 (pN s (mA s (bA z)).1 (mA s (bA z)).2).2).2.p (b7 s 125 (pN s (mA s (bA z)).1 (mA s (bA z)).2).2).2):=by
  split
  ·exact h4
  exact V6 h4 (by decide) (jp hz)
 unfold pO;simp only;split
 ·exact h5
 exact h5.trans (dV s (by decide) (jp hz) _)
theorem q1M{s:dG}{z:PS}{c:UInt8}(h:nxR s z=some c):z.p<(pO s z).2.p:=by
 have hz:=(f7 h).2.1;have h1:=fI h;have hz1:=h1.len (jp hz);have h2:=zF (s:=s) hz1;have h3:=h2.trans (E1 (mA s (bA z)).1 (h2.len hz1));have h4:=(h3.trans (fJ s 125 _)).le;have:(bA z).p=z.p+1:=rfl;unfold pO;simp only
 have h5:z.p+1<=(if(b7 s 125 (pN s (mA s (bA z)).1 (mA s (bA z)).2).2).1 then(b7 s 125 (pN s (mA s (bA z)).1 (mA s (bA z)).2).2).2 else b9 15 (b7 s 125 (pN s (mA s (bA z)).1 (mA s (bA z)).2).2).2.p (b7 s 125 (pN s (mA s (bA z)).1 (mA s (bA z)).2).2).2).p:=by
  split
  ·omega
  rw[dH];omega
 split
 ·exact h5
 rw[dH];exact h5
theorem sL{s:dG}{z:PS}{c:UInt8}(h:nxR s z=some c):Stp s z (tV s z).2/\z.p<(tV s z).2.p:=by
 have hz:=(f7 h).2.1;have h0:=(f7 h).1;have h1:=fI h;unfold tV;cases hn:nxR s (bA z)with
 |none=>exact⟨h1.trans (dV s (by decide) hz _),by simp only[dH];exact qU _⟩
 |some d=>
  have h2:=h1.trans (fI hn);have hl:z.p<(bA (bA z)).p:=by show z.p<z.p+1+1;omega
  simp only;cases q3A d with
  |some a=>exact⟨h2,hl⟩
  |none=>
   simp only;cases q3B d with
   |some a=>exact⟨h2,hl⟩
   |none=>
    simp only;split
    ·cases hx:q1K s (z.p+1)with
     |some b=>
      have hlt:z.p+1+2<s.length:=by
       unfold q1K at hx;split at hx
       ·rename_i g;exact g.1
       cases hx
      exact⟨⟨by show z.p<=z.p+4;omega,fun _=>by show z.p+4<=s.length;omega,fun g=>absurd h0 g,id,fun h _=>h⟩,by show z.p<z.p+4;omega⟩
     |none=>exact⟨h2.trans (dV s (by decide) hz _),by simp only[dH];exact hl⟩
    exact⟨h2.trans (dV s (by decide) hz _),by simp only[dH];exact hl⟩
theorem V8{s:dG}{z:PS}(hz:z.p<=s.length):Stp s z (fO s z).2:=by
 unfold fO;cases hn:nxR s z with
 |none=>exact dV s (by decide) hz z
 |some c=>
  simp only;split
  ·exact(sL hn).1
  split
  ·exact dV s (by decide) hz z
  exact fI hn
theorem q2r{s:dG}{frm:Nat}(hf:frm<=s.length){z:PS}(hz:z.p<=s.length):Stp s z (D8 s frm z).2:=by
 have h1:=V8 (s:=s) hz;have h2:=h1.trans (fJ s 45 _);unfold D8;simp only;split
 ·cases hn:nxR s (b7 s 45 (fO s z).2).2 with
  |none=>exact h2.trans (dV s (by decide) hf _)
  |some c=>
   simp only;split
   ·exact V6 h2 (by decide) hz
   have h3:=h2.trans (V8 (s:=s) (h2.len hz));split
   ·exact h3
   split
   ·exact h3.trans (dV s (by decide) (h1.len hz) _)
   exact h3
 exact h2
theorem E2{s:dG}{frm:Nat}(hf:frm<=s.length):∀(f a:Nat) (z:PS),z.p<=s.length->Stp s z (sJ s frm f a z).2
 |0,_,z,_=>Stp.refl s z
 |f+1,a,z,hz=>by
  unfold sJ;split
  ·exact Stp.refl s z
  have h1:=fJ s 93 z;simp only;split
  ·exact h1
  split
  ·exact h1.trans (dV s (by decide) hf _)
  have h2:=h1.trans (q2r (s:=s) hf (h1.len hz));exact h2.trans (E2 hf f _ _ (h2.len hz))
theorem V9{s:dG}{frm:Nat}(hf:frm<=s.length){z:PS}(hz:z.p<=s.length):Stp s z (K5 s frm z).2:=by
 have h1:=fJ s 94 z;have h2:=h1.trans (E2 hf (s.length+1) 0 _ (h1.len hz));unfold K5;simp only;split
 ·split
  ·exact h2.trans (dV s (by decide) hf _)
  exact h2
 split
 ·exact h2.trans (dV s (by decide) hf _)
 exact h2
end Go.Cm
namespace Go.Cm
section
variable {s : dG} {alt : PS → List Nd × PS} (hA : ∀ z, z.p ≤ s.length → Stp s z (alt z).2)
include hA
theorem q2s{z:PS}{c:UInt8}(h:nxR s z=some c):Stp s z (zD s alt z).2/\((zD s alt z).2.e≠0\/z.p<(zD s alt z).2.p):=by
 have hz:=(f7 h).2.1;have h1:=fI h;have hz1:=h1.len (jp hz);have e1:(bA z).p=z.p+1:=rfl;unfold zD;simp only;split
 ·exact⟨(sL h).1,.inr (sL h).2⟩
 split
 ·have h2:=h1.trans (hA _ hz1)
  have h3:=h2.trans (fJ s 41 _);have hl:=((hA _ hz1).trans (fJ s 41 _)).le;split
  ·exact⟨h3,.inr (by show z.p<(b7 s 41 (alt (bA z)).2).2.p;omega)⟩
  exact⟨h3.trans (dV s (by decide) (jp hz) _),.inr (by simp only[dH];omega)⟩
 split
 ·have h2:=V9 (s:=s) (frm:=z.p) (jp hz) hz1
  exact⟨h1.trans h2,.inr (by have:=h2.le;show z.p<(K5 s z.p (bA z)).2.p;omega)⟩
 split
 ·exact⟨h1,.inr (qU _)⟩
 split
 ·exact⟨dV s (by decide) (jp hz) z,.inl (bN z (by decide))⟩
 exact⟨h1,.inr (qU _)⟩
omit hA in
theorem nT:∀(f:Nat) (l:List Nd) (z:PS),Stp s z (rD s f l z).2
 |0,_,z=>Stp.refl s z
 |f+1,l,z=>by
  unfold rD;simp only;split
  ·rename_i h;exact(fI (nS h (by decide))).trans (nT f _ _)
  split
  ·rename_i h;exact(fI (nS h (by decide))).trans (nT f _ _)
  split
  ·rename_i h;exact(fI (nS h (by decide))).trans (nT f _ _)
  split
  ·rename_i h;exact(V7 (nS h (by decide))).trans (nT f _ _)
  exact Stp.refl s z
theorem vJ{z:PS}{c:UInt8}(h:nxR s z=some c):Stp s z (D9 s alt z).2/\((D9 s alt z).2.e≠0\/z.p<(D9 s alt z).2.p):=by
 obtain⟨h1,h2⟩:=q2s hA h;have h3:=nT (s:=s) (s.length+1) (zD s alt z).1 (zD s alt z).2;refine⟨h1.trans h3,?_⟩;rcases h2 with h2|h2
 ·left;show(rD s (s.length+1) (zD s alt z).1 (zD s alt z).2).2.e≠0;rw[h3.er h2];exact h2
 right;exact qe h2 h3.le
omit hA in
theorem W2{z:PS}(h:inR s z=true):∃c,nxR s z=some c/\c≠124/\c≠41:=by
 unfold inR at h;cases hn:nxR s z with
 |none=>rw[hn]at h;cases h
 |some c=>rw[hn]at h;simp only[qJ,jm]at h;exact⟨c,rfl,h⟩
theorem E3:∀(f:Nat) (l:List (List Nd)) (z:PS),Stp s z (vH s alt f l z).2
 |0,_,z=>Stp.refl s z
 |f+1,l,z=>by
  unfold vH;split
  ·rename_i h
   obtain⟨c,hc,-⟩:=W2 h;exact(vJ hA hc).1.trans (E3 f _ _)
  exact Stp.refl s z
theorem zG(z:PS):Stp s z (lN s alt z).2:=E3 hA _ _ z
theorem E4:∀(f:Nat) (l:List (List Nd)) (z:PS),Stp s z (pP s alt f l z).2
 |0,_,z=>Stp.refl s z
 |f+1,l,z=>by
  unfold pP;split
  ·exact((fJ s 124 z).trans (zG hA _)).trans (E4 f _ _)
  exact Stp.refl s z
end
theorem sM(s:dG):∀(f:Nat) (z:PS),Stp s z (mP s f z).2
 |0,z=>Stp.refl s z
 |f+1,z=>(zG (fun z _=>sM s f z) z).trans (E4 (fun z _=>sM s f z) _ _ _)
def l6(l:List (List Nd)):Nat:=l.flatten.length
theorem lO(l:List (List Nd))(x:List Nd):l6 (l++[x])=l6 l+x.length:=by simp[l6]
theorem E5(x:Nd)(l:List (List Nd)):(f6 x l).length=l6 l+1:=by simp[f6,l6]
theorem W3(kd:Int):∀l:List (List Nd),(m3 kd l).length<=l6 l+1
 |[]=>by simp[m3,f6,l6]
 |[l]=>by simp[m3,l6]
 |a::b::l=>by simp[m3,f6,l6]
theorem E6(kd:Int)(l:List Nd):(m3 kd [l]).length=l.length:=rfl
structure Sml(s:dG)(z:PS)(r:List Nd×PS):Prop where
 lt:r.1.length+2*z.p+1<=2*r.2.p\/(r.1.length=0/\r.2.e≠0)
section
variable {s : dG} {alt : PS → List Nd × PS} (hA : ∀ z, z.p ≤ s.length → Stp s z (alt z).2) (hL : ∀ z, z.p ≤ s.length → (alt z).1.length + 2 * z.p ≤ 2 * (alt z).2.p + 1)
include hA hL
omit hA in
theorem W4{z:PS}{c:UInt8}(h:nxR s z=some c):Sml s z (zD s alt z):=by
 have hz:=(f7 h).2.1;have h1:=fI h;have hz1:=h1.len (jp hz);have e1:(bA z).p=z.p+1:=rfl;refine⟨?_⟩;unfold zD;simp only;split
 ·left;have:=(sL h).2;show 1+2*z.p+1<=2*(tV s z).2.p;omega
 split
 ·left
  have hl:=hL _ hz1;have ht:=(fJ s 41 (alt (bA z)).2).le;split
  ·show(alt (bA z)).1.length+2*z.p+1<=2*(b7 s 41 (alt (bA z)).2).2.p;omega
  simp only[dH];omega
 split
 ·left
  have h2:=V9 (s:=s) (frm:=z.p) (jp hz) hz1;have:=h2.le;show 1+2*z.p+1<=2*(K5 s z.p (bA z)).2.p;omega
 split
 ·left;show 1+2*z.p+1<=2*(z.p+1);omega
 split
 ·right;exact⟨rfl,bN z (by decide)⟩
 left;show 1+2*z.p+1<=2*(z.p+1);omega
omit hA hL in
theorem E7:∀(f:Nat) (l:List Nd) (z0 z:PS),(l.length+2*z0.p+1<=2*z.p\/(l.length=0/\z.e≠0))->Sml s z0 (rD s f l z)
 |0,_,_,_,h=>⟨h⟩
 |f+1,l,z0,z,h=>by
  have step:∀(x:Nd) (z1:PS) (c:UInt8),nxR s z=some c->z.p<z1.p->Sml s z0 (rD s f (f6 x [l]) z1):=fun x z1 c hc hlt=>by
   refine E7 f _ z0 z1 (.inl ?_);rw[E5];have:l6 [l]=l.length:=by simp[l6]
   rcases h with h|h
   ·omega
   exact absurd (f7 hc).1 h.2
  unfold rD;simp only;split
  ·rename_i g;exact step _ _ _ (nS g (by decide)) (qU _)
  split
  ·rename_i g;exact step _ _ _ (nS g (by decide)) (qU _)
  split
  ·rename_i g;exact step _ _ _ (nS g (by decide)) (qU _)
  split
  ·rename_i g;exact step _ _ _ (nS g (by decide)) (q1M (nS g (by decide)))
  exact⟨h⟩
omit hA in
theorem zH{z:PS}{c:UInt8}(h:nxR s z=some c):Sml s z (D9 s alt z):=E7 _ _ _ _ (W4 hL h).lt
theorem E8:∀(f:Nat) (l:List (List Nd)) (z0 z:PS),(l6 l+l.length+2*z0.p<=2*z.p\/(l6 l+l.length+2*z0.p<=2*z.p+1/\z.e≠0))->
  l6 (vH s alt f l z).1+(vH s alt f l z).1.length+2*z0.p<=2*(vH s alt f l z).2.p+1
 |0,_,_,_,h=>by
  rcases h with h|h
  ·exact Nat.le_succ_of_le h
  exact h.1
 |f+1,l,z0,z,h=>by
  unfold vH;split
  ·rename_i g
   obtain⟨c,hc,-⟩:=W2 g;have hr:=(zH hL hc).lt;have hs:=(vJ hA hc).1.le;refine E8 f _ z0 _ ?_;rw[lO,qj,qD];rcases h with h|h
   ·rcases hr with hr|hr
    ·left;omega
    right;exact⟨by omega,hr.2⟩
   exact absurd (f7 hc).1 h.2
  rcases h with h|h
  ·exact Nat.le_succ_of_le h
  exact h.1
theorem W5(z:PS):(lN s alt z).1.length+2*z.p<=2*(lN s alt z).2.p+1:=by
 have h:=E8 hA hL (s.length+1) [] z z (.inl (by simp[l6]));have hle:=(zG hA z).le;have e:(lN s alt z).2=(vH s alt (s.length+1) [] z).2:=rfl;have e1:(lN s alt z).1=m3 3 (vH s alt (s.length+1) [] z).1:=rfl;rw[e]at hle;rw[e1,e];generalize vH s alt (s.length+1) [] z=r at*;obtain⟨l,z'⟩:=r
 dsimp only at*
 match l,h with
 |[],_=>simp only[m3,f6,qz,List.flatten_nil,qN];omega
 |[x],h=>rw[E6];simp only[l6,List.flatten_cons,List.flatten_nil,j6,qz,qN]at h;omega
 |a::b::l,h=>
  have:=W3 3 (a::b::l);simp only[qz]at h;omega
theorem E9:∀(f:Nat) (l:List (List Nd)) (z0 z:PS),l6 l+l.length+2*z0.p<=2*z.p+2->
  l6 (pP s alt f l z).1+(pP s alt f l z).1.length+2*z0.p<=2*(pP s alt f l z).2.p+2
 |0,_,_,_,h=>h
 |f+1,l,z0,z,h=>by
  unfold pP;split
  ·rename_i g
   obtain⟨hc,ha⟩:=V5 g;refine E9 f _ z0 _ ?_;rw[lO,qj,qD,ha];have:=W5 hA hL (bA z);have e:(bA z).p=z.p+1:=rfl;omega
  exact h
end
theorem zI(s:dG):∀(f:Nat) (z:PS),(mP s f z).1.length+2*z.p<=2*(mP s f z).2.p+1
 |0,z=>by show 0+2*z.p<=2*z.p+1;omega
 |f+1,z=>by
  have hA:=fun z (_:z.p<=s.length)=>sM s f z;have hL:=fun z (_:z.p<=s.length)=>zI s f z;have hc:=W5 hA hL z;have h:=E9 hA hL (s.length+1) [(lN s (mP s f) z).1] z (lN s (mP s f) z).2 (by simp only[l6,List.flatten_cons,List.flatten_nil,j6,qD];omega)
  have hn:(pP s (mP s f) (s.length+1) [(lN s (mP s f) z).1] (lN s (mP s f) z).2).1≠[]:=by
   have:∀(g:Nat) (l:List (List Nd)) (z:PS),l≠[]->(pP s (mP s f) g l z).1≠[]:=by
    intro g
    induction g with
    |zero=>intro l z h;exact h
    |succ g ih=>
     intro l z h;unfold pP;split
     ·exact ih _ _ (by simp)
     exact h
   exact this _ _ _ (by simp)
  show(m3 4 (pP s (mP s f) (s.length+1) [(lN s (mP s f) z).1] (lN s (mP s f) z).2).1).length+2*z.p<=2*(pP s (mP s f) (s.length+1) [(lN s (mP s f) z).1] (lN s (mP s f) z).2).2.p+1;generalize pP s (mP s f) (s.length+1) [(lN s (mP s f) z).1] (lN s (mP s f) z).2=r at*;obtain⟨l,z'⟩:=r
  dsimp only at*
  match l,h,hn with
  |[x],h,_=>rw[E6];simp only[l6,List.flatten_cons,List.flatten_nil,j6,qz,qN]at h;omega
  |a::b::l,h,_=>
   have:=W3 4 (a::b::l);simp only[qz]at h;omega
end Go.Cm
namespace Go.Cm
open Go.RowKit Go.Proofs
theorem iS{w w1 w2:World}{row row':Option Nat}(h:w.grownBy w1 row)(hg:w1.grownBy w2 row')(hr:∀k,row'=some k->w.heap.size<=k):w.grownBy w2 row:=
 ⟨hg.os.trans h.os,hg.tape.trans h.tape,hg.output.trans h.output,qc h.size hg.size,fun k hk h1=>by
  rw[hg.block k (qe hk h.size) (fun e=>by have:=hr k e.symm;omega),h.block k hk h1]⟩
structure pQ(w:World)(b:Nat)(x:Nd):Prop where
 own:Own w b 77 (.slice (some ⟨b,0,none⟩) 8 8) (ndC x)
theorem pQ.up{w w':World}{b:Nat}{x:Nd}(h:pQ w b x)(hb:Below w.heap.size w w'):pQ w' b x:=⟨h.own.up hb⟩
theorem pQ.keep{w w':World}{b:Nat}{x:Nd}{row:Option Nat}(h:pQ w b x)(hg:w.grownBy w' row)(hne:row≠some b):pQ w' b x:=⟨h.own.keep hg (.inr (fun e=>hne e.symm))⟩
theorem q0V(x:Nd):(ndA x).toList=ndC x:=rfl
theorem F1(w:World)(x:Nd)(A:Array Value)(hA:A=ndA x):pQ (w.alloc (.cells A 77)) w.heap.size x:=by
 subst hA;exact⟨cX w w.heap.size (ndA x) 77 (by simp[ndA]) (qb _)⟩
theorem pQ.load{w:World}{b:Nat}{x:Nd}(h:pQ w b x):(loadVar 77 ⟨b,0,none⟩).run prog w=.ok (.agg (ndA x)) w:=vB h.own _ underlying77 rfl (by kernel_rfl)
end Go.Cm
namespace Go.Cm
def q4Q:List Nd->List Bool
 |[]=>[]
 |x::r=>
  let k:=(q4Q r).take x.n.toNat
  (if x.kd=2\/x.kd=5\/x.kd=7 then true else if x.kd=3\/x.kd=6 then k.all id else if x.kd=4 then k.any id else if x.kd=8 then k.all id||decide (x.lo=0)else false)::(q4Q r).drop x.n.toNat
def q5B(l:List Nd):Bool:=decide (Chk l)&&(q4Q l).headD false
def q5i(c:UInt8):Bool:=decide (97<=c.toNat)&&decide (c.toNat<=122)
def q5C(c:UInt8):Bool:=q5i c||(decide (48<=c.toNat)&&decide (c.toNat<=57))||c==95
def q5j(c:UInt8):Bool:=c==32||c==9||c==13
def q4R(p:UInt8->Bool)(s:dG):Nat:=(s.takeWhile p).length
def q4S(s:dG):Bool:= !s.isEmpty&&(q5i (s.headD 0)&&(decide (q4R q5C s=s.length)&&decide (s.length<=16)))
def q4T(s:dG):dG:=(s.reverse.dropWhile q5j).reverse
abbrev Rul:=dG×dG
def q4U(t:dG)(at_:Nat):List (Nat×Nat):=if(q0O t).2.1≠0 then [(4,at_),((q0O t).2.1,(q0O t).2.2)]else if q5B (q0O t).1 then [(27,at_)]else []
structure q49(x:Rul):Prop where
 nm:q4S x.1=true
 ex:∀a,q4U x.2 a=[]
 nl:(10:UInt8)∉x.2
 hd:∀c,x.2.head?=some c->q5j c=false
 tr:q4T x.2=x.2
structure y7(l:List Rul):Prop where
 all:∀x∈l,q49 x
 nd:(l.map (·.1)).Nodup
 len:l.length<=32
theorem y7.nil:y7 []:=⟨by simp,by simp,by simp⟩
theorem y7.snoc{l:List Rul}{x:Rul}(h:y7 l)(hx:q49 x)(hn:x.1∉l.map (·.1))(h32:l.length≠32):y7 (l++[x]):=by
 refine⟨fun y hy=>?_,?_,?_⟩
 ·rcases List.mem_append.1 hy with hy|hy
  ·exact h.all y hy
  rw[List.mem_singleton.1 hy];exact hx
 ·rw[qG,qI,js,List.nodup_append]
  exact⟨h.nd,by simp,fun a ha b hb=>by rw[List.mem_singleton.1 hb];intro e;exact hn (e▸ha)⟩
 have:=h.len;rw[qj,qD];omega
end Go.Cm
