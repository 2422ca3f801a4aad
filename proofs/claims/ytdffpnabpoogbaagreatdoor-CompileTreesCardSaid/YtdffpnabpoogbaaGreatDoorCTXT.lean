/- Walks of functions and plain facts, joined and squeezed by a program. Conditions: as each says. -/
import Derived.Test.YtdffpnabpoogbaaGreatDoorCTXQ
set_option maxHeartbeats 8000000
set_option maxRecDepth 100000
set_option linter.unusedSimpArgs false
open Go.Proofs.Tryz
namespace Go.Cm
open Go.RowKit Go.Proofs
theorem q4Z(n:Nat)(P:Nat->Prop):(nO n P).Pairwise (· < ·):=List.Pairwise.filter _ List.pairwise_lt_range
noncomputable def mL(e:List (List Ed))(F:Int)(r st:List Int)(c:Nat):List Nat:=if dZ e F r then pQ e st c else []
end Go.Cm
namespace Go.Cm
def bT(e:List (List Ed)):List Ed:=e.flatten.filter (fun x=> !x.free)
def nI(l:List Ed)(c:Nat):List Bool:=l.map (fun x=>tI x c)
def kZ:List Nat:=List.range 256
theorem pC{c:Nat}:c∈kZ↔c<256:=by simp[kZ]
theorem sM:kZ.length=256:=by simp[kZ]
theorem G5{c:Nat}(h:c<256):kZ.getD c 0=c:=by simp[kZ,List.getD,h]
def lH(l:List Ed)(c:Nat):Nat:=iV (nI l) kZ c
def kM(l:List Ed):List Nat:=bL (nI l) kZ
theorem xS{l:List Ed}{a b:Nat}:nI l a=nI l b↔∀x∈l,tI x a=tI x b:=by
 unfold nI
 induction l with
 |nil=>simp
 |cons y l ih=>simp only[qF,List.cons.injEq,ih,jJ,forall_eq_or_imp]
theorem zZ{l:List Ed}{c:Nat}(h:c∈kM l):c<256:=pC.1 (kW h)
theorem uF(l:List Ed):(kM l).length<=256:=by
 have:=tW (nI l) kZ;rw[sM]at this;exact this
theorem pD(l:List Ed){c:Nat}(h:c<256):lH l c<(kM l).length:=E4 (pC.2 h)
theorem q1u(l:List Ed):0<(kM l).length:=by
 have:=pD l (c:=0) (by decide);omega
theorem G6(l:List Ed){c:Nat}(h:c<256):nI l ((kM l).getD (lH l c) 0)=nI l c:=by
 unfold lH kM iV
 have h1:nI l c∈(bL (nI l) kZ).map (nI l):=by
  rw[kV,dP];exact jb (pC.2 h)
 generalize bL (nI l) kZ=hs at*;have h2:=fX h1;have h3:=gU h1;rw[jt]at h3;rw[qy]at h2;rw[qq,qv h2,qJ];exact h3
theorem q8z(l:List Ed){a b:Nat}(ha:a<256)(hb:b<256):lH l a=lH l b↔nI l a=nI l b:=by
 constructor
 ·intro h
  rw[<-G6 l ha,<-G6 l hb,h]
 intro h;unfold lH iV;rw[h]
theorem q2J:(∀c,c<256->lH [] c=0)/\(kM []).length=1:=by
 have h:kM []=[0]:=by
  have:∀n,bL (nI []) (List.range (n+1))=[0]:=by
   intro n
   induction n with
   |zero=>rfl
   |succ n ih=>rw[jw,e8,ih];simp[nI]
  exact this 255
 refine⟨fun c hc=>?_,by rw[h];rfl⟩;have:=pD [] hc;rw[h]at this;simpa using this
def rJ(l:List Ed)(x:Ed)(c:Nat):Nat×Bool:=(lH l c,tI x c)
theorem q0f(l:List Ed)(x:Ed):kM (l++[x])=bL (rJ l x) kZ/\∀c,c<256->lH (l++[x]) c=iV (rJ l x) kZ c:=by
 have h:=vB (f:=nI (l++[x])) (g:=rJ l x) (l:=kZ) (fun a ha b hb=>by
  rw[pC]at ha hb;unfold rJ;rw[xS,Prod.mk.injEq,q8z l ha hb,xS];simp only[List.mem_append,jd];exact⟨fun h=>⟨fun y hy=>h y (.inl hy),h x (.inr rfl)⟩,fun h y hy=>hy.elim (h.1 y) (fun e=>e▸h.2)⟩)
 exact⟨h.1,fun c hc=>h.2 c (pC.2 hc)⟩
def nJ(x:Ed):Int×Int×Int×Int:=(x.a,x.b,x.c,x.d)
def O1(e:List (List Ed)):List Ed:=bL nJ (bT e)
theorem q0g{x y:Ed}(h:nJ x=nJ y)(c:Nat):tI x c=tI y c:=by
 simp only[nJ,Prod.mk.injEq]at h;obtain⟨h1,h2,h3,h4⟩:=h;unfold tI;rw[h1,h2,h3,h4]
theorem q0h(e:List (List Ed)):kM (O1 e)=kM (bT e)/\∀c,c<256->lH (O1 e) c=lH (bT e) c:=by
 have h:=vB (f:=nI (O1 e)) (g:=nI (bT e)) (l:=kZ) (fun a _ b _=>by
  rw[xS,xS]
  constructor
  ·intro h x hx
   have:nJ x∈(O1 e).map nJ:=by unfold O1;rw[kV,dP];exact jb hx
   obtain⟨y,hy,hk⟩:=List.mem_map.1 this;rw[<-q0g hk,<-q0g hk];exact h y hy
  exact fun h x hx=>h x (kW hx))
 exact⟨h.1,fun c hc=>h.2 c (pC.2 hc)⟩
def uG(e:List (List Ed))(c:Nat):Nat:=lH (bT e) c
def aZ(e:List (List Ed)):List Nat:=kM (bT e)
def gD(e:List (List Ed)):List Int:=nl (kZ.map (uG e))
theorem sN(e:List (List Ed)):(gD e).length=256:=by simp[gD,nl,kZ]
theorem G7(e:List (List Ed)){c:Nat}(h:c<256):(gD e).getD c 0=uG e c:=by
 simp[gD,nl,kZ,List.getD,h]
theorem q2K(e:List (List Ed)):bE 0 (gD e)=some (aZ e).length:=by
 have h1:=mH (nI (bT e)) kZ [];have h0:(bL (nI (bT e)) []).length=0:=rfl;rw[h0,List.nil_append]at h1;unfold gD uG lH aZ kM;exact h1
section
variable {α : Type} [DecidableEq α]
def goS(nx:α->List α)(z:α):Nat->Nat->List α->Option (List α)
 |0,_,_=>none
 |f+1,i,ls=>if i<ls.length then(if 1000<((nx (ls.getD i z)).foldl aW ls).length then none else goS nx z f (i+1) ((nx (ls.getD i z)).foldl aW ls))else some ls
def stS(nx:α->List α)(s0:α)(l:List α):List α:=eW (s0::l.flatMap nx)
structure q1Z(nx:α->List α)(s0:α)(l:List α):Prop where
 more:∀j,j<l.length->j<(stS nx s0 (l.take j)).length
 all:stS nx s0 l=l
 len:l.length<=1000
 nod:l.Nodup
theorem q0i(nx:α->List α)(s0:α)(l:List α)(x:α):stS nx s0 (l++[x])=(nx x).foldl aW (stS nx s0 l):=by
 unfold stS;rw[a8,<-jj,wZ];simp
theorem q6Q(nx:α->List α)(z s0:α):∀f i ls R,goS nx z f i ls=some R->i<=ls.length->stS nx s0 (ls.take i)=ls->(∀j,j<i->j<(stS nx s0 (ls.take j)).length)->ls.length<=1000->q1Z nx s0 R/\∃k,R=ls++k:=by
 intro f
 induction f with
 |zero=>intro i ls R h;cases h
 |succ f ih=>
  intro i ls R h hi hall qc8 hlen;unfold goS at h;by_cases hlt:i<ls.length
  ·rw[qt hlt]at h
   split at h
   ·cases h
   rename_i h1;obtain⟨k,hk⟩:=cR (nx (ls.getD i z)) ls;have hg:ls.getD i z=ls[i]:=by simp[List.getD,hlt]
   have htk:∀j,j<=ls.length->(((nx (ls.getD i z)).foldl aW ls).take j)=ls.take j:=fun j hj=>by
    rw[hk,List.take_append_of_le_length hj]
   obtain⟨h2,k2,h3⟩:=ih (i+1) _ R h (by rw[hk,qi];omega) (by
    rw[htk _ hlt,qI hlt,q0i,hall,<-hg]) (fun j hj=>by
    rw[htk j (by omega)];rcases Nat.lt_succ_iff_lt_or_eq.1 hj with h|rfl
    ·exact qc8 j h
    rw[hall];exact hlt) (by omega)
   exact⟨h2,k++k2,by rw[h3,hk,qj]⟩
  rw[qr hlt]at h;obtain rfl:ls=R:=by injection h
  have hi':i=ls.length:=by omega
  subst hi';rw[qX]at hall;refine⟨⟨qc8,hall,hlen,?_⟩,[],by simp⟩;rw[<-hall];exact tN _
theorem q1Z.mem{nx:α->List α}{s0:α}{R:List α}(h:q1Z nx s0 R){L x:α}(hL:L∈R)(hx:x∈nx L):x∈R:=by
 rw[<-h.all];unfold stS;rw[dP];exact qU _ (List.mem_flatMap.2 ⟨L,hL,hx⟩)
theorem q1Z.zero{nx:α->List α}{s0:α}{R:List α}(h:q1Z nx s0 R)(z:α):R.getD 0 z=s0/\0<R.length:=by
 have:∃k,stS nx s0 R=[s0]++k:=x8 [s0] _;obtain⟨k,hk⟩:=this;rw[h.all]at hk;rw[hk];exact⟨rfl,by simp⟩
theorem q1Z.pre{nx:α->List α}{s0:α}{R:List α}(h:q1Z nx s0 R)(i:Nat):∃k,R=stS nx s0 (R.take i)++k:=by
 have h1:=x8 (s0::(R.take i).flatMap nx) ((R.drop i).flatMap nx);rw[jj,<-a8,j5]at h1;obtain⟨k,hk⟩:=h1;exact⟨k,by rw[<-h.all];exact hk.trans (by rw[h.all];rfl)⟩
end
end Go.Cm
namespace Go.Cm
section
variable {α : Type} [DecidableEq α]
def O2(nx:α->List α)(s0 z:α)(R:List α)(i j:Nat):List α:=((nx (R.getD i z)).take j).foldl aW (stS nx s0 (R.take i))
theorem q1Z.cur{nx:α->List α}{s0 z:α}{R:List α}(h:q1Z nx s0 R){i:Nat}(hi:i<R.length)(j:Nat):∃k,R=O2 nx s0 z R i j++k:=by
 obtain⟨k2,h2⟩:=h.pre (i+1);have e:R.take (i+1)=R.take i++[R.getD i z]:=by rw[qI hi];simp[List.getD,hi]
 rw[e,q0i]at h2
 have h3:(nx (R.getD i z)).foldl aW (stS nx s0 (R.take i))=((nx (R.getD i z)).drop j).foldl aW (O2 nx s0 z R i j):=by
  unfold O2;rw[<-qV,j5]
 obtain⟨k1,h4⟩:=cR ((nx (R.getD i z)).drop j) (O2 nx s0 z R i j);exact⟨k1++k2,h2.trans (by rw[h3,h4,qj])⟩
theorem q1Z.step{nx:α->List α}{s0 z:α}{R:List α}(h:q1Z nx s0 R){i:Nat}(hi:i<R.length){j:Nat}(hj:j<(nx (R.getD i z)).length):
  ((nx (R.getD i z)).getD j z∈O2 nx s0 z R i j->idx R ((nx (R.getD i z)).getD j z)<(O2 nx s0 z R i j).length/\(O2 nx s0 z R i (j+1)).length=(O2 nx s0 z R i j).length)/\
  ((nx (R.getD i z)).getD j z∉O2 nx s0 z R i j->idx R ((nx (R.getD i z)).getD j z)=(O2 nx s0 z R i j).length/\(O2 nx s0 z R i (j+1)).length=(O2 nx s0 z R i j).length+1):=by
 have e:O2 nx s0 z R i (j+1)=aW (O2 nx s0 z R i j) ((nx (R.getD i z)).getD j z):=by
  unfold O2;generalize nx (R.getD i z)=l at hj⊢;rw[qI hj,qV];simp[List.getD,hj]
 obtain⟨k,hk⟩:=h.cur (z:=z) hi j;obtain⟨k',hk'⟩:=h.cur (z:=z) hi (j+1);generalize (nx (R.getD i z)).getD j z=x at*;generalize O2 nx s0 z R i j=c at*;generalize O2 nx s0 z R i (j+1)=c' at*;subst e
 constructor
 ·intro hx
  refine⟨?_,by unfold aW;rw[qt hx]⟩;rw[hk,cV hx];exact fX hx
 intro hx;have e2:aW c x=c++[x]:=by unfold aW;rw[qr hx]
 rw[e2]at hk'⊢;refine⟨?_,by simp⟩;rw[hk',cV (by simp),dN hx]
end
def q2L:Dfa:=⟨List.replicate 256 0,[],[]⟩
noncomputable def bW(e:List (List Ed))(F:Int)(r:List Int)(L:List Nat):List (List Nat):=(aZ e).map fun c=>mL e F r (nz L) c
noncomputable def lI(e:List (List Ed))(F:Int)(r:List Int):Option (List (List Nat)):=goS (bW e F r) [] 1001 0 [O0 e F r [F]]
def pR(r:List Int)(o:Int)(s:Nat):Int:=if 0<=r.getD s 0/\(o<0\/r.getD s 0<o)then r.getD s 0 else o
def lJ(r:List Int)(L:List Nat):Int:=L.foldl (pR r) (-1)
noncomputable def fF(e:List (List Ed))(F:Int)(r:List Int)(R:List (List Nat))(L:List Nat):List Int:=(bW e F r L).map fun x=>(idx R x:Int)
noncomputable def rS(e:List (List Ed))(F:Int)(r:List Int)(R:List (List Nat)):Dfa:=⟨gD e,R.map (fF e F r R),R.map (lJ r)⟩
noncomputable def z6(e:List (List Ed))(F:Int)(r:List Int):Dfa:=if dZ e F r then(match lI e F r with|some R=>rS e F r R|none=>q2L)else q2L
noncomputable def xU(e:List (List Ed))(F:Int)(r:List Int):Int:=if dZ e F r then(match lI e F r with|some _=>0|none=>3)else 4
theorem sO(e:List (List Ed))(F:Int)(r:List Int)(L:List Nat):(bW e F r L).length=(aZ e).length:=by simp[bW]
theorem xV{e:List (List Ed)}{F:Int}{r:List Int}{R:List (List Nat)}(h:lI e F r=some R):q1Z (bW e F r) (O0 e F r [F]) R:=by
 refine(q6Q (bW e F r) [] (O0 e F r [F]) 1001 0 [O0 e F r [F]] R h (qd _) ?_ (fun j hj=>absurd hj (qz j)) (by simp)).1
 rfl
theorem xW{r:List Int}(h:∀s,-1<=r.getD s 0/\r.getD s 0<32)(L:List Nat):∀o:Int,-1<=o->o<32-> -1<=L.foldl (pR r) o/\L.foldl (pR r) o<32:=by
 induction L with
 |nil=>intro o h1 h2;exact⟨h1,h2⟩
 |cons s L ih=>
  intro o h1 h2;have:=h s;rw[qH];refine ih _ ?_ ?_<;>(unfold pR;split<;>omega)
theorem A0{r:List Int}(L:List Nat):(lJ r L= -1/\∀s∈L,r.getD s 0<0)\/(0<=lJ r L/\(∃s∈L,r.getD s 0=lJ r L)/\∀s∈L,0<=r.getD s 0->lJ r L<=r.getD s 0):=by
 unfold lJ
 induction L using iA with
 |h0=>exact .inl ⟨rfl,fun s hs=>by cases hs⟩
 |h L s ih=>
  rw[qV,qH,List.foldl_nil];generalize L.foldl (pR r) (-1)=o at*;unfold pR;rcases ih with⟨h1,h2⟩|⟨h1,⟨q,hq,hq2⟩,h3⟩
  ·by_cases h0:0<=r.getD s 0
   ·rw[qt ⟨h0,.inl (by omega)⟩]
    refine .inr ⟨h0,⟨s,by simp,rfl⟩,fun x hx hx0=>?_⟩;rcases List.mem_append.1 hx with hx|hx
    ·have:=h2 x hx;omega
    rw[List.mem_singleton.1 hx];exact Int.le_refl _
   rw[qr (fun h=>h0 h.1)];refine .inl ⟨h1,fun x hx=>?_⟩;rcases List.mem_append.1 hx with hx|hx
   ·exact h2 x hx
   rw[List.mem_singleton.1 hx];omega
  by_cases h0:0<=r.getD s 0/\(o<0\/r.getD s 0<o)
  ·rw[qt h0]
   refine .inr ⟨h0.1,⟨s,by simp,rfl⟩,fun x hx hx0=>?_⟩;rcases List.mem_append.1 hx with hx|hx
   ·have:=h3 x hx hx0;omega
   rw[List.mem_singleton.1 hx];exact Int.le_refl _
  rw[qr h0];refine .inr ⟨h1,⟨q,by simp[hq],hq2⟩,fun x hx hx0=>?_⟩;rcases List.mem_append.1 hx with hx|hx
  ·exact h3 x hx hx0
  rw[List.mem_singleton.1 hx]at hx0⊢;omega
theorem q2M(n:Nat)(P:Nat->Prop):(nO n P=[]/\∀k,k<n->¬P k)\/∃k tl,nO n P=k::tl/\k<n/\P k/\∀j,j<k->¬P j:=by
 cases h:nO n P with
 |nil=>exact .inl ⟨rfl,fun k hk hp=>by have:k∈nO n P:=gC.2 ⟨hk,hp⟩;rw[h]at this;cases this⟩
 |cons k tl=>
  have hk:k∈nO n P:=by rw[h];simp
  obtain⟨h1,h2⟩:=gC.1 hk;refine .inr ⟨k,tl,rfl,h1,h2,fun j hj hp=>?_⟩;have hjm:j∈nO n P:=gC.2 ⟨by omega,hp⟩;have hs:=q4Z n P;rw[h]at hs hjm;rcases List.mem_cons.1 hjm with e|hm
  ·omega
  have:=(List.pairwise_cons.1 hs).1 j hm;omega
theorem rL{e:List (List Ed)}{F:Int}{r:List Int}(h:dZ e F r=true):r.length=e.length/\∀s,-1<=r.getD s 0/\r.getD s 0<32:=by
 obtain⟨h1,h2⟩:=kY.1 h;have h3:=j9 h1;refine⟨h3.2.2.1,fun s=>?_⟩;by_cases hs:s<e.length
 ·exact(G2.1 (h2 s hs)).1
 have:r.getD s 0=0:=by rw[qq,qM (by omega)];rfl
 omega
theorem A1{e:List (List Ed)}{F:Int}{r:List Int}{R:List (List Nat)}(hr:dZ e F r=true)(h:lI e F r=some R):bZ (rS e F r R):=by
 have hm:=xV h;have h0:=(hm.zero []).2;refine⟨by simp[rS];omega,by simpa[rS]using hm.len,by simp[rS],(aZ e).length,q2K e,fun i hi=>?_⟩;have hi':i<R.length:=by simpa[rS]using hi
 have e1:(rS e F r R).rules.getD i 0=lJ r R[i]:=by simp[rS,List.getD,hi']
 have e2:(rS e F r R).next.getD i []=fF e F r R R[i]:=by simp[rS,List.getD,hi']
 have e3:(rS e F r R).next.length=R.length:=by simp[rS]
 rw[e1,e2,e3];have hl:=xW (rL hr).2 R[i] (-1) (by omega) (by omega);refine⟨hl.1,hl.2,by simp[fF,sO],fun j hj=>?_⟩;have hj':j<(bW e F r R[i]).length:=by simpa[fF]using hj
 have e4:(fF e F r R R[i]).getD j 0=(idx R ((bW e F r R[i])[j]):Int):=by simp[fF,List.getD,hj']
 rw[e4];have:=fX (hm.mem (ji hi') (ji hj'));omega
end Go.Cm
namespace Go.Cm
theorem q0j{e:List (List Ed)}{a:Nat}{x:Ed}(h:x∈e.getD a [])(hf:x.free=false):x∈bT e:=by
 unfold bT;rw[List.mem_filter,List.mem_flatten];refine⟨?_,by simp[hf]⟩;by_cases ha:a<e.length
 ·rw[show e.getD a []=e[a] by simp[List.getD,ha]]at h
  exact⟨_,ji ha,h⟩
 rw[qq,qM (by omega)]at h;cases h
theorem q50{e:List (List Ed)}{S:Nat->Prop}{c c':Nat}(h:nI (bT e) c=nI (bT e) c'):By e S c=By e S c':=by
 rw[xS]at h
 funext b
 refine propext ⟨?_,?_⟩
 ·rintro⟨a,ha,x,hx,hf,hh,ht⟩
  exact⟨a,ha,x,hx,hf,by rw[<-h x (q0j hx hf)];exact hh,ht⟩
 rintro⟨a,ha,x,hx,hf,hh,ht⟩;exact⟨a,ha,x,hx,hf,by rw[h x (q0j hx hf)];exact hh,ht⟩
theorem W3{e:List (List Ed)}{st:List Int}{c c':Nat}(h:nI (bT e) c=nI (bT e) c'):pQ e st c=pQ e st c':=by
 unfold pQ;rw[q50 h]
theorem q6R{R:List (List Nat)}{x:List Nat}(h:x∈R):R.getD (idx R x) []=x:=by
 have h1:=fX h;rw[qq,qv h1,qJ];exact gU h
theorem q2N{e:List (List Ed)}{F:Int}{r:List Int}{R:List (List Nat)}(hr:dZ e F r=true)(h:lI e F r=some R){a:Nat}(ha:a<R.length){c:Nat}(hc:c<256):
  ((rS e F r R).next.getD a []).getD ((rS e F r R).cls.getD c 0).toNat 0=(idx R (pQ e (nz (R.getD a [])) c):Int)/\pQ e (nz (R.getD a [])) c∈R:=by
 have hm:=xV h;have e1:(rS e F r R).cls.getD c 0=uG e c:=G7 e hc;have e2:(rS e F r R).next.getD a []=fF e F r R (R.getD a []):=by simp[rS,List.getD,ha]
 have hk:uG e c<(aZ e).length:=pD (bT e) hc
 have e3:(bW e F r (R.getD a [])).getD (uG e c) []=pQ e (nz (R.getD a [])) c:=by
  have h1:=G6 (bT e) hc
  have h2:(bW e F r (R.getD a [])).getD (uG e c) []=mL e F r (nz (R.getD a [])) ((aZ e).getD (uG e c) 0):=by
   unfold bW;simp[List.getD,hk]
  rw[h2];unfold mL;rw[qt hr];exact W3 h1
 have hj:uG e c<(bW e F r (R.getD a [])).length:=by rw[sO];exact hk
 have qbf:pQ e (nz (R.getD a [])) c∈R:=by
  rw[<-e3];exact hm.mem (L:=R.getD a []) (by simp[List.getD,ha]) (dH _ _ _ hj)
 refine⟨?_,qbf⟩;rw[e1,e2,qA,<-e3];unfold fF;generalize bW e F r (R.getD a [])=l at hj⊢;simp[List.getD,hj]
theorem q2O{e:List (List Ed)}{F:Int}{r:List Int}{R:List (List Nat)}(hr:dZ e F r=true)(h:lI e F r=some R):∀(bs:List UInt8) (cs:List Nat) (a:Nat),a<R.length->R.getD a []=nO e.length (vS e F.toNat cs)->
  ∃b:Nat,eD (rS e F r R) a bs=b/\b<R.length/\R.getD b []=nO e.length (vS e F.toNat ((bs.map UInt8.toNat).reverse++cs)):=by
 intro bs
 induction bs with
 |nil=>intro cs a ha hs;exact⟨a,rfl,ha,by simpa using hs⟩
 |cons c bs ih=>
  intro cs a ha hs;obtain⟨h1,h2⟩:=q2N hr h ha (c:=c.toNat) (UInt8.toNat_lt c)
  have h3:R.getD (idx R (pQ e (nz (R.getD a [])) c.toNat)) []=nO e.length (vS e F.toNat (c.toNat::cs)):=by
   rw[q6R h2,hs,q1t]
  obtain⟨b,hb1,hb2,hb3⟩:=ih (c.toNat::cs) _ (fX h2) h3;refine⟨b,?_,hb2,by rw[hb3];simp⟩;unfold eD;rw[qA,h1];exact hb1
def q6S(l:List Nat):Int:=match l with|[]=> -1|k::_=>k
theorem q1v{e:List (List Ed)}{F:Int}{r:List Int}{R:List (List Nat)}(hr:dZ e F r=true)(h:lI e F r=some R)(bs:List UInt8):iI (rS e F r R) bs=q6S (q9F e F r (bs.map UInt8.toNat)):=by
 have hm:=xV h;obtain⟨z0,z1⟩:=hm.zero [];obtain⟨b,hb1,hb2,hb3⟩:=q2O hr h bs [] 0 z1 (by rw[z0];exact q2H hr);rw[j4]at hb3;unfold iI;rw[qt (A1 hr h),show(0:Int)=((0:Nat):Int)from rfl,hb1,qA];have e1:(rS e F r R).rules.getD b ((0:Nat):Int)=lJ r (R.getD b []):=by simp[rS,List.getD,hb2]
 rw[e1];unfold q9F;rw[qt hr];have ht:=fun k=>q4Y (e:=e) (F:=F) (r:=r) (t:=bs.map UInt8.toNat) (R.getD b []) hb3 k;have hrr:=(rL hr).2;generalize R.getD b []=L at*
 have hq:∀k:Nat,q9E e F r (bs.map UInt8.toNat) k↔∃s∈L,r.getD s 0=k:=fun k=>by
  rw[ht k]
  constructor
  ·rintro⟨q,hq,h⟩;exact⟨L.getD q 0,by simp[List.getD,hq],h⟩
  rintro⟨s,hs,h⟩;obtain⟨q,hq,rfl⟩:=jg hs;exact⟨q,hq,by rw[show L.getD q 0=L[q] by simp[List.getD,hq]];exact h⟩
 rcases q2M 32 (q9E e F r (bs.map UInt8.toNat))with⟨h1,h2⟩|⟨k,tl,h1,h2,h3,h4⟩
 ·rw[h1]
  rcases A0 (r:=r) L with⟨h5,-⟩|⟨h5,⟨s,hs,h6⟩,-⟩
  ·exact h5
  have:=hrr s;exact absurd ((hq (r.getD s 0).toNat).2 ⟨s,hs,by omega⟩) (h2 _ (by omega))
 rw[h1];show lJ r L=(k:Int);obtain⟨s,hs,h6⟩:=(hq k).1 h3;rcases A0 (r:=r) L with⟨-,h5⟩|⟨h5,⟨s',hs',h7⟩,h8⟩
 ·have:=h5 s hs;omega
 have h9:=h8 s hs (by omega);rcases Int.lt_or_eq_of_le h9 with hlt|heq
 ·exact absurd ((hq (lJ r L).toNat).2 ⟨s',hs',by omega⟩) (h4 _ (by omega))
 rw[heq,h6]
end Go.Cm
namespace Go.Cm
open Go.RowKit Go.Proofs
def q4u(N:Nat)(f:Nat->Bool):List Value:=(List.range N).map fun q=>.bool (f q)
def G8(N:Nat)(G:Nat->Nat->Bool):List (List Value):=(List.range N).map fun p=>q4u N (G p)
@[simp] theorem q0k(N:Nat)(f:Nat->Bool):(q4u N f).length=N:=by simp[q4u]
@[simp] theorem xX(N:Nat)(G:Nat->Nat->Bool):(G8 N G).length=N:=by simp[G8]
theorem q0l{N:Nat}{f:Nat->Bool}{q:Nat}(h:q<N):(q4u N f).getD q undef=.bool (f q):=by simp[q4u,List.getD,h]
theorem O3{N:Nat}{G:Nat->Nat->Bool}{p:Nat}(h:p<N):(G8 N G).getD p []=q4u N (G p):=by simp[G8,List.getD,h]
def upd(G:Nat->Nat->Bool)(p q:Nat)(b:Bool):Nat->Nat->Bool:=fun p' q'=>if p'=p/\q'=q then b else G p' q'
theorem q51(N:Nat)(G:Nat->Nat->Bool)(p q:Nat)(b:Bool):(q4u N (G p)).set q (.bool b)=q4u N (upd G p q b p):=by
 refine jS (by simp) fun i h1 h2=>?_;rw[List.getElem_set];have hi:i<N:=by simpa using h2
 simp only[q4u,jt,List.getElem_range,upd];by_cases h:q=i
 ·subst h;simp
 rw[qr h,qr (fun e=>h e.2.symm)]
theorem q2P(N:Nat)(G:Nat->Nat->Bool)(p q:Nat)(b:Bool):(G8 N G).set p (q4u N (upd G p q b p))=G8 N (upd G p q b):=by
 refine jS (by simp) fun i h1 h2=>?_;rw[List.getElem_set];have hi:i<N:=by simpa using h2
 simp only[G8,jt,List.getElem_range];by_cases h:p=i
 ·subst h;simp
 rw[qr h]
 have:G i=upd G p q b i:=by
  funext q'
  unfold upd;rw[qr (fun e=>h e.1.symm)]
 rw[this]
def W4(w:World)(v:Value)(N:Nat)(G:Nat->Nat->Bool):Prop:=vL w v (G8 N G)
theorem W4.up{w w':World}{v:Value}{N:Nat}{G:Nat->Nat->Bool}(h:W4 w v N G)(hb:Below w.heap.size w w'):W4 w' v N G:=vL.up h hb
theorem W4.open{w:World}{v:Value}{N:Nat}{G:Nat->Nat->Bool}(h:W4 w v N G):
  ∃oa cap b off,v=.slice oa N cap/\Hd w oa N cap b off/\∀p,p<N->∃op cp bp fp,w.cell? ⟨b,off+p,none⟩=some (.slice op N cp)/\Hd w op N cp bp fp/\∀q,q<N->w.cell? ⟨bp,fp+q,none⟩=some (.bool (G p q)):=by
 obtain⟨oa,cap,b,off,rfl,hd,hc⟩:=vL.open h;rw[xX]at hd hc⊢;refine⟨oa,cap,b,off,rfl,hd,fun p hp=>?_⟩;obtain⟨op,cp,bp,fp,h1,h2,h3,-⟩:=hc p hp;rw[O3 hp,q0k]at h1 h2 h3;exact⟨op,cp,bp,fp,h1,h2,fun q hq=>by rw[h3 q hq,q0l hq]⟩
def O4(w:World)(B:Nat)(v:Value)(N:Nat)(G:Nat->Nat->Bool):Prop:=∃vs,dV w B 84 4 v vs (G8 N G)
theorem O4.up{w w':World}{B:Nat}{v:Value}{N:Nat}{G:Nat->Nat->Bool}(h:O4 w B v N G)(hb:Below w.heap.size w w'):O4 w' B v N G:=by
 obtain⟨vs,h⟩:=h;exact⟨vs,h.up hb⟩
theorem O4.form{w:World}{B:Nat}{v:Value}{N:Nat}{G:Nat->Nat->Bool}(h:O4 w B v N G)(hN:0<N):∃g cap,v=.slice (some ⟨g,0,none⟩) N cap/\B<=g/\Hd w (some ⟨g,0,none⟩) N cap g 0:=by
 obtain⟨vs,h⟩:=h;obtain⟨oa,cap,g,rfl,hd,hb,-⟩:=h.outer.cases;rw[h.len,xX]at hd hb⊢;obtain rfl:=hd.hat hN;exact⟨g,cap,rfl,(hb hN).2,hd⟩
theorem O4.at{w:World}{B g cap:Nat}{N:Nat}{G:Nat->Nat->Bool}(h:O4 w B (.slice (some ⟨g,0,none⟩) N cap) N G){p:Nat}(hp:p<N):
  ∃bp cp,w.cell? ⟨g,p,none⟩=some (.slice (some ⟨bp,0,none⟩) N cp)/\Hd w (some ⟨bp,0,none⟩) N cp bp 0/\g<w.heap.size/\B<=bp/\(∀q,q<N->w.cell? ⟨bp,q,none⟩=some (.bool (G p q))/\w.frozen? ⟨bp,q,none⟩=false/\
   ∀b,O4 (w.setCell ⟨bp,q,none⟩ (.bool b)) B (.slice (some ⟨g,0,none⟩) N cap) N (upd G p q b)/\w.grownBy (w.setCell ⟨bp,q,none⟩ (.bool b)) (some bp)):=by
 obtain⟨vs,h⟩:=h;have hl:=h.len;rw[xX]at hl;have hr:=h.rows p (by simpa using hp);rw[O3 hp]at hr;obtain⟨op,cp,bp,hv,hd,hb,hc,hf,hs⟩:=hr.cases;rw[q0k]at hv hd hb hc hf hs;obtain rfl:=hd.hat (by omega);refine⟨bp,cp,by rw[h.outer.cell (by omega),hv],hd,h.outer.blk.2,(hb (by omega)).2,fun q hq=>⟨by rw[hc q hq,q0l hq],hf q hq,fun b=>?_⟩⟩;obtain⟨h1,h2⟩:=hs q (.bool b) hq;rw[q51]at h1;refine⟨⟨vs,?_⟩,h2⟩;have h3:=h.writeRow (w':=w.setCell ⟨bp,q,none⟩ (.bool b)) (i:=p) (by simpa using hp) h1 (by rw[(hb (by omega)).1];exact h2);rw[q2P]at h3;exact h3
def pE(n:Int):UInt8:=UInt8.ofNat (n%256).toNat
theorem A2(n:Int):((pE n).toNat:Int)=n%256:=by
 have h2:(n%256).toNat<256:=by omega
 simp[pE];omega
def gR(n:Nat):List UInt8:=[pE n,pE (n/256)]
theorem O8{a b:Nat}(ha:a<65536)(hb:b<65536)(h:gR a=gR b):a=b:=by
 simp only[gR,List.cons.injEq,and_true]at h;have h1:=qW (fun x:UInt8=>(x.toNat:Int)) h.1;have h2:=qW (fun x:UInt8=>(x.toNat:Int)) h.2;simp only[A2]at h1 h2;omega
def gE(l:List Nat):List UInt8:=l.flatMap gR
theorem oB(l:List Nat):(gE l).length=2*l.length:=by
 induction l with
 |nil=>rfl
 |cons a l ih=>simp only[gE,List.flatMap_cons,qi,qx]at ih⊢;rw[ih];simp[gR];omega
theorem O9:∀{l m:List Nat},(∀x∈l,x<65536)->(∀x∈m,x<65536)->gE l=gE m->l=m
 |[],[],_,_,_=>rfl
 |[],b::m,_,_,h=>by have:=qW List.length h;simp[oB]at this
 |a::l,[],_,_,h=>by have:=qW List.length h;simp[oB]at this
 |a::l,b::m,ha,hb,h=>by
  simp only[gE,List.flatMap_cons]at h;obtain⟨h1,h2⟩:=List.append_inj h (by simp[gR]);rw[O8 (ha a (by simp)) (hb b (by simp)) h1,O9 (fun x hx=>ha x (by simp[hx])) (fun x hx=>hb x (by simp[hx])) h2]
theorem xY(n:Nat):cK (gR n)=[.int .u8 ((n:Int)%256),.int .u8 ((n:Int)/256%256)]:=by simp[cK,gR,A2]
theorem q2Q{w:World}{v:Value}{l:List Nat}(h:eE w v (nz l))(hl:l.length<=100000):
  Calls prog 204 #[v] w fun e w'=>e=.returned (.string ⟨(gE l).toArray⟩)/\∃x,w'=ext w x:=by
 obtain⟨oa,cap,b,off,rfl,hd,hc⟩:=h.open;rw[N6]at hd hc⊢;have hix:=fun(W:World) (i:Nat) (hi:i<l.length)=>aU (P:=prog) 39 3 underlying39 (by kernel_rfl) hd W .i64 i (by omega) (by omega);simp only[qA]at hix;have hb:=hd.hblk;have HC:=qa hc;obtain⟨n,hn⟩:∃n,n=l.length:=⟨_,rfl⟩;have HN:=qa hn;rw[<-hn]at hix hb HC hl⊢;clear hd hc h hn;go_enter func204,ntmps204;go_wp2
 go_loopg [3,8] n (fun gk vb iv wr=>∃k:Nat,iv=.int .i64 k/\k<=n/\Own wr w.heap.size 5 vb (cK (gE (l.take k)))/\Below w.heap.size w wr/\gk=n-k)
 case atStart=>exact⟨0,rfl,qd _,Own.nil _ _ _,qk _ _,rfl⟩
 case round=>
  obtain⟨k,rfl,hk,hown,qbe,rfl⟩:=hrel;have HO:=qa hown;have HB:=qa qbe;clear hown qbe;by_cases hlt:k<n
  ·have hcell:=HC.o k hlt
   rw[F3 _ _ (by rw[<-HN.o];exact hlt)]at hcell;have hb1:=hb (by omega);have hcw:=(HB.o.cell (p:=⟨b,off+k,none⟩) hb1).trans hcell;have hbw:b<wr.heap.size:=by have:=HB.o.size;omega
   have qbJ:=fun W=>hix W k hlt
   have HT:Hid (cK (gE (l.take (k+1)))=cK (gE (l.take k))++cK (gR (l.getD k 0))):=qa (by
    rw[<-mZ,aY l k 0 (by rw[<-HN.o];exact hlt)];simp[gE])
   have HLE:Hid ((cK (gE (l.take k))).length<=200000):=qa (by rw[dA,oB,qT];omega);generalize l.getD k 0=y at*;generalize cK (gE (l.take k))=bs at*;have hlW:=qa (aA wr (.cells #[.int .u8 ((y:Int)%256),.int .u8 ((y:Int)/256%256)] 5));have HX:Hid (Sl (wr.alloc (.cells #[.int .u8 ((y:Int)%256),.int .u8 ((y:Int)/256%256)] 5)) (.slice (some ⟨wr.heap.size,0,none⟩) 2 2) (cK (gR y))):=qa (by rw[xY];simpa using dY wr #[.int .u8 ((y:Int)%256),.int .u8 ((y:Int)/256%256)] 5 (by simp));have HT1:=qa (HO.o.up hlW.out);have HT3:Hid (bs.length+(cK (gR y)).length<=4294967296):=qa (by have:=HLE.o;rw[xY];simp;omega);have HT4:Hid (w.heap.size<=(wr.alloc (.cells #[.int .u8 ((y:Int)%256),.int .u8 ((y:Int)/256%256)] 5)).heap.size):=qa (qc HB.o.size hlW.out.size);clear hcell
   go_wp2_with(at_builtin;refine bM rfl (.tmp 12) (.tmp 18) 143 rfl w.heap.size 5 (.int .u8 0) 1 underlying143 (by kernel_rfl) rfl (by decide) u3 bs rfl HT1.o (.slice (some ⟨wr.heap.size,0,none⟩) 2 2) (cK (gR y)) rfl HX.o (q1w _) HT3.o HT4.o ?_;intro v' w5 hown1 hg1 hk1;have HO5:=qa hown1;have HG1:=qa hg1;clear hown1 hg1 hk1;have HB5:=qa (dR (HB.o.trans (hlW.out.mono HB.o.size)) HT4.o HT1.o HG1.o))
   go_roundg (n-(k+1))
   case measure=>omega
   case rel=>exact⟨k+1,by go_num,by omega,by rw[HT.o];exact HO5.o,HB5.o,rfl⟩
  have hke:k=n:=by omega
  subst hke;have hcv:=fI (P:=prog) wr 143 9 5 underlying143 underlying5 underlying9 u3 _ HO.o.sl;rw[HN.o,qX]at hcv;go_wp2;go_ret;exact⟨rfl,aI HB.o⟩
end Go.Cm
