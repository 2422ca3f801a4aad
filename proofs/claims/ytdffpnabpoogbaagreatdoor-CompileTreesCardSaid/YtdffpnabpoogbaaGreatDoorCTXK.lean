/- Walks of functions and plain facts, joined and squeezed by a program. Conditions: as each says. -/
import Derived.Test.YtdffpnabpoogbaaGreatDoorCTXF
import Derived.Test.YtdffpnabpoogbaaGreatDoorCTXH
set_option maxHeartbeats 8000000
set_option maxRecDepth 100000
set_option linter.unusedSimpArgs false
namespace Go.Cm
theorem ZmK0{P:Prop}(h:P:=by
 rw[qu hik,Bool.or_false];by_cases h1:i<k
 ·rw[qw h1,qw (show i<k+1 by omega)]
 rw[qu h1,qu (show¬i<k+1 by omega)]):P:=h
theorem ZmK1{P:Prop}(h:P:=by
 by_cases h1:i<k
 ·rw[qw h1,qw (show i<k+1 by omega)]
 rw[qu h1,qu (show¬i<k+1 by omega)]):P:=h
def q2v(f:Fo)(s:St):Pc×St:=match f with
 |.cons x k _=>eF x (fun s=>g8 k s) s
 |.nil=>(zP,s)
def F8(f:Fo)(i:Nat)(s:St):St:=
 let y:=q2v f s
 let t:=d6 0 y.1.f y.2
 ⟨t.e,t.r.set y.1.l (i:Int)⟩
def mkF(fs:List Fo):Nat->St
 |0=>kS ⟨[],[]⟩
 |i+1=>F8 (fs.getD i .nil) i (mkF fs i)
noncomputable def mkS(ll:List (List Nd))(i:Nat):St:=mkF (ll.map vE) i
theorem xL(ll:List (List Nd))(i:Nat)(h:i<ll.length):(ll.map vE).getD i .nil=vE (ll.getD i []):=by simp[List.getD,h]
structure qaL(s:St)(n:Int)(i:Nat):Prop where
 len:(s.e.length:Int)=n
 rlen:(s.r.length:Int)=n
 tot:(tot s.e:Int)<=2*n+i
theorem F9(ll:List (List Nd))(i:Nat)(_hi:i<=ll.length):0<=F7 ll i/\F7 ll i<=(ll.map iH).sum:=by
 have key:∀l:List (List Nd),0<=(l.map iH).sum:=fun l=>by
  induction l with
  |nil=>simp
  |cons a l ih=>simp only[qF,List.sum_cons];have:=(q01 a).1;omega
 refine⟨key _,?_⟩;have h:ll=ll.take i++ll.drop i:=(j5 i ll).symm
 have h2:(ll.map iH).sum=((ll.take i).map iH).sum+((ll.drop i).map iH).sum:=by
  rw[<-List.sum_append,<-qD,j5]
 have:=key (ll.drop i);unfold F7;omega
theorem q6I(ll:List (List Nd))(hc:∀l∈ll,Chk l)(hs:1+(ll.map iH).sum<=3000):∀i,i<=ll.length->qaL (mkS ll i) (1+F7 ll i) i
 |0,_=>⟨by simp[mkS,mkF,kS,F7],by simp[mkS,mkF,kS,F7],by simp[mkS,mkF,kS,F7,tot]⟩
 |i+1,h=>by
  have ih:=q6I ll hc hs i (by omega);have hl:=hc (ll.getD i []) (by simp[List.getD,show i<ll.length by omega]);obtain⟨x,k,h1,h2,h3,h4,h5,h6,h7,h8⟩:=xH hl;rw[j4]at h1;have hss:=xK ll i (by omega);have hsl:=(F9 ll (i+1) h).2;have hs0:=(F9 ll i (by omega)).1;rw[h8]at hss;have hz:=iW h4 (kR k h5).1
  have hu:pP x (gI k)=cZ x (usz k):=by
   have:=q5Z (f:=.cons x k .nil) ⟨h4,h5,trivial⟩ (by simp only[gI];omega);simpa[gI,usz]using this
  have hok:=mU x (fun s=>g8 k s) (usz k) (cnt k) h4 h2 (lR k h3 h5) (mkS ll i);have a1:=hok.len;have a2:=hok.rlen;have a4:=hok.tot;simp only at a1 a2 a4
  have e:mkS ll (i+1)=F8 (.cons x k .nil) i (mkS ll i):=by
   show F8 _ _ _=_;rw[xL ll i (by omega),h1,iM x k h2 h3]
   rfl
  rw[e];have b1:=ih.len;have b2:=ih.rlen;have b3:=ih.tot;have hf:=e9 0 (eF x (fun s=>g8 k s) (mkS ll i)).1.f (eF x (fun s=>g8 k s) (mkS ll i)).2;refine⟨?_,?_,?_⟩
  ·simp only[F8,q2v,eT];omega
  ·simp only[F8,q2v,q2k,j8];omega
  simp only[F8,q2v];push_cast;omega
end Go.Cm
namespace Go.Cm
open Go.RowKit Go.Proofs
def q7o(N T p n:Nat):Nat×Nat×Nat:=if p+n<=T then(qaW N p n,0,p+n)else(0,2,p)
end Go.Cm
namespace Go.Cm
structure q8U where
 fin:Bool
 kind:Nat
 size:Nat
 lits:List Nat
 dists:List Nat
def q8U.zero:q8U:=⟨false,0,0,[],[]⟩
def xb(N T n:Nat)(st:Nat×Nat):Nat×(Nat×Nat):=if st.1=0 then((q7o N T st.2 n).1,(q7o N T st.2 n).2.1,(q7o N T st.2 n).2.2)else(0,st)
end Go.Cm
namespace Go.Cm
open Go.RowKit Go.Proofs
def ofS(l:cX):Nat:=l.foldl (fun x c=>x|||2^c.toNat) 0
def rB(x k:Nat):cX:=((List.range k).filter x.testBit).map UInt8.ofNat
theorem q5M(l:cX)(c:UInt8):ofS (l++[c])=ofS l|||2^c.toNat:=by simp[ofS]
theorem q7T(l:cX):∀x:Nat,l.foldl (fun x c=>x|||2^c.toNat) x=x|||ofS l:=by
 induction l with
 |nil=>intro x;simp[ofS]
 |cons c l ih=>
  intro x;unfold ofS;rw[qH,qH,ih,ih (0|||2^c.toNat),Nat.zero_or,Nat.or_assoc]
theorem q4a(a b:cX):ofS (a++b)=ofS a|||ofS b:=by
 show List.foldl _ _ _=_;rw[qV,q7T];rfl
theorem q7U(c:UInt8):ofS [c]=eZ c:=by
 rw[q3r];simp[ofS]
theorem T3(x k:Nat):rB x (k+1)=rB x k++if x.testBit k then [UInt8.ofNat k]else []:=by
 unfold rB;rw[jw,List.filter_append,qD]
 congr 1
 by_cases h:x.testBit k=true
 ·simp[h]
 simp[h]
theorem tG(x k:Nat):(rB x k).length<=k:=by
 unfold rB;rw[qy];exact qc (jX _ _) (by simp)
theorem q5N(x k:Nat)(hk:k<=256):ofS (rB x k)=x%2^k:=by
 induction k with
 |zero=>simp[rB,ofS,Nat.mod_one]
 |succ k ih=>
  have hv:(UInt8.ofNat k).toNat=k:=by simp;omega
  rw[T3,q4a,ih (by omega)];refine jl fun i=>?_;rw[Nat.testBit_or,jP,jP];by_cases h:x.testBit k=true
  ·rw[qt h]
   have:ofS [UInt8.ofNat k]=2^k:=by simp only[ofS,qH,List.foldl_nil,Nat.zero_or,hv]
   rw[this,a7];by_cases hik:k=i
   ·subst hik;simp[h]
   exact ZmK0
  rw[qr h];have:ofS []=0:=rfl;rw[this,Nat.zero_testBit,Bool.or_false];by_cases hik:k=i
  ·subst hik;simp[h]
  exact ZmK1
theorem q4b{x:Nat}(hx:x<2^256):ofS (rB x 256)=x:=by rw[q5N x 256 (qb _),Nat.mod_eq_of_lt hx]
theorem q5O(c:UInt8):rB (eZ c) 256=[c]:=by
 have h:∀c:Fin 256,rB (eZ (UInt8.ofFin c)) 256=[UInt8.ofFin c]:=by decide+kernel
 exact h c.toFin
theorem qb4(x k:Nat):((List.range k).foldl (fun y c=>if x.testBit c then y else y|||2^c) 0)=(2^k-1-x%2^k):=by
 induction k with
 |zero=>simp[Nat.mod_one]
 |succ k ih=>
  rw[jw,qV,ih];simp only[qH,List.foldl_nil];refine jl fun i=>?_;have hm:=jT x (Nat.two_pow_pos k);have hm1:=jT x (Nat.two_pow_pos (k+1))
  have e:∀i,(2^k-1-x%2^k).testBit i=(decide (i<k)&& !x.testBit i):=fun i=>by
   rw[show 2^k-1-x%2^k=2^k-(x%2^k+1) by omega,jW hm,jP];by_cases h:i<k<;>simp[h]
  have e1:(2^(k+1)-1-x%2^(k+1)).testBit i=(decide (i<k+1)&& !x.testBit i):=by
   rw[show 2^(k+1)-1-x%2^(k+1)=2^(k+1)-(x%2^(k+1)+1) by omega,jW hm1,jP];by_cases h:i<k+1<;>simp[h]
  rw[e1];split
  ·rename_i hb
   rw[e];by_cases hik:i=k
   ·subst hik;simp[hb]
   exact ZmK1
  rename_i hb;rw[Nat.testBit_or,e,a7];by_cases hik:k=i
  ·subst hik;simp[hb]
  exact ZmK0
def q5P(x k:Nat):Nat:=(List.range k).foldl (fun y c=>if x.testBit c then y else y|||2^c) 0
theorem q4c(x k:Nat):q5P x (k+1)=if x.testBit k then q5P x k else q5P x k|||2^k:=by
 unfold q5P;rw[jw,qV];rfl
theorem q5Q{x:Nat}(hx:x<2^256):q5P x 256=mP x:=by
 unfold q5P;rw[qb4,Nat.mod_eq_of_lt hx];rfl
end Go.Cm
