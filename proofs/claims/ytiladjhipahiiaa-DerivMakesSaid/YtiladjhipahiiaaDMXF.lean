/- Walks of functions and plain facts, joined and squeezed by a program. Conditions: as each says. -/
import Derived.Test.YtiladjhipahiiaaDMXB
set_option maxHeartbeats 8000000
set_option maxRecDepth 100000
set_option linter.unusedSimpArgs false
namespace Go.Cm
open Go.RowKit Go.Proofs
theorem ZmF0{P:Prop}(h:P:=by
 rw[qw hik,Bool.or_false];by_cases h1:i<k
 ·rw[qy h1,qy (show i<k+1 by omega)]
 rw[qw h1,qw (show¬i<k+1 by omega)]):P:=h
theorem ZmF1{P:Prop}(h:P:=by
 by_cases h1:i<k
 ·rw[qy h1,qy (show i<k+1 by omega)]
 rw[qw h1,qw (show¬i<k+1 by omega)]):P:=h
def ofS(l:dG):Nat:=l.foldl (fun x c=>x|||2^c.toNat) 0
def mF(x k:Nat):dG:=((List.range k).filter x.testBit).map UInt8.ofNat
theorem q0Q(l:dG)(c:UInt8):ofS (l++[c])=ofS l|||2^c.toNat:=by simp[ofS]
theorem q2p(l:dG):∀x:Nat,l.foldl (fun x c=>x|||2^c.toNat) x=x|||ofS l:=by
 induction l with
 |nil=>intro x;simp[ofS]
 |cons c l ih=>
  intro x;unfold ofS;rw[qK,qK,ih,ih (0|||2^c.toNat),Nat.zero_or,Nat.or_assoc]
theorem V2(a b:dG):ofS (a++b)=ofS a|||ofS b:=by
 show List.foldl _ _ _=_;rw[qY,q2p];rfl
theorem q2q(c:UInt8):ofS [c]=gG c:=by
 rw[U9];simp[ofS]
theorem xO(x k:Nat):mF x (k+1)=mF x k++if x.testBit k then [UInt8.ofNat k]else []:=by
 unfold mF;rw[jx,List.filter_append,qG]
 congr 1
 by_cases h:x.testBit k=true
 ·simp[h]
 simp[h]
theorem nR(x k:Nat):(mF x k).length<=k:=by
 unfold mF;rw[qA];exact qc (jY _ _) (by simp)
theorem q0R(x k:Nat)(hk:k<=256):ofS (mF x k)=x%2^k:=by
 induction k with
 |zero=>simp[mF,ofS,Nat.mod_one]
 |succ k ih=>
  have hv:(UInt8.ofNat k).toNat=k:=by simp;omega
  rw[xO,V2,ih (by omega)];refine jn fun i=>?_;rw[Nat.testBit_or,jQ,jQ];by_cases h:x.testBit k=true
  ·rw[qv h]
   have:ofS [UInt8.ofNat k]=2^k:=by simp only[ofS,qK,List.foldl_nil,Nat.zero_or,hv]
   rw[this,a8];by_cases hik:k=i
   ·subst hik;simp[h]
   exact ZmF0
  rw[qu h];have:ofS []=0:=rfl;rw[this,Nat.zero_testBit,Bool.or_false];by_cases hik:k=i
  ·subst hik;simp[h]
  exact ZmF1
theorem V3{x:Nat}(hx:x<2^256):ofS (mF x 256)=x:=by rw[q0R x 256 (qb _),Nat.mod_eq_of_lt hx]
theorem q0S(c:UInt8):mF (gG c) 256=[c]:=by
 have h:∀c:Fin 256,mF (gG (UInt8.ofFin c)) 256=[UInt8.ofFin c]:=by decide+kernel
 exact h c.toFin
theorem q5z(x k:Nat):((List.range k).foldl (fun y c=>if x.testBit c then y else y|||2^c) 0)=(2^k-1-x%2^k):=by
 induction k with
 |zero=>simp[Nat.mod_one]
 |succ k ih=>
  rw[jx,qY,ih];simp only[qK,List.foldl_nil];refine jn fun i=>?_;have hm:=jU x (Nat.two_pow_pos k);have hm1:=jU x (Nat.two_pow_pos (k+1))
  have e:∀i,(2^k-1-x%2^k).testBit i=(decide (i<k)&& !x.testBit i):=fun i=>by
   rw[show 2^k-1-x%2^k=2^k-(x%2^k+1) by omega,jX hm,jQ];by_cases h:i<k<;>simp[h]
  have e1:(2^(k+1)-1-x%2^(k+1)).testBit i=(decide (i<k+1)&& !x.testBit i):=by
   rw[show 2^(k+1)-1-x%2^(k+1)=2^(k+1)-(x%2^(k+1)+1) by omega,jX hm1,jQ];by_cases h:i<k+1<;>simp[h]
  rw[e1];split
  ·rename_i hb
   rw[e];by_cases hik:i=k
   ·subst hik;simp[hb]
   exact ZmF1
  rename_i hb;rw[Nat.testBit_or,e,a8];by_cases hik:k=i
  ·subst hik;simp[hb]
  exact ZmF0
def q0T(x k:Nat):Nat:=(List.range k).foldl (fun y c=>if x.testBit c then y else y|||2^c) 0
theorem V4(x k:Nat):q0T x (k+1)=if x.testBit k then q0T x k else q0T x k|||2^k:=by
 unfold q0T;rw[jx,qY];rfl
theorem q0U{x:Nat}(hx:x<2^256):q0T x 256=vZ x:=by
 unfold q0T;rw[q5z,Nat.mod_eq_of_lt hx];rfl
end Go.Cm
